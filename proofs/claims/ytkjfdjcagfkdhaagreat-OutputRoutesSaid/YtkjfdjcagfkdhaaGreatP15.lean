/-
  OrdI, GrMc, OuMem, joined. No conditions.
-/
import Derived.Test.YtkjfdjcagfkdhaaGreatP05
import Derived.Test.YtkjfdjcagfkdhaaGreatP14
import Derived.Test.YtkjfdjcagfkdhaaGreatP08
import Derived.Conc.LoneSelectN
/-
  A region that draws its order and holds chains that may come up in any order beside each other: one condition for each state of the chains, one proof for each operation.
-/
namespace Go.Proofs.YtkjfdjcagfkdhaaGreat
open Go Go.RowKit

/-- All blocks but g are as they were. -/
def Far (g : Nat) (w w' : World) : Prop := ∀ b, b ≠ g → w'.heap[b]? = w.heap[b]?
theorem Far.cell {g : Nat} {w w' : World} (h : Far g w w') : ∀ b o, b ≠ g → w'.cell? ⟨b, o, none⟩ = w.cell? ⟨b, o, none⟩ := fun b _ hb => World.cell?_of_block (h b hb)
theorem Far.set {g : Nat} {w w' : World} (h : Far g w w') (o : Nat) (v : Value) : Far g w (w'.setCell ⟨g, o, none⟩ v) := fun b hb => (Below.heap_setCell w' ⟨g, o, none⟩ v b hb).trans (h b hb)
/-- What some slots of a frame of N slots hold. -/
def Slots (N : Nat) (a : Act) (l : List (Nat × Value)) : Prop := a.tmps.size = N ∧ a.defers = [] ∧ ∀ kv ∈ l, a.tmps.getD kv.1 undef = kv.2
section
variable {N : Nat} {a : Act} {l : List (Nat × Value)}
theorem Slots.at_ (h : Slots N a l) {k : Nat} {v : Value} (hm : (k, v) ∈ l) : a.tmps.getD k undef = v := h.2.2 (k, v) hm
theorem Slots.put (h : Slots N a l) (d : Nat) (v : Value) (hd : ∀ kv ∈ l, kv.1 ≠ d) : Slots N (a.put (some d) v) l := by
  obtain ⟨h1, h2, h3⟩ := h
  refine ⟨by simp [Act.put, h1], h2, fun kv hkv => ?_⟩
  have := h3 kv hkv
  have hne := hd kv hkv
  simp only [Act.put, Array.getD_eq_getD_getElem?] at this ⊢
  rw [Array.getElem?_setIfInBounds_ne (Ne.symm hne)]
  exact this
theorem Slots.add (h : Slots N a l) (d : Nat) (v : Value) (hd : d < N) (hn : ∀ kv ∈ l, kv.1 ≠ d) : Slots N (a.put (some d) v) ((d, v) :: l) := by
  obtain ⟨h1, h2, h3⟩ := h.put d v hn
  refine ⟨h1, h2, fun kv hkv => ?_⟩
  rcases List.mem_cons.1 hkv with rfl | hkv
  · simp [Act.put, h.1, hd]
  · exact h3 kv hkv
end
theorem slr_cells_ {α : Type} {s : Nat} {R : World → α → List Value → Prop} {enc : α → List Value} {w : World} {a : Addr} {xs : List α} (h : SlR s R w (some a) xs) (_hs : 0 < s) (hR : ∀ w x vs, R w x vs → vs = enc x) :
    ∀ j u, (xs.flatMap enc)[j]? = some u → w.cell? (a.add j) = some u := by
  by_cases hn : xs = []
  · subst hn; intro j u hj; simp at hj
  · obtain ⟨b, off, ha, _, hc⟩ := h hn
    injection ha with ha
    subst ha
    have key : ∀ (l : List α) (o : Nat), (∀ k x, l[k]? = some x → (enc x).length = s ∧ ∀ j v, (enc x)[j]? = some v → w.cell? ⟨b, o + k * s + j, none⟩ = some v) → ∀ j u, (l.flatMap enc)[j]? = some u → w.cell? ⟨b, o + j, none⟩ = some u := by
      intro l
      induction l with
      | nil => intro o _ j u hj; simp at hj
      | cons x l ih =>
        intro o hl j u hj
        obtain ⟨h0, h1⟩ := hl 0 x rfl
        rw [List.flatMap_cons] at hj
        rcases Nat.lt_or_ge j (enc x).length with hlt | hge
        · rw [List.getElem?_append_left hlt] at hj
          have := h1 j u hj
          simpa using this
        · rw [List.getElem?_append_right hge] at hj
          have := ih (o + s) (fun k y hy => by
            obtain ⟨h2, h3⟩ := hl (k + 1) y (by simpa using hy)
            refine ⟨h2, fun j v hv => ?_⟩
            have := h3 j v hv
            rwa [show o + (k + 1) * s + j = o + s + k * s + j by rw [Nat.add_mul]; omega] at this) (j - (enc x).length) u hj
          rwa [show o + s + (j - (enc x).length) = o + j by omega] at this
    intro j u hj
    rw [add_mk]
    refine key xs off (fun k x hx => ?_) j u hj
    obtain ⟨vs, hr, hl, hv⟩ := hc k x hx
    have := hR _ _ _ hr
    subst this
    exact ⟨hl, hv⟩

theorem flatMap_len_ {α β : Type} {s : Nat} {enc : α → List β} (h : ∀ x, (enc x).length = s) (xs : List α) : (xs.flatMap enc).length = xs.length * s := by
  induction xs with
  | nil => simp
  | cons x l ih => rw [List.flatMap_cons, List.length_append, h, ih, List.length_cons, Nat.add_mul]; omega
section
variable {P : Program} {ops : Array Oper} {Q : Exit → Act → World → Prop} {S : World → Prop} {ts : List Nat}
theorem run_append_of_nil (w : World) (base : Nat) (t ty e : TypeId) (i : TypeInfo) (size : Nat) (ht : P.underlying t = some (.slice e)) (hi : P.info? e = some i)
    (v : Value) (n : Nat) (xs : List Value) (hown : w.ownsRow base e size v n xs) (c : Nat) : (Builtin.append_ #[t, t] ty #[v, .slice none 0 c]).run P w = .ok v w := by
  rcases hown.2 with ⟨rfl, rfl⟩ | ⟨g, cap, cur, rfl, _, _, hnc, _⟩
  · simp [Builtin.append_, run_underlying ht, sizeOf, typeInfo, hi, Builtin.lenOf, Builtin.firstCells]
  · simp [Builtin.append_, run_underlying ht, sizeOf, typeInfo, hi, Builtin.lenOf, Builtin.firstCells, hnc, storeCells]
/-- 'append(out, xs...)' onto a row of the call's own, xs in any memory. -/
theorem wp_appS {α : Type} {enc : α → List Value} {R : World → α → List Value → Prop} {o : Oper} {a : Act} {K : Act → World → Prop} {w : World} (s x : Operand) (t : TypeId)
    (ho : o.op = .call { callee := .builtin .append, args := #[s, x], argTypes := #[t, t] })
    (base : Nat) (e : TypeId) (i : TypeInfo) (z : Value) (size bytes : Nat) (ht : P.underlying t = some (.slice e)) (hi : P.info? e = some i) (hz : i.zero = some z)
    (hsize : i.size = size) (hby : i.bytes = bytes) (hzs : z.cells.size = size) (hsz : 0 < size)
    (v : Value) (n : Nat) (xs : List Value) (hs : a.eval s = v) (hown : w.ownsRow base e size v n xs)
    (A : Option Addr) (c : Nat) (ys : List α) (hx : a.eval x = .slice A ys.length c) (hr : SlR size R w A ys) (hR : ∀ w x vs, R w x vs → vs = enc x) (hl : ∀ x, (enc x).length = size) (h1 : ∀ u ∈ ys.flatMap enc, u.oneCell' = true)
    (hn : n + ys.length ≤ 1000000) (hbb : bytes ≤ 1000) (hbase : base ≤ w.heap.size)
    (h : ∀ v' w', w'.ownsRow base e size v' (n + ys.length) (xs ++ ys.flatMap enc) → Below base w w' → Apps w w' v v' → K (a.put o.dst v') w') : o.wp P a w K Q := by
  have hb1 : (n + ys.length) * bytes ≤ 1000000 * 1000 := Nat.mul_le_mul hn hbb
  have key : ∃ v' w', (Builtin.append_ #[t, t] o.type #[v, .slice A ys.length c]).run P w = .ok v' w' ∧ w'.ownsRow base e size v' (n + ys.length) (xs ++ ys.flatMap enc) ∧ w.grownBy w' v.ownBlock ∧ (v'.ownBlock = v.ownBlock ∨ v'.ownBlock = some w.heap.size) := by
    rcases A with _ | ad
    · have hy : ys = [] := Classical.byContradiction fun hne => by obtain ⟨_, _, h, _⟩ := hr hne; cases h
      subst hy
      exact ⟨v, w, run_append_of_nil w base t o.type e i size ht hi v n xs hown c, by simpa using hown, World.grownBy.refl w _, .inl rfl⟩
    · obtain ⟨v', w', hrun, h2, h3, _, h5⟩ := run_append_own_at (P := P) w base t o.type e i z size bytes ht hi hz hsize hby hzs hsz v n xs hown ad ys.length c (ys.flatMap enc) (flatMap_len_ hl ys) (slr_cells_ hr hsz hR) h1 (by unfold maxLen; omega) (by omega) hbase
      exact ⟨v', w', hrun, h2, h3, h5⟩
  obtain ⟨v', w', hrun, h2, h3, h5⟩ := key
  unfold Oper.wp execOp
  simp only [ho, resolve, invoke, builtin, Sem.run_bind, Sem.run_pure, Result.andThen_ok, List.map_toArray, List.map_cons, List.map_nil, hs, hx, hrun]
  refine h v' w' h2 ((Below.refl _ _).grown h3 hbase (own_block_le hown)) ⟨fun k hk hne => h3.block k hk (fun e => hne e.symm), ?_⟩
  rcases h5 with h5 | h5
  · exact .inl h5
  · exact .inr ⟨_, h5, Nat.le_refl _⟩
end
end Go.Proofs.YtkjfdjcagfkdhaaGreat

/-
  Words for memory of layers 15 and 16: candidates in rows of the call's own, with the slices of their links.
-/
namespace Go.Proofs.YtkjfdjcagfkdhaaGreat
open Go Go.RowKit

/-- A slice of numbers in a block of numbers. -/
def SlT (w : World) (A : Option Addr) (xs : List Int) : Prop := xs ≠ [] → ∃ b off cs, A = some ⟨b, off, none⟩ ∧ Blk w b 3 cs ∧ ∀ (k : Nat) (x : Int), xs[k]? = some x → cs[off + k]? = some (.int .i64 x)
section
variable {w w' : World} {A : Option Addr} {xs : List Int}
theorem SlT.nil : SlT w A [] := fun h => absurd rfl h
theorem SlT.slr (h : SlT w A xs) : SlR 1 RInt w A xs := fun hne => by
  obtain ⟨b, off, cs, hA, hb, hc⟩ := h hne
  refine ⟨b, off, hA, hb.lt, fun k x hk => ⟨[.int .i64 x], rfl, rfl, fun j v hj => ?_⟩⟩
  match j, hj with
  | 0, hj =>
    simp at hj
    subst hj
    rw [hb.cell, show off + k * 1 + 0 = off + k by omega]
    exact hc k x hk
theorem SlT.below (h : SlT w A xs) (hb : Below w.heap.size w w') : SlT w' A xs := fun hne => by
  obtain ⟨b, off, cs, hA, hB, hc⟩ := h hne
  exact ⟨b, off, cs, hA, hB.below hb hB.lt, hc⟩
theorem SlT.apps {base : Nat} {e : TypeId} {s n : Nat} {v v' : Value} {ys : List Value} (h : SlT w A xs) (ho : w.ownsRow base e s v n ys) (hne : e ≠ 3) (ha : Apps w w' v v') : SlT w' A xs := fun hn => by
  obtain ⟨b, off, cs, hA, hB, hc⟩ := h hn
  exact ⟨b, off, cs, hA, hB.apps ha (own_blk_ne ho hB hne), hc⟩
theorem SlT.set_ {p : Addr} {t : TypeId} {cs' : Array Value} (h : SlT w A xs) (hp : Blk w p.block t cs') (hne : t ≠ 3) (u : Value) : SlT (w.setCell p u) A xs := fun hn => by
  obtain ⟨b, off, cs, hA, hB, hc⟩ := h hn
  refine ⟨b, off, cs, hA, hB.far (fun e => ?_) u, hc⟩
  unfold Blk at hB hp
  rw [e] at hB
  rw [hB] at hp
  injection hp with hp
  injection hp with _ ht
  exact hne ht.symm
theorem SlT.take (h : SlT w A xs) (n : Nat) : SlT w A (xs.take n) := fun hn => by
  obtain ⟨b, off, cs, hA, hB, hc⟩ := h (by rintro rfl; simp at hn)
  refine ⟨b, off, cs, hA, hB, fun k x hk => hc k x ?_⟩
  rw [List.getElem?_take] at hk
  split at hk
  · exact hk
  · cases hk
/-- A row of numbers of the call's own. -/
theorem own_slt {base n : Nat} {v : Value} (h : w.ownsRow base 3 1 v n (xs.map (Value.int .i64))) (hn : n = xs.length) : ∃ B cap, v = .slice B n cap ∧ n ≤ cap ∧ cap ≤ maxLen ∧ SlT w B xs := by
  rcases h.2 with ⟨rfl, h0⟩ | ⟨g, cap, cur, rfl, hg, hh, hnc, hcm, hcs, htk⟩
  · subst h0
    have : xs = [] := List.length_eq_zero_iff.1 hn.symm
    subst this
    exact ⟨none, 0, rfl, Nat.le_refl _, Nat.zero_le _, SlT.nil⟩
  · refine ⟨some ⟨g, 0, none⟩, cap, rfl, hnc, hcm, fun _ => ⟨g, 0, cur, rfl, hh, fun k x hk => ?_⟩⟩
    have h1 : (xs.map (Value.int .i64))[k]? = some (.int .i64 x) := by simp [hk]
    rw [← htk, List.getElem?_take] at h1
    split at h1
    · simpa using h1
    · cases h1
end
/-- A candidate as it lies in memory. -/
structure MC where
  A : Option Addr
  c : Nat
  x : Can
def MOK (w : World) (m : MC) : Prop := SlT w m.A m.x.links ∧ m.x.links.length ≤ m.c ∧ m.c ≤ maxLen
def MsOK (w : World) (ms : List MC) : Prop := ∀ m ∈ ms, MOK w m
section
variable {w w' : World} {ms : List MC}
theorem MsOK.nil : MsOK w [] := fun _ h => by cases h
theorem MsOK.below (h : MsOK w ms) (hb : Below w.heap.size w w') : MsOK w' ms := fun m hm => ⟨(h m hm).1.below hb, (h m hm).2⟩
theorem MsOK.apps {base : Nat} {e : TypeId} {s n : Nat} {v v' : Value} {ys : List Value} (h : MsOK w ms) (ho : w.ownsRow base e s v n ys) (hne : e ≠ 3) (ha : Apps w w' v v') : MsOK w' ms := fun m hm => ⟨(h m hm).1.apps ho hne ha, (h m hm).2⟩
theorem MsOK.set_ {p : Addr} {t : TypeId} {cs' : Array Value} (h : MsOK w ms) (hp : Blk w p.block t cs') (hne : t ≠ 3) (u : Value) : MsOK (w.setCell p u) ms := fun m hm => ⟨(h m hm).1.set_ hp hne u, (h m hm).2⟩
theorem MsOK.sub {ns : List MC} (h : MsOK w ms) (hs : ∀ m ∈ ns, m ∈ ms) : MsOK w ns := fun m hm => h m (hs m hm)
end
end Go.Proofs.YtkjfdjcagfkdhaaGreat

/-
  The memory of layer 04's search for chains: its queue is a channel, its chains are a row of slices.
-/
namespace Go.Proofs.YtkjfdjcagfkdhaaGreat
open Go Go.RowKit

section
variable {P : Program} {Q : Exit → Act → World → Prop} {a : Act} {w : World}
theorem wpN_seq_k {x y : Code} (h : ∀ K : Act → World → Prop, (∀ a w, wpN P y Q a w → K a w) → wpN P x (Exit.then K Q) a w) : wpN P (.seq x y) Q a w := wpN_seq (h _ fun _ _ h => h)
theorem wpN_loopN {c : Code} (I : Nat → Act → World → Prop) (n : Nat) (h0 : I n a w)
    (hr : ∀ n a w, I n a w → wpN P c (Exit.then (fun a' w' => ∃ n', n' < n ∧ I n' a' w') Q) a w) : wpN P (.loop c) Q a w := fun b k cs hb => by
  have key : ∀ n a w, I n a w → ∃ e a' w', Q e a' w' ∧ Arrives P (lone (b.at a (.code c :: .inLoop c :: k)) cs w) b k cs e a' w' := by
    intro n
    induction n using Nat.strongRecOn with
    | _ n ih =>
      intro a w hI
      obtain ⟨e, a₁, w₁, h1, h2⟩ := hr n a w hI b (.inLoop c :: k) cs hb
      cases e with
      | normal =>
        obtain ⟨n', hn', hI'⟩ := h1
        obtain ⟨e₂, a₂, w₂, h3, h4⟩ := ih n' hn' a₁ w₁ hI'
        exact ⟨e₂, a₂, w₂, h3, .of_steps (Steps.trans h2 (.one step_inLoop)) h4⟩
      | exit id => exact ⟨_, _, _, h1, arrives_on (.refl _ _) rfl (by simp) h2⟩
      | goto l => exact ⟨_, _, _, h1, arrives_on (.refl _ _) rfl (by simp) h2⟩
      | ret => exact ⟨_, _, _, h1, arrives_on (.refl _ _) rfl (by simp) h2⟩
      | panic c => exact ⟨_, _, _, h1, arrives_on (.refl _ _) rfl (by simp) h2⟩
      | outgrown => exact ⟨_, _, _, h1, arrives_on (.refl _ _) rfl (by simp) h2⟩
  obtain ⟨e, a', w', h1, h2⟩ := key n a w h0
  exact ⟨e, a', w', h1, .of_steps (.one step_loop) h2⟩
end
/-- The queue. -/
def QuIn (W : World) (C : Nat) (q : List Int) : Prop := ∃ sn rn, W.heap[C]? = some (.chan 8 (q.map (Value.int .i64)).toArray false sn rn false)
/-- A chain so far. -/
structure Chn where
  A : Option Addr
  L : List Int
  c : Nat
def vCh (x : Chn) : Value := .slice x.A x.L.length x.c
structure ChIn (W : World) (D : Nat) (ch : List Chn) (n : Nat) : Prop where
  blk : Blk W D 64 (ch.map vCh).toArray
  len : ch.length = 8
  ok : ∀ x ∈ ch, SlT W x.A x.L ∧ (x.L.length ≤ x.c ∧ x.c ≤ maxLen) ∧ x.L.length + 1 ≤ n
theorem QuIn.below {W W' : World} {C : Nat} {q : List Int} (h : QuIn W C q) (hC : C < W.heap.size) (hb : Below W.heap.size W W') : QuIn W' C q := by
  obtain ⟨a, b, h⟩ := h
  exact ⟨a, b, (hb.block C hC).trans h⟩
theorem QuIn.lt {W : World} {C : Nat} {q : List Int} (h : QuIn W C q) : C < W.heap.size := by
  obtain ⟨a, b, h⟩ := h
  exact (Array.getElem?_eq_some_iff.1 h).1
theorem ChIn.below {W W' : World} {D n : Nat} {ch : List Chn} (h : ChIn W D ch n) (hb : Below W.heap.size W W') : ChIn W' D ch n := ⟨h.blk.below hb h.blk.lt, h.len, fun x hx => ⟨(h.ok x hx).1.below hb, (h.ok x hx).2⟩⟩
theorem ChIn.mono {W : World} {D n n' : Nat} {ch : List Chn} (h : ChIn W D ch n) (hn : n ≤ n') : ChIn W D ch n' := ⟨h.blk, h.len, fun x hx => ⟨(h.ok x hx).1, (h.ok x hx).2.1, by have := (h.ok x hx).2.2; omega⟩⟩
theorem slt_chan {W W' : World} {C : Nat} {q : List Int} {A : Option Addr} {L : List Int} (h : SlT W A L) (hq : QuIn W C q) (hb : ∀ b, b ≠ C → W'.heap[b]? = W.heap[b]?) : SlT W' A L := fun hn => by
  obtain ⟨b, off, cs, hA, hB, hc⟩ := h hn
  obtain ⟨sn, rn, hq⟩ := hq
  refine ⟨b, off, cs, hA, ?_, hc⟩
  unfold Blk at hB ⊢
  rw [hb b (fun e => by rw [e, hq] at hB; injection hB with hB; cases hB)]
  exact hB
theorem chin_chan {W W' : World} {C D n : Nat} {q : List Int} {ch : List Chn} (h : ChIn W D ch n) (hq : QuIn W C q) (hb : ∀ b, b ≠ C → W'.heap[b]? = W.heap[b]?) : ChIn W' D ch n := by
  refine ⟨?_, h.len, fun x hx => ⟨slt_chan (h.ok x hx).1 hq hb, (h.ok x hx).2⟩⟩
  have hB := h.blk
  obtain ⟨sn, rn, hq⟩ := hq
  unfold Blk at hB ⊢
  rw [hb D (fun e => by rw [e, hq] at hB; injection hB with hB; cases hB)]
  exact hB
theorem setChan_far (W : World) (c cap : Nat) (buf : Array Value) (cl : Bool) (s r : Nat) (tm : Bool) : ∀ b, b ≠ c → (W.setChan c cap buf cl s r tm).heap[b]? = W.heap[b]? := fun b hb => by
  simp only [World.setChan]
  rw [Array.getElem?_setIfInBounds_ne (by omega)]
theorem setChan_own (W : World) (c cap : Nat) (buf : Array Value) (cl : Bool) (s r : Nat) (tm : Bool) (h : c < W.heap.size) : (W.setChan c cap buf cl s r tm).heap[c]? = some (.chan cap buf cl s r tm) := by
  simp only [World.setChan]
  rw [Array.getElem?_setIfInBounds_self_of_lt h]
theorem setChan_below {W W' : World} {B c cap : Nat} {buf : Array Value} {cl : Bool} {s r : Nat} {tm : Bool} (h : Below B W W') (hc : B ≤ c) : Below B W (W'.setChan c cap buf cl s r tm) :=
  h.trans ⟨rfl, rfl, rfl, by simp [World.setChan], fun b hb => setChan_far _ _ _ _ _ _ _ _ b (by omega)⟩
theorem chin_set {W : World} {D n : Nat} {ch : List Chn} (h : ChIn W D ch n) {k : Nat} (x : Chn) (hx : SlT W x.A x.L) (hc : x.L.length ≤ x.c ∧ x.c ≤ maxLen) (hn : x.L.length + 1 ≤ n) : ChIn (W.setCell ⟨D, k, none⟩ (vCh x)) D (ch.set k x) n := by
  refine ⟨?_, by rw [List.length_set]; exact h.len, fun y hy => ?_⟩
  · have := h.blk.set_ k (vCh x)
    rw [List.map_set]
    simpa using this
  · rcases List.mem_or_eq_of_mem_set hy with hy | rfl
    · exact ⟨(h.ok y hy).1.set_ (p := ⟨D, k, none⟩) h.blk (by decide) _, (h.ok y hy).2⟩
    · exact ⟨hx.set_ (p := ⟨D, k, none⟩) h.blk (by decide) _, hc, hn⟩
/-- What the search gives back: a chain, or none. -/
def IsChn (s : Sc) (m : Int) (w : World) (e : Ending) (w' : World) : Prop :=
  ((∃ (g : Addr) (L : List Int) (d : Nat), e = .returned (.slice (some g) L.length d) ∧ (1 ≤ L.length ∧ L.length ≤ 9) ∧ (L.length ≤ d ∧ d ≤ maxLen) ∧ SlR 1 RInt w' (some g) L ∧ Mt s m m) ∨ (e = .returned (.slice none 0 0) ∧ ¬ Mt s m m)) ∧ Below w.heap.size w w'
/-- The search under way. -/
structure FI (s : Sc) (m : Int) (w1 : World) (C D : Nat) (P : Int → Ru → Prop) (v : Int) (f : Int → Bool) (q : List Int) (ch : List Chn) (W : World) : Prop where
  b : IsB v f
  bf : BF s m f q
  cl : Cl s m f q P
  qi : QuIn W C q
  ci : ChIn W D ch (cntB 8 f)
  bel : Below w1.heap.size w1 W
  hC : w1.heap.size ≤ C
  hD : w1.heap.size ≤ D
  ne : D ≠ C
section
variable {s : Sc} {m : Int} {w1 : World} {C D : Nat} {P : Int → Ru → Prop} {v : Int} {f : Int → Bool} {q : List Int} {ch : List Chn} {W : World}
theorem FI.grow (h : FI s m w1 C D P v f q ch W) {W' : World} (hb : Below W.heap.size W W') : FI s m w1 C D P v f q ch W' := ⟨h.b, h.bf, h.cl, h.qi.below h.qi.lt hb, h.ci.below hb, bthen h.bel hb, h.hC, h.hD, h.ne⟩
theorem FI.pred (h : FI s m w1 C D P v f q ch W) {P' : Int → Ru → Prop} (hc : Cl s m f q P') : FI s m w1 C D P' v f q ch W := ⟨h.b, h.bf, hc, h.qi, h.ci, h.bel, h.hC, h.hD, h.ne⟩
theorem FI.pop {x : Int} (h : FI s m w1 C D (fun _ _ => True) v f (x :: q) ch W) {sn rn : Nat} : FI s m w1 C D (fun k r => k = x → r ∈ s.rs.take 0) v f q ch (W.setChan C 8 (q.map (Value.int .i64)).toArray false sn rn false) :=
  ⟨h.b, bf_pop h.bf, cl_pop h.cl, ⟨sn, rn, setChan_own _ _ _ _ _ _ _ _ h.qi.lt⟩, chin_chan h.ci h.qi (setChan_far _ _ _ _ _ _ _ _), setChan_below h.bel h.hC, h.hC, h.hD, h.ne⟩
theorem FI.push {x : Int} {r : Ru} (h : FI s m w1 C D P v f q ch W) (hr : r ∈ s.rs) (hm : r.mute = true) (hf : r.fr = x) (h8 : 0 ≤ x ∧ x < 8) (hx : f x = true) (hn : f r.to = false) (ht : 0 ≤ r.to ∧ r.to < 8)
    {y : Chn} (hy : SlT W y.A y.L) (hc : y.L.length ≤ y.c ∧ y.c ≤ maxLen) (hl : y.L.length ≤ cntB 8 f) {sn rn : Nat} :
    FI s m w1 C D P ((v.toNat ||| 2 ^ r.to.toNat : Nat) : Int) (addB f r.to) (q ++ [r.to]) (ch.set r.to.toNat y) ((W.setCell ⟨D, r.to.toNat, none⟩ (vCh y)).setChan C 8 (((q ++ [r.to]).map (Value.int .i64)).toArray) false sn rn false) := by
  have hlt := cnt_add (f := f) ht hn
  have h1 := chin_set (h.ci.mono (show cntB 8 f ≤ cntB 8 (addB f r.to) by omega)) (k := r.to.toNat) y hy hc (by omega)
  have h2 : QuIn (W.setCell ⟨D, r.to.toNat, none⟩ (vCh y)) C q := by
    obtain ⟨a, b, hq⟩ := h.qi
    exact ⟨a, b, (Below.heap_setCell _ _ _ _ (fun e => h.ne e.symm)).trans hq⟩
  exact ⟨h.b.add ht, bf_push h.bf hr hm hf h8 hx hn ht, cl_push h.cl, ⟨sn, rn, setChan_own _ _ _ _ _ _ _ _ h2.lt⟩, chin_chan h1 h2 (setChan_far _ _ _ _ _ _ _ _), setChan_below (h.bel.setCell (by exact h.hD) _) h.hC, h.hC, h.hD, h.ne⟩
end
theorem cnt_le8 (f : Int → Bool) : cntB 8 f ≤ 8 := by
  unfold cntB
  exact Nat.le_trans List.countP_le_length (by rw [List.length_range]; exact Nat.le_refl _)
theorem isB_one {m : Int} (h : 0 ≤ m ∧ m < 8) : IsB (2 ^ m.toNat) (fun k => decide (k = m)) := by
  have : m = 0 ∨ m = 1 ∨ m = 2 ∨ m = 3 ∨ m = 4 ∨ m = 5 ∨ m = 6 ∨ m = 7 := by omega
  refine ⟨by have := pow8 h; omega, fun k h1 h2 => ?_⟩
  have : k = 0 ∨ k = 1 ∨ k = 2 ∨ k = 3 ∨ k = 4 ∨ k = 5 ∨ k = 6 ∨ k = 7 := by omega
  rw [pow_toNat, Nat.testBit_two_pow, decide_eq_decide]
  omega
theorem cnt_start {m : Int} (h : 0 ≤ m ∧ m < 8) : 1 ≤ cntB 8 (fun k => decide (k = m)) := by
  have : m = 0 ∨ m = 1 ∨ m = 2 ∨ m = 3 ∨ m = 4 ∨ m = 5 ∨ m = 6 ∨ m = 7 := by omega
  rcases this with rfl | rfl | rfl | rfl | rfl | rfl | rfl | rfl <;> decide
theorem FI.start {s : Sc} {m : Int} {w1 w2 : World} (h8 : 0 ≤ m ∧ m < 8) (hq : w2.heap[w1.heap.size]? = some (.chan 8 #[] false 0 0 false)) (hb : Below w1.heap.size w1 w2) (hs : w2.heap.size = w1.heap.size + 1) :
    FI s m w1 w1.heap.size w2.heap.size (fun _ _ => True) (2 ^ m.toNat) (fun k => decide (k = m)) [m] (List.replicate 8 ⟨none, [], 0⟩)
      ((w2.alloc (.cells #[.slice none 0 0, .slice none 0 0, .slice none 0 0, .slice none 0 0, .slice none 0 0, .slice none 0 0, .slice none 0 0, .slice none 0 0] 64)).setChan w1.heap.size 8 #[.int .i64 m] false (0 + 1) 0 false) := by
  have h1 : QuIn (w2.alloc (.cells #[.slice none 0 0, .slice none 0 0, .slice none 0 0, .slice none 0 0, .slice none 0 0, .slice none 0 0, .slice none 0 0, .slice none 0 0] 64)) w1.heap.size [] := ⟨0, 0, (Below.heap_alloc _ _ _ (by omega)).trans hq⟩
  have h2 : ChIn (w2.alloc (.cells #[.slice none 0 0, .slice none 0 0, .slice none 0 0, .slice none 0 0, .slice none 0 0, .slice none 0 0, .slice none 0 0, .slice none 0 0] 64)) w2.heap.size (List.replicate 8 ⟨none, [], 0⟩) (cntB 8 (fun k => decide (k = m))) :=
    ⟨Blk.new _ _ _, by simp, fun x hx => by
      rw [(List.mem_replicate.1 hx).2]
      exact ⟨SlT.nil, ⟨Nat.le_refl _, Nat.zero_le _⟩, cnt_start h8⟩⟩
  exact ⟨isB_one h8, bf_start h8, cl_start, ⟨1, 0, setChan_own _ _ _ _ _ _ _ _ h1.lt⟩, chin_chan h2 h1 (setChan_far _ _ _ _ _ _ _ _), setChan_below (hb.alloc (by omega) _) (Nat.le_refl _), Nat.le_refl _, by omega, by omega⟩
def frF (sv fn bx : Value) (m g : Int) (C D : Nat) (v : Int) (u : Nat → Value) : Act := { tmps := #[sv, .int .i64 m, .int .u8 g, fn, bx, u 0, u 1, u 2, .slice none 0 0, .chan (some C), .slice (some ⟨D, 0, none⟩) 8 8, .int .u8 v, u 3, u 4, u 5, u 6, u 7, u 8, u 9, u 10, u 11, u 12, u 13, u 14, u 15, u 16, u 17, u 18, u 19, u 20, u 21, u 22, u 23, u 24, u 25, u 26, u 27, u 28, u 29, u 30, u 31, u 32, u 33, u 34, u 35, u 36, u 37, u 38, u 39, u 40, u 41, u 42, u 43, u 44, u 45, u 46, u 47, u 48, u 49, u 50, u 51, u 52, u 53, u 54, u 55, u 56, u 57, u 58, u 59, u 60, u 61, u 62, u 63, u 64, u 65, u 66, u 67], defers := [] }
set_option maxRecDepth 100000 in
theorem frF_lit (sv fn bx : Value) (m g : Int) (C D : Nat) (v : Int) (v0 v1 v2 v3 v4 v5 v6 v7 v8 v9 v10 v11 v12 v13 v14 v15 v16 v17 v18 v19 v20 v21 v22 v23 v24 v25 v26 v27 v28 v29 v30 v31 v32 v33 v34 v35 v36 v37 v38 v39 v40 v41 v42 v43 v44 v45 v46 v47 v48 v49 v50 v51 v52 v53 v54 v55 v56 v57 v58 v59 v60 v61 v62 v63 v64 v65 v66 v67 : Value) : ({ tmps := #[sv, .int .i64 m, .int .u8 g, fn, bx, v0, v1, v2, .slice none 0 0, .chan (some C), .slice (some ⟨D, 0, none⟩) 8 8, .int .u8 v, v3, v4, v5, v6, v7, v8, v9, v10, v11, v12, v13, v14, v15, v16, v17, v18, v19, v20, v21, v22, v23, v24, v25, v26, v27, v28, v29, v30, v31, v32, v33, v34, v35, v36, v37, v38, v39, v40, v41, v42, v43, v44, v45, v46, v47, v48, v49, v50, v51, v52, v53, v54, v55, v56, v57, v58, v59, v60, v61, v62, v63, v64, v65, v66, v67], defers := [] } : Act) = frF sv fn bx m g C D v (fun i => [v0, v1, v2, v3, v4, v5, v6, v7, v8, v9, v10, v11, v12, v13, v14, v15, v16, v17, v18, v19, v20, v21, v22, v23, v24, v25, v26, v27, v28, v29, v30, v31, v32, v33, v34, v35, v36, v37, v38, v39, v40, v41, v42, v43, v44, v45, v46, v47, v48, v49, v50, v51, v52, v53, v54, v55, v56, v57, v58, v59, v60, v61, v62, v63, v64, v65, v66, v67].getD i undef) := rfl
def frG (sv fn bx : Value) (m g : Int) (C D : Nat) (rs : Value) (n x v k : Int) (u : Nat → Value) : Act := { tmps := #[sv, .int .i64 m, .int .u8 g, fn, bx, u 0, u 1, u 2, .slice none 0 0, .chan (some C), .slice (some ⟨D, 0, none⟩) 8 8, .int .u8 v, .int .i64 x, u 3, u 4, u 5, u 6, u 7, u 8, u 9, u 10, u 11, u 12, u 13, u 14, u 15, u 16, u 17, rs, .int .i64 n, .int .i64 k, u 18, u 19, u 20, u 21, u 22, u 23, u 24, u 25, u 26, u 27, u 28, u 29, u 30, u 31, u 32, u 33, u 34, u 35, u 36, u 37, u 38, u 39, u 40, u 41, u 42, u 43, u 44, u 45, u 46, u 47, u 48, u 49, u 50, u 51, u 52, u 53, u 54, u 55, u 56, u 57, u 58, u 59, u 60, u 61, u 62, u 63], defers := [] }
set_option maxRecDepth 100000 in
theorem frG_lit (sv fn bx : Value) (m g : Int) (C D : Nat) (rs : Value) (n x v k : Int) (v0 v1 v2 v3 v4 v5 v6 v7 v8 v9 v10 v11 v12 v13 v14 v15 v16 v17 v18 v19 v20 v21 v22 v23 v24 v25 v26 v27 v28 v29 v30 v31 v32 v33 v34 v35 v36 v37 v38 v39 v40 v41 v42 v43 v44 v45 v46 v47 v48 v49 v50 v51 v52 v53 v54 v55 v56 v57 v58 v59 v60 v61 v62 v63 : Value) : ({ tmps := #[sv, .int .i64 m, .int .u8 g, fn, bx, v0, v1, v2, .slice none 0 0, .chan (some C), .slice (some ⟨D, 0, none⟩) 8 8, .int .u8 v, .int .i64 x, v3, v4, v5, v6, v7, v8, v9, v10, v11, v12, v13, v14, v15, v16, v17, rs, .int .i64 n, .int .i64 k, v18, v19, v20, v21, v22, v23, v24, v25, v26, v27, v28, v29, v30, v31, v32, v33, v34, v35, v36, v37, v38, v39, v40, v41, v42, v43, v44, v45, v46, v47, v48, v49, v50, v51, v52, v53, v54, v55, v56, v57, v58, v59, v60, v61, v62, v63], defers := [] } : Act) = frG sv fn bx m g C D rs n x v k (fun i => [v0, v1, v2, v3, v4, v5, v6, v7, v8, v9, v10, v11, v12, v13, v14, v15, v16, v17, v18, v19, v20, v21, v22, v23, v24, v25, v26, v27, v28, v29, v30, v31, v32, v33, v34, v35, v36, v37, v38, v39, v40, v41, v42, v43, v44, v45, v46, v47, v48, v49, v50, v51, v52, v53, v54, v55, v56, v57, v58, v59, v60, v61, v62, v63].getD i undef) := rfl
/-- The search's outer loop. -/
def outR (s : Sc) (w1 : World) (sv fn bx : Value) (m g : Int) (C D : Nat) (n : Nat) (a : Act) (W : World) : Prop :=
  ∃ u v f q ch, a = frF sv fn bx m g C D v u ∧ FI s m w1 C D (fun _ _ => True) v f q ch W ∧ q.length + 2 * (8 - cntB 8 f) = n
/-- Its inner loop, over the rules, at the mode x. -/
def innR (s : Sc) (w1 : World) (sv fn bx : Value) (m g : Int) (C D : Nat) (rs : Value) (x : Int) (N : Nat) (n : Nat) (a : Act) (W : World) : Prop :=
  ∃ (k : Nat) (u : Nat → Value) (v : Int) (f : Int → Bool) (q : List Int) (ch : List Chn), a = frG sv fn bx m g C D rs s.rs.length x v k u ∧ FI s m w1 C D (fun y r => y = x → r ∈ s.rs.take k) v f q ch W ∧ (k ≤ s.rs.length ∧ f x = true ∧ q.length + 2 * (8 - cntB 8 f) < N) ∧ s.rs.length - k = n
end Go.Proofs.YtkjfdjcagfkdhaaGreat
