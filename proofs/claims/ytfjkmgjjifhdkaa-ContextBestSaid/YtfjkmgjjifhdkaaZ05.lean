/-
  GrPot, GrWalkI, GrWalkJ, OrdI, GrMc, BsTab, joined. No conditions.
-/
import Derived.Test.YtfjkmgjjifhdkaaZ01
import Derived.Test.YtfjkmgjjifhdkaaZ03
import Derived.WalkMore
import Derived.Test.YtfjkmgjjifhdkaaZ02
/-
  The plain law of layer 16: bounds of potentials; the row in which they are reckoned.
-/
namespace Go.Proofs.Ytfjkmgjjifhdkaa
open List

theorem potS_succ (g : Gr) {k : Nat} (hk : 1 ≤ k) : potS g (k + 1) = (lvs g (g.n - (k + 1))).foldl (potStep g (g.n - (k + 1)) (potS g k)) (-1) :: potS g k := by
  obtain ⟨j, rfl⟩ : ∃ j, k = j + 1 := ⟨k - 1, by omega⟩
  show (lvs g (g.n - ((j : Int) + 2))).foldl (potStep g (g.n - ((j : Int) + 2)) (potS g (j + 1))) (-1) :: potS g (j + 1) = _
  have e : g.n - ((j : Int) + 2) = g.n - (((j + 1 : Nat) : Int) + 1) := by omega
  rw [e]
theorem getD_bd {l : List Int} {B : Int} (h : ∀ x ∈ l, -1 ≤ x ∧ x ≤ B) (hB : 0 ≤ B) (i : Nat) : -1 ≤ l.getD i 0 ∧ l.getD i 0 ≤ B := by
  rw [getD_eq_getElem?_getD]
  cases hi : l[i]? with
  | none => simp; omega
  | some x => exact h x (mem_of_getElem? hi)
theorem step_bd {g : Gr} (hg : GrOK g) {v B : Int} {tail : List Int} (ht : ∀ x ∈ tail, -1 ≤ x ∧ x ≤ B) (hB : 0 ≤ B) {L : List Int} (hL : ∀ i ∈ L, 0 ≤ i ∧ i < g.ls.length) : ∀ a : Int, -1 ≤ a ∧ a ≤ B + 1000000 → -1 ≤ L.foldl (potStep g v tail) a ∧ L.foldl (potStep g v tail) a ≤ B + 1000000 := by
  induction L with
  | nil => intro a h; exact h
  | cons i L ih =>
    intro a h
    rw [foldl_cons]
    refine ih (fun j hj => hL j (by simp [hj])) _ ?_
    have hok := lkAt_ok hg (hL i (by simp))
    have hc := hok.cost
    have hb := getD_bd ht hB ((lkAt g i).to - v - 1).toNat
    unfold potStep
    dsimp only
    split <;> omega
theorem potS_bd {g : Gr} (hg : GrOK g) : ∀ k : Nat, ∀ x ∈ potS g k, -1 ≤ x ∧ x ≤ 1000000 * (k : Int)
  | 0 => by simp [potS]
  | 1 => by simp [potS]
  | k + 2 => by
    intro x hx
    have ih := potS_bd hg (k + 1)
    rw [potS_succ g (k := k + 1) (by omega)] at hx
    rcases mem_cons.1 hx with rfl | hx
    · have := step_bd hg (v := g.n - (((k + 1 : Nat) : Int) + 1)) (tail := potS g (k + 1)) (B := 1000000 * ((k + 1 : Nat) : Int)) ih (by omega) (L := lvs g (g.n - (((k + 1 : Nat) : Int) + 1))) (fun i hi => by have := lvs_iff.1 hi; omega) (-1) (by omega)
      omega
    · have := ih x hx
      omega
/-- The row of potentials while they are reckoned: m nodes still to come, one at hand, the others done. -/
def potRow (m : Nat) (acc : Int) (tail : List Int) : List Int := replicate m 0 ++ acc :: tail
theorem potRow_at (m : Nat) (acc : Int) (tail : List Int) : (potRow m acc tail)[m]? = some acc := by
  unfold potRow
  rw [getElem?_append_right (by simp)]
  simp
theorem potRow_tail {m : Nat} {acc : Int} {tail : List Int} {j : Nat} (h : m < j) (hj : j < m + 1 + tail.length) : (potRow m acc tail)[j]? = some (tail.getD (j - m - 1) 0) := by
  unfold potRow
  rw [getElem?_append_right (by simp; omega)]
  simp only [length_replicate]
  obtain ⟨i, hi⟩ : ∃ i, j - m = i + 1 := ⟨j - m - 1, by omega⟩
  rw [hi, getElem?_cons_succ, Nat.add_sub_cancel, getD_eq_getElem?_getD, getElem?_eq_getElem (by omega)]
  rfl
theorem potRow_set (m : Nat) (acc x : Int) (tail : List Int) : (potRow m acc tail).set m x = potRow m x tail := by
  unfold potRow
  rw [set_append_right _ _ (by simp)]
  simp
theorem potRow_start (m : Nat) (tail : List Int) : replicate (m + 1) 0 ++ tail = potRow m 0 tail := by
  unfold potRow
  rw [replicate_succ', append_assoc]
  rfl
theorem lkAt_nat {g : Gr} {j : Nat} {l : Lk} (h : g.ls[j]? = some l) : lkAt g (j : Int) = l := by
  unfold lkAt
  rw [Int.toNat_natCast, getD_eq_getElem?_getD, h]
  rfl
end Go.Proofs.Ytfjkmgjjifhdkaa

/-
  The walks of layers 15 and 16: the cost of a way; the order of candidates; whether the other way comes before a candidate.
-/
namespace Go.Proofs.Ytfjkmgjjifhdkaa
open Go Go.RowKit

/-- After some links: the node and the sum at hand. -/
structure CostAt (g : Gr) (done : List Int) (node sum : Int) : Prop where
  cway : ∀ r, wayB g 0 (done ++ r) = wayB g node r
  csum : ∀ r, sumC g (done ++ r) = sum + sumC g r
  lo : (done.length : Int) ≤ node
  hi : node < g.n
  s0 : 0 ≤ sum
  s1 : sum ≤ 1000000 * (done.length : Int)
theorem CostAt.zero {g : Gr} (hg : GrOK g) : CostAt g [] 0 0 := ⟨fun _ => rfl, fun r => by simp, by simp, by have := hg.n; omega, by omega, by simp⟩
theorem CostAt.step {g : Gr} (hg : GrOK g) {done : List Int} {node sum : Int} (h : CostAt g done node sum) {i : Int} (hi : 0 ≤ i ∧ i < g.ls.length) (hf : (lkAt g i).fr = node) :
    CostAt g (done ++ [i]) (lkAt g i).to (sum + (lkAt g i).cost) := by
  have hok := lkAt_ok hg hi
  have h1 := hok.lt
  have h2 := hok.to
  have h3 := hok.cost
  have h4 := h.lo
  have h5 := h.s0
  have h6 := h.s1
  refine ⟨fun r => ?_, fun r => ?_, by simp; omega, h2, by omega, by simp; omega⟩
  · rw [List.append_assoc, h.cway]
    show (decide (0 ≤ i ∧ i < g.ls.length ∧ (lkAt g i).fr = node) && wayB g (lkAt g i).to r) = _
    rw [decide_eq_true ⟨hi.1, hi.2, hf⟩]
    rfl
  · rw [List.append_assoc, h.csum]
    show sum + ((lkAt g i).cost + sumC g r) = _
    omega
end Go.Proofs.Ytfjkmgjjifhdkaa

/-
  The walks of layer 16: how many elements at the beginning of a page are ways, each before the next one.
-/
namespace Go.Proofs.Ytfjkmgjjifhdkaa
open Go Go.RowKit

def RCan (w : World) (x : Can) (vs : List Value) : Prop := ∃ A c, vs = [.slice A x.links.length c, .int .i64 x.cost] ∧ SlR 1 RInt w A x.links ∧ x.links.length ≤ c ∧ c ≤ maxLen
theorem keeps_can : Keeps RCan := fun _ _ _ _ hb ⟨A, c, h, hs, hl⟩ => ⟨A, c, h, hs.below keeps_int hb, hl⟩
theorem SlR.can {w : World} {A : Option Addr} {xs : List Can} (h : SlR 2 RCan w A xs) {k : Nat} (hk : k < xs.length) :
    ∃ b off x A' c, A = some ⟨b, off, none⟩ ∧ b < w.heap.size ∧ xs[k]? = some x ∧ w.cell? ⟨b, off + k * 2, none⟩ = some (.slice A' x.links.length c) ∧ w.cell? ⟨b, off + k * 2 + 1, none⟩ = some (.int .i64 x.cost) ∧ SlR 1 RInt w A' x.links ∧ x.links.length ≤ c ∧ c ≤ maxLen := by
  obtain ⟨b, off, x, vs, hA, hlt, hx, ⟨A', c, hr, hs, hl⟩, _, hv⟩ := h.at_ hk
  exact ⟨b, off, x, A', c, hA, hlt, hx, hv 0 _ (by rw [hr]; rfl), hv 1 _ (by rw [hr]; rfl), hs, hl⟩
end Go.Proofs.Ytfjkmgjjifhdkaa

/-
  A region that draws its order and holds chains that may come up in any order beside each other: one condition for each state of the chains, one proof for each operation.
-/
namespace Go.Proofs.Ytfjkmgjjifhdkaa
open Go Go.RowKit

/-- All blocks but g are as they were. -/
def Far (g : Nat) (w w' : World) : Prop := ∀ b, b ≠ g → w'.heap[b]? = w.heap[b]?
theorem Far.cell {g : Nat} {w w' : World} (h : Far g w w') : ∀ b o, b ≠ g → w'.cell? ⟨b, o, none⟩ = w.cell? ⟨b, o, none⟩ := fun b _ hb => World.cell?_of_block (h b hb)
theorem Far.set {g : Nat} {w w' : World} (h : Far g w w') (o : Nat) (v : Value) : Far g w (w'.setCell ⟨g, o, none⟩ v) := fun b hb => (Below.heap_setCell w' ⟨g, o, none⟩ v b hb).trans (h b hb)
/-- What some slots of a frame of N slots hold. -/
def Slots (N : Nat) (a : Act) (l : List (Nat × Value)) : Prop := a.tmps.size = N ∧ a.defers = [] ∧ ∀ kv ∈ l, a.tmps.getD kv.1 undef = kv.2
section
variable {N : Nat} {a : Act} {l : List (Nat × Value)}
theorem Slots.at_ (h : Slots N a l) {k : Nat} {v : Value} (hm : (k, v) ∈ l) : a.tmps.getD k undef = v := h.2.2 (k, v) hm
theorem Slots.put (h : Slots N a l) (d : Nat) (v : Value) (hd : ∀ kv ∈ l, kv.1 ≠ d) : Slots N (a.put (some d) v) l := by
  obtain ⟨h1, h2, h3⟩ := h
  refine ⟨by simp [Act.put, h1], h2, fun kv hkv => ?_⟩
  have := h3 kv hkv
  have hne := hd kv hkv
  simp only [Act.put, Array.getD_eq_getD_getElem?] at this ⊢
  rw [Array.getElem?_setIfInBounds_ne (Ne.symm hne)]
  exact this
theorem Slots.add (h : Slots N a l) (d : Nat) (v : Value) (hd : d < N) (hn : ∀ kv ∈ l, kv.1 ≠ d) : Slots N (a.put (some d) v) ((d, v) :: l) := by
  obtain ⟨h1, h2, h3⟩ := h.put d v hn
  refine ⟨h1, h2, fun kv hkv => ?_⟩
  rcases List.mem_cons.1 hkv with rfl | hkv
  · simp [Act.put, h.1, hd]
  · exact h3 kv hkv
end
theorem slr_cells_ {α : Type} {s : Nat} {R : World → α → List Value → Prop} {enc : α → List Value} {w : World} {a : Addr} {xs : List α} (h : SlR s R w (some a) xs) (_hs : 0 < s) (hR : ∀ w x vs, R w x vs → vs = enc x) :
    ∀ j u, (xs.flatMap enc)[j]? = some u → w.cell? (a.add j) = some u := by
  by_cases hn : xs = []
  · subst hn; intro j u hj; simp at hj
  · obtain ⟨b, off, ha, _, hc⟩ := h hn
    injection ha with ha
    subst ha
    have key : ∀ (l : List α) (o : Nat), (∀ k x, l[k]? = some x → (enc x).length = s ∧ ∀ j v, (enc x)[j]? = some v → w.cell? ⟨b, o + k * s + j, none⟩ = some v) → ∀ j u, (l.flatMap enc)[j]? = some u → w.cell? ⟨b, o + j, none⟩ = some u := by
      intro l
      induction l with
      | nil => intro o _ j u hj; simp at hj
      | cons x l ih =>
        intro o hl j u hj
        obtain ⟨h0, h1⟩ := hl 0 x rfl
        rw [List.flatMap_cons] at hj
        rcases Nat.lt_or_ge j (enc x).length with hlt | hge
        · rw [List.getElem?_append_left hlt] at hj
          have := h1 j u hj
          simpa using this
        · rw [List.getElem?_append_right hge] at hj
          have := ih (o + s) (fun k y hy => by
            obtain ⟨h2, h3⟩ := hl (k + 1) y (by simpa using hy)
            refine ⟨h2, fun j v hv => ?_⟩
            have := h3 j v hv
            rwa [show o + (k + 1) * s + j = o + s + k * s + j by rw [Nat.add_mul]; omega] at this) (j - (enc x).length) u hj
          rwa [show o + s + (j - (enc x).length) = o + j by omega] at this
    intro j u hj
    rw [add_mk]
    refine key xs off (fun k x hx => ?_) j u hj
    obtain ⟨vs, hr, hl, hv⟩ := hc k x hx
    have := hR _ _ _ hr
    subst this
    exact ⟨hl, hv⟩

theorem flatMap_len_ {α β : Type} {s : Nat} {enc : α → List β} (h : ∀ x, (enc x).length = s) (xs : List α) : (xs.flatMap enc).length = xs.length * s := by
  induction xs with
  | nil => simp
  | cons x l ih => rw [List.flatMap_cons, List.length_append, h, ih, List.length_cons, Nat.add_mul]; omega
section
variable {P : Program} {ops : Array Oper} {Q : Exit → Act → World → Prop} {S : World → Prop} {ts : List Nat}
theorem run_append_of_nil (w : World) (base : Nat) (t ty e : TypeId) (i : TypeInfo) (size : Nat) (ht : P.underlying t = some (.slice e)) (hi : P.info? e = some i)
    (v : Value) (n : Nat) (xs : List Value) (hown : w.ownsRow base e size v n xs) (c : Nat) : (Builtin.append_ #[t, t] ty #[v, .slice none 0 c]).run P w = .ok v w := by
  rcases hown.2 with ⟨rfl, rfl⟩ | ⟨g, cap, cur, rfl, _, _, hnc, _⟩
  · simp [Builtin.append_, run_underlying ht, sizeOf, typeInfo, hi, Builtin.lenOf, Builtin.firstCells]
  · simp [Builtin.append_, run_underlying ht, sizeOf, typeInfo, hi, Builtin.lenOf, Builtin.firstCells, hnc, storeCells]
/-- 'append(out, xs...)' onto a row of the call's own, xs in any memory. -/
theorem wp_appS {α : Type} {enc : α → List Value} {R : World → α → List Value → Prop} {o : Oper} {a : Act} {K : Act → World → Prop} {w : World} (s x : Operand) (t : TypeId)
    (ho : o.op = .call { callee := .builtin .append, args := #[s, x], argTypes := #[t, t] })
    (base : Nat) (e : TypeId) (i : TypeInfo) (z : Value) (size bytes : Nat) (ht : P.underlying t = some (.slice e)) (hi : P.info? e = some i) (hz : i.zero = some z)
    (hsize : i.size = size) (hby : i.bytes = bytes) (hzs : z.cells.size = size) (hsz : 0 < size)
    (v : Value) (n : Nat) (xs : List Value) (hs : a.eval s = v) (hown : w.ownsRow base e size v n xs)
    (A : Option Addr) (c : Nat) (ys : List α) (hx : a.eval x = .slice A ys.length c) (hr : SlR size R w A ys) (hR : ∀ w x vs, R w x vs → vs = enc x) (hl : ∀ x, (enc x).length = size) (h1 : ∀ u ∈ ys.flatMap enc, u.oneCell' = true)
    (hn : n + ys.length ≤ 1000000) (hbb : bytes ≤ 1000) (hbase : base ≤ w.heap.size)
    (h : ∀ v' w', w'.ownsRow base e size v' (n + ys.length) (xs ++ ys.flatMap enc) → Below base w w' → Apps w w' v v' → K (a.put o.dst v') w') : o.wp P a w K Q := by
  have hb1 : (n + ys.length) * bytes ≤ 1000000 * 1000 := Nat.mul_le_mul hn hbb
  have key : ∃ v' w', (Builtin.append_ #[t, t] o.type #[v, .slice A ys.length c]).run P w = .ok v' w' ∧ w'.ownsRow base e size v' (n + ys.length) (xs ++ ys.flatMap enc) ∧ w.grownBy w' v.ownBlock ∧ (v'.ownBlock = v.ownBlock ∨ v'.ownBlock = some w.heap.size) := by
    rcases A with _ | ad
    · have hy : ys = [] := Classical.byContradiction fun hne => by obtain ⟨_, _, h, _⟩ := hr hne; cases h
      subst hy
      exact ⟨v, w, run_append_of_nil w base t o.type e i size ht hi v n xs hown c, by simpa using hown, World.grownBy.refl w _, .inl rfl⟩
    · obtain ⟨v', w', hrun, h2, h3, _, h5⟩ := run_append_own_at (P := P) w base t o.type e i z size bytes ht hi hz hsize hby hzs hsz v n xs hown ad ys.length c (ys.flatMap enc) (flatMap_len_ hl ys) (slr_cells_ hr hsz hR) h1 (by unfold maxLen; omega) (by omega) hbase
      exact ⟨v', w', hrun, h2, h3, h5⟩
  obtain ⟨v', w', hrun, h2, h3, h5⟩ := key
  unfold Oper.wp execOp
  simp only [ho, resolve, invoke, builtin, Sem.run_bind, Sem.run_pure, Result.andThen_ok, List.map_toArray, List.map_cons, List.map_nil, hs, hx, hrun]
  refine h v' w' h2 ((Below.refl _ _).grown h3 hbase (own_block_le hown)) ⟨fun k hk hne => h3.block k hk (fun e => hne e.symm), ?_⟩
  rcases h5 with h5 | h5
  · exact .inl h5
  · exact .inr ⟨_, h5, Nat.le_refl _⟩
end
end Go.Proofs.Ytfjkmgjjifhdkaa

/-
  Words for memory of layers 15 and 16: candidates in rows of the call's own, with the slices of their links.
-/
namespace Go.Proofs.Ytfjkmgjjifhdkaa
open Go Go.RowKit

/-- A slice of numbers in a block of numbers. -/
def SlT (w : World) (A : Option Addr) (xs : List Int) : Prop := xs ≠ [] → ∃ b off cs, A = some ⟨b, off, none⟩ ∧ Blk w b 3 cs ∧ ∀ (k : Nat) (x : Int), xs[k]? = some x → cs[off + k]? = some (.int .i64 x)
section
variable {w w' : World} {A : Option Addr} {xs : List Int}
theorem SlT.nil : SlT w A [] := fun h => absurd rfl h
theorem SlT.slr (h : SlT w A xs) : SlR 1 RInt w A xs := fun hne => by
  obtain ⟨b, off, cs, hA, hb, hc⟩ := h hne
  refine ⟨b, off, hA, hb.lt, fun k x hk => ⟨[.int .i64 x], rfl, rfl, fun j v hj => ?_⟩⟩
  match j, hj with
  | 0, hj =>
    simp at hj
    subst hj
    rw [hb.cell, show off + k * 1 + 0 = off + k by omega]
    exact hc k x hk
theorem SlT.below (h : SlT w A xs) (hb : Below w.heap.size w w') : SlT w' A xs := fun hne => by
  obtain ⟨b, off, cs, hA, hB, hc⟩ := h hne
  exact ⟨b, off, cs, hA, hB.below hb hB.lt, hc⟩
theorem SlT.apps {base : Nat} {e : TypeId} {s n : Nat} {v v' : Value} {ys : List Value} (h : SlT w A xs) (ho : w.ownsRow base e s v n ys) (hne : e ≠ 3) (ha : Apps w w' v v') : SlT w' A xs := fun hn => by
  obtain ⟨b, off, cs, hA, hB, hc⟩ := h hn
  exact ⟨b, off, cs, hA, hB.apps ha (own_blk_ne ho hB hne), hc⟩
theorem SlT.set_ {p : Addr} {t : TypeId} {cs' : Array Value} (h : SlT w A xs) (hp : Blk w p.block t cs') (hne : t ≠ 3) (u : Value) : SlT (w.setCell p u) A xs := fun hn => by
  obtain ⟨b, off, cs, hA, hB, hc⟩ := h hn
  refine ⟨b, off, cs, hA, hB.far (fun e => ?_) u, hc⟩
  unfold Blk at hB hp
  rw [e] at hB
  rw [hB] at hp
  injection hp with hp
  injection hp with _ ht
  exact hne ht.symm
theorem Row.slt {g : Nat} (h : Row w g xs) : SlT w (some ⟨g, 0, none⟩) xs := fun _ => ⟨g, 0, _, rfl, h, fun k x hk => by simp [hk]⟩
theorem SlT.take (h : SlT w A xs) (n : Nat) : SlT w A (xs.take n) := fun hn => by
  obtain ⟨b, off, cs, hA, hB, hc⟩ := h (by rintro rfl; simp at hn)
  refine ⟨b, off, cs, hA, hB, fun k x hk => hc k x ?_⟩
  rw [List.getElem?_take] at hk
  split at hk
  · exact hk
  · cases hk
/-- A row of numbers of the call's own. -/
theorem own_slt {base n : Nat} {v : Value} (h : w.ownsRow base 3 1 v n (xs.map (Value.int .i64))) (hn : n = xs.length) : ∃ B cap, v = .slice B n cap ∧ n ≤ cap ∧ cap ≤ maxLen ∧ SlT w B xs := by
  rcases h.2 with ⟨rfl, h0⟩ | ⟨g, cap, cur, rfl, hg, hh, hnc, hcm, hcs, htk⟩
  · subst h0
    have : xs = [] := List.length_eq_zero_iff.1 hn.symm
    subst this
    exact ⟨none, 0, rfl, Nat.le_refl _, Nat.zero_le _, SlT.nil⟩
  · refine ⟨some ⟨g, 0, none⟩, cap, rfl, hnc, hcm, fun _ => ⟨g, 0, cur, rfl, hh, fun k x hk => ?_⟩⟩
    have h1 : (xs.map (Value.int .i64))[k]? = some (.int .i64 x) := by simp [hk]
    rw [← htk, List.getElem?_take] at h1
    split at h1
    · simpa using h1
    · cases h1
end
/-- A candidate as it lies in memory. -/
structure MC where
  A : Option Addr
  c : Nat
  x : Can
def encMc (m : MC) : List Value := [.slice m.A m.x.links.length m.c, .int .i64 m.x.cost]
def RMc (_ : World) (m : MC) (vs : List Value) : Prop := vs = encMc m
def MOK (w : World) (m : MC) : Prop := SlT w m.A m.x.links ∧ m.x.links.length ≤ m.c ∧ m.c ≤ maxLen
def MsOK (w : World) (ms : List MC) : Prop := ∀ m ∈ ms, MOK w m
section
variable {w w' : World} {ms : List MC}
theorem MsOK.nil : MsOK w [] := fun _ h => by cases h
theorem MsOK.below (h : MsOK w ms) (hb : Below w.heap.size w w') : MsOK w' ms := fun m hm => ⟨(h m hm).1.below hb, (h m hm).2⟩
theorem MsOK.apps {base : Nat} {e : TypeId} {s n : Nat} {v v' : Value} {ys : List Value} (h : MsOK w ms) (ho : w.ownsRow base e s v n ys) (hne : e ≠ 3) (ha : Apps w w' v v') : MsOK w' ms := fun m hm => ⟨(h m hm).1.apps ho hne ha, (h m hm).2⟩
theorem MsOK.set_ {p : Addr} {t : TypeId} {cs' : Array Value} (h : MsOK w ms) (hp : Blk w p.block t cs') (hne : t ≠ 3) (u : Value) : MsOK (w.setCell p u) ms := fun m hm => ⟨(h m hm).1.set_ hp hne u, (h m hm).2⟩
theorem MsOK.app {ns : List MC} (h : MsOK w ms) (h' : MsOK w ns) : MsOK w (ms ++ ns) := fun m hm => (List.mem_append.1 hm).elim (h m) (h' m)
theorem mc_can {A : Option Addr} (h : SlR 2 RMc w A ms) (ho : MsOK w ms) : SlR 2 RCan w A (ms.map (·.x)) := fun hne => by
  obtain ⟨b, off, hA, hb, hc⟩ := h (by rintro rfl; simp at hne)
  refine ⟨b, off, hA, hb, fun k x hk => ?_⟩
  rw [List.getElem?_map] at hk
  cases hm : ms[k]? with
  | none => rw [hm] at hk; cases hk
  | some m =>
    rw [hm] at hk
    obtain rfl := Option.some.inj hk
    obtain ⟨vs, hr, hl, hv⟩ := hc k m hm
    have hk := ho m (List.mem_of_getElem? hm)
    exact ⟨vs, ⟨m.A, m.c, hr, hk.1.slr, hk.2.1, hk.2.2⟩, hl, hv⟩
end
end Go.Proofs.Ytfjkmgjjifhdkaa

/-
  The plain law of layer 15: the links of a node in the order of the first ways that they begin; the first way from a node.
-/
namespace Go.Proofs.Ytfjkmgjjifhdkaa
open List

def viaLe (g : Gr) (i j : Int) : Bool := decide (viaOf g i < viaOf g j) || (decide (viaOf g i = viaOf g j) && decide (i ≤ j))
theorem viaLe_iff {g : Gr} {i j : Int} : viaLe g i j = true ↔ viaOf g i < viaOf g j ∨ (viaOf g i = viaOf g j ∧ i ≤ j) := by unfold viaLe; simp
def onL (g : Gr) (v : Int) : List Int := (lvs g v).filter (fun i => decide (0 ≤ hAt g (lkAt g i).to))
def frL (g : Gr) (v : Int) : List Int := (onL g v).mergeSort (viaLe g)
theorem frL_perm (g : Gr) (v : Int) : frL g v ~ onL g v := mergeSort_perm _ _
theorem viaLe_anti {g : Gr} {a b : Int} (h1 : viaLe g a b = true) (h2 : viaLe g b a = true) : a = b := by rw [viaLe_iff] at *; omega
theorem frL_sorted (g : Gr) (v : Int) : (frL g v).Pairwise (fun a b => viaLe g a b = true) :=
  pairwise_mergeSort (le := viaLe g) (fun a b c h1 h2 => by rw [viaLe_iff] at *; omega) (fun a b => by
    rcases Int.lt_or_le (viaOf g a) (viaOf g b) with h | h
    · rw [viaLe_iff.2 (.inl h)]; rfl
    · rcases Int.lt_or_le (viaOf g b) (viaOf g a) with h2 | h2
      · rw [viaLe_iff.2 (.inl h2)]; simp
      · rcases Int.le_total a b with h3 | h3
        · rw [viaLe_iff.2 (.inr ⟨by omega, h3⟩)]; rfl
        · rw [viaLe_iff.2 (.inr ⟨by omega, h3⟩)]; simp) _
theorem frL_unique {g : Gr} {v : Int} {l : List Int} (hp : l ~ onL g v) (hs : l.Pairwise (fun a b => viaLe g b a = true → a = b)) : l = frL g v :=
  (hp.trans (frL_perm g v).symm).eq_of_pairwise (le := fun a b => viaLe g b a = true → a = b) (fun a b _ _ h1 h2 => by
    rcases Int.lt_or_le (viaOf g a) (viaOf g b) with h | h
    · exact (h2 (viaLe_iff.2 (.inl h))).symm
    · rcases Int.lt_or_le (viaOf g b) (viaOf g a) with h3 | h3
      · exact h1 (viaLe_iff.2 (.inl h3))
      · rcases Int.le_total a b with h4 | h4
        · exact (h2 (viaLe_iff.2 (.inr ⟨by omega, h4⟩))).symm
        · exact h1 (viaLe_iff.2 (.inr ⟨by omega, h4⟩))) hs ((frL_sorted g v).imp fun {a b} h h' => viaLe_anti h h')
theorem frL_mem {g : Gr} {v i : Int} : i ∈ frL g v ↔ i ∈ lvs g v ∧ 0 ≤ hAt g (lkAt g i).to := by
  rw [(frL_perm g v).mem_iff]; unfold onL; rw [mem_filter]; simp
theorem frL_len {g : Gr} {v : Int} : (frL g v).length ≤ (lvs g v).length := by
  rw [(frL_perm g v).length_eq]; exact length_filter_le _ _
theorem frL_nodup {g : Gr} {v : Int} : (frL g v).Nodup := (frL_perm g v).nodup_iff.2 (((lvs_inc g v).imp fun h => by omega : (lvs g v).Nodup).filter _)
theorem frL_strict (g : Gr) (v : Int) : (frL g v).Pairwise (fun a b => viaOf g a < viaOf g b ∨ (viaOf g a = viaOf g b ∧ a < b)) :=
  ((frL_sorted g v).and frL_nodup).imp fun {a b} h => by have h1 := viaLe_iff.1 h.1; have h2 := h.2; omega
theorem frL_last {g : Gr} (hg : GrOK g) : frL g (g.n - 1) = [] := by
  rw [eq_nil_iff_forall_not_mem]
  intro i hi
  have := (frL_mem.1 hi).1
  rw [lvs_last hg] at this
  cases this
theorem frL_via {g : Gr} {v i : Int} (h : i ∈ frL g v) : viaOf g i = (lkAt g i).cost + hAt g (lkAt g i).to := by
  unfold viaOf; rw [if_pos (frL_mem.1 h).2]
theorem frL_link {g : Gr} (hg : GrOK g) {v i : Int} (h : i ∈ frL g v) : 0 ≤ i ∧ i < g.ls.length ∧ (lkAt g i).fr = v ∧ v < (lkAt g i).to ∧ (lkAt g i).to < g.n ∧ 0 ≤ (lkAt g i).cost ∧ (lkAt g i).cost ≤ 1000000 ∧ 0 ≤ hAt g (lkAt g i).to := by
  obtain ⟨h1, h2⟩ := frL_mem.1 h
  have h3 := lvs_iff.1 h1
  have hok := lkAt_ok hg ⟨h3.1, h3.2.1⟩
  have := hok.lt; have := hok.to; have := hok.cost
  omega
theorem frL_nil {g : Gr} (hg : GrOK g) {v : Int} (h0 : 0 ≤ v) (h1 : v < g.n - 1) : frL g v = [] ↔ hAt g v < 0 := by
  have hst := hAt_step hg h0 h1
  constructor
  · intro h
    rcases min_spec (viaOf g) (lvs g v) with ⟨h4, _⟩ | ⟨⟨i, hi, h5⟩, h4, _⟩
    · omega
    · have hn : i ∉ frL g v := by rw [h]; simp
      rw [frL_mem] at hn
      exfalso
      apply hn
      refine ⟨hi, ?_⟩
      rcases Int.lt_or_le (hAt g (lkAt g i).to) 0 with h6 | h6
      · have : viaOf g i = -1 := by unfold viaOf; rw [if_neg (by omega)]
        omega
      · exact h6
  · intro h
    rw [eq_nil_iff_forall_not_mem]
    intro i hi
    have hl := frL_link hg hi
    have hv := frL_via hi
    rcases min_spec (viaOf g) (lvs g v) with ⟨_, h5⟩ | ⟨_, h4, _⟩
    · have := h5 i (frL_mem.1 hi).1; omega
    · omega
theorem frL_head {g : Gr} (hg : GrOK g) {v i : Int} {r : List Int} (h0 : 0 ≤ v) (h1 : v < g.n - 1) (h : frL g v = i :: r) : viaOf g i = hAt g v := by
  have hst := hAt_step hg h0 h1
  have hi : i ∈ frL g v := by rw [h]; simp
  have hl := frL_link hg hi
  have hvi := frL_via hi
  have hs := frL_sorted g v
  rw [h] at hs
  have hs := (pairwise_cons.1 hs).1
  rcases min_spec (viaOf g) (lvs g v) with ⟨_, h5⟩ | ⟨⟨j, hj, h5⟩, h4, h6⟩
  · have := h5 i (frL_mem.1 hi).1; omega
  · have h7 := h6 i (frL_mem.1 hi).1 (by omega)
    have hjf : j ∈ frL g v := frL_mem.2 ⟨hj, by
      rcases Int.lt_or_le (hAt g (lkAt g j).to) 0 with h6 | h6
      · have : viaOf g j = -1 := by unfold viaOf; rw [if_neg (by omega)]
        omega
      · exact h6⟩
    rw [h] at hjf
    rcases mem_cons.1 hjf with rfl | hjf
    · omega
    · have := viaLe_iff.1 (hs j hjf); omega
/-- The first way from a node. -/
def bw (g : Gr) (v : Int) : List Int := bestW g (g.n - 1 - v).toNat v
theorem bestW_fuel {g : Gr} (hg : GrOK g) : ∀ (k k' : Nat) (v : Int), 0 ≤ v → v < g.n → g.n - 1 - v ≤ (k : Int) → g.n - 1 - v ≤ (k' : Int) → bestW g k v = bestW g k' v := by
  intro k
  induction k with
  | zero =>
    intro k' v h0 h1 h2 h3
    have hv : v = g.n - 1 := by omega
    cases k' with
    | zero => rfl
    | succ k' => unfold bestW; rw [if_pos hv]
  | succ k ih =>
    intro k' v h0 h1 h2 h3
    by_cases hv : v = g.n - 1
    · cases k' with
      | zero => unfold bestW; rw [if_pos hv]
      | succ k' => unfold bestW; rw [if_pos hv, if_pos hv]
    · cases k' with
      | zero => omega
      | succ k' =>
        unfold bestW
        rw [if_neg hv, if_neg hv]
        cases hf : (lvs g v).find? (fun i => decide (viaOf g i = hAt g v)) with
        | none => rfl
        | some i =>
          have hi' := lvs_iff.1 (mem_of_find?_eq_some hf)
          have hok := lkAt_ok hg ⟨hi'.1, hi'.2.1⟩
          have hto := hok.to
          have hlt := hok.lt
          dsimp only
          rw [ih k' _ (by omega) (by omega) (by omega) (by omega)]
theorem bw_last (g : Gr) : bw g (g.n - 1) = [] := by unfold bw; rw [show (g.n - 1 - (g.n - 1)).toNat = 0 by omega]; rfl
theorem bw_step {g : Gr} (hg : GrOK g) {v i : Int} {r : List Int} (h0 : 0 ≤ v) (h1 : v < g.n - 1) (h : frL g v = i :: r) : bw g v = i :: bw g (lkAt g i).to := by
  have hi : i ∈ frL g v := by rw [h]; simp
  have hl := frL_link hg hi
  have hvh := frL_head hg h0 h1 h
  have hil := (frL_mem.1 hi).1
  have hf : (lvs g v).find? (fun i => decide (viaOf g i = hAt g v)) = some i := by
    cases hf : (lvs g v).find? (fun i => decide (viaOf g i = hAt g v)) with
    | none => have := find?_eq_none.1 hf i hil; simp at this; omega
    | some j =>
      rcases find_first (lvs_inc g v) hf hil (by simpa using hvh) with rfl | hlt
      · rfl
      · have hvj : viaOf g j = hAt g v := by simpa using find?_some hf
        have hst := hAt_step hg h0 h1
        have hvi := frL_via hi
        have hjf : j ∈ frL g v := frL_mem.2 ⟨mem_of_find?_eq_some hf, by
          rcases Int.lt_or_le (hAt g (lkAt g j).to) 0 with h6 | h6
          · unfold viaOf at hvj; rw [if_neg (by omega)] at hvj; omega
          · exact h6⟩
        have hs := frL_sorted g v
        rw [h] at hs hjf
        rcases mem_cons.1 hjf with rfl | hjf
        · omega
        · have := viaLe_iff.1 ((pairwise_cons.1 hs).1 j hjf); omega
  obtain ⟨k, hk⟩ : ∃ k : Nat, (g.n - 1 - v).toNat = k + 1 := ⟨(g.n - 1 - v).toNat - 1, by omega⟩
  unfold bw
  rw [hk]
  conv => lhs; unfold bestW
  rw [if_neg (by omega), hf]
  dsimp only
  rw [bestW_fuel hg k _ _ (by omega) (by omega) (by omega) (Int.self_le_toNat _)]
theorem bw_way {g : Gr} (hg : GrOK g) {v : Int} (h0 : 0 ≤ v) (h1 : v < g.n) (h : 0 ≤ hAt g v) : wayB g v (bw g v) = true ∧ sumC g (bw g v) = hAt g v := best_way hg _ v h0 h1 (by omega) h
theorem bw_first {g : Gr} (hg : GrOK g) {v : Int} (h0 : 0 ≤ v) (h1 : v < g.n) {w : List Int} (hw : wayB g v w = true) (hs : sumC g w = hAt g v) : bw g v = w ∨ lexLt (bw g v) w = true := best_first hg _ v h0 h1 (by omega) w hw hs
theorem bw_len {g : Gr} (hg : GrOK g) : ∀ (k : Nat) (v : Int), 0 ≤ v → v < g.n → g.n - 1 - v ≤ (k : Int) → 0 ≤ hAt g v → (bw g v).length ≤ k := by
  intro k
  induction k with
  | zero => intro v h0 h1 h2 _; rw [show v = g.n - 1 by omega, bw_last]; simp
  | succ k ih =>
    intro v h0 h1 h2 h3
    by_cases hv : v = g.n - 1
    · rw [hv, bw_last]; simp
    · cases hf : frL g v with
      | nil => have := (frL_nil hg h0 (by omega)).1 hf; omega
      | cons i r =>
        have hl := frL_link hg (show i ∈ frL g v by rw [hf]; simp)
        rw [bw_step hg h0 (by omega) hf, length_cons]
        have := ih (lkAt g i).to (by omega) (by omega) (by omega) hl.2.2.2.2.2.2.2
        omega
/-- The way's links are links of the first ways. -/
theorem way_frL {g : Gr} (hg : GrOK g) {v i : Int} {t : List Int} (h0 : 0 ≤ v) (_h1 : v < g.n) (h : wayB g v (i :: t) = true) : i ∈ frL g v ∧ wayB g (lkAt g i).to t = true := by
  obtain ⟨h2, h3⟩ := way_cons.1 h
  have hi := lvs_iff.1 h2
  have hok := lkAt_ok hg ⟨hi.1, hi.2.1⟩
  have hto := hok.to
  have hlt := hok.lt
  exact ⟨frL_mem.2 ⟨h2, (way_h hg t _ (by omega) (by omega) h3).1⟩, h3⟩

/-- A path: links, each of which begins where the one before it ends. -/
def pathB (g : Gr) : Int → List Int → Bool
  | _, [] => true
  | v, i :: r => decide (0 ≤ i ∧ i < g.ls.length ∧ (lkAt g i).fr = v) && pathB g (lkAt g i).to r
def endP (g : Gr) : Int → List Int → Int
  | v, [] => v
  | _, i :: r => endP g (lkAt g i).to r
theorem path_cons {g : Gr} {v i : Int} {r : List Int} : pathB g v (i :: r) = true ↔ i ∈ lvs g v ∧ pathB g (lkAt g i).to r = true := by
  rw [lvs_iff]
  conv => lhs; unfold pathB
  simp
theorem wayB_cons (g : Gr) (v i : Int) (r : List Int) : wayB g v (i :: r) = (decide (0 ≤ i ∧ i < g.ls.length ∧ (lkAt g i).fr = v) && wayB g (lkAt g i).to r) := rfl
theorem pathB_cons (g : Gr) (v i : Int) (r : List Int) : pathB g v (i :: r) = (decide (0 ≤ i ∧ i < g.ls.length ∧ (lkAt g i).fr = v) && pathB g (lkAt g i).to r) := rfl
theorem sumC_cons (g : Gr) (i : Int) (r : List Int) : sumC g (i :: r) = (lkAt g i).cost + sumC g r := rfl
theorem endP_cons (g : Gr) (v i : Int) (r : List Int) : endP g v (i :: r) = endP g (lkAt g i).to r := rfl
theorem way_app (g : Gr) : ∀ (p r : List Int) (v : Int), wayB g v (p ++ r) = (pathB g v p && wayB g (endP g v p) r)
  | [], r, v => by simp [pathB, endP]
  | i :: p, r, v => by
    rw [cons_append, wayB_cons, way_app g p r, pathB_cons, endP_cons, Bool.and_assoc]
theorem path_app (g : Gr) : ∀ (p r : List Int) (v : Int), pathB g v (p ++ r) = (pathB g v p && pathB g (endP g v p) r)
  | [], r, v => by simp [pathB, endP]
  | i :: p, r, v => by
    rw [cons_append, pathB_cons, path_app g p r, pathB_cons, endP_cons, Bool.and_assoc]
theorem endP_app (g : Gr) : ∀ (p r : List Int) (v : Int), endP g v (p ++ r) = endP g (endP g v p) r
  | [], _, _ => rfl
  | i :: p, r, v => by
    rw [cons_append]
    exact endP_app g p r _
theorem sumC_app (g : Gr) : ∀ (p r : List Int), sumC g (p ++ r) = sumC g p + sumC g r
  | [], r => by simp [sumC]
  | i :: p, r => by
    rw [cons_append, sumC_cons, sumC_cons, sumC_app g p r]
    omega
theorem path_bd {g : Gr} (hg : GrOK g) : ∀ (p : List Int) (v : Int), 0 ≤ v → v < g.n → pathB g v p = true → v + p.length ≤ endP g v p ∧ endP g v p < g.n ∧ 0 ≤ sumC g p ∧ sumC g p ≤ 1000000 * (endP g v p - v)
  | [], v, h0, h1, _ => by simp [endP, sumC]; omega
  | i :: p, v, h0, h1, h => by
    obtain ⟨h2, h3⟩ := path_cons.1 h
    have hi := lvs_iff.1 h2
    have hok := lkAt_ok hg ⟨hi.1, hi.2.1⟩
    have hto := hok.to
    have hlt := hok.lt
    have hc := hok.cost
    have := path_bd hg p _ (by omega) (by omega) h3
    show v + ((i :: p).length : Int) ≤ endP g _ p ∧ endP g _ p < g.n ∧ 0 ≤ (lkAt g i).cost + sumC g p ∧ (lkAt g i).cost + sumC g p ≤ 1000000 * (endP g _ p - v)
    rw [length_cons]
    omega
theorem way_bd {g : Gr} (hg : GrOK g) {w : List Int} (h : wayB g 0 w = true) : (w.length : Int) < g.n ∧ 0 ≤ sumC g w ∧ sumC g w ≤ 1000000 * g.n := by
  have hn := hg.n
  have h2 : pathB g 0 w = true := by
    have := way_app g w [] 0
    rw [append_nil, h] at this
    have := this.symm
    rw [Bool.and_eq_true] at this
    exact this.1
  have := path_bd hg w 0 (by omega) (by omega) h2
  omega
end Go.Proofs.Ytfjkmgjjifhdkaa
