/-
  A region that draws its order and holds chains that may come up in any order beside each other: one condition for each state of the chains, one proof for each operation.
-/
import Derived.Test.YtaohbicjdmogkaaBlk
import Derived.Test.YtaohbicjdmogkaaOrdT
namespace Go.Proofs.Ytaohbicjdmogkaa
open Go Go.RowKit

/-- All blocks but g are as they were. -/
def Far (g : Nat) (w w' : World) : Prop := ∀ b, b ≠ g → w'.heap[b]? = w.heap[b]?
theorem Far.cell {g : Nat} {w w' : World} (h : Far g w w') : ∀ b o, b ≠ g → w'.cell? ⟨b, o, none⟩ = w.cell? ⟨b, o, none⟩ := fun b _ hb => World.cell?_of_block (h b hb)
theorem Far.set {g : Nat} {w w' : World} (h : Far g w w') (o : Nat) (v : Value) : Far g w (w'.setCell ⟨g, o, none⟩ v) := fun b hb => (Below.heap_setCell w' ⟨g, o, none⟩ v b hb).trans (h b hb)
/-- What some slots of a frame of N slots hold. -/
def Slots (N : Nat) (a : Act) (l : List (Nat × Value)) : Prop := a.tmps.size = N ∧ a.defers = [] ∧ ∀ kv ∈ l, a.tmps.getD kv.1 undef = kv.2
section
variable {N : Nat} {a : Act} {l : List (Nat × Value)}
theorem Slots.at_ (h : Slots N a l) {k : Nat} {v : Value} (hm : (k, v) ∈ l) : a.tmps.getD k undef = v := h.2.2 (k, v) hm
theorem Slots.put (h : Slots N a l) (d : Nat) (v : Value) (hd : ∀ kv ∈ l, kv.1 ≠ d) : Slots N (a.put (some d) v) l := by
  obtain ⟨h1, h2, h3⟩ := h
  refine ⟨by simp [Act.put, h1], h2, fun kv hkv => ?_⟩
  have := h3 kv hkv
  have hne := hd kv hkv
  simp only [Act.put, Array.getD_eq_getD_getElem?] at this ⊢
  rw [Array.getElem?_setIfInBounds_ne (Ne.symm hne)]
  exact this
theorem Slots.add (h : Slots N a l) (d : Nat) (v : Value) (hd : d < N) (hn : ∀ kv ∈ l, kv.1 ≠ d) : Slots N (a.put (some d) v) ((d, v) :: l) := by
  obtain ⟨h1, h2, h3⟩ := h.put d v hn
  refine ⟨h1, h2, fun kv hkv => ?_⟩
  rcases List.mem_cons.1 hkv with rfl | hkv
  · simp [Act.put, h.1, hd]
  · exact h3 kv hkv
theorem put_self {N : Nat} {a : Act} {l : List (Nat × Value)} (h : Slots N a l) (d : Nat) (v : Value) (hd : d < N) : (a.put (some d) v).tmps.getD d undef = v := by
  simp [Act.put, h.1, hd]
theorem put_other {a : Act} {d k : Nat} {v : Value} (h : k ≠ d) : (a.put (some d) v).tmps.getD k undef = a.tmps.getD k undef := by
  simp only [Act.put, Array.getD_eq_getD_getElem?]
  rw [Array.getElem?_setIfInBounds_ne (Ne.symm h)]
end
theorem slr_cells_ {α : Type} {s : Nat} {R : World → α → List Value → Prop} {enc : α → List Value} {w : World} {a : Addr} {xs : List α} (h : SlR s R w (some a) xs) (_hs : 0 < s) (hR : ∀ w x vs, R w x vs → vs = enc x) :
    ∀ j u, (xs.flatMap enc)[j]? = some u → w.cell? (a.add j) = some u := by
  by_cases hn : xs = []
  · subst hn; intro j u hj; simp at hj
  · obtain ⟨b, off, ha, _, hc⟩ := h hn
    injection ha with ha
    subst ha
    have key : ∀ (l : List α) (o : Nat), (∀ k x, l[k]? = some x → (enc x).length = s ∧ ∀ j v, (enc x)[j]? = some v → w.cell? ⟨b, o + k * s + j, none⟩ = some v) → ∀ j u, (l.flatMap enc)[j]? = some u → w.cell? ⟨b, o + j, none⟩ = some u := by
      intro l
      induction l with
      | nil => intro o _ j u hj; simp at hj
      | cons x l ih =>
        intro o hl j u hj
        obtain ⟨h0, h1⟩ := hl 0 x rfl
        rw [List.flatMap_cons] at hj
        rcases Nat.lt_or_ge j (enc x).length with hlt | hge
        · rw [List.getElem?_append_left hlt] at hj
          have := h1 j u hj
          simpa using this
        · rw [List.getElem?_append_right hge] at hj
          have := ih (o + s) (fun k y hy => by
            obtain ⟨h2, h3⟩ := hl (k + 1) y (by simpa using hy)
            refine ⟨h2, fun j v hv => ?_⟩
            have := h3 j v hv
            rwa [show o + (k + 1) * s + j = o + s + k * s + j by rw [Nat.add_mul]; omega] at this) (j - (enc x).length) u hj
          rwa [show o + s + (j - (enc x).length) = o + j by omega] at this
    intro j u hj
    rw [add_mk]
    refine key xs off (fun k x hx => ?_) j u hj
    obtain ⟨vs, hr, hl, hv⟩ := hc k x hx
    have := hR _ _ _ hr
    subst this
    exact ⟨hl, hv⟩

theorem flatMap_len_ {α β : Type} {s : Nat} {enc : α → List β} (h : ∀ x, (enc x).length = s) (xs : List α) : (xs.flatMap enc).length = xs.length * s := by
  induction xs with
  | nil => simp
  | cons x l ih => rw [List.flatMap_cons, List.length_append, h, ih, List.length_cons, Nat.add_mul]; omega
section
variable {P : Program} {ops : Array Oper} {Q : Exit → Act → World → Prop} {S : World → Prop} {ts : List Nat}
/-- One operation that only reads is taken first. -/
theorem takeT {i : Nat} {o : Oper} {v : Value} {fuel : Nat} {listed : Array Bool} {a : Act} {w : World} (ho' : nthO ops.toList i = some o) (hs : Region.noSelect ops = true)
    (hg : ((Region.ready .any ops listed).contains i && Region.free .any ops listed i && ts.all (fun t => waitsFor ops t i)) = true)
    (hQ : ∀ d v c a w, Q (.panic c) (Act.put a (some d) v) w → Q (.panic c) a w) (hw : Region.wanted o (yielded ops a.tmps) = true) (hS : S w)
    (hy : ∀ W, S W → (execOp a.eval o).run P W = .ok (.value v) W)
    (h : wpAnyT P ops Q S ts fuel (listed.setIfInBounds i true) (a.put o.dst v) w) : wpAnyT P ops Q S ts (fuel + 1) listed a w := by
  simp only [Bool.and_eq_true, List.all_eq_true] at hg
  have hi := nthO_spec ho'
  refine wpAnyT_first hi (Region.noSelect_spec hs) (fun c a w hh => ?_) hg.2 fuel listed a w (Region.free_spec hi hg.1.2) (by simpa using hg.1.1) (.inl ⟨hw, hy⟩) hS h
  cases hd : o.dst with
  | none => rw [hd] at hh; exact hh
  | some d => rw [hd] at hh; exact hQ d v c a w hh
/-- The region begins. -/
theorem startT {id : Nat} {a : Act} {w : World} (hm : P.follows .mixedOrders = true) (h : wpAnyT P ops Q S ts ops.size (Array.replicate ops.size false) a w.drew) : (Code.region id ops true).wp P Q a w :=
  wp_region_any hm (wpAny_of_T _ _ _ _ h)
/-- What may be taken at once: it only reads. -/
def QuietT (P : Program) (ops : Array Oper) (ts : List Nat) (S : World → Prop) (listed : Array Bool) (i : Nat) (o : Oper) (v : Value) (a : Act) : Prop :=
  nthO ops.toList i = some o ∧ ((Region.ready .any ops listed).contains i && Region.free .any ops listed i && ts.all (fun t => waitsFor ops t i)) = true ∧ Region.wanted o (yielded ops a.tmps) = true ∧ ∀ W, S W → (execOp a.eval o).run P W = .ok (.value v) W
/-- Chains. -/
theorem chainsT {σ : Type} (next : σ → List (Nat × σ)) (L : σ → Array Bool) (rank : σ → Nat) (F : σ → Act → World → Prop) (fin : σ) (fe : Nat) (hs : Region.noSelect ops = true)
    (hQ : ∀ d v c a w, Q (.panic c) (Act.put a (some d) v) w → Q (.panic c) a w)
    (htab : ∀ s a w, F s a w → S w → s = fin ∨ (next s ≠ [] ∧ Region.ready .any ops (L s) = (next s).map (·.1) ∧ ∀ p ∈ next s, (L s).setIfInBounds p.1 true = L p.2 ∧ rank p.2 + 1 = rank s ∧ ts.contains p.1 = false) ∨
      (∃ i o v s', QuietT P ops ts S (L s) i o v a ∧ F s' (a.put o.dst v) w ∧ (L s).setIfInBounds i true = L s' ∧ rank s' + 1 = rank s))
    (hstep : ∀ s p a w, p ∈ next s → F s a w → S w → wpOp P ops Q p.1 (fun a' w' => S w' ∧ F p.2 a' w') a w)
    (hrank : rank fin = 0) (hfin : ∀ a w, F fin a w → S w → wpAnyT P ops Q S ts fe (L fin) a w) :
    ∀ (n : Nat) (s : σ) (a : Act) (w : World), rank s = n → F s a w → S w → wpAnyT P ops Q S ts (n + fe) (L s) a w := by
  intro n
  induction n with
  | zero =>
    intro s a w hr hF hS
    rcases htab s a w hF hS with rfl | ⟨hne, _, hp⟩ | ⟨i, o, v, s', _, _, _, h⟩
    · rw [Nat.zero_add]; exact hfin a w hF hS
    · obtain ⟨p, hp'⟩ : ∃ p, p ∈ next s := List.exists_mem_of_ne_nil _ hne
      have := (hp p hp').2.1
      omega
    · omega
  | succ n ih =>
    intro s a w hr hF hS
    rcases htab s a w hF hS with rfl | ⟨hne, hready, hp⟩ | ⟨i, o, v, s', ⟨h1, h2, h3, h4⟩, h5, h6, h7⟩
    · omega
    · rw [show n + 1 + fe = (n + fe) + 1 by omega]
      refine ⟨fun h0 => ?_, fun i hi => ?_⟩
      · rw [hready] at h0
        exact absurd (List.map_eq_nil_iff.1 h0) hne
      · rw [hready] at hi
        obtain ⟨p, hpn, rfl⟩ := List.mem_map.1 hi
        obtain ⟨h1, h2, h3⟩ := hp p hpn
        refine wpOp_mono (fun a' w' hh => ⟨fun _ => hh.1, ?_⟩) (hstep s p a w hpn hF hS)
        rw [h1]
        exact ih p.2 a' w' (by omega) hh.2 hh.1
    · rw [show n + 1 + fe = (n + fe) + 1 by omega]
      refine takeT h1 hs h2 hQ h3 hS h4 ?_
      rw [h6]
      exact ih s' _ w (by omega) h5 hS
/-- An operation of the region, by itself. -/
theorem op_of {i : Nat} {o : Oper} {K : Act → World → Prop} {a : Act} {w : World} (ho' : nthO ops.toList i = some o) (hg : o.guard = none) (h : ∀ K' : Act → World → Prop, Shut (∀ a w, K a w → K' a w) → Oper.wp P o a w K' Q) : wpOp P ops Q i K a w := by
  have ho := nthO_spec ho'
  refine wpOp_step ho fun K' hK => ?_
  rw [if_pos (by simp [Region.wanted, hg])]
  exact h K' hK
theorem run_append_of_nil (w : World) (base : Nat) (t ty e : TypeId) (i : TypeInfo) (size : Nat) (ht : P.underlying t = some (.slice e)) (hi : P.info? e = some i)
    (v : Value) (n : Nat) (xs : List Value) (hown : w.ownsRow base e size v n xs) (c : Nat) : (Builtin.append_ #[t, t] ty #[v, .slice none 0 c]).run P w = .ok v w := by
  rcases hown.2 with ⟨rfl, rfl⟩ | ⟨g, cap, cur, rfl, _, _, hnc, _⟩
  · simp [Builtin.append_, run_underlying ht, sizeOf, typeInfo, hi, Builtin.lenOf, Builtin.firstCells]
  · simp [Builtin.append_, run_underlying ht, sizeOf, typeInfo, hi, Builtin.lenOf, Builtin.firstCells, hnc, storeCells]
/-- 'append(out, xs...)' onto a row of the call's own, xs in any memory. -/
theorem wp_appS {α : Type} {enc : α → List Value} {R : World → α → List Value → Prop} {o : Oper} {a : Act} {K : Act → World → Prop} {w : World} (s x : Operand) (t : TypeId)
    (ho : o.op = .call { callee := .builtin .append, args := #[s, x], argTypes := #[t, t] })
    (base : Nat) (e : TypeId) (i : TypeInfo) (z : Value) (size bytes : Nat) (ht : P.underlying t = some (.slice e)) (hi : P.info? e = some i) (hz : i.zero = some z)
    (hsize : i.size = size) (hby : i.bytes = bytes) (hzs : z.cells.size = size) (hsz : 0 < size)
    (v : Value) (n : Nat) (xs : List Value) (hs : a.eval s = v) (hown : w.ownsRow base e size v n xs)
    (A : Option Addr) (c : Nat) (ys : List α) (hx : a.eval x = .slice A ys.length c) (hr : SlR size R w A ys) (hR : ∀ w x vs, R w x vs → vs = enc x) (hl : ∀ x, (enc x).length = size) (h1 : ∀ u ∈ ys.flatMap enc, u.oneCell' = true)
    (hn : n + ys.length ≤ 1000000) (hbb : bytes ≤ 1000) (hbase : base ≤ w.heap.size)
    (h : ∀ v' w', w'.ownsRow base e size v' (n + ys.length) (xs ++ ys.flatMap enc) → Below base w w' → Apps w w' v v' → K (a.put o.dst v') w') : o.wp P a w K Q := by
  have hb1 : (n + ys.length) * bytes ≤ 1000000 * 1000 := Nat.mul_le_mul hn hbb
  have key : ∃ v' w', (Builtin.append_ #[t, t] o.type #[v, .slice A ys.length c]).run P w = .ok v' w' ∧ w'.ownsRow base e size v' (n + ys.length) (xs ++ ys.flatMap enc) ∧ w.grownBy w' v.ownBlock ∧ (v'.ownBlock = v.ownBlock ∨ v'.ownBlock = some w.heap.size) := by
    rcases A with _ | ad
    · have hy : ys = [] := Classical.byContradiction fun hne => by obtain ⟨_, _, h, _⟩ := hr hne; cases h
      subst hy
      exact ⟨v, w, run_append_of_nil w base t o.type e i size ht hi v n xs hown c, by simpa using hown, World.grownBy.refl w _, .inl rfl⟩
    · obtain ⟨v', w', hrun, h2, h3, _, h5⟩ := run_append_own_at (P := P) w base t o.type e i z size bytes ht hi hz hsize hby hzs hsz v n xs hown ad ys.length c (ys.flatMap enc) (flatMap_len_ hl ys) (slr_cells_ hr hsz hR) h1 (by unfold maxLen; omega) (by omega) hbase
      exact ⟨v', w', hrun, h2, h3, h5⟩
  obtain ⟨v', w', hrun, h2, h3, h5⟩ := key
  unfold Oper.wp execOp
  simp only [ho, resolve, invoke, builtin, Sem.run_bind, Sem.run_pure, Result.andThen_ok, List.map_toArray, List.map_cons, List.map_nil, hs, hx, hrun]
  refine h v' w' h2 ((Below.refl _ _).grown h3 hbase (own_block_le hown)) ⟨fun k hk hne => h3.block k hk (fun e => hne e.symm), ?_⟩
  rcases h5 with h5 | h5
  · exact .inl h5
  · exact .inr ⟨_, h5, Nat.le_refl _⟩
end
end Go.Proofs.Ytaohbicjdmogkaa
