/-
  GrMc, BsTab, BsHeap, joined. No conditions.
-/
import Derived.Test.YtfjkmgjjifhdkaaGreatR07
import Derived.Test.YtfjkmgjjifhdkaaGreatR01
import Derived.Test.YtfjkmgjjifhdkaaGreatR04
/-
  Words for memory of layers 15 and 16: candidates in rows of the call's own, with the slices of their links.
-/
namespace Go.Proofs.YtfjkmgjjifhdkaaGreat
open Go Go.RowKit

/-- A slice of numbers in a block of numbers. -/
def SlT (w : World) (A : Option Addr) (xs : List Int) : Prop := xs ≠ [] → ∃ b off cs, A = some ⟨b, off, none⟩ ∧ Blk w b 3 cs ∧ ∀ (k : Nat) (x : Int), xs[k]? = some x → cs[off + k]? = some (.int .i64 x)
section
variable {w w' : World} {A : Option Addr} {xs : List Int}
theorem SlT.nil : SlT w A [] := fun h => absurd rfl h
theorem SlT.slr (h : SlT w A xs) : SlR 1 RInt w A xs := fun hne => by
  obtain ⟨b, off, cs, hA, hb, hc⟩ := h hne
  refine ⟨b, off, hA, hb.lt, fun k x hk => ⟨[.int .i64 x], rfl, rfl, fun j v hj => ?_⟩⟩
  match j, hj with
  | 0, hj =>
    simp at hj
    subst hj
    rw [hb.cell, show off + k * 1 + 0 = off + k by omega]
    exact hc k x hk
theorem SlT.below (h : SlT w A xs) (hb : Below w.heap.size w w') : SlT w' A xs := fun hne => by
  obtain ⟨b, off, cs, hA, hB, hc⟩ := h hne
  exact ⟨b, off, cs, hA, hB.below hb hB.lt, hc⟩
theorem SlT.apps {base : Nat} {e : TypeId} {s n : Nat} {v v' : Value} {ys : List Value} (h : SlT w A xs) (ho : w.ownsRow base e s v n ys) (hne : e ≠ 3) (ha : Apps w w' v v') : SlT w' A xs := fun hn => by
  obtain ⟨b, off, cs, hA, hB, hc⟩ := h hn
  exact ⟨b, off, cs, hA, hB.apps ha (own_blk_ne ho hB hne), hc⟩
theorem SlT.set_ {p : Addr} {t : TypeId} {cs' : Array Value} (h : SlT w A xs) (hp : Blk w p.block t cs') (hne : t ≠ 3) (u : Value) : SlT (w.setCell p u) A xs := fun hn => by
  obtain ⟨b, off, cs, hA, hB, hc⟩ := h hn
  refine ⟨b, off, cs, hA, hB.far (fun e => ?_) u, hc⟩
  unfold Blk at hB hp
  rw [e] at hB
  rw [hB] at hp
  injection hp with hp
  injection hp with _ ht
  exact hne ht.symm
theorem Row.slt {g : Nat} (h : Row w g xs) : SlT w (some ⟨g, 0, none⟩) xs := fun _ => ⟨g, 0, _, rfl, h, fun k x hk => by simp [hk]⟩
theorem SlT.take (h : SlT w A xs) (n : Nat) : SlT w A (xs.take n) := fun hn => by
  obtain ⟨b, off, cs, hA, hB, hc⟩ := h (by rintro rfl; simp at hn)
  refine ⟨b, off, cs, hA, hB, fun k x hk => hc k x ?_⟩
  rw [List.getElem?_take] at hk
  split at hk
  · exact hk
  · cases hk
/-- A row of numbers of the call's own. -/
theorem own_slt {base n : Nat} {v : Value} (h : w.ownsRow base 3 1 v n (xs.map (Value.int .i64))) (hn : n = xs.length) : ∃ B cap, v = .slice B n cap ∧ n ≤ cap ∧ cap ≤ maxLen ∧ SlT w B xs := by
  rcases h.2 with ⟨rfl, h0⟩ | ⟨g, cap, cur, rfl, hg, hh, hnc, hcm, hcs, htk⟩
  · subst h0
    have : xs = [] := List.length_eq_zero_iff.1 hn.symm
    subst this
    exact ⟨none, 0, rfl, Nat.le_refl _, Nat.zero_le _, SlT.nil⟩
  · refine ⟨some ⟨g, 0, none⟩, cap, rfl, hnc, hcm, fun _ => ⟨g, 0, cur, rfl, hh, fun k x hk => ?_⟩⟩
    have h1 : (xs.map (Value.int .i64))[k]? = some (.int .i64 x) := by simp [hk]
    rw [← htk, List.getElem?_take] at h1
    split at h1
    · simpa using h1
    · cases h1
end
/-- A candidate as it lies in memory. -/
structure MC where
  A : Option Addr
  c : Nat
  x : Can
def encMc (m : MC) : List Value := [.slice m.A m.x.links.length m.c, .int .i64 m.x.cost]
def RMc (_ : World) (m : MC) (vs : List Value) : Prop := vs = encMc m
def MOK (w : World) (m : MC) : Prop := SlT w m.A m.x.links ∧ m.x.links.length ≤ m.c ∧ m.c ≤ maxLen
def MsOK (w : World) (ms : List MC) : Prop := ∀ m ∈ ms, MOK w m
section
variable {w w' : World} {ms : List MC}
theorem MsOK.nil : MsOK w [] := fun _ h => by cases h
theorem MsOK.below (h : MsOK w ms) (hb : Below w.heap.size w w') : MsOK w' ms := fun m hm => ⟨(h m hm).1.below hb, (h m hm).2⟩
theorem MsOK.apps {base : Nat} {e : TypeId} {s n : Nat} {v v' : Value} {ys : List Value} (h : MsOK w ms) (ho : w.ownsRow base e s v n ys) (hne : e ≠ 3) (ha : Apps w w' v v') : MsOK w' ms := fun m hm => ⟨(h m hm).1.apps ho hne ha, (h m hm).2⟩
theorem MsOK.set_ {p : Addr} {t : TypeId} {cs' : Array Value} (h : MsOK w ms) (hp : Blk w p.block t cs') (hne : t ≠ 3) (u : Value) : MsOK (w.setCell p u) ms := fun m hm => ⟨(h m hm).1.set_ hp hne u, (h m hm).2⟩
theorem MsOK.app {ns : List MC} (h : MsOK w ms) (h' : MsOK w ns) : MsOK w (ms ++ ns) := fun m hm => (List.mem_append.1 hm).elim (h m) (h' m)
theorem mc_can {A : Option Addr} (h : SlR 2 RMc w A ms) (ho : MsOK w ms) : SlR 2 RCan w A (ms.map (·.x)) := fun hne => by
  obtain ⟨b, off, hA, hb, hc⟩ := h (by rintro rfl; simp at hne)
  refine ⟨b, off, hA, hb, fun k x hk => ?_⟩
  rw [List.getElem?_map] at hk
  cases hm : ms[k]? with
  | none => rw [hm] at hk; cases hk
  | some m =>
    rw [hm] at hk
    obtain rfl := Option.some.inj hk
    obtain ⟨vs, hr, hl, hv⟩ := hc k m hm
    have hk := ho m (List.mem_of_getElem? hm)
    exact ⟨vs, ⟨m.A, m.c, hr, hk.1.slr, hk.2.1, hk.2.2⟩, hl, hv⟩
end
end Go.Proofs.YtfjkmgjjifhdkaaGreat

/-
  The plain law of layer 15: the links of a node in the order of the first ways that they begin; the first way from a node.
-/
namespace Go.Proofs.YtfjkmgjjifhdkaaGreat
open List

def viaLe (g : Gr) (i j : Int) : Bool := decide (viaOf g i < viaOf g j) || (decide (viaOf g i = viaOf g j) && decide (i ≤ j))
theorem viaLe_iff {g : Gr} {i j : Int} : viaLe g i j = true ↔ viaOf g i < viaOf g j ∨ (viaOf g i = viaOf g j ∧ i ≤ j) := by unfold viaLe; simp
def onL (g : Gr) (v : Int) : List Int := (lvs g v).filter (fun i => decide (0 ≤ hAt g (lkAt g i).to))
def frL (g : Gr) (v : Int) : List Int := (onL g v).mergeSort (viaLe g)
theorem frL_perm (g : Gr) (v : Int) : frL g v ~ onL g v := mergeSort_perm _ _
theorem viaLe_anti {g : Gr} {a b : Int} (h1 : viaLe g a b = true) (h2 : viaLe g b a = true) : a = b := by rw [viaLe_iff] at *; omega
theorem frL_sorted (g : Gr) (v : Int) : (frL g v).Pairwise (fun a b => viaLe g a b = true) :=
  pairwise_mergeSort (le := viaLe g) (fun a b c h1 h2 => by rw [viaLe_iff] at *; omega) (fun a b => by
    rcases Int.lt_or_le (viaOf g a) (viaOf g b) with h | h
    · rw [viaLe_iff.2 (.inl h)]; rfl
    · rcases Int.lt_or_le (viaOf g b) (viaOf g a) with h2 | h2
      · rw [viaLe_iff.2 (.inl h2)]; simp
      · rcases Int.le_total a b with h3 | h3
        · rw [viaLe_iff.2 (.inr ⟨by omega, h3⟩)]; rfl
        · rw [viaLe_iff.2 (.inr ⟨by omega, h3⟩)]; simp) _
theorem frL_unique {g : Gr} {v : Int} {l : List Int} (hp : l ~ onL g v) (hs : l.Pairwise (fun a b => viaLe g b a = true → a = b)) : l = frL g v :=
  (hp.trans (frL_perm g v).symm).eq_of_pairwise (le := fun a b => viaLe g b a = true → a = b) (fun a b _ _ h1 h2 => by
    rcases Int.lt_or_le (viaOf g a) (viaOf g b) with h | h
    · exact (h2 (viaLe_iff.2 (.inl h))).symm
    · rcases Int.lt_or_le (viaOf g b) (viaOf g a) with h3 | h3
      · exact h1 (viaLe_iff.2 (.inl h3))
      · rcases Int.le_total a b with h4 | h4
        · exact (h2 (viaLe_iff.2 (.inr ⟨by omega, h4⟩))).symm
        · exact h1 (viaLe_iff.2 (.inr ⟨by omega, h4⟩))) hs ((frL_sorted g v).imp fun {a b} h h' => viaLe_anti h h')
theorem frL_mem {g : Gr} {v i : Int} : i ∈ frL g v ↔ i ∈ lvs g v ∧ 0 ≤ hAt g (lkAt g i).to := by
  rw [(frL_perm g v).mem_iff]; unfold onL; rw [mem_filter]; simp
theorem frL_len {g : Gr} {v : Int} : (frL g v).length ≤ (lvs g v).length := by
  rw [(frL_perm g v).length_eq]; exact length_filter_le _ _
theorem frL_nodup {g : Gr} {v : Int} : (frL g v).Nodup := (frL_perm g v).nodup_iff.2 (((lvs_inc g v).imp fun h => by omega : (lvs g v).Nodup).filter _)
theorem frL_strict (g : Gr) (v : Int) : (frL g v).Pairwise (fun a b => viaOf g a < viaOf g b ∨ (viaOf g a = viaOf g b ∧ a < b)) :=
  ((frL_sorted g v).and frL_nodup).imp fun {a b} h => by have h1 := viaLe_iff.1 h.1; have h2 := h.2; omega
theorem frL_last {g : Gr} (hg : GrOK g) : frL g (g.n - 1) = [] := by
  rw [eq_nil_iff_forall_not_mem]
  intro i hi
  have := (frL_mem.1 hi).1
  rw [lvs_last hg] at this
  cases this
theorem frL_via {g : Gr} {v i : Int} (h : i ∈ frL g v) : viaOf g i = (lkAt g i).cost + hAt g (lkAt g i).to := by
  unfold viaOf; rw [if_pos (frL_mem.1 h).2]
theorem frL_link {g : Gr} (hg : GrOK g) {v i : Int} (h : i ∈ frL g v) : 0 ≤ i ∧ i < g.ls.length ∧ (lkAt g i).fr = v ∧ v < (lkAt g i).to ∧ (lkAt g i).to < g.n ∧ 0 ≤ (lkAt g i).cost ∧ (lkAt g i).cost ≤ 1000000 ∧ 0 ≤ hAt g (lkAt g i).to := by
  obtain ⟨h1, h2⟩ := frL_mem.1 h
  have h3 := lvs_iff.1 h1
  have hok := lkAt_ok hg ⟨h3.1, h3.2.1⟩
  have := hok.lt; have := hok.to; have := hok.cost
  omega
theorem frL_nil {g : Gr} (hg : GrOK g) {v : Int} (h0 : 0 ≤ v) (h1 : v < g.n - 1) : frL g v = [] ↔ hAt g v < 0 := by
  have hst := hAt_step hg h0 h1
  constructor
  · intro h
    rcases min_spec (viaOf g) (lvs g v) with ⟨h4, _⟩ | ⟨⟨i, hi, h5⟩, h4, _⟩
    · omega
    · have hn : i ∉ frL g v := by rw [h]; simp
      rw [frL_mem] at hn
      exfalso
      apply hn
      refine ⟨hi, ?_⟩
      rcases Int.lt_or_le (hAt g (lkAt g i).to) 0 with h6 | h6
      · have : viaOf g i = -1 := by unfold viaOf; rw [if_neg (by omega)]
        omega
      · exact h6
  · intro h
    rw [eq_nil_iff_forall_not_mem]
    intro i hi
    have hl := frL_link hg hi
    have hv := frL_via hi
    rcases min_spec (viaOf g) (lvs g v) with ⟨_, h5⟩ | ⟨_, h4, _⟩
    · have := h5 i (frL_mem.1 hi).1; omega
    · omega
theorem frL_head {g : Gr} (hg : GrOK g) {v i : Int} {r : List Int} (h0 : 0 ≤ v) (h1 : v < g.n - 1) (h : frL g v = i :: r) : viaOf g i = hAt g v := by
  have hst := hAt_step hg h0 h1
  have hi : i ∈ frL g v := by rw [h]; simp
  have hl := frL_link hg hi
  have hvi := frL_via hi
  have hs := frL_sorted g v
  rw [h] at hs
  have hs := (pairwise_cons.1 hs).1
  rcases min_spec (viaOf g) (lvs g v) with ⟨_, h5⟩ | ⟨⟨j, hj, h5⟩, h4, h6⟩
  · have := h5 i (frL_mem.1 hi).1; omega
  · have h7 := h6 i (frL_mem.1 hi).1 (by omega)
    have hjf : j ∈ frL g v := frL_mem.2 ⟨hj, by
      rcases Int.lt_or_le (hAt g (lkAt g j).to) 0 with h6 | h6
      · have : viaOf g j = -1 := by unfold viaOf; rw [if_neg (by omega)]
        omega
      · exact h6⟩
    rw [h] at hjf
    rcases mem_cons.1 hjf with rfl | hjf
    · omega
    · have := viaLe_iff.1 (hs j hjf); omega
/-- The first way from a node. -/
def bw (g : Gr) (v : Int) : List Int := bestW g (g.n - 1 - v).toNat v
theorem bestW_fuel {g : Gr} (hg : GrOK g) : ∀ (k k' : Nat) (v : Int), 0 ≤ v → v < g.n → g.n - 1 - v ≤ (k : Int) → g.n - 1 - v ≤ (k' : Int) → bestW g k v = bestW g k' v := by
  intro k
  induction k with
  | zero =>
    intro k' v h0 h1 h2 h3
    have hv : v = g.n - 1 := by omega
    cases k' with
    | zero => rfl
    | succ k' => unfold bestW; rw [if_pos hv]
  | succ k ih =>
    intro k' v h0 h1 h2 h3
    by_cases hv : v = g.n - 1
    · cases k' with
      | zero => unfold bestW; rw [if_pos hv]
      | succ k' => unfold bestW; rw [if_pos hv, if_pos hv]
    · cases k' with
      | zero => omega
      | succ k' =>
        unfold bestW
        rw [if_neg hv, if_neg hv]
        cases hf : (lvs g v).find? (fun i => decide (viaOf g i = hAt g v)) with
        | none => rfl
        | some i =>
          have hi' := lvs_iff.1 (mem_of_find?_eq_some hf)
          have hok := lkAt_ok hg ⟨hi'.1, hi'.2.1⟩
          have hto := hok.to
          have hlt := hok.lt
          dsimp only
          rw [ih k' _ (by omega) (by omega) (by omega) (by omega)]
theorem bw_last (g : Gr) : bw g (g.n - 1) = [] := by unfold bw; rw [show (g.n - 1 - (g.n - 1)).toNat = 0 by omega]; rfl
theorem bw_step {g : Gr} (hg : GrOK g) {v i : Int} {r : List Int} (h0 : 0 ≤ v) (h1 : v < g.n - 1) (h : frL g v = i :: r) : bw g v = i :: bw g (lkAt g i).to := by
  have hi : i ∈ frL g v := by rw [h]; simp
  have hl := frL_link hg hi
  have hvh := frL_head hg h0 h1 h
  have hil := (frL_mem.1 hi).1
  have hf : (lvs g v).find? (fun i => decide (viaOf g i = hAt g v)) = some i := by
    cases hf : (lvs g v).find? (fun i => decide (viaOf g i = hAt g v)) with
    | none => have := find?_eq_none.1 hf i hil; simp at this; omega
    | some j =>
      rcases find_first (lvs_inc g v) hf hil (by simpa using hvh) with rfl | hlt
      · rfl
      · have hvj : viaOf g j = hAt g v := by simpa using find?_some hf
        have hst := hAt_step hg h0 h1
        have hvi := frL_via hi
        have hjf : j ∈ frL g v := frL_mem.2 ⟨mem_of_find?_eq_some hf, by
          rcases Int.lt_or_le (hAt g (lkAt g j).to) 0 with h6 | h6
          · unfold viaOf at hvj; rw [if_neg (by omega)] at hvj; omega
          · exact h6⟩
        have hs := frL_sorted g v
        rw [h] at hs hjf
        rcases mem_cons.1 hjf with rfl | hjf
        · omega
        · have := viaLe_iff.1 ((pairwise_cons.1 hs).1 j hjf); omega
  obtain ⟨k, hk⟩ : ∃ k : Nat, (g.n - 1 - v).toNat = k + 1 := ⟨(g.n - 1 - v).toNat - 1, by omega⟩
  unfold bw
  rw [hk]
  conv => lhs; unfold bestW
  rw [if_neg (by omega), hf]
  dsimp only
  rw [bestW_fuel hg k _ _ (by omega) (by omega) (by omega) (Int.self_le_toNat _)]
theorem bw_way {g : Gr} (hg : GrOK g) {v : Int} (h0 : 0 ≤ v) (h1 : v < g.n) (h : 0 ≤ hAt g v) : wayB g v (bw g v) = true ∧ sumC g (bw g v) = hAt g v := best_way hg _ v h0 h1 (by omega) h
theorem bw_first {g : Gr} (hg : GrOK g) {v : Int} (h0 : 0 ≤ v) (h1 : v < g.n) {w : List Int} (hw : wayB g v w = true) (hs : sumC g w = hAt g v) : bw g v = w ∨ lexLt (bw g v) w = true := best_first hg _ v h0 h1 (by omega) w hw hs
theorem bw_len {g : Gr} (hg : GrOK g) : ∀ (k : Nat) (v : Int), 0 ≤ v → v < g.n → g.n - 1 - v ≤ (k : Int) → 0 ≤ hAt g v → (bw g v).length ≤ k := by
  intro k
  induction k with
  | zero => intro v h0 h1 h2 _; rw [show v = g.n - 1 by omega, bw_last]; simp
  | succ k ih =>
    intro v h0 h1 h2 h3
    by_cases hv : v = g.n - 1
    · rw [hv, bw_last]; simp
    · cases hf : frL g v with
      | nil => have := (frL_nil hg h0 (by omega)).1 hf; omega
      | cons i r =>
        have hl := frL_link hg (show i ∈ frL g v by rw [hf]; simp)
        rw [bw_step hg h0 (by omega) hf, length_cons]
        have := ih (lkAt g i).to (by omega) (by omega) (by omega) hl.2.2.2.2.2.2.2
        omega
/-- The way's links are links of the first ways. -/
theorem way_frL {g : Gr} (hg : GrOK g) {v i : Int} {t : List Int} (h0 : 0 ≤ v) (_h1 : v < g.n) (h : wayB g v (i :: t) = true) : i ∈ frL g v ∧ wayB g (lkAt g i).to t = true := by
  obtain ⟨h2, h3⟩ := way_cons.1 h
  have hi := lvs_iff.1 h2
  have hok := lkAt_ok hg ⟨hi.1, hi.2.1⟩
  have hto := hok.to
  have hlt := hok.lt
  exact ⟨frL_mem.2 ⟨h2, (way_h hg t _ (by omega) (by omega) h3).1⟩, h3⟩

/-- A path: links, each of which begins where the one before it ends. -/
def pathB (g : Gr) : Int → List Int → Bool
  | _, [] => true
  | v, i :: r => decide (0 ≤ i ∧ i < g.ls.length ∧ (lkAt g i).fr = v) && pathB g (lkAt g i).to r
def endP (g : Gr) : Int → List Int → Int
  | v, [] => v
  | _, i :: r => endP g (lkAt g i).to r
theorem path_cons {g : Gr} {v i : Int} {r : List Int} : pathB g v (i :: r) = true ↔ i ∈ lvs g v ∧ pathB g (lkAt g i).to r = true := by
  rw [lvs_iff]
  conv => lhs; unfold pathB
  simp
theorem wayB_cons (g : Gr) (v i : Int) (r : List Int) : wayB g v (i :: r) = (decide (0 ≤ i ∧ i < g.ls.length ∧ (lkAt g i).fr = v) && wayB g (lkAt g i).to r) := rfl
theorem pathB_cons (g : Gr) (v i : Int) (r : List Int) : pathB g v (i :: r) = (decide (0 ≤ i ∧ i < g.ls.length ∧ (lkAt g i).fr = v) && pathB g (lkAt g i).to r) := rfl
theorem sumC_cons (g : Gr) (i : Int) (r : List Int) : sumC g (i :: r) = (lkAt g i).cost + sumC g r := rfl
theorem endP_cons (g : Gr) (v i : Int) (r : List Int) : endP g v (i :: r) = endP g (lkAt g i).to r := rfl
theorem way_app (g : Gr) : ∀ (p r : List Int) (v : Int), wayB g v (p ++ r) = (pathB g v p && wayB g (endP g v p) r)
  | [], r, v => by simp [pathB, endP]
  | i :: p, r, v => by
    rw [cons_append, wayB_cons, way_app g p r, pathB_cons, endP_cons, Bool.and_assoc]
theorem path_app (g : Gr) : ∀ (p r : List Int) (v : Int), pathB g v (p ++ r) = (pathB g v p && pathB g (endP g v p) r)
  | [], r, v => by simp [pathB, endP]
  | i :: p, r, v => by
    rw [cons_append, pathB_cons, path_app g p r, pathB_cons, endP_cons, Bool.and_assoc]
theorem endP_app (g : Gr) : ∀ (p r : List Int) (v : Int), endP g v (p ++ r) = endP g (endP g v p) r
  | [], _, _ => rfl
  | i :: p, r, v => by
    rw [cons_append]
    exact endP_app g p r _
theorem sumC_app (g : Gr) : ∀ (p r : List Int), sumC g (p ++ r) = sumC g p + sumC g r
  | [], r => by simp [sumC]
  | i :: p, r => by
    rw [cons_append, sumC_cons, sumC_cons, sumC_app g p r]
    omega
theorem path_bd {g : Gr} (hg : GrOK g) : ∀ (p : List Int) (v : Int), 0 ≤ v → v < g.n → pathB g v p = true → v + p.length ≤ endP g v p ∧ endP g v p < g.n ∧ 0 ≤ sumC g p ∧ sumC g p ≤ 1000000 * (endP g v p - v)
  | [], v, h0, h1, _ => by simp [endP, sumC]; omega
  | i :: p, v, h0, h1, h => by
    obtain ⟨h2, h3⟩ := path_cons.1 h
    have hi := lvs_iff.1 h2
    have hok := lkAt_ok hg ⟨hi.1, hi.2.1⟩
    have hto := hok.to
    have hlt := hok.lt
    have hc := hok.cost
    have := path_bd hg p _ (by omega) (by omega) h3
    show v + ((i :: p).length : Int) ≤ endP g _ p ∧ endP g _ p < g.n ∧ 0 ≤ (lkAt g i).cost + sumC g p ∧ (lkAt g i).cost + sumC g p ≤ 1000000 * (endP g _ p - v)
    rw [length_cons]
    omega
theorem way_bd {g : Gr} (hg : GrOK g) {w : List Int} (h : wayB g 0 w = true) : (w.length : Int) < g.n ∧ 0 ≤ sumC g w ∧ sumC g w ≤ 1000000 * g.n := by
  have hn := hg.n
  have h2 : pathB g 0 w = true := by
    have := way_app g w [] 0
    rw [append_nil, h] at this
    have := this.symm
    rw [Bool.and_eq_true] at this
    exact this.1
  have := path_bd hg w 0 (by omega) (by omega) h2
  omega
end Go.Proofs.YtfjkmgjjifhdkaaGreat

/-
  The plain law of layer 15: a heap in a list, its elements sifted up and down; it gives back the least one.
-/
namespace Go.Proofs.YtfjkmgjjifhdkaaGreat
open List

section heap
variable {α : Type}
/-- What the order says agrees with an order of keys, for different places. -/
def Ag (key : α → Can) (lt : α → α → Bool) (l : List α) : Prop := l.Pairwise fun a b => lt a b = canLt (key a) (key b) ∧ lt b a = canLt (key b) (key a)
theorem Ag.perm {key : α → Can} {lt : α → α → Bool} {l l' : List α} (h : Ag key lt l) (hp : l' ~ l) : Ag key lt l' :=
  (hp.pairwise_iff (fun {_ _} h => ⟨h.2, h.1⟩)).2 h
def kl (key : α → Can) (a b : α) : Bool := canLt (key a) (key b)
/-- a comes not behind b. -/
def LE (key : α → Can) (a b : α) : Prop := canLt (key b) (key a) = false
section
variable {key : α → Can} {a b c : α}
theorem LE.refl : LE key a a := canLt_irrefl _
theorem LE.trans (h1 : LE key a b) (h2 : LE key b c) : LE key a c := by
  unfold LE at *
  cases h : canLt (key c) (key a) with
  | false => rfl
  | true =>
    rcases canLt_total (key a) (key b) with h3 | h3 | h3
    · have := canLt_trans h h3; rw [h2] at this; cases this
    · rw [h3] at h; rw [h] at h2; cases h2
    · rw [h3] at h1; cases h1
theorem LE.lt (h : kl key a b = true) : LE key a b := canLt_asymm h
theorem LE.not (h : ¬ kl key a b = true) : LE key b a := by unfold LE; unfold kl at h; simpa using h
end
variable [Inhabited α]
def swp (l : List α) (i j : Nat) : List α := (l.set i (l.getD j default)).set j (l.getD i default)
def upM (lt : α → α → Bool) : Nat → List α → Nat → List α
  | 0, l, _ => l
  | f + 1, l, i => if i = 0 then l else if lt (l.getD i default) (l.getD ((i - 1) / 2) default) = true then upM lt f (swp l i ((i - 1) / 2)) ((i - 1) / 2) else l
def lsA (lt : α → α → Bool) (l : List α) (i : Nat) : Nat := if 2 * i + 1 < l.length ∧ lt (l.getD (2 * i + 1) default) (l.getD i default) = true then 2 * i + 1 else i
def lsM (lt : α → α → Bool) (l : List α) (i : Nat) : Nat := if 2 * i + 2 < l.length ∧ lt (l.getD (2 * i + 2) default) (l.getD (lsA lt l i) default) = true then 2 * i + 2 else lsA lt l i
def dnM (lt : α → α → Bool) : Nat → List α → Nat → List α
  | 0, l, _ => l
  | f + 1, l, i => if lsM lt l i = i then l else dnM lt f (swp l i (lsM lt l i)) (lsM lt l i)
def pushM (lt : α → α → Bool) (l : List α) (x : α) : List α := upM lt (l.length + 1) (l ++ [x]) l.length
def popM (lt : α → α → Bool) (l : List α) : List α := dnM lt l.length ((l.set 0 (l.getD (l.length - 1) default)).take (l.length - 1)) 0
theorem swp_len (l : List α) (i j : Nat) : (swp l i j).length = l.length := by unfold swp; simp
theorem swp_getD {l : List α} {i j : Nat} (hi : i < l.length) (hj : j < l.length) (k : Nat) : (swp l i j).getD k default = if k = j then l.getD i default else if k = i then l.getD j default else l.getD k default := by
  unfold swp
  simp only [getD_eq_getElem?_getD, getElem?_set, length_set]
  by_cases h1 : k = j
  · subst h1; simp [hj]
  · by_cases h2 : k = i
    · subst h2; simp [hi, Ne.symm h1, h1]
    · simp [Ne.symm h1, Ne.symm h2, h1, h2]
theorem swp_perm {l : List α} {i j : Nat} (hi : i < l.length) (hj : j < l.length) : swp l i j ~ l := by
  unfold swp
  have h1 : l.getD i default = l[i] := by simp [hi]
  have h2 : l.getD j default = l[j] := by simp [hj]
  rw [h1, h2]
  exact set_set_perm hi hj
theorem lsA_lt {lt : α → α → Bool} {l : List α} {i : Nat} (hi : i < l.length) : lsA lt l i < l.length := by unfold lsA; split <;> omega
theorem lsM_lt {lt : α → α → Bool} {l : List α} {i : Nat} (hi : i < l.length) : lsM lt l i < l.length := by unfold lsM; have := lsA_lt (lt := lt) hi; split <;> omega
theorem lsA_cases (lt : α → α → Bool) (l : List α) (i : Nat) : lsA lt l i = i ∨ lsA lt l i = 2 * i + 1 := by unfold lsA; split <;> simp
theorem lsM_cases (lt : α → α → Bool) (l : List α) (i : Nat) : lsM lt l i = i ∨ lsM lt l i = 2 * i + 1 ∨ lsM lt l i = 2 * i + 2 := by
  unfold lsM; rcases lsA_cases lt l i with h | h <;> split <;> simp [h]
theorem Ag.at_ {key : α → Can} {lt : α → α → Bool} {l : List α} (h : Ag key lt l) {i j : Nat} (hi : i < l.length) (hj : j < l.length) (hne : i ≠ j) :
    lt (l.getD i default) (l.getD j default) = canLt (key (l.getD i default)) (key (l.getD j default)) := by
  have h1 : l.getD i default = l[i] := by simp [hi]
  have h2 : l.getD j default = l[j] := by simp [hj]
  rw [h1, h2]
  rcases Nat.lt_or_ge i j with h3 | h3
  · exact (pairwise_iff_getElem.1 h i j hi hj h3).1
  · exact (pairwise_iff_getElem.1 h j i hj hi (by omega)).2
theorem upM_ag {key : α → Can} {lt : α → α → Bool} : ∀ (f : Nat) (l : List α) (i : Nat), i < l.length → Ag key lt l → upM lt f l i = upM (kl key) f l i := by
  intro f
  induction f with
  | zero => intros; rfl
  | succ f ih =>
    intro l i hi h
    unfold upM
    by_cases h0 : i = 0
    · rw [if_pos h0, if_pos h0]
    · rw [if_neg h0, if_neg h0, h.at_ hi (show (i - 1) / 2 < l.length by omega) (by omega)]
      rw [show kl key (l.getD i default) (l.getD ((i - 1) / 2) default) = canLt (key (l.getD i default)) (key (l.getD ((i - 1) / 2) default)) from rfl]
      rw [ih _ _ (by rw [swp_len]; omega) (h.perm (swp_perm hi (by omega)))]
theorem lsA_ag {key : α → Can} {lt : α → α → Bool} {l : List α} {i : Nat} (hi : i < l.length) (h : Ag key lt l) : lsA lt l i = lsA (kl key) l i := by
  unfold lsA
  by_cases h1 : 2 * i + 1 < l.length
  · rw [h.at_ h1 hi (by omega)]; rfl
  · rw [if_neg (fun h => h1 h.1), if_neg (fun h => h1 h.1)]
theorem lsM_ag {key : α → Can} {lt : α → α → Bool} {l : List α} {i : Nat} (hi : i < l.length) (h : Ag key lt l) : lsM lt l i = lsM (kl key) l i := by
  unfold lsM
  rw [lsA_ag hi h]
  by_cases h1 : 2 * i + 2 < l.length
  · rw [h.at_ h1 (lsA_lt hi) (by rcases lsA_cases (kl key) l i with h | h <;> omega)]; rfl
  · rw [if_neg (fun h => h1 h.1), if_neg (fun h => h1 h.1)]
theorem dnM_ag {key : α → Can} {lt : α → α → Bool} : ∀ (f : Nat) (l : List α) (i : Nat), i < l.length → Ag key lt l → dnM lt f l i = dnM (kl key) f l i := by
  intro f
  induction f with
  | zero => intros; rfl
  | succ f ih =>
    intro l i hi h
    unfold dnM
    rw [lsM_ag hi h, ih _ _ (by rw [swp_len]; exact lsM_lt hi) (h.perm (swp_perm hi (lsM_lt hi)))]
def HeapO (key : α → Can) (l : List α) : Prop := ∀ j, 0 < j → j < l.length → LE key (l.getD ((j - 1) / 2) default) (l.getD j default)
theorem up_heap {key : α → Can} : ∀ (f : Nat) (l : List α) (i : Nat), i < l.length → i < f →
    (∀ j, 0 < j → j < l.length → j ≠ i → LE key (l.getD ((j - 1) / 2) default) (l.getD j default)) →
    (∀ j, 0 < j → j < l.length → (j - 1) / 2 = i → 0 < i → LE key (l.getD ((i - 1) / 2) default) (l.getD j default)) →
    HeapO key (upM (kl key) f l i) ∧ upM (kl key) f l i ~ l := by
  intro f
  induction f with
  | zero => intro l i _ h; omega
  | succ f ih =>
    intro l i hi hf h1 h2
    unfold upM
    by_cases h0 : i = 0
    · rw [if_pos h0]
      exact ⟨fun j hj hl => h1 j hj hl (by omega), Perm.refl _⟩
    · rw [if_neg h0]
      have hp : (i - 1) / 2 < l.length := by omega
      by_cases hlt : kl key (l.getD i default) (l.getD ((i - 1) / 2) default) = true
      · rw [if_pos hlt]
        have hsp := swp_perm hi hp
        have := ih (swp l i ((i - 1) / 2)) ((i - 1) / 2) (by rw [swp_len]; omega) (by omega) ?_ ?_
        · exact ⟨this.1, this.2.trans hsp⟩
        · intro j hj hjl hne
          rw [swp_len] at hjl
          rw [swp_getD hi hp, swp_getD hi hp, if_neg hne]
          by_cases e1 : j = i
          · subst e1
            rw [if_pos rfl, if_pos rfl]
            exact LE.lt hlt
          · rw [if_neg e1]
            by_cases e2 : (j - 1) / 2 = (i - 1) / 2
            · rw [if_pos e2]
              have := h1 j hj hjl e1
              rw [e2] at this
              exact (LE.lt hlt).trans this
            · rw [if_neg e2]
              by_cases e3 : (j - 1) / 2 = i
              · rw [if_pos e3]
                exact h2 j hj hjl e3 (by omega)
              · rw [if_neg e3]
                exact h1 j hj hjl e1
        · intro j hj hjl he h0'
          rw [swp_len] at hjl
          have hpp : ((i - 1) / 2 - 1) / 2 ≠ (i - 1) / 2 := by omega
          have hpi : ((i - 1) / 2 - 1) / 2 ≠ i := by omega
          rw [swp_getD hi hp, swp_getD hi hp, if_neg hpp, if_neg hpi, if_neg (show j ≠ (i - 1) / 2 by omega)]
          have hP := h1 ((i - 1) / 2) h0' hp (by omega)
          by_cases e1 : j = i
          · rw [if_pos e1]; exact hP
          · rw [if_neg e1]
            have := h1 j hj hjl e1
            rw [he] at this
            exact hP.trans this
      · rw [if_neg hlt]
        refine ⟨fun j hj hl => ?_, Perm.refl _⟩
        by_cases e : j = i
        · subst e; exact LE.not hlt
        · exact h1 j hj hl e
theorem lsM_least {key : α → Can} {l : List α} {i : Nat} : LE key (l.getD (lsM (kl key) l i) default) (l.getD i default) ∧
    ∀ j, 0 < j → j < l.length → (j - 1) / 2 = i → LE key (l.getD (lsM (kl key) l i) default) (l.getD j default) := by
  have hA : LE key (l.getD (lsA (kl key) l i) default) (l.getD i default) ∧ (2 * i + 1 < l.length → LE key (l.getD (lsA (kl key) l i) default) (l.getD (2 * i + 1) default)) := by
    unfold lsA
    by_cases h : 2 * i + 1 < l.length ∧ kl key (l.getD (2 * i + 1) default) (l.getD i default) = true
    · rw [if_pos h]; exact ⟨LE.lt h.2, fun _ => LE.refl⟩
    · rw [if_neg h]; exact ⟨LE.refl, fun h1 => LE.not (fun h2 => h ⟨h1, h2⟩)⟩
  have hB : LE key (l.getD (lsM (kl key) l i) default) (l.getD (lsA (kl key) l i) default) ∧ (2 * i + 2 < l.length → LE key (l.getD (lsM (kl key) l i) default) (l.getD (2 * i + 2) default)) := by
    unfold lsM
    by_cases h : 2 * i + 2 < l.length ∧ kl key (l.getD (2 * i + 2) default) (l.getD (lsA (kl key) l i) default) = true
    · rw [if_pos h]; exact ⟨LE.lt h.2, fun _ => LE.refl⟩
    · rw [if_neg h]; exact ⟨LE.refl, fun h1 => LE.not (fun h2 => h ⟨h1, h2⟩)⟩
  refine ⟨hB.1.trans hA.1, fun j hj hl he => ?_⟩
  rcases (by omega : j = 2 * i + 1 ∨ j = 2 * i + 2) with rfl | rfl
  · exact hB.1.trans (hA.2 hl)
  · exact hB.2 hl
theorem dn_heap {key : α → Can} : ∀ (f : Nat) (l : List α) (i : Nat), i < l.length → l.length ≤ f + i →
    (∀ j, 0 < j → j < l.length → (j - 1) / 2 ≠ i → LE key (l.getD ((j - 1) / 2) default) (l.getD j default)) →
    (∀ j, 0 < j → j < l.length → (j - 1) / 2 = i → 0 < i → LE key (l.getD ((i - 1) / 2) default) (l.getD j default)) →
    HeapO key (dnM (kl key) f l i) ∧ dnM (kl key) f l i ~ l := by
  intro f
  induction f with
  | zero => intro l i h1 h2; omega
  | succ f ih =>
    intro l i hi hf h1 h2
    unfold dnM
    have hls := lsM_least (key := key) (l := l) (i := i)
    have hlt := lsM_lt (lt := kl key) hi
    have hcs := lsM_cases (kl key) l i
    generalize lsM (kl key) l i = c at *
    by_cases h0 : c = i
    · rw [if_pos h0]
      subst h0
      refine ⟨fun j hj hl => ?_, Perm.refl _⟩
      by_cases e : (j - 1) / 2 = c
      · rw [e]; exact hls.2 j hj hl e
      · exact h1 j hj hl e
    · rw [if_neg h0]
      have hci : (c - 1) / 2 = i := by omega
      have hsp := swp_perm hi hlt
      have := ih (swp l i c) c (by rw [swp_len]; omega) (by rw [swp_len]; omega) ?_ ?_
      · exact ⟨this.1, this.2.trans hsp⟩
      · intro j hj hjl hne
        rw [swp_len] at hjl
        rw [swp_getD hi hlt, swp_getD hi hlt, if_neg hne]
        by_cases e1 : (j - 1) / 2 = i
        · rw [if_pos e1]
          by_cases e2 : j = c
          · rw [if_pos e2]; exact hls.1
          · rw [if_neg e2, if_neg (show j ≠ i by omega)]; exact hls.2 j hj hjl e1
        · rw [if_neg e1, if_neg (show j ≠ c by intro e; rw [e] at e1; exact e1 hci)]
          by_cases e2 : j = i
          · rw [if_pos e2]
            subst e2
            exact h2 c (by omega) hlt hci hj
          · rw [if_neg e2]; exact h1 j hj hjl e1
      · intro j hj hjl he hc0
        rw [swp_len] at hjl
        rw [hci, swp_getD hi hlt, swp_getD hi hlt, if_neg (fun e => h0 e.symm), if_pos rfl, if_neg (show j ≠ c by omega), if_neg (show j ≠ i by omega)]
        have := h1 j hj hjl (by omega)
        rw [he] at this
        exact this
theorem heap_root {key : α → Can} {l : List α} (h : HeapO key l) : ∀ j, j < l.length → LE key (l.getD 0 default) (l.getD j default) := by
  intro j
  induction j using Nat.strongRecOn with
  | _ j ih =>
    intro hj
    rcases Nat.eq_zero_or_pos j with rfl | h0
    · exact LE.refl
    · exact (ih ((j - 1) / 2) (by omega) (by omega)).trans (h j h0 hj)
theorem push_spec {key : α → Can} {lt : α → α → Bool} {l : List α} {x : α} (h : HeapO key l) (ha : Ag key lt (l ++ [x])) : HeapO key (pushM lt l x) ∧ pushM lt l x ~ l ++ [x] := by
  unfold pushM
  rw [upM_ag _ _ _ (by simp) ha]
  refine up_heap _ _ _ (by simp) (by omega) (fun j hj hl hne => ?_) (fun j hj hl he _ => ?_)
  · rw [length_append, length_singleton] at hl
    have e1 : (l ++ [x]).getD j default = l.getD j default := by simp only [getD_eq_getElem?_getD]; rw [getElem?_append_left (by omega)]
    have e2 : (l ++ [x]).getD ((j - 1) / 2) default = l.getD ((j - 1) / 2) default := by simp only [getD_eq_getElem?_getD]; rw [getElem?_append_left (by omega)]
    rw [e1, e2]
    exact h j hj (by omega)
  · rw [length_append, length_singleton] at hl; omega
theorem pop_list {l : List α} (hl : 0 < l.length) : l.getD 0 default :: (l.set 0 (l.getD (l.length - 1) default)).take (l.length - 1) ~ l := by
  cases l with
  | nil => simp at hl
  | cons x t =>
    cases ht : t.reverse with
    | nil =>
      have : t = [] := by simpa using ht
      subst this
      simp
    | cons y s =>
      have : t = s.reverse ++ [y] := by rw [← reverse_reverse t, ht]; simp
      subst this
      have e1 : (x :: (s.reverse ++ [y])).getD ((x :: (s.reverse ++ [y])).length - 1) default = y := by simp
      rw [e1]
      have e2 : ((x :: (s.reverse ++ [y])).set 0 y).take ((x :: (s.reverse ++ [y])).length - 1) = y :: s.reverse := by
        simp only [set_cons_zero, length_cons, length_append, length_reverse, length_nil, Nat.add_sub_cancel]
        rw [take_succ_cons, take_append_of_le_length (by simp), take_of_length_le (by simp)]
      rw [e2]
      show x :: y :: s.reverse ~ x :: (s.reverse ++ [y])
      exact Perm.cons x (perm_append_singleton y s.reverse).symm
theorem pop_spec {key : α → Can} {lt : α → α → Bool} {l : List α} (hl : 0 < l.length) (h : HeapO key l) (ha : Ag key lt l) :
    HeapO key (popM lt l) ∧ l.getD 0 default :: popM lt l ~ l ∧ ∀ x ∈ l, LE key (l.getD 0 default) x := by
  have hroot : ∀ x ∈ l, LE key (l.getD 0 default) x := fun x hx => by
    obtain ⟨j, hj, rfl⟩ := getElem_of_mem hx
    have := heap_root h j hj
    rw [show l.getD j default = l[j] by simp [hj]] at this
    exact this
  have hpl := pop_list hl
  unfold popM
  rcases Nat.lt_or_ge 1 l.length with h1 | h1
  · have hag : Ag key lt ((l.set 0 (l.getD (l.length - 1) default)).take (l.length - 1)) := (pairwise_cons.1 (ha.perm hpl)).2
    have hlen : ((l.set 0 (l.getD (l.length - 1) default)).take (l.length - 1)).length = l.length - 1 := by simp
    have hget : ∀ j, 0 < j → j < l.length - 1 → ((l.set 0 (l.getD (l.length - 1) default)).take (l.length - 1)).getD j default = l.getD j default := fun j hj hjl => by
      simp only [getD_eq_getElem?_getD]
      rw [getElem?_take_of_lt hjl, getElem?_set_ne (by omega)]
    rw [dnM_ag _ _ _ (by rw [hlen]; omega) hag]
    obtain ⟨h2, h3⟩ := dn_heap (key := key) l.length _ 0 (by rw [hlen]; omega) (by rw [hlen]; omega) (fun j hj hjl hne => by
      rw [hlen] at hjl
      rw [hget j hj hjl, hget _ (by omega) (by omega)]
      exact h j hj (by omega)) (fun j _ _ _ h0 => by omega)
    exact ⟨h2, (Perm.cons _ h3).trans hpl, hroot⟩
  · have h4 : l.length = 1 := by omega
    rw [h4] at hpl ⊢
    simp only [Nat.sub_self, take_zero] at hpl ⊢
    have e : dnM lt 1 ([] : List α) 0 = [] := by unfold dnM; simp [lsM, lsA]
    rw [e]
    exact ⟨fun j _ hj => by simp at hj, hpl, hroot⟩
end heap
end Go.Proofs.YtfjkmgjjifhdkaaGreat
