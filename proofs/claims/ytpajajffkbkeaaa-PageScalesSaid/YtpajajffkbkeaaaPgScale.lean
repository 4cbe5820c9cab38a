/-
  The graph with twice the costs: the same ways, twice as dear; potentials twice as great.
-/
import Derived.Test.YtpajajffkbkeaaaPgLaw
import Derived.Test.YtpajajffkbkeaaaBase
namespace Go.Proofs.Ytpajajffkbkeaaa
open Go Go.RowKit

def dblL (lb : Int) (l : Lk) : Lk := ⟨l.fr, l.to, lb, 2 * l.cost⟩
def dblG (lb : Int) (g : Gr) : Gr := ⟨g.n, g.ls.map (dblL lb)⟩
def dblC (y : Can) : Can := ⟨y.links, 2 * y.cost⟩
def dblP (a : Int) : Int := if a < 0 then a else 2 * a
section
variable {lb : Int} {g : Gr}
theorem dbl_len : ((dblG lb g).ls.length : Int) = g.ls.length := by unfold dblG; simp
theorem dbl_at {i : Int} (h0 : 0 ≤ i) (h1 : i < g.ls.length) : lkAt (dblG lb g) i = dblL lb (lkAt g i) := by
  have h := lkAt_mem ⟨h0, h1⟩
  have e : (dblG lb g).ls[i.toNat]? = some (dblL lb (lkAt g i)) := by
    show (g.ls.map (dblL lb))[i.toNat]? = _
    rw [List.getElem?_map, h]
    rfl
  have := lkAt_nat e
  rwa [Int.toNat_of_nonneg h0] at this
theorem dbl_ok (hg : GrOK g) (hc : ∀ q ∈ g.ls, q.cost ≤ 500000) (hlb : 0 ≤ lb ∧ lb ≤ 1000000) : GrOK (dblG lb g) := by
  refine ⟨hg.n, by have := hg.len; unfold dblG; simpa using this, fun l hl => ?_⟩
  obtain ⟨x, hx, rfl⟩ := List.mem_map.1 hl
  have h := hg.ls x hx
  have h2 := hc x hx
  have h3 := h.cost
  exact ⟨h.fr, h.lt, h.to, hlb, by show 0 ≤ 2 * x.cost ∧ 2 * x.cost ≤ 1000000; omega⟩
theorem dbl_way : ∀ (w : List Int) (v : Int), wayB (dblG lb g) v w = wayB g v w
  | [], _ => rfl
  | i :: r, v => by
    rw [wayB_cons, wayB_cons, dbl_len]
    by_cases h : 0 ≤ i ∧ i < (g.ls.length : Int)
    · rw [dbl_at h.1 h.2, dbl_way r]
      rfl
    · rw [decide_eq_false (fun h' => h ⟨h'.1, h'.2.1⟩), decide_eq_false (fun h' => h ⟨h'.1, h'.2.1⟩), Bool.false_and, Bool.false_and]
theorem dbl_sum : ∀ (w : List Int) (v : Int), wayB g v w = true → sumC (dblG lb g) w = 2 * sumC g w
  | [], _, _ => rfl
  | i :: r, v, h => by
    rw [wayB_cons, Bool.and_eq_true, decide_eq_true_iff] at h
    obtain ⟨⟨h0, h1, _⟩, h3⟩ := h
    rw [sumC_cons, sumC_cons, dbl_sum r _ h3, dbl_at h0 h1]
    show 2 * (lkAt g i).cost + _ = _
    omega
theorem dbl_all (hg : GrOK g) (h14 : g.ls.length ≤ 14) (hg2 : GrOK (dblG lb g)) : allR (dblG lb g) = (allR g).map dblC := by
  have hA := allR_is hg h14
  have hB := allR_is hg2 (by unfold dblG; simpa using h14)
  refine sorted_same hB.1 ?_ fun c => ?_
  · unfold Sorted
    rw [List.pairwise_map]
    refine hA.1.imp fun {a b} hab => ?_
    rw [canLt_iff] at hab ⊢
    rcases hab with h | ⟨h1, h2⟩
    · left; show 2 * a.cost < 2 * b.cost; omega
    · right; exact ⟨by show 2 * a.cost = 2 * b.cost; omega, h2⟩
  · rw [hB.2, List.mem_map]
    unfold IsCan
    rw [dbl_way]
    constructor
    · rintro ⟨h1, h2⟩
      rw [dbl_sum _ _ h1] at h2
      exact ⟨⟨c.links, sumC g c.links⟩, (hA.2 _).2 ⟨h1, rfl⟩, by unfold dblC; cases c; simp only at h2 ⊢; rw [h2]⟩
    · rintro ⟨y, hy, rfl⟩
      obtain ⟨h1, h2⟩ := (hA.2 y).1 hy
      exact ⟨h1, by rw [show (dblC y).links = y.links from rfl, dbl_sum _ _ h1, ← h2]; rfl⟩
theorem dbl_lvs (v : Int) : lvs (dblG lb g) v = lvs g v := by
  have key : ∀ k, k ≤ g.ls.length → lvTo (g.ls.map (dblL lb)) v k = lvTo g.ls v k := by
    intro k
    induction k with
    | zero => intro _; rfl
    | succ k ih =>
      intro hk
      have hl : g.ls[k]? = some g.ls[k] := List.getElem?_eq_getElem (by omega)
      have hl2 : (g.ls.map (dblL lb))[k]? = some (dblL lb g.ls[k]) := by rw [List.getElem?_map, hl]; rfl
      rw [lvTo_succ hl, lvTo_succ hl2, ih (by omega)]
      rfl
  unfold lvs dblG
  rw [List.length_map]
  exact key _ (Nat.le_refl _)
theorem dblP_get (ts : List Int) (i : Nat) : (ts.map dblP).getD i 0 = dblP (ts.getD i 0) := by
  rw [List.getD_eq_getElem?_getD, List.getD_eq_getElem?_getD, List.getElem?_map]
  cases ts[i]? <;> rfl
theorem dblP_neg {a : Int} (h : a < 0) : dblP a = a := by unfold dblP; rw [if_pos h]
theorem dblP_pos {a : Int} (h : 0 ≤ a) : dblP a = 2 * a := by unfold dblP; rw [if_neg (by omega)]
theorem dbl_step {c t a : Int} (hc : 0 ≤ c) : (if 0 ≤ dblP t ∧ (dblP a < 0 ∨ 2 * c + dblP t < dblP a) then 2 * c + dblP t else dblP a) = dblP (if 0 ≤ t ∧ (a < 0 ∨ c + t < a) then c + t else a) := by
  by_cases h : 0 ≤ t ∧ (a < 0 ∨ c + t < a)
  · rw [if_pos h, dblP_pos h.1, dblP_pos (show 0 ≤ c + t by omega)]
    have h3 : dblP a < 0 ∨ 2 * c + 2 * t < dblP a := by
      rcases Int.lt_or_le a 0 with ha | ha
      · rw [dblP_neg ha]; left; exact ha
      · rw [dblP_pos ha]; right; omega
    rw [if_pos ⟨by omega, h3⟩]
    omega
  · rw [if_neg h, if_neg]
    rintro ⟨h1, h2⟩
    apply h
    rcases Int.lt_or_le t 0 with ht | ht
    · rw [dblP_neg ht] at h1; omega
    · refine ⟨ht, ?_⟩
      rcases Int.lt_or_le a 0 with ha | ha
      · left; exact ha
      · rw [dblP_pos ha, dblP_pos ht] at h2; right; omega
theorem dbl_fold (hg : GrOK g) (v : Int) (ts : List Int) : ∀ (L : List Int), (∀ i ∈ L, 0 ≤ i ∧ i < (g.ls.length : Int)) → ∀ a, L.foldl (potStep (dblG lb g) v (ts.map dblP)) (dblP a) = dblP (L.foldl (potStep g v ts) a)
  | [], _, _ => rfl
  | i :: L, hL, a => by
    obtain ⟨h0, h1⟩ := hL i List.mem_cons_self
    rw [List.foldl_cons, List.foldl_cons, ← dbl_fold hg v ts L (fun x hx => hL x (List.mem_cons_of_mem _ hx))]
    congr 1
    unfold potStep
    dsimp only
    rw [dbl_at h0 h1, dblP_get]
    have hc : 0 ≤ (lkAt g i).cost := (hg.ls _ (List.mem_of_getElem? (lkAt_mem ⟨h0, h1⟩))).cost.1
    exact dbl_step hc
theorem dbl_potS (hg : GrOK g) : ∀ k, potS (dblG lb g) k = (potS g k).map dblP
  | 0 => rfl
  | 1 => rfl
  | k + 2 => by
    have ih := dbl_potS hg (k + 1)
    show (lvs (dblG lb g) ((dblG lb g).n - (k + 2))).foldl (potStep (dblG lb g) ((dblG lb g).n - (k + 2)) (potS (dblG lb g) (k + 1))) (-1) :: potS (dblG lb g) (k + 1) = _
    rw [ih, dbl_lvs]
    have h := dbl_fold (lb := lb) hg (g.n - (k + 2)) (potS g (k + 1)) (lvs g (g.n - (k + 2))) (fun i hi => by
      obtain ⟨j, l, h1, h2, _⟩ := lvs_mem.1 hi
      have := (List.getElem?_eq_some_iff.1 h2).1
      omega) (-1)
    rw [show dblP (-1) = -1 from rfl] at h
    show _ :: _ = _
    rw [show (dblG lb g).n = g.n from rfl, h]
    rfl
theorem dbl_pot (hg : GrOK g) : potL (dblG lb g) = (potL g).map dblP := dbl_potS hg _
theorem dbl_pg (hg : GrOK g) (h14 : g.ls.length ≤ 14) (hg2 : GrOK (dblG lb g)) (n : Nat) : pgL (dblG lb g) n = (pgL g n).map dblC ∧ pgWh (dblG lb g) n = pgWh g n := by
  unfold pgL pgWh
  rw [dbl_all hg h14 hg2]
  refine ⟨by rw [List.map_take], ?_⟩
  rw [List.length_take, List.length_take, List.length_map]
theorem way_sum_bd (hg : GrOK g) : ∀ (w : List Int) (v : Int), wayB g v w = true → 0 ≤ sumC g w ∧ sumC g w ≤ 1000000 * (g.n - v)
  | [], v, h => by
    have h : decide (v = g.n - 1) = true := h
    rw [decide_eq_true_iff] at h
    show (0 : Int) ≤ 0 ∧ (0 : Int) ≤ 1000000 * (g.n - v)
    omega
  | i :: r, v, h => by
    rw [wayB_cons, Bool.and_eq_true, decide_eq_true_iff] at h
    obtain ⟨⟨h0, h1, h2⟩, h3⟩ := h
    have hk := hg.ls _ (List.mem_of_getElem? (lkAt_mem ⟨h0, h1⟩))
    have ih := way_sum_bd hg r _ h3
    have hc := hk.cost
    have hlt := hk.lt
    rw [sumC_cons]
    omega
theorem pgL_bd (hg : GrOK g) (h14 : g.ls.length ≤ 14) (n : Nat) : ∀ y ∈ pgL g n, 0 ≤ y.cost ∧ y.cost ≤ 2000000000 := fun y hy => by
  obtain ⟨h1, h2⟩ := ((allR_is hg h14).2 y).1 (List.mem_of_mem_take hy)
  have := way_sum_bd hg _ _ h1
  have := hg.n
  rw [h2]
  omega
end
end Go.Proofs.Ytpajajffkbkeaaa
