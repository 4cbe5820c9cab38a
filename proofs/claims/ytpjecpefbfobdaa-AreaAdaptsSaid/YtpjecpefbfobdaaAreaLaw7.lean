/-
  The plain law of layer 21: a slot has the cheapest keys.
-/
import Derived.Test.YtpjecpefbfobdaaAreaLaw6
namespace Go.Proofs.Ytpjecpefbfobdaa
open List

def worstS (l : List Cho) : Int := l.foldl (fun m x => max m x.cost) 0
theorem worst_snoc (xs : List Cho) (k : Nat) (x : Cho) (h : xs[k]? = some x) : worstS (xs.take (k + 1)) = max (worstS (xs.take k)) x.cost := by
  rw [take_succ_of h]
  unfold worstS
  rw [foldl_append]
  rfl
theorem worst_le_ {l : List Cho} {c : Int} : ∀ m : Int, m ≤ c → (∀ x ∈ l, x.cost ≤ c) → l.foldl (fun m x => max m x.cost) m ≤ c := by
  induction l with
  | nil => intro m hm _; exact hm
  | cons x l ih =>
    intro m hm h
    exact ih _ (by have := h x (by simp); show max m x.cost ≤ c; omega) (fun y hy => h y (by simp [hy]))
theorem worst_le {l : List Cho} {c : Int} (h0 : 0 ≤ c) (h : ∀ x ∈ l, x.cost ≤ c) : worstS l ≤ c := worst_le_ 0 h0 h
theorem worst_nonneg_ {l : List Cho} : ∀ m : Int, 0 ≤ m → 0 ≤ l.foldl (fun m x => max m x.cost) m := by
  induction l with
  | nil => intro m hm; exact hm
  | cons x l ih => intro m hm; exact ih _ (by show 0 ≤ max m x.cost; omega)
theorem worst_bd {l : List Cho} (h : ∀ x ∈ l, x.cost ≤ 1000) : 0 ≤ worstS l ∧ worstS l ≤ 1000 := ⟨worst_nonneg_ 0 (by omega), worst_le (by omega) h⟩
theorem price_nonneg (a : Ar) (s p : Pt) : 0 ≤ priceOf a s p := by
  unfold priceOf
  have h1 : ∀ v : Int, 0 ≤ v * v := fun v => by
    rcases Int.le_total 0 v with h | h
    · exact Int.mul_nonneg h h
    · exact Int.mul_nonneg_of_nonpos_of_nonpos h h
  have hx := h1 (bey (p.x - s.x) a.x0 a.x1)
  have hy := h1 (bey (p.y - s.y) a.y0 a.y1)
  omega
theorem chos_mem {us : List Ar} {ts : List Tp} {p : Pt} {x : Cho} : x ∈ chosOf us ts p ↔ ∃ a ∈ us, x = choOf a ts p ∧ x.cost ≤ 1000 := by
  unfold chosOf
  simp only [mem_filter, mem_map, decide_eq_true_eq]
  constructor
  · rintro ⟨⟨a, ha, rfl⟩, h⟩; exact ⟨a, ha, rfl, h⟩
  · rintro ⟨a, ha, rfl, h⟩; exact ⟨⟨a, ha, rfl⟩, h⟩
/-- A key of a slot is an area's key, with its cost. -/
theorem slot_mem {us : List Ar} (hinc : IncA us) {ts : List Tp} {p : Pt} {x : Cho} (h : x ∈ fewOf (chosOf us ts p)) :
    ∃ a, a ∈ us ∧ areaOf us x.key = some a ∧ x.cost = priceOf a (shiftOf ts a.key) p ∧ x.cost ≤ 1000 := by
  have h1 : x ∈ chosOf us ts p := (mem_filter.1 h).1
  obtain ⟨a, ha, rfl, hc⟩ := chos_mem.1 h1
  exact ⟨a, ha, areaOf_mem hinc ha, rfl, hc⟩
/-- No key that is left out is cheaper than one that is there. -/
theorem slot_out {us : List Ar} (hinc : IncA us) {ts : List Tp} {p : Pt} {a : Ar} (ha : a ∈ us) (hno : ∀ x ∈ fewOf (chosOf us ts p), x.key ≠ a.key) (hc : priceOf a (shiftOf ts a.key) p ≤ 1000) :
    (fewOf (chosOf us ts p)).length = 8 ∧ worstS (fewOf (chosOf us ts p)) ≤ priceOf a (shiftOf ts a.key) p := by
  have hm : choOf a ts p ∈ chosOf us ts p := chos_mem.2 ⟨a, ha, rfl, hc⟩
  have hr : ¬ rankC (chosOf us ts p) (choOf a ts p) < 8 := fun h => hno _ (mem_filter.2 ⟨hm, by simpa using h⟩) rfl
  have hl := few_len (chos_inc (ts := ts) (p := p) hinc)
  refine ⟨?_, worst_le (price_nonneg _ _ _) fun x hx => ?_⟩
  · have : rankC (chosOf us ts p) (choOf a ts p) ≤ (chosOf us ts p).length := countP_le_length
    omega
  · rcases Int.lt_or_le (priceOf a (shiftOf ts a.key) p) x.cost with h | h
    · exfalso
      have hx2 := (mem_filter.1 hx).2
      simp at hx2
      have : rankC (chosOf us ts p) (choOf a ts p) ≤ rankC (chosOf us ts p) x := by
        unfold rankC
        refine countP_mono_left fun y _ hy => ?_
        have hax : lessC (choOf a ts p) x = true := by unfold lessC choOf; simp; omega
        unfold lessC at hy hax ⊢
        simp at hy hax ⊢
        omega
      omega
    · exact h
end Go.Proofs.Ytpjecpefbfobdaa
