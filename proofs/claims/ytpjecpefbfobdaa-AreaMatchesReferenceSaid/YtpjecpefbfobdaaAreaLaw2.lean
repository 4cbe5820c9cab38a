/-
  The plain law of layer 21: what slots hold; boards that are made.
-/
import Derived.Test.YtpjecpefbfobdaaAreaWalkP
import Derived.Test.YtpjecpefbfobdaaAreaWalkG
namespace Go.Proofs.Ytpjecpefbfobdaa
open List

/-- The cost of a key in a slot, or -1. -/
def costS : List Cho → Int → Int
  | [], _ => -1
  | c :: l, k => if c.key = k then c.cost else costS l k
theorem costS_mem {l : List Cho} (hl : IncK l) {c : Cho} (hc : c ∈ l) : costS l c.key = c.cost := by
  induction l with
  | nil => cases hc
  | cons x l ih =>
    unfold IncK at hl
    rw [pairwise_cons] at hl
    unfold costS
    rcases List.mem_cons.1 hc with rfl | h
    · rw [if_pos rfl]
    · have := hl.1 c h
      rw [if_neg (by omega)]
      exact ih hl.2 h
theorem costS_no {l : List Cho} {k : Int} (h : ∀ c ∈ l, c.key ≠ k) : costS l k = -1 := by
  induction l with
  | nil => rfl
  | cons x l ih =>
    unfold costS
    rw [if_neg (h x (by simp))]
    exact ih fun c hc => h c (by simp [hc])
theorem few_inc {l : List Cho} (hl : IncK l) : IncK (fewOf l) := Pairwise.sublist filter_sublist hl
theorem lessC_total (x y : Cho) : (!lessC y x || !lessC x y) = true := by
  unfold lessC
  simp
  omega
theorem lessC_trans (x y z : Cho) (h1 : (!lessC y x) = true) (h2 : (!lessC z y) = true) : (!lessC z x) = true := by
  unfold lessC at *
  simp at *
  omega
theorem few_len {l : List Cho} (hl : IncK l) : (fewOf l).length = min l.length 8 := by
  have hp1 : l.mergeSort (fun x y => !lessC y x) ~ l := mergeSort_perm _ _
  have hs1 := pairwise_mergeSort (le := fun x y => !lessC y x) lessC_trans (fun x y => lessC_total x y) l
  have hp2 : ((l.mergeSort (fun x y => !lessC y x)).take 8).mergeSort (fun x y : Cho => decide (x.key ≤ y.key)) ~ (l.mergeSort (fun x y => !lessC y x)).take 8 := mergeSort_perm _ _
  have hs2 := pairwise_mergeSort (le := fun x y : Cho => decide (x.key ≤ y.key)) (fun a b c h1 h2 => by simp at *; omega) (fun a b => by simp; omega) ((l.mergeSort (fun x y => !lessC y x)).take 8)
  have h := few_sorted hl hp1 (Pairwise.imp (fun h => by simpa using h) hs1) hp2 (Pairwise.imp (fun h => by simp at h; omega) hs2)
  rw [← h, hp2.length_eq, length_take, hp1.length_eq]
  omega

/-- What is known of the areas of a board that is made. -/
structure ArM (i : Nat) (a : Ar) : Prop where
  key : a.key = 97 + (i : Int)
  x : 0 ≤ a.x0 ∧ a.x0 ≤ a.x1 ∧ a.x1 ≤ 136
  y : 0 ≤ a.y0 ∧ a.y0 ≤ a.y1 ∧ a.y1 ≤ 64
theorem made_ar {l : List B2} (hl : ∀ p ∈ l, B2OK p) : ∀ k, k ≤ l.length → k ≤ 14 → ∀ i a, (madeTo l k).l[i]? = some a → ArM i a := by
  intro k
  induction k with
  | zero => intro _ _ i a h; simp [madeTo] at h
  | succ k ih =>
    intro hk hk14 i a h
    obtain ⟨p, hp⟩ : ∃ p, l[k]? = some p := ⟨l[k], List.getElem?_eq_getElem (by omega)⟩
    obtain ⟨h1, h2, h3, h4⟩ := made_ok hl k (by omega)
    obtain ⟨⟨p1, p2⟩, p3, p4⟩ := hl p (List.mem_of_getElem? hp)
    rw [made_succ hp] at h
    unfold madeStep at h
    dsimp only at h
    rcases Nat.lt_or_ge i (madeTo l k).l.length with hlt | hge
    · rw [List.getElem?_append_left hlt] at h
      exact ih (by omega) (by omega) i a h
    · rw [List.getElem?_append_right hge] at h
      have hi : i - (madeTo l k).l.length = 0 := by
        have := (List.getElem?_eq_some_iff.1 h).1
        simp at this; omega
      rw [hi] at h
      simp at h
      have hik : i = k := by omega
      subst hik
      rw [← h]
      exact ⟨rfl, by dsimp only; omega, by dsimp only; omega⟩
theorem madeA_ar {l : List B2} (hl : ∀ p ∈ l, B2OK p) {i : Nat} {a : Ar} (h : (madeA l)[i]? = some a) : ArM i a := made_ar hl _ (Nat.min_le_left _ _) (Nat.min_le_right _ _) i a h
theorem madeA_len {l : List B2} (hl : ∀ p ∈ l, B2OK p) : (madeA l).length = min l.length 14 := (made_ok hl _ (Nat.min_le_left _ _)).len
theorem madeA_ok {l : List B2} (hl : ∀ p ∈ l, B2OK p) : ∀ a ∈ madeA l, ArOK a := fun a ha => by
  obtain ⟨i, hi, rfl⟩ := List.getElem_of_mem ha
  obtain ⟨_, hx, hy⟩ := madeA_ar hl (List.getElem?_eq_getElem hi)
  exact ⟨by unfold Small; omega, by unfold Small; omega, by unfold Small; omega, by unfold Small; omega⟩
theorem madeA_inc {l : List B2} (hl : ∀ p ∈ l, B2OK p) : IncA (madeA l) := by
  unfold IncA
  rw [List.pairwise_iff_getElem]
  intro i j hi hj hij
  rw [(madeA_ar hl (List.getElem?_eq_getElem hi)).key, (madeA_ar hl (List.getElem?_eq_getElem hj)).key]
  omega

theorem price_in {a : Ar} {p : Pt} (hx : a.x0 ≤ p.x ∧ p.x ≤ a.x1) (hy : a.y0 ≤ p.y ∧ p.y ≤ a.y1) : priceOf a ⟨0, 0⟩ p = 0 := by
  have h1 : bey (p.x - 0) a.x0 a.x1 = 0 := by unfold bey; omega
  have h2 : bey (p.y - 0) a.y0 a.y1 = 0 := by unfold bey; omega
  unfold priceOf
  dsimp only
  rw [h1, h2]
  rfl
/-- Without taps a touch within an area costs nothing for its key, or the slot is full. -/
theorem inside_law {us : List Ar} (hinc : IncA us) {a : Ar} (ha : a ∈ us) {p : Pt} (hin : insideB p = true) (hx : a.x0 ≤ p.x ∧ p.x ≤ a.x1) (hy : a.y0 ≤ p.y ∧ p.y ≤ a.y1) :
    (touchOf us [] p).2 = 0 ∧ (costS (touchOf us [] p).1 a.key = 0 ∨ (touchOf us [] p).1.length = 8) := by
  have hm : (⟨a.key, 0⟩ : Cho) ∈ chosOf us [] p := by
    unfold chosOf
    rw [mem_filter, mem_map]
    exact ⟨⟨a, ha, by unfold shiftOf; rw [price_in hx hy]⟩, by simp⟩
  have hk := chos_inc (ts := []) (p := p) hinc
  have hne : chosOf us [] p ≠ [] := fun e => by rw [e] at hm; cases hm
  unfold touchOf
  rw [if_pos hin, if_neg hne]
  refine ⟨rfl, ?_⟩
  rcases Nat.lt_or_ge 8 (chosOf us [] p).length with h | h
  · right
    show (fewOf _).length = 8
    rw [few_len hk]; omega
  · left
    show costS (fewOf _) a.key = 0
    rw [few_small h]
    exact costS_mem hk hm
end Go.Proofs.Ytpjecpefbfobdaa
