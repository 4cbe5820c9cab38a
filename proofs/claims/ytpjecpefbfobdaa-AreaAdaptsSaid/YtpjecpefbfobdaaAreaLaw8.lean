/-
  The plain law of layer 21: the boards that are made are valid; moving them changes no costs.
-/
import Derived.Test.YtpjecpefbfobdaaAreaLaw7
import Derived.Test.YtpjecpefbfobdaaAreaWalkM
namespace Go.Proofs.Ytpjecpefbfobdaa
open List

theorem adjB_of {us : List Ar} (h : IncA us) : adjB ltA us = true := by
  induction us with
  | nil => rfl
  | cons a us ih =>
    cases us with
    | nil => rfl
    | cons b us =>
      unfold adjB
      obtain ⟨h1, h2⟩ := pairwise_cons.1 h
      rw [ih h2, Bool.and_true]
      unfold ltA
      have := h1 b (by simp)
      simpa using this
theorem noMeet_of {us : List Ar} (h : us.Pairwise (fun x y => meetB y x = false)) : ∀ k, noMeetTo us k = true := by
  intro k
  induction k with
  | zero => rfl
  | succ k ih =>
    unfold noMeetTo
    rw [ih, Bool.true_and]
    cases hk : us[k]? with
    | none => rfl
    | some a =>
      simp only [Bool.not_eq_true', any_eq_false]
      intro b hb
      obtain ⟨j, hj⟩ := mem_iff_getElem?.1 hb
      rw [getElem?_take] at hj
      split at hj
      · rename_i hjk
        obtain ⟨h1, rfl⟩ := List.getElem?_eq_some_iff.1 hk
        obtain ⟨h2, rfl⟩ := List.getElem?_eq_some_iff.1 hj
        have := (pairwise_iff_getElem.1 h) j k h2 h1 hjk
        simpa using this
      · cases hj
theorem areasB_of {us : List Ar} (hlen : us.length ≤ 26) (hok : ∀ a ∈ us, arB a = true) (hinc : IncA us) (hno : us.Pairwise (fun x y => meetB y x = false)) : areasB us = true := by
  unfold areasB fitsB
  rw [noMeet_of hno, adjB_of hinc, all_eq_true.2 hok]
  simpa using hlen
theorem made_rows {l : List B2} (hl : ∀ p ∈ l, B2OK p) : ∀ k, k ≤ l.length → ∀ (i : Nat) a, (madeTo l k).l[i]? = some a → a.y0 = 22 * (i / 5 : Nat) ∧ a.y1 ≤ 22 * (i / 5 : Nat) + 20 ∧ (i / 5 = k / 5 → a.x1 < (madeTo l k).x) := by
  intro k
  induction k with
  | zero => intro _ i a h; simp [madeTo] at h
  | succ k ih =>
    intro hk i a h
    obtain ⟨p, hp⟩ : ∃ p, l[k]? = some p := ⟨l[k], getElem?_eq_getElem (by omega)⟩
    obtain ⟨h1, h2, h3, h4⟩ := made_ok hl k (by omega)
    obtain ⟨⟨p1, p2⟩, p3, p4⟩ := hl p (mem_of_getElem? hp)
    have hih := ih (by omega)
    rw [made_succ hp] at h ⊢
    unfold madeStep at h ⊢
    dsimp only at h ⊢
    rcases Nat.lt_or_ge i (madeTo l k).l.length with hlt | hge
    · rw [getElem?_append_left hlt] at h
      obtain ⟨q1, q2, q3⟩ := hih i a h
      refine ⟨q1, q2, fun e => ?_⟩
      split
      · exfalso; omega
      · have := q3 (by omega); omega
    · rw [getElem?_append_right hge] at h
      have hi : i - (madeTo l k).l.length = 0 := by
        have := (List.getElem?_eq_some_iff.1 h).1
        simp at this; omega
      rw [hi] at h
      simp at h
      have hik : i = k := by omega
      subst hik
      rw [← h]
      refine ⟨h4, by dsimp only; omega, fun e => ?_⟩
      dsimp only
      split
      · exfalso; omega
      · omega
theorem made_apart {l : List B2} (hl : ∀ p ∈ l, B2OK p) : ∀ k, k ≤ l.length → (madeTo l k).l.Pairwise (fun x y => meetB y x = false) := by
  intro k
  induction k with
  | zero => intro _; exact Pairwise.nil
  | succ k ih =>
    intro hk
    obtain ⟨p, hp⟩ : ∃ p, l[k]? = some p := ⟨l[k], getElem?_eq_getElem (by omega)⟩
    obtain ⟨h1, h2, h3, h4⟩ := made_ok hl k (by omega)
    have hr := made_rows hl k (by omega)
    rw [made_succ hp]
    unfold madeStep
    dsimp only
    rw [pairwise_append]
    refine ⟨ih (by omega), pairwise_singleton _ _, fun a ha b hb => ?_⟩
    obtain rfl := mem_singleton.1 hb
    obtain ⟨i, hi⟩ := mem_iff_getElem?.1 ha
    have hik := (List.getElem?_eq_some_iff.1 hi).1
    obtain ⟨q1, q2, q3⟩ := hr i a hi
    unfold meetB
    simp only [Bool.and_eq_false_iff, decide_eq_false_iff_not]
    by_cases e : i / 5 = k / 5
    · have := q3 e
      left; left; left; omega
    · left; right
      have : i / 5 < k / 5 := by omega
      omega
theorem madeA_apart {l : List B2} (hl : ∀ p ∈ l, B2OK p) : (madeA l).Pairwise (fun x y => meetB y x = false) := made_apart hl _ (Nat.min_le_left _ _)
theorem arM_arB {i : Nat} {a : Ar} (h : ArM i a) (hi : i < 26) : arB a = true := by
  obtain ⟨h1, ⟨h2, h3, h4⟩, h5, h6, h7⟩ := h
  unfold arB letB cellsB straightB coordB
  simp
  omega
theorem madeA_valid {l : List B2} (hl : ∀ p ∈ l, B2OK p) : areasB (madeA l) = true := by
  have hn : (madeA l).length ≤ 14 := by rw [madeA_len hl]; omega
  refine areasB_of (by omega) (fun a ha => ?_) (madeA_inc hl) (madeA_apart hl)
  obtain ⟨i, hi⟩ := mem_iff_getElem?.1 ha
  have := (List.getElem?_eq_some_iff.1 hi).1
  exact arM_arB (madeA_ar hl hi) (by omega)
def mvA (x y : Int) (a : Ar) : Ar := ⟨a.key, a.x0 + x, a.y0 + y, a.x1 + x, a.y1 + y⟩
theorem mv_meet (x y : Int) (a b : Ar) : meetB (mvA x y a) (mvA x y b) = meetB a b := by
  unfold meetB mvA
  rw [Bool.eq_iff_iff]
  simp
theorem mv_inc {us : List Ar} (h : IncA us) (x y : Int) : IncA (us.map (mvA x y)) := by
  unfold IncA
  rw [pairwise_map]
  exact h
theorem moved_valid {l : List B2} (hl : ∀ p ∈ l, B2OK p) {x y : Int} (hx : 0 ≤ x ∧ x ≤ 255) (hy : 0 ≤ y ∧ y ≤ 255) : areasB ((madeA l).map (mvA x y)) = true := by
  have hn : (madeA l).length ≤ 14 := by rw [madeA_len hl]; omega
  refine areasB_of (by simp; omega) (fun b hb => ?_) (mv_inc (madeA_inc hl) x y) ?_
  · obtain ⟨a, ha, rfl⟩ := mem_map.1 hb
    obtain ⟨i, hi⟩ := mem_iff_getElem?.1 ha
    have hil := (List.getElem?_eq_some_iff.1 hi).1
    obtain ⟨h1, ⟨h2, h3, h4⟩, h5, h6, h7⟩ := madeA_ar hl hi
    unfold arB letB cellsB straightB coordB mvA
    simp
    omega
  · rw [pairwise_map]
    exact (madeA_apart hl).imp fun {a b} h => by rw [mv_meet]; exact h
theorem mv_price (x y : Int) (a : Ar) (s p : Pt) : priceOf (mvA x y a) s ⟨p.x + x, p.y + y⟩ = priceOf a s p := by
  have h1 : bey (p.x + x - s.x) (a.x0 + x) (a.x1 + x) = bey (p.x - s.x) a.x0 a.x1 := by unfold bey; omega
  have h2 : bey (p.y + y - s.y) (a.y0 + y) (a.y1 + y) = bey (p.y - s.y) a.y0 a.y1 := by unfold bey; omega
  unfold priceOf mvA
  dsimp only
  rw [h1, h2]
theorem moved_touch (us : List Ar) (ts : List Tp) {p : Pt} {x y : Int} (h1 : insideB p = true) (h2 : insideB ⟨p.x + x, p.y + y⟩ = true) : touchOf (us.map (mvA x y)) ts ⟨p.x + x, p.y + y⟩ = touchOf us ts p := by
  have hc : chosOf (us.map (mvA x y)) ts ⟨p.x + x, p.y + y⟩ = chosOf us ts p := by
    unfold chosOf
    rw [map_map]
    congr 1
    refine map_congr_left fun a _ => ?_
    show (⟨(mvA x y a).key, priceOf (mvA x y a) (shiftOf ts (mvA x y a).key) ⟨p.x + x, p.y + y⟩⟩ : Cho) = _
    rw [mv_price]
    rfl
  unfold touchOf
  rw [if_pos h1, if_pos h2, hc]
theorem mv_ok {l : List B2} (hl : ∀ p ∈ l, B2OK p) {x y : Int} (hx : 0 ≤ x ∧ x ≤ 255) (hy : 0 ≤ y ∧ y ≤ 255) : ∀ a ∈ (madeA l).map (mvA x y), ArOK a := fun b hb => by
  obtain ⟨a, ha, rfl⟩ := mem_map.1 hb
  obtain ⟨i, hi⟩ := mem_iff_getElem?.1 ha
  obtain ⟨h1, ⟨h2, h3, h4⟩, h5, h6, h7⟩ := madeA_ar hl hi
  exact ⟨by unfold Small mvA; dsimp only; omega, by unfold Small mvA; dsimp only; omega, by unfold Small mvA; dsimp only; omega, by unfold Small mvA; dsimp only; omega⟩
end Go.Proofs.Ytpjecpefbfobdaa
