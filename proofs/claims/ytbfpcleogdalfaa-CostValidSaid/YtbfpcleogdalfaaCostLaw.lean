/-
  The plain law of layer 11: what is put into increasing lists, which models are valid, how costs change; no walk in sight.
-/
import Derived.Test.YtbfpcleogdalfaaCostWalkV
import Derived.Test.YtbfpcleogdalfaaCostWalkO
namespace Go.Proofs.Ytbfpcleogdalfaa
open Go Go.RowKit

/-! Putting a pair into an increasing list. -/
def insP (g : Pr) : List Pr → List Pr
  | [] => [g]
  | q :: l => if lessP g q then g :: q :: l else if q.a = g.a ∧ q.b = g.b then ⟨q.a, q.b, q.n + g.n⟩ :: l else q :: insP g l
theorem lessP_iff (p q : Pr) : lessP p q = true ↔ (p.a < q.a ∨ (p.a = q.a ∧ p.b < q.b)) := by unfold lessP; simp
theorem lessP_no (p q : Pr) : lessP p q = false ↔ ¬ (p.a < q.a ∨ (p.a = q.a ∧ p.b < q.b)) := by rw [← lessP_iff]; simp
theorem insP_lt {g q : Pr} {l : List Pr} (h : g.a < q.a ∨ (g.a = q.a ∧ g.b < q.b)) : insP g (q :: l) = g :: q :: l := by
  rw [insP, if_pos ((lessP_iff _ _).2 h)]
theorem insP_eq {g q : Pr} {l : List Pr} (h1 : q.a = g.a) (h2 : q.b = g.b) : insP g (q :: l) = ⟨q.a, q.b, q.n + g.n⟩ :: l := by
  rw [insP, if_neg (by rw [lessP_iff]; omega), if_pos ⟨h1, h2⟩]
theorem insP_gt {g q : Pr} {l : List Pr} (h : q.a < g.a ∨ (q.a = g.a ∧ q.b < g.b)) : insP g (q :: l) = q :: insP g l := by
  rw [insP, if_neg (by rw [lessP_iff]; omega), if_neg (by omega)]
theorem tri (g q : Pr) : (g.a < q.a ∨ (g.a = q.a ∧ g.b < q.b)) ∨ (q.a = g.a ∧ q.b = g.b) ∨ (q.a < g.a ∨ (q.a = g.a ∧ q.b < g.b)) := by omega
theorem countP_eq (g : Pr) : ∀ ps, countP ps g = insP g ps
  | [] => rfl
  | q :: l => by
    have ih := countP_eq g l
    rcases tri g q with h | ⟨h1, h2⟩ | h
    · rw [insP_lt h]
      have hr : reachB g q = true := by unfold reachB; simp; omega
      have hc : cutP (q :: l) g = 0 := by unfold cutP; rw [List.findIdx_cons, hr]; rfl
      rw [countP_miss (p := q) (by rw [hc]; rfl) (by omega), hc]; rfl
    · rw [insP_eq h1 h2]
      have hr : reachB g q = true := by unfold reachB; simp; omega
      have hc : cutP (q :: l) g = 0 := by unfold cutP; rw [List.findIdx_cons, hr]; rfl
      rw [countP_hit (p := q) (by rw [hc]; rfl) h1 h2, hc]; rfl
    · rw [insP_gt h, ← ih]
      have hr : reachB g q = false := by unfold reachB; simp; omega
      have hc : cutP (q :: l) g = cutP l g + 1 := by unfold cutP; rw [List.findIdx_cons, hr]; rfl
      unfold countP
      rw [hc]
      simp only [List.getElem?_cons_succ]
      split
      · split
        · rw [List.set_cons_succ]
        · unfold insAt; simp
      · unfold insAt; simp
theorem incP_cons {q : Pr} {l : List Pr} : incP (q :: l) = true ↔ (∀ y ∈ l, lessP q y = true) ∧ incP l = true := by
  induction l generalizing q with
  | nil => simp [incP]
  | cons y l ih =>
    rw [incP, Bool.and_eq_true]
    constructor
    · rintro ⟨h1, h2⟩
      refine ⟨fun z hz => ?_, h2⟩
      rcases List.mem_cons.1 hz with rfl | hz
      · exact h1
      · have h3 := (ih.1 h2).1 z hz
        rw [lessP_iff] at *; omega
    · rintro ⟨h1, h2⟩
      exact ⟨h1 y (by simp), h2⟩
theorem insP_mem {g y : Pr} : ∀ {l : List Pr}, y ∈ insP g l → y = g ∨ y ∈ l ∨ ∃ q ∈ l, q.a = g.a ∧ q.b = g.b ∧ y = ⟨q.a, q.b, q.n + g.n⟩
  | [], h => .inl (by simpa [insP] using h)
  | q :: l, h => by
    rcases tri g q with h1 | ⟨h1, h2⟩ | h1
    · rw [insP_lt h1] at h
      rcases List.mem_cons.1 h with h | h
      · exact .inl h
      · exact .inr (.inl h)
    · rw [insP_eq h1 h2] at h
      rcases List.mem_cons.1 h with h | h
      · exact .inr (.inr ⟨q, by simp, h1, h2, h⟩)
      · exact .inr (.inl (by simp [h]))
    · rw [insP_gt h1] at h
      rcases List.mem_cons.1 h with h | h
      · exact .inr (.inl (by simp [h]))
      · rcases insP_mem h with h | h | ⟨z, hz, e⟩
        · exact .inl h
        · exact .inr (.inl (by simp [h]))
        · exact .inr (.inr ⟨z, by simp [hz], e⟩)
theorem insP_inc (g : Pr) : ∀ {l : List Pr}, incP l = true → incP (insP g l) = true
  | [], _ => rfl
  | q :: l, h => by
    obtain ⟨h1, h2⟩ := incP_cons.1 h
    rcases tri g q with h3 | ⟨h3, h4⟩ | h3
    · rw [insP_lt h3, incP_cons]
      refine ⟨fun y hy => ?_, h⟩
      rcases List.mem_cons.1 hy with rfl | hy
      · exact (lessP_iff _ _).2 h3
      · have := h1 y hy
        rw [lessP_iff] at *; omega
    · rw [insP_eq h3 h4, incP_cons]
      exact ⟨fun y hy => by have := h1 y hy; rw [lessP_iff] at *; exact this, h2⟩
    · rw [insP_gt h3, incP_cons]
      refine ⟨fun y hy => ?_, insP_inc g h2⟩
      rcases insP_mem hy with rfl | hy | ⟨z, hz, _, _, rfl⟩
      · exact (lessP_iff _ _).2 h3
      · exact h1 y hy
      · have := h1 z hz; rw [lessP_iff] at *; exact this
theorem addDone (p : Pr) : ∀ (l acc : List Pr), (∀ q ∈ l, ¬ (q.a = p.a ∧ q.b = p.b)) → l.foldl (addStep p) (acc, true) = (acc ++ l, true)
  | [], acc, _ => by simp
  | q :: l, acc, h => by
    have h1 : addStep p (acc, true) q = (acc ++ [q], true) := by
      unfold addStep; rw [if_neg (by simp), if_neg (h q (by simp))]
    rw [List.foldl_cons, h1, addDone p l _ (fun z hz => h z (by simp [hz]))]
    simp
theorem addRun (p : Pr) : ∀ (l acc : List Pr), incP l = true → (let st := l.foldl (addStep p) (acc, false); if st.2 then st.1 else st.1 ++ [p]) = acc ++ insP p l
  | [], acc, _ => by simp [insP]
  | q :: l, acc, h => by
    obtain ⟨h1, h2⟩ := incP_cons.1 h
    rcases tri p q with h3 | ⟨h3, h4⟩ | h3
    · have e : addStep p (acc, false) q = (acc ++ [p] ++ [q], true) := by unfold addStep; rw [if_pos (by simp [(lessP_iff _ _).2 h3])]
      rw [List.foldl_cons, e, addDone p l _ (fun z hz => by have := h1 z hz; rw [lessP_iff] at this; omega), insP_lt h3]
      simp
    · have e : addStep p (acc, false) q = (acc ++ [⟨q.a, q.b, q.n + p.n⟩], true) := by
        unfold addStep; rw [if_neg (by simp [lessP_no]; omega), if_pos ⟨h3, h4⟩]
      rw [List.foldl_cons, e, addDone p l _ (fun z hz => by have := h1 z hz; rw [lessP_iff] at this; omega), insP_eq h3 h4]
      simp
    · have e : addStep p (acc, false) q = (acc ++ [q], false) := by
        unfold addStep; rw [if_neg (by simp [lessP_no]; omega), if_neg (by omega)]
      rw [List.foldl_cons, e, addRun p l _ h2, insP_gt h3]
      simp
theorem addP_eq {ps : List Pr} (p : Pr) (h : incP ps = true) : addP ps p = insP p ps := by
  have := addRun p ps [] h
  unfold addP addTo
  rw [List.take_length]
  simpa using this
theorem insP_len (g : Pr) : ∀ l : List Pr, l.length ≤ (insP g l).length ∧ (insP g l).length ≤ l.length + 1
  | [] => by simp [insP]
  | q :: l => by
    have ih := insP_len g l
    rcases tri g q with h1 | ⟨h1, h2⟩ | h1
    · rw [insP_lt h1]; simp
    · rw [insP_eq h1 h2]; simp
    · rw [insP_gt h1]; simp; omega
theorem sumAt_cons (q : Pr) (l : List Pr) (a : Int) : sumAt (q :: l) a = (if q.a = a then q.n else 0) + sumAt l a := by
  unfold sumAt
  by_cases h : q.a = a
  · rw [List.filter_cons_of_pos (by simpa using h), if_pos h]; simp [total]
  · rw [List.filter_cons_of_neg (by simpa using h), if_neg h]; simp [total]
theorem insP_sum (g : Pr) (a : Int) : ∀ l, sumAt (insP g l) a = sumAt l a + if g.a = a then g.n else 0
  | [] => by rw [insP, sumAt_cons]; simp [sumAt, total]
  | q :: l => by
    have ih := insP_sum g a l
    rcases tri g q with h1 | ⟨h1, h2⟩ | h1
    · rw [insP_lt h1, sumAt_cons, sumAt_cons]; omega
    · rw [insP_eq h1 h2, sumAt_cons, sumAt_cons]
      simp only
      split <;> split <;> omega
    · rw [insP_gt h1, sumAt_cons, sumAt_cons, ih]; omega
theorem known_nil (a b : Int) : known [] a b = 0 := rfl
theorem known_cons {q : Pr} {l : List Pr} (h : incP (q :: l) = true) (a b : Int) : known (q :: l) a b = if q.a = a ∧ q.b = b then q.n else known l a b := by
  obtain ⟨h1, h2⟩ := incP_cons.1 h
  by_cases hq : q.a = a ∧ q.b = b
  · rw [if_pos hq]
    have e := known_keep (ps := [q]) (qs := l) (a := a) (b := b) (fun p hp he => by have := h1 p hp; rw [lessP_iff] at this; omega)
    rw [show q :: l = [q] ++ l from rfl, e]
    unfold known
    simp [hq]
  · rw [if_neg hq]
    unfold known
    rw [List.foldl_cons, if_neg (by simpa using hq)]
theorem known_none {l : List Pr} {a b : Int} (h : ∀ q ∈ l, ¬ (q.a = a ∧ q.b = b)) : known l a b = 0 := by
  have := known_keep (ps := []) (qs := l) (a := a) (b := b) h
  simpa [known] using this
theorem insP_known (g : Pr) (a b : Int) : ∀ {l}, incP l = true → known (insP g l) a b = known l a b + if g.a = a ∧ g.b = b then g.n else 0
  | [], _ => by
    rw [insP, known_cons rfl, known_nil]; split <;> simp
  | q :: l, h => by
    obtain ⟨h1, h2⟩ := incP_cons.1 h
    have hins := insP_inc g h
    rcases tri g q with h3 | ⟨h3, h4⟩ | h3
    · rw [insP_lt h3] at hins ⊢
      rw [known_cons hins]
      by_cases e : g.a = a ∧ g.b = b
      · rw [if_pos e, if_pos e, known_none (l := q :: l) (fun z hz he => by
          rcases List.mem_cons.1 hz with rfl | hz
          · omega
          · have := h1 z hz; rw [lessP_iff] at this; omega)]
        omega
      · rw [if_neg e, if_neg e]; omega
    · rw [insP_eq h3 h4] at hins ⊢
      rw [known_cons hins, known_cons h]
      simp only
      by_cases e : q.a = a ∧ q.b = b
      · rw [if_pos e, if_pos e, if_pos (by omega)]
      · rw [if_neg e, if_neg e, if_neg (by omega)]; omega
    · rw [insP_gt h3] at hins ⊢
      rw [known_cons hins, known_cons h, insP_known g a b h2]
      by_cases e : q.a = a ∧ q.b = b
      · rw [if_pos e, if_pos e, if_neg (by omega)]; omega
      · rw [if_neg e, if_neg e]
theorem insP_twice (a b n o : Int) : ∀ l, insP ⟨a, b, o⟩ (insP ⟨a, b, n⟩ l) = insP ⟨a, b, n + o⟩ l
  | [] => insP_eq rfl rfl
  | q :: l => by
    rcases tri ⟨a, b, n⟩ q with h1 | ⟨h1, h2⟩ | h1
    · rw [insP_lt h1, insP_eq (g := ⟨a, b, o⟩) (q := ⟨a, b, n⟩) rfl rfl, insP_lt (g := ⟨a, b, n + o⟩) h1]
    · rw [insP_eq h1 h2, insP_eq (g := ⟨a, b, o⟩) (q := ⟨q.a, q.b, q.n + n⟩) h1 h2, insP_eq (g := ⟨a, b, n + o⟩) h1 h2]
      simp only [Int.add_assoc]
    · rw [insP_gt h1, insP_gt (g := ⟨a, b, o⟩) h1, insP_gt (g := ⟨a, b, n + o⟩) h1, insP_twice a b n o l]
theorem insP_comm (g h : Pr) : ∀ l, insP g (insP h l) = insP h (insP g l)
  | [] => by
    show insP g [h] = insP h [g]
    rcases tri g h with h1 | ⟨h1, h2⟩ | h1
    · rw [insP_lt h1, insP_gt h1]; rfl
    · rw [insP_eq h1 h2, insP_eq h1.symm h2.symm, h1, h2, Int.add_comm]
    · rw [insP_gt h1, insP_lt h1]; rfl
  | q :: l => by
    rcases tri g q with h1 | ⟨h1, h2⟩ | h1
    · rcases tri h q with h3 | ⟨h3, h4⟩ | h3
      · rw [insP_lt h1, insP_lt h3]
        rcases tri g h with h5 | ⟨h5, h6⟩ | h5
        · rw [insP_lt h5, insP_gt h5, insP_lt h3]
        · rw [insP_eq h5 h6, insP_eq h5.symm h6.symm, h5, h6, Int.add_comm]
        · rw [insP_gt h5, insP_lt h1, insP_lt h5]
      · rw [insP_eq h3 h4, insP_lt (q := ⟨q.a, q.b, q.n + h.n⟩) h1, insP_lt h1, insP_gt (q := g) (by omega), insP_eq h3 h4]
      · rw [insP_gt h3, insP_lt h1, insP_lt h1, insP_gt (q := g) (by omega), insP_gt h3]
    · rcases tri h q with h3 | ⟨h3, h4⟩ | h3
      · rw [insP_lt h3, insP_eq h1 h2, insP_gt (q := h) (by omega), insP_eq h1 h2, insP_lt (q := ⟨q.a, q.b, q.n + g.n⟩) h3]
      · rw [insP_eq h3 h4, insP_eq h1 h2, insP_eq (q := ⟨q.a, q.b, q.n + h.n⟩) h1 h2, insP_eq (q := ⟨q.a, q.b, q.n + g.n⟩) h3 h4]
        rw [Int.add_right_comm]
      · rw [insP_gt h3, insP_eq h1 h2, insP_eq h1 h2, insP_gt (q := ⟨q.a, q.b, q.n + g.n⟩) h3]
    · rcases tri h q with h3 | ⟨h3, h4⟩ | h3
      · rw [insP_lt h3, insP_gt h1, insP_gt (q := h) (by omega), insP_gt h1, insP_lt h3]
      · rw [insP_eq h3 h4, insP_gt h1, insP_gt (q := ⟨q.a, q.b, q.n + h.n⟩) h1, insP_eq h3 h4]
      · rw [insP_gt h3, insP_gt h1, insP_gt h1, insP_gt h3, insP_comm g h l]
end Go.Proofs.Ytbfpcleogdalfaa
