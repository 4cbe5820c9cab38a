/-
  CostLaw, CostLaw2, CostLaw3, CostWalkK, joined. No conditions.
-/
import Derived.Test.YtcimnkijpifkjaaQ19
import Derived.Test.YtcimnkijpifkjaaQ20
import Derived.Test.YtcimnkijpifkjaaQ18
/-
  The plain law of layer 11: what is put into increasing lists, which models are valid, how costs change; no walk in sight.
-/
namespace Go.Proofs.Ytcimnkijpifkjaa
open Go Go.RowKit

/-! Putting a pair into an increasing list. -/
def insP (g : Pr) : List Pr → List Pr
  | [] => [g]
  | q :: l => if lessP g q then g :: q :: l else if q.a = g.a ∧ q.b = g.b then ⟨q.a, q.b, q.n + g.n⟩ :: l else q :: insP g l
theorem lessP_iff (p q : Pr) : lessP p q = true ↔ (p.a < q.a ∨ (p.a = q.a ∧ p.b < q.b)) := by unfold lessP; simp
theorem lessP_no (p q : Pr) : lessP p q = false ↔ ¬ (p.a < q.a ∨ (p.a = q.a ∧ p.b < q.b)) := by rw [← lessP_iff]; simp
theorem insP_lt {g q : Pr} {l : List Pr} (h : g.a < q.a ∨ (g.a = q.a ∧ g.b < q.b)) : insP g (q :: l) = g :: q :: l := by
  rw [insP, if_pos ((lessP_iff _ _).2 h)]
theorem insP_eq {g q : Pr} {l : List Pr} (h1 : q.a = g.a) (h2 : q.b = g.b) : insP g (q :: l) = ⟨q.a, q.b, q.n + g.n⟩ :: l := by
  rw [insP, if_neg (by rw [lessP_iff]; omega), if_pos ⟨h1, h2⟩]
theorem insP_gt {g q : Pr} {l : List Pr} (h : q.a < g.a ∨ (q.a = g.a ∧ q.b < g.b)) : insP g (q :: l) = q :: insP g l := by
  rw [insP, if_neg (by rw [lessP_iff]; omega), if_neg (by omega)]
theorem tri (g q : Pr) : (g.a < q.a ∨ (g.a = q.a ∧ g.b < q.b)) ∨ (q.a = g.a ∧ q.b = g.b) ∨ (q.a < g.a ∨ (q.a = g.a ∧ q.b < g.b)) := by omega
theorem countP_eq (g : Pr) : ∀ ps, countP ps g = insP g ps
  | [] => rfl
  | q :: l => by
    have ih := countP_eq g l
    rcases tri g q with h | ⟨h1, h2⟩ | h
    · rw [insP_lt h]
      have hr : reachB g q = true := by unfold reachB; simp; omega
      have hc : cutP (q :: l) g = 0 := by unfold cutP; rw [List.findIdx_cons, hr]; rfl
      rw [countP_miss (p := q) (by rw [hc]; rfl) (by omega), hc]; rfl
    · rw [insP_eq h1 h2]
      have hr : reachB g q = true := by unfold reachB; simp; omega
      have hc : cutP (q :: l) g = 0 := by unfold cutP; rw [List.findIdx_cons, hr]; rfl
      rw [countP_hit (p := q) (by rw [hc]; rfl) h1 h2, hc]; rfl
    · rw [insP_gt h, ← ih]
      have hr : reachB g q = false := by unfold reachB; simp; omega
      have hc : cutP (q :: l) g = cutP l g + 1 := by unfold cutP; rw [List.findIdx_cons, hr]; rfl
      unfold countP
      rw [hc]
      simp only [List.getElem?_cons_succ]
      split
      · split
        · rw [List.set_cons_succ]
        · unfold insAt; simp
      · unfold insAt; simp
theorem incP_cons {q : Pr} {l : List Pr} : incP (q :: l) = true ↔ (∀ y ∈ l, lessP q y = true) ∧ incP l = true := by
  induction l generalizing q with
  | nil => simp [incP]
  | cons y l ih =>
    rw [incP, Bool.and_eq_true]
    constructor
    · rintro ⟨h1, h2⟩
      refine ⟨fun z hz => ?_, h2⟩
      rcases List.mem_cons.1 hz with rfl | hz
      · exact h1
      · have h3 := (ih.1 h2).1 z hz
        rw [lessP_iff] at *; omega
    · rintro ⟨h1, h2⟩
      exact ⟨h1 y (by simp), h2⟩
theorem insP_mem {g y : Pr} : ∀ {l : List Pr}, y ∈ insP g l → y = g ∨ y ∈ l ∨ ∃ q ∈ l, q.a = g.a ∧ q.b = g.b ∧ y = ⟨q.a, q.b, q.n + g.n⟩
  | [], h => .inl (by simpa [insP] using h)
  | q :: l, h => by
    rcases tri g q with h1 | ⟨h1, h2⟩ | h1
    · rw [insP_lt h1] at h
      rcases List.mem_cons.1 h with h | h
      · exact .inl h
      · exact .inr (.inl h)
    · rw [insP_eq h1 h2] at h
      rcases List.mem_cons.1 h with h | h
      · exact .inr (.inr ⟨q, by simp, h1, h2, h⟩)
      · exact .inr (.inl (by simp [h]))
    · rw [insP_gt h1] at h
      rcases List.mem_cons.1 h with h | h
      · exact .inr (.inl (by simp [h]))
      · rcases insP_mem h with h | h | ⟨z, hz, e⟩
        · exact .inl h
        · exact .inr (.inl (by simp [h]))
        · exact .inr (.inr ⟨z, by simp [hz], e⟩)
theorem insP_inc (g : Pr) : ∀ {l : List Pr}, incP l = true → incP (insP g l) = true
  | [], _ => rfl
  | q :: l, h => by
    obtain ⟨h1, h2⟩ := incP_cons.1 h
    rcases tri g q with h3 | ⟨h3, h4⟩ | h3
    · rw [insP_lt h3, incP_cons]
      refine ⟨fun y hy => ?_, h⟩
      rcases List.mem_cons.1 hy with rfl | hy
      · exact (lessP_iff _ _).2 h3
      · have := h1 y hy
        rw [lessP_iff] at *; omega
    · rw [insP_eq h3 h4, incP_cons]
      exact ⟨fun y hy => by have := h1 y hy; rw [lessP_iff] at *; exact this, h2⟩
    · rw [insP_gt h3, incP_cons]
      refine ⟨fun y hy => ?_, insP_inc g h2⟩
      rcases insP_mem hy with rfl | hy | ⟨z, hz, _, _, rfl⟩
      · exact (lessP_iff _ _).2 h3
      · exact h1 y hy
      · have := h1 z hz; rw [lessP_iff] at *; exact this
theorem addDone (p : Pr) : ∀ (l acc : List Pr), (∀ q ∈ l, ¬ (q.a = p.a ∧ q.b = p.b)) → l.foldl (addStep p) (acc, true) = (acc ++ l, true)
  | [], acc, _ => by simp
  | q :: l, acc, h => by
    have h1 : addStep p (acc, true) q = (acc ++ [q], true) := by
      unfold addStep; rw [if_neg (by simp), if_neg (h q (by simp))]
    rw [List.foldl_cons, h1, addDone p l _ (fun z hz => h z (by simp [hz]))]
    simp
theorem addRun (p : Pr) : ∀ (l acc : List Pr), incP l = true → (let st := l.foldl (addStep p) (acc, false); if st.2 then st.1 else st.1 ++ [p]) = acc ++ insP p l
  | [], acc, _ => by simp [insP]
  | q :: l, acc, h => by
    obtain ⟨h1, h2⟩ := incP_cons.1 h
    rcases tri p q with h3 | ⟨h3, h4⟩ | h3
    · have e : addStep p (acc, false) q = (acc ++ [p] ++ [q], true) := by unfold addStep; rw [if_pos (by simp [(lessP_iff _ _).2 h3])]
      rw [List.foldl_cons, e, addDone p l _ (fun z hz => by have := h1 z hz; rw [lessP_iff] at this; omega), insP_lt h3]
      simp
    · have e : addStep p (acc, false) q = (acc ++ [⟨q.a, q.b, q.n + p.n⟩], true) := by
        unfold addStep; rw [if_neg (by simp [lessP_no]; omega), if_pos ⟨h3, h4⟩]
      rw [List.foldl_cons, e, addDone p l _ (fun z hz => by have := h1 z hz; rw [lessP_iff] at this; omega), insP_eq h3 h4]
      simp
    · have e : addStep p (acc, false) q = (acc ++ [q], false) := by
        unfold addStep; rw [if_neg (by simp [lessP_no]; omega), if_neg (by omega)]
      rw [List.foldl_cons, e, addRun p l _ h2, insP_gt h3]
      simp
theorem addP_eq {ps : List Pr} (p : Pr) (h : incP ps = true) : addP ps p = insP p ps := by
  have := addRun p ps [] h
  unfold addP addTo
  rw [List.take_length]
  simpa using this
theorem insP_len (g : Pr) : ∀ l : List Pr, l.length ≤ (insP g l).length ∧ (insP g l).length ≤ l.length + 1
  | [] => by simp [insP]
  | q :: l => by
    have ih := insP_len g l
    rcases tri g q with h1 | ⟨h1, h2⟩ | h1
    · rw [insP_lt h1]; simp
    · rw [insP_eq h1 h2]; simp
    · rw [insP_gt h1]; simp; omega
theorem sumAt_cons (q : Pr) (l : List Pr) (a : Int) : sumAt (q :: l) a = (if q.a = a then q.n else 0) + sumAt l a := by
  unfold sumAt
  by_cases h : q.a = a
  · rw [List.filter_cons_of_pos (by simpa using h), if_pos h]; simp [total]
  · rw [List.filter_cons_of_neg (by simpa using h), if_neg h]; simp [total]
theorem insP_sum (g : Pr) (a : Int) : ∀ l, sumAt (insP g l) a = sumAt l a + if g.a = a then g.n else 0
  | [] => by rw [insP, sumAt_cons]; simp [sumAt, total]
  | q :: l => by
    have ih := insP_sum g a l
    rcases tri g q with h1 | ⟨h1, h2⟩ | h1
    · rw [insP_lt h1, sumAt_cons, sumAt_cons]; omega
    · rw [insP_eq h1 h2, sumAt_cons, sumAt_cons]
      simp only
      split <;> split <;> omega
    · rw [insP_gt h1, sumAt_cons, sumAt_cons, ih]; omega
theorem known_nil (a b : Int) : known [] a b = 0 := rfl
theorem known_cons {q : Pr} {l : List Pr} (h : incP (q :: l) = true) (a b : Int) : known (q :: l) a b = if q.a = a ∧ q.b = b then q.n else known l a b := by
  obtain ⟨h1, h2⟩ := incP_cons.1 h
  by_cases hq : q.a = a ∧ q.b = b
  · rw [if_pos hq]
    have e := known_keep (ps := [q]) (qs := l) (a := a) (b := b) (fun p hp he => by have := h1 p hp; rw [lessP_iff] at this; omega)
    rw [show q :: l = [q] ++ l from rfl, e]
    unfold known
    simp [hq]
  · rw [if_neg hq]
    unfold known
    rw [List.foldl_cons, if_neg (by simpa using hq)]
theorem known_none {l : List Pr} {a b : Int} (h : ∀ q ∈ l, ¬ (q.a = a ∧ q.b = b)) : known l a b = 0 := by
  have := known_keep (ps := []) (qs := l) (a := a) (b := b) h
  simpa [known] using this
theorem insP_known (g : Pr) (a b : Int) : ∀ {l}, incP l = true → known (insP g l) a b = known l a b + if g.a = a ∧ g.b = b then g.n else 0
  | [], _ => by
    rw [insP, known_cons rfl, known_nil]; split <;> simp
  | q :: l, h => by
    obtain ⟨h1, h2⟩ := incP_cons.1 h
    have hins := insP_inc g h
    rcases tri g q with h3 | ⟨h3, h4⟩ | h3
    · rw [insP_lt h3] at hins ⊢
      rw [known_cons hins]
      by_cases e : g.a = a ∧ g.b = b
      · rw [if_pos e, if_pos e, known_none (l := q :: l) (fun z hz he => by
          rcases List.mem_cons.1 hz with rfl | hz
          · omega
          · have := h1 z hz; rw [lessP_iff] at this; omega)]
        omega
      · rw [if_neg e, if_neg e]; omega
    · rw [insP_eq h3 h4] at hins ⊢
      rw [known_cons hins, known_cons h]
      simp only
      by_cases e : q.a = a ∧ q.b = b
      · rw [if_pos e, if_pos e, if_pos (by omega)]
      · rw [if_neg e, if_neg e, if_neg (by omega)]; omega
    · rw [insP_gt h3] at hins ⊢
      rw [known_cons hins, known_cons h, insP_known g a b h2]
      by_cases e : q.a = a ∧ q.b = b
      · rw [if_pos e, if_pos e, if_neg (by omega)]; omega
      · rw [if_neg e, if_neg e]
theorem insP_twice (a b n o : Int) : ∀ l, insP ⟨a, b, o⟩ (insP ⟨a, b, n⟩ l) = insP ⟨a, b, n + o⟩ l
  | [] => insP_eq rfl rfl
  | q :: l => by
    rcases tri ⟨a, b, n⟩ q with h1 | ⟨h1, h2⟩ | h1
    · rw [insP_lt h1, insP_eq (g := ⟨a, b, o⟩) (q := ⟨a, b, n⟩) rfl rfl, insP_lt (g := ⟨a, b, n + o⟩) h1]
    · rw [insP_eq h1 h2, insP_eq (g := ⟨a, b, o⟩) (q := ⟨q.a, q.b, q.n + n⟩) h1 h2, insP_eq (g := ⟨a, b, n + o⟩) h1 h2]
      simp only [Int.add_assoc]
    · rw [insP_gt h1, insP_gt (g := ⟨a, b, o⟩) h1, insP_gt (g := ⟨a, b, n + o⟩) h1, insP_twice a b n o l]
theorem insP_comm (g h : Pr) : ∀ l, insP g (insP h l) = insP h (insP g l)
  | [] => by
    show insP g [h] = insP h [g]
    rcases tri g h with h1 | ⟨h1, h2⟩ | h1
    · rw [insP_lt h1, insP_gt h1]; rfl
    · rw [insP_eq h1 h2, insP_eq h1.symm h2.symm, h1, h2, Int.add_comm]
    · rw [insP_gt h1, insP_lt h1]; rfl
  | q :: l => by
    rcases tri g q with h1 | ⟨h1, h2⟩ | h1
    · rcases tri h q with h3 | ⟨h3, h4⟩ | h3
      · rw [insP_lt h1, insP_lt h3]
        rcases tri g h with h5 | ⟨h5, h6⟩ | h5
        · rw [insP_lt h5, insP_gt h5, insP_lt h3]
        · rw [insP_eq h5 h6, insP_eq h5.symm h6.symm, h5, h6, Int.add_comm]
        · rw [insP_gt h5, insP_lt h1, insP_lt h5]
      · rw [insP_eq h3 h4, insP_lt (q := ⟨q.a, q.b, q.n + h.n⟩) h1, insP_lt h1, insP_gt (q := g) (by omega), insP_eq h3 h4]
      · rw [insP_gt h3, insP_lt h1, insP_lt h1, insP_gt (q := g) (by omega), insP_gt h3]
    · rcases tri h q with h3 | ⟨h3, h4⟩ | h3
      · rw [insP_lt h3, insP_eq h1 h2, insP_gt (q := h) (by omega), insP_eq h1 h2, insP_lt (q := ⟨q.a, q.b, q.n + g.n⟩) h3]
      · rw [insP_eq h3 h4, insP_eq h1 h2, insP_eq (q := ⟨q.a, q.b, q.n + h.n⟩) h1 h2, insP_eq (q := ⟨q.a, q.b, q.n + g.n⟩) h3 h4]
        rw [Int.add_right_comm]
      · rw [insP_gt h3, insP_eq h1 h2, insP_eq h1 h2, insP_gt (q := ⟨q.a, q.b, q.n + g.n⟩) h3]
    · rcases tri h q with h3 | ⟨h3, h4⟩ | h3
      · rw [insP_lt h3, insP_gt h1, insP_gt (q := h) (by omega), insP_gt h1, insP_lt h3]
      · rw [insP_eq h3 h4, insP_gt h1, insP_gt (q := ⟨q.a, q.b, q.n + h.n⟩) h1, insP_eq h3 h4]
      · rw [insP_gt h3, insP_gt h1, insP_gt h1, insP_gt h3, insP_comm g h l]
end Go.Proofs.Ytcimnkijpifkjaa

/-
  The plain law of layer 11, continued: the logarithm grows ever slower; models that are made are valid, and stay so.
-/
namespace Go.Proofs.Ytcimnkijpifkjaa
open Go Go.RowKit

/-! The logarithm, scaled by 2 ^ K: its steps get smaller. -/
def lgS (K : Nat) (n : Nat) : Nat := 8 * n.log2 * 2 ^ K + 8 * (n - 2 ^ n.log2) * 2 ^ (K - n.log2)
theorem log2_mono {x y : Nat} (h : x ≤ y) (hx : x ≠ 0) : x.log2 ≤ y.log2 := by
  have h1 := Nat.log2_self_le hx
  exact (Nat.le_log2 (by omega)).2 (Nat.le_trans h1 h)
theorem lgS_div {K n : Nat} (hn : n ≠ 0) (hK : n.log2 ≤ K) : lgN n = lgS K n / 2 ^ K := by
  unfold lgN lgS
  rw [if_neg hn]
  obtain ⟨d, rfl⟩ : ∃ d, K = n.log2 + d := ⟨K - n.log2, by omega⟩
  rw [Nat.add_sub_cancel_left, Nat.add_comm (8 * n.log2 * 2 ^ (n.log2 + d)), Nat.add_mul_div_right _ _ (Nat.two_pow_pos _), Nat.add_comm]
  congr 1
  rw [Nat.pow_add, Nat.mul_div_mul_right _ _ (Nat.two_pow_pos d)]
theorem lgS_step {K n : Nat} (hn : n ≠ 0) (hK : n.log2 < K) : lgS K (n + 1) = lgS K n + 8 * 2 ^ (K - n.log2) := by
  have h1 := Nat.log2_self_le hn
  have h2 := Nat.lt_log2_self (n := n)
  by_cases h : n + 1 < 2 ^ (n.log2 + 1)
  · have e : (n + 1).log2 = n.log2 := (Nat.log2_eq_iff (by omega)).2 ⟨by omega, h⟩
    unfold lgS
    rw [e, show n + 1 - 2 ^ n.log2 = (n - 2 ^ n.log2) + 1 by omega, Nat.mul_add, Nat.add_mul]
    omega
  · have hn1 : n + 1 = 2 ^ (n.log2 + 1) := by omega
    have e : (n + 1).log2 = n.log2 + 1 := (Nat.log2_eq_iff (by omega)).2 ⟨by omega, by rw [hn1]; exact Nat.pow_lt_pow_right (by decide) (by omega)⟩
    unfold lgS
    rw [e, show n + 1 - 2 ^ (n.log2 + 1) = 0 by omega]
    obtain ⟨d, rfl⟩ : ∃ d, K = n.log2 + 1 + d := ⟨K - n.log2 - 1, by omega⟩
    rw [show n.log2 + 1 + d - n.log2 = d + 1 by omega]
    have h3 : n - 2 ^ n.log2 + 1 = 2 ^ n.log2 := by rw [Nat.pow_succ] at hn1; omega
    have h4 : 8 * (n - 2 ^ n.log2) * 2 ^ (d + 1) + 8 * 2 ^ (d + 1) = 8 * 2 ^ (n.log2 + 1 + d) := by
      rw [← Nat.add_mul, show 8 * (n - 2 ^ n.log2) + 8 = 8 * 2 ^ n.log2 by omega, Nat.mul_assoc, ← Nat.pow_add, show n.log2 + (d + 1) = n.log2 + 1 + d by omega]
    rw [Nat.mul_add 8, Nat.add_mul]
    omega
theorem lgS_mono1 {K n : Nat} (hn : n ≠ 0) (hK : n.log2 < K) : lgS K n ≤ lgS K (n + 1) := by rw [lgS_step hn hK]; omega
/-- Adding n to the greater number adds no more than adding it to the smaller one. -/
theorem lgS_slow {K x y : Nat} (hx : x ≠ 0) (hxy : x ≤ y) : ∀ n, (y + n).log2 < K → lgS K (y + n) + lgS K x ≤ lgS K (x + n) + lgS K y
  | 0, _ => by simp only [Nat.add_zero]; omega
  | n + 1, h => by
    have hy : (y + n).log2 < K := Nat.lt_of_le_of_lt (log2_mono (by omega) (by omega)) h
    have ih := lgS_slow hx hxy n hy
    have hl := log2_mono (x := x + n) (y := y + n) (by omega) (by omega)
    have s1 := lgS_step (K := K) (n := y + n) (by omega) hy
    have s2 := lgS_step (K := K) (n := x + n) (by omega) (by omega)
    have hp : 2 ^ (K - (y + n).log2) ≤ 2 ^ (K - (x + n).log2) := Nat.pow_le_pow_right (by decide) (by omega)
    rw [← Nat.add_assoc, ← Nat.add_assoc, s1, s2]
    omega
theorem lgN_slow {x y n : Nat} (hx : x ≠ 0) (hxy : x ≤ y) : lgN (y + n) + lgN x ≤ lgN (x + n) + lgN y + 1 := by
  have hK : (y + n).log2 < (y + n).log2 + 1 := by omega
  generalize hk : (y + n).log2 + 1 = K at hK
  have h := lgS_slow hx hxy n hK
  have l1 := log2_mono (x := x) (y := y + n) (by omega) hx
  have l2 := log2_mono (x := y) (y := y + n) (by omega) (by omega)
  have l3 := log2_mono (x := x + n) (y := y + n) (by omega) (by omega)
  rw [lgS_div (K := K) (n := y + n) (by omega) (by omega), lgS_div (K := K) hx (by omega), lgS_div (K := K) (n := x + n) (by omega) (by omega), lgS_div (K := K) (n := y) (by omega) (by omega)]
  have hp := Nat.two_pow_pos K
  generalize 2 ^ K = P at *
  have a1 := Nat.div_add_mod (lgS K (y + n)) P
  have a2 := Nat.div_add_mod (lgS K x) P
  have a3 := Nat.div_add_mod (lgS K (x + n)) P
  have a4 := Nat.div_add_mod (lgS K y) P
  have b1 := Nat.mod_lt (lgS K (x + n)) hp
  have b2 := Nat.mod_lt (lgS K y) hp
  generalize lgS K (y + n) / P = d1 at *
  generalize lgS K x / P = d2 at *
  generalize lgS K (x + n) / P = d3 at *
  generalize lgS K y / P = d4 at *
  refine Nat.le_of_lt_succ (Nat.lt_of_mul_lt_mul_left (a := P) ?_)
  have e1 : P * (d1 + d2) = P * d1 + P * d2 := Nat.mul_add _ _ _
  have e2 : P * (d3 + d4 + 1).succ = P * d3 + P * d4 + P + P := by rw [Nat.mul_succ, Nat.mul_add, Nat.mul_add, Nat.mul_one]
  rw [e1, e2]
  omega
theorem lgN_mono {x y : Nat} (h : x ≤ y) : lgN x ≤ lgN y := by
  by_cases hx : x = 0
  · subst hx; exact Nat.zero_le _
  · obtain ⟨d, rfl⟩ : ∃ d, y = x + d := ⟨y - x, by omega⟩
    clear h
    generalize hk : (x + d).log2 + 1 = K
    have hm : ∀ d, (x + d).log2 < K → lgS K x ≤ lgS K (x + d) := by
      intro d
      induction d with
      | zero => intro _; exact Nat.le_refl _
      | succ d ih =>
        intro h
        have hy : (x + d).log2 < K := Nat.lt_of_le_of_lt (log2_mono (by omega) (by omega)) h
        exact Nat.le_trans (ih hy) (lgS_mono1 (n := x + d) (by omega) hy)
    have l1 := log2_mono (x := x) (y := x + d) (by omega) hx
    rw [lgS_div (K := K) hx (by omega), lgS_div (K := K) (n := x + d) (by omega) (by omega)]
    exact Nat.div_le_div_right (hm d (by omega))
theorem lg_mono {x y : Int} (h : x ≤ y) : lg x ≤ lg y := by
  unfold lg
  have := lgN_mono (x := x.toNat) (y := y.toNat) (by omega)
  omega
theorem lg_slow {x y n : Int} (hx : 1 ≤ x) (hxy : x ≤ y) (hn : 0 ≤ n) : lg (y + n) - lg (x + n) ≤ lg y - lg x + 1 := by
  have := lgN_slow (x := x.toNat) (y := y.toNat) (n := n.toNat) (by omega) (by omega)
  unfold lg
  rw [show (y + n).toNat = y.toNat + n.toNat by omega, show (x + n).toNat = x.toNat + n.toNat by omega]
  omega
theorem lg_dbl {n : Int} (h : 1 ≤ n) : lg (2 * n) = lg n + 8 := by
  have hn : n.toNat ≠ 0 := by omega
  have h1 := Nat.log2_self_le hn
  have h2 := Nat.lt_log2_self (n := n.toNat)
  unfold lg
  rw [show (2 * n).toNat = 2 * n.toNat by omega, lgN_of (2 * n.toNat) (n.toNat.log2 + 1) (by rw [Nat.pow_succ]; omega) (by rw [Nat.pow_succ]; omega), lgN_of n.toNat n.toNat.log2 h1 h2]
  have : 8 * (2 * n.toNat - 2 ^ (n.toNat.log2 + 1)) / 2 ^ (n.toNat.log2 + 1) = 8 * (n.toNat - 2 ^ n.toNat.log2) / 2 ^ n.toNat.log2 := by
    rw [Nat.pow_succ, show 8 * (2 * n.toNat - 2 ^ n.toNat.log2 * 2) = 8 * (n.toNat - 2 ^ n.toNat.log2) * 2 by omega, Nat.mul_div_mul_right _ _ (by decide)]
  rw [this]
  omega
theorem lg_one : lg 1 = 0 := by decide +kernel
theorem lg_pos {n : Int} (h : 2 ≤ n) : 8 ≤ lg n := by
  have := lg_mono h
  have h2 : lg 2 = 8 := by decide +kernel
  omega
end Go.Proofs.Ytcimnkijpifkjaa

/-
  The plain law of layer 11, continued: the models that are made are valid, and small; so are those behind what is learnt.
-/
namespace Go.Proofs.Ytcimnkijpifkjaa
open Go Go.RowKit

/-! The order of texts. -/
theorem bl_trans : ∀ (x y z : List UInt8), Op.bytesLess x y = true → Op.bytesLess y z = true → Op.bytesLess x z = true
  | _, [], _, h, _ => by cases ‹List UInt8› <;> simp [Op.bytesLess] at h
  | [], _ :: _, [], _, h => by simp [Op.bytesLess] at h
  | [], _ :: _, _ :: _, _, _ => by simp [Op.bytesLess]
  | _ :: _, _ :: _, [], _, h => by simp [Op.bytesLess] at h
  | a :: x, b :: y, c :: z, h1, h2 => by
    simp only [Op.bytesLess, Bool.or_eq_true, Bool.and_eq_true, decide_eq_true_eq, beq_iff_eq, UInt8.lt_iff_toNat_lt] at *
    rcases h1 with h1 | ⟨rfl, h1⟩
    · rcases h2 with h2 | ⟨rfl, h2⟩
      · left; omega
      · left; exact h1
    · rcases h2 with h2 | ⟨rfl, h2⟩
      · left; exact h2
      · right; exact ⟨rfl, bl_trans x y z h1 h2⟩
theorem bl_tri : ∀ (x y : List UInt8), Op.bytesLess x y = true ∨ x = y ∨ Op.bytesLess y x = true
  | [], [] => by simp
  | [], _ :: _ => by simp [Op.bytesLess]
  | _ :: _, [] => by simp [Op.bytesLess]
  | a :: x, b :: y => by
    have ih := bl_tri x y
    simp only [Op.bytesLess, Bool.or_eq_true, Bool.and_eq_true, decide_eq_true_eq, beq_iff_eq, UInt8.lt_iff_toNat_lt, List.cons.injEq]
    rcases Nat.lt_trichotomy a.toNat b.toNat with h | h | h
    · left; left; exact h
    · have e : a = b := UInt8.toNat_inj.1 h
      subst e
      rcases ih with h | h | h
      · left; right; exact ⟨rfl, h⟩
      · right; left; exact ⟨rfl, h⟩
      · right; right; right; exact ⟨rfl, h⟩
    · right; right; left; exact h
theorem bl_irr : ∀ (x : List UInt8), Op.bytesLess x x = false
  | [] => rfl
  | a :: x => by simp [Op.bytesLess, bl_irr x]
theorem ltS_trans {x y z : ByteArray} (h1 : ltS x y = true) (h2 : ltS y z = true) : ltS x z = true := bl_trans _ _ _ h1 h2
theorem toList_inj {x y : ByteArray} (h : x.toList = y.toList) : x = y := by
  have := bytes_eqb x y
  rw [h] at this
  simpa using this.symm
theorem ltS_tri (x y : ByteArray) : ltS x y = true ∨ x = y ∨ ltS y x = true := by
  rcases bl_tri x.toList y.toList with h | h | h
  · exact .inl h
  · exact .inr (.inl (toList_inj h))
  · exact .inr (.inr h)
theorem ltS_irr (x : ByteArray) : ltS x x = false := bl_irr _

theorem incW_cons {q : ByteArray} {l : List ByteArray} : incW (q :: l) = true ↔ (∀ y ∈ l, ltS q y = true) ∧ incW l = true := by
  induction l generalizing q with
  | nil => simp [incW]
  | cons y l ih =>
    rw [incW, Bool.and_eq_true]
    constructor
    · rintro ⟨h1, h2⟩
      refine ⟨fun z hz => ?_, h2⟩
      rcases List.mem_cons.1 hz with rfl | hz
      · exact h1
      · exact ltS_trans h1 ((ih.1 h2).1 z hz)
    · rintro ⟨h1, h2⟩
      exact ⟨h1 y (by simp), h2⟩
/-- A word put into increasing words. -/
def insS (s : ByteArray) : List ByteArray → List ByteArray
  | [] => [s]
  | q :: l => if ltS s q then s :: q :: l else if s = q then q :: l else q :: insS s l
theorem insDone (s : ByteArray) : ∀ (l acc : List ByteArray), (l.foldl (insStep s) (acc, true)) = (acc ++ l, true)
  | [], acc => by simp
  | q :: l, acc => by
    have h1 : insStep s (acc, true) q = (acc ++ [q], true) := by unfold insStep; simp
    rw [List.foldl_cons, h1, insDone s l]; simp
theorem insRun (s : ByteArray) : ∀ (l acc : List ByteArray), (let st := l.foldl (insStep s) (acc, false); if st.2 then st.1 else st.1 ++ [s]) = acc ++ insS s l
  | [], acc => by simp [insS]
  | q :: l, acc => by
    rw [List.foldl_cons]
    by_cases h1 : ltS s q = true
    · have e : insStep s (acc, false) q = (acc ++ [s] ++ [q], true) := by unfold insStep; simp [h1]
      rw [e, insDone, insS, if_pos h1]; simp
    · by_cases h2 : s = q
      · have e : insStep s (acc, false) q = (acc ++ [q], true) := by subst h2; unfold insStep; simp [ltS_irr]
        rw [e, insDone, insS, if_neg h1, if_pos h2]; simp
      · have e : insStep s (acc, false) q = (acc ++ [q], false) := by unfold insStep; simp [h1, h2]
        rw [e, insRun s l, insS, if_neg h1, if_neg h2]; simp
theorem insW_eq (l : List ByteArray) (s : ByteArray) : insW l s = insS s l := by
  have := insRun s l []
  unfold insW insTo
  rw [List.take_length]
  simpa using this
theorem insS_mem {s y : ByteArray} : ∀ {l : List ByteArray}, y ∈ insS s l → y = s ∨ y ∈ l
  | [], h => .inl (by simpa [insS] using h)
  | q :: l, h => by
    rw [insS] at h
    split at h
    · simpa using h
    · split at h
      · exact .inr h
      · rcases List.mem_cons.1 h with h | h
        · exact .inr (by simp [h])
        · rcases insS_mem h with h | h
          · exact .inl h
          · exact .inr (by simp [h])
theorem insS_inc (s : ByteArray) : ∀ {l : List ByteArray}, incW l = true → incW (insS s l) = true
  | [], _ => rfl
  | q :: l, h => by
    obtain ⟨h1, h2⟩ := incW_cons.1 h
    rw [insS]
    split
    · rename_i e
      rw [incW_cons]
      refine ⟨fun y hy => ?_, h⟩
      rcases List.mem_cons.1 hy with rfl | hy
      · exact e
      · exact ltS_trans e (h1 y hy)
    · rename_i e
      split
      · exact h
      · rename_i e2
        rw [incW_cons]
        refine ⟨fun y hy => ?_, insS_inc s h2⟩
        rcases insS_mem hy with rfl | hy
        · rcases ltS_tri y q with h | h | h
          · exact absurd h e
          · exact absurd h e2
          · exact h
        · exact h1 y hy
theorem insS_len (s : ByteArray) : ∀ l : List ByteArray, (insS s l).length ≤ l.length + 1
  | [] => by simp [insS]
  | q :: l => by
    have := insS_len s l
    rw [insS]
    split
    · simp
    · split
      · simp
      · simp; omega
theorem wsTo_next (x : Raw) (k : Nat) : wsTo x (k + 1) = wsTo x k ∨ ∃ r, wsTo x (k + 1) = insS (wordOf r) (wsTo x k) := by
  by_cases hk : k < x.words.length
  · exact .inr ⟨_, by rw [wsTo_succ (List.getElem?_eq_getElem hk), insW_eq]⟩
  · left; unfold wsTo; rw [List.take_of_length_le (by omega), List.take_of_length_le (by omega)]
theorem wsTo_ok (x : Raw) : ∀ k, incW (wsTo x k) = true ∧ 2 ≤ (wsTo x k).length ∧ (wsTo x k).length ≤ k + 2
  | 0 => by
    show incW ab = true ∧ 2 ≤ ab.length ∧ ab.length ≤ 0 + 2
    decide +kernel
  | k + 1 => by
    obtain ⟨h1, h2, h3⟩ := wsTo_ok x k
    rcases wsTo_next x k with h | ⟨r, h⟩
    · rw [h]; exact ⟨h1, h2, by omega⟩
    · have hge := insW_ge (wsTo x k) (wordOf r)
      rw [insW_eq] at hge
      rw [h]
      have := insS_len (wordOf r) (wsTo x k)
      exact ⟨insS_inc _ h1, by omega, by omega⟩
/-- Counts and sums up to B, at most L pairs. -/
structure Lim (m : Mo) (B : Int) (L : Nat) : Prop where
  ok : MoOK m
  cs : total m.cs ≤ B
  ps : ∀ a, sumAt m.ps a ≤ B
  ln : m.ps.length ≤ L
theorem total_le_len {B : Int} {l : List Int} (h : ∀ x ∈ l, x ≤ B) : total l ≤ B * l.length := by
  induction l with
  | nil => simp [total]
  | cons y l ih =>
    have h1 := ih (fun x hx => h x (List.mem_cons_of_mem _ hx))
    have h2 := h y (List.mem_cons_self)
    simp only [total, List.foldr_cons, List.length_cons] at *
    have : B * ((l.length + 1 : Nat) : Int) = B * (l.length : Int) + B := by rw [Int.natCast_add, Int.mul_add]; omega
    omega
theorem csOK_of {cs : List Int} {n : Nat} (hl : cs.length = n) (h0 : ∀ c ∈ cs, 0 ≤ c) (ht : total cs ≤ 1073741824) : CsOK cs n :=
  CsTo.all (k := cs.length) ⟨fun c hc => h0 c (List.mem_of_mem_take hc), by rw [List.take_length]; exact ht⟩ (Nat.le_refl _) hl
theorem psOK_of {ps : List Pr} {n : Nat} (hl : ps.length ≤ 1000) (hr : ∀ p ∈ ps, PRange n p) (hi : incP ps = true) (hs : ∀ a, sumAt ps a ≤ 1073741824) : PsOK ps n :=
  PsTo.all (k := ps.length) ⟨fun p hp => hr p (List.mem_of_mem_take hp), (incP_iff ps).1 hi, fun a => by rw [List.take_length]; exact hs a⟩ rfl hl
theorem insP_range {n : Nat} {g : Pr} {l : List Pr} (hl : ∀ p ∈ l, PRange n p) (hg : PRange n g) : ∀ p ∈ insP g l, PRange n p := fun p hp => by
  rcases insP_mem hp with rfl | h | ⟨q, hq, h1, h2, rfl⟩
  · exact hg
  · exact hl p h
  · have := hl q hq
    unfold PRange at *
    simp only
    omega
structure PsGood (n : Nat) (B : Int) (L : Nat) (ps : List Pr) : Prop where
  rng : ∀ p ∈ ps, PRange n p
  inc : incP ps = true
  sum : ∀ a, sumAt ps a ≤ B
  len : ps.length ≤ L
theorem PsGood.ins {n : Nat} {B : Int} {L : Nat} {ps : List Pr} (h : PsGood n B L ps) {g : Pr} (hg : PRange n g) : PsGood n (B + g.n) (L + 1) (insP g ps) := by
  have h0 : 1 ≤ g.n := hg.2.2
  refine ⟨insP_range h.rng hg, insP_inc g h.inc, fun a => ?_, ?_⟩
  · rw [insP_sum]
    have := h.sum a
    split <;> omega
  · have := (insP_len g ps).2
    have := h.len
    omega
theorem PsGood.mono {n : Nat} {B B' : Int} {L L' : Nat} {ps : List Pr} (h : PsGood n B L ps) (h1 : B ≤ B') (h2 : L ≤ L') : PsGood n B' L' ps :=
  ⟨h.rng, h.inc, fun a => Int.le_trans (h.sum a) h1, Nat.le_trans h.len h2⟩
theorem psTo_good (x : Raw) (n : Nat) (hn : 0 < n) (hb : ∀ u ∈ x.uses, (0 ≤ u.1 ∧ u.1 ≤ 255) ∧ (0 ≤ u.2.1 ∧ u.2.1 ≤ 255) ∧ (0 ≤ u.2.2 ∧ u.2.2 ≤ 255)) : ∀ k : Nat, PsGood n (16 * k) k (psTo x n k)
  | 0 => ⟨by simp [psTo], rfl, by simp [psTo, sumAt, total], by simp [psTo]⟩
  | k + 1 => by
    have ih := psTo_good x n hn hb k
    by_cases hk : k < x.uses.length
    · have hu := hb x.uses[k] (List.getElem_mem hk)
      rw [psTo_succ (List.getElem?_eq_getElem hk), addP_eq _ ih.inc]
      have h1 := Int.emod_nonneg (x.uses[k].1) (show (n : Int) ≠ 0 by omega)
      have h2 := Int.emod_lt_of_pos (x.uses[k].1) (show (0 : Int) < n by omega)
      have h3 := Int.emod_nonneg (x.uses[k].2.1) (show (n : Int) ≠ 0 by omega)
      have h4 := Int.emod_lt_of_pos (x.uses[k].2.1) (show (0 : Int) < n by omega)
      have hr : PRange n (useP n x.uses[k]) := by
        unfold PRange useP
        simp only
        omega
      refine (ih.ins hr).mono ?_ (Nat.le_refl _)
      unfold useP
      simp only
      omega
    · have : psTo x n (k + 1) = psTo x n k := by unfold psTo; rw [List.take_of_length_le (by omega), List.take_of_length_le (by omega)]
      rw [this]
      exact ih.mono (by omega) (by omega)
theorem csTo_len (x : Raw) (j : Nat) : (csTo x j).length = j := by simp [csTo]
theorem csTo_rng (x : Raw) (j : Nat) (hb : ∀ c ∈ x.counts, 0 ≤ c ∧ c ≤ 255) : ∀ c ∈ csTo x j, 0 ≤ c ∧ c ≤ 255 := fun c hc => by
  unfold csTo at hc
  obtain ⟨i, _, rfl⟩ := List.mem_map.1 hc
  rw [List.getD_eq_getElem?_getD]
  cases h : x.counts[i]? with
  | none => simp
  | some y => exact hb y (List.mem_of_getElem? h)
/-- What Made makes is valid, and small. -/
theorem made_lim (x : Raw) (b2 : ∀ c ∈ x.counts, 0 ≤ c ∧ c ≤ 255) (b3 : ∀ u ∈ x.uses, (0 ≤ u.1 ∧ u.1 ≤ 255) ∧ (0 ≤ u.2.1 ∧ u.2.1 ≤ 255) ∧ (0 ≤ u.2.2 ∧ u.2.2 ≤ 255)) (bk : 0 ≤ x.back ∧ x.back ≤ 255) :
    Lim (madeM x) 2048 8 ∧ 2 ≤ (madeM x).ws.length ∧ (madeM x).ws.length ≤ 8 := by
  obtain ⟨h1, h2, h3⟩ := wsTo_ok x 6
  have hg := psTo_good x (wsTo x 6).length (by omega) b3 8
  have hc := csTo_rng x (wsTo x 6).length b2
  have ht := total_le_len (B := 255) (fun c h => (hc c h).2)
  rw [csTo_len] at ht
  have ht2 : total (csTo x (wsTo x 6).length) ≤ 2048 := by omega
  refine ⟨⟨⟨⟨⟨⟨⟨by show 1 ≤ (wsTo x 6).length; omega, by show (wsTo x 6).length ≤ 200; omega⟩, wsTo_words x 6, h1⟩, ?_⟩, ?_⟩, by show 0 ≤ x.back; omega, by show x.back ≤ 1000; omega⟩, ht2, ?_, hg.len⟩, h2, h3⟩
  · exact csOK_of (csTo_len x _) (fun c h => (hc c h).1) (show total (csTo x (wsTo x 6).length) ≤ _ by omega)
  · exact psOK_of (Nat.le_trans hg.len (by decide)) hg.rng hg.inc (fun a => Int.le_trans (hg.sum a) (by decide))
  · intro a; have := hg.sum a; show sumAt (psTo x _ 8) a ≤ 2048; omega
theorem Lim.good {m : Mo} {B : Int} {L : Nat} (h : Lim m B L) : PsGood m.ws.length B L m.ps := ⟨fun p hp => (h.ok.1.2.2.1 p hp).1, h.ok.1.2.2.2, h.ps, h.ln⟩
theorem total_set {l : List Int} {k : Nat} (v : Int) (hk : k < l.length) : total (l.set k v) = total l - l[k] + v := by
  have e : l = l.take k ++ l[k] :: l.drop (k + 1) := by simp
  have e2 : l.set k v = l.take k ++ v :: l.drop (k + 1) := by
    rw [List.set_eq_take_append_cons_drop, if_pos hk]
  have e3 : total l = total (l.take k) + (l[k] + total (l.drop (k + 1))) := by
    conv => lhs; rw [e]
    rw [total_append]; rfl
  rw [e2, e3, total_append]
  show _ + (v + total (l.drop (k + 1))) = _
  omega
/-- What is learnt leaves a valid model, as long as the numbers are small. -/
theorem next_lim {m : Mo} {B : Int} {L : Nat} (h : Lim m B L) (prev wd n : Int) (h1 : 1 ≤ n) (h2 : 0 ≤ wd) (h3 : wd < m.ws.length) (h4 : prev < m.ws.length) (hB : B + n ≤ 1073741824) (hL : L + 1 ≤ 1000) :
    Lim (nextM m prev wd n) (B + n) (L + 1) ∧ learnM m prev wd n = some (nextM m prev wd n) := by
  obtain ⟨j, rfl⟩ := Int.eq_ofNat_of_zero_le h2
  have hcl : m.cs.length = m.ws.length := h.ok.1.1.2.1
  have hj : j < m.cs.length := by omega
  have h0 := total_nonneg (fun c hc => (h.ok.1.1.2.2.1 c hc).1)
  have hcs := h.cs
  have hc0 : ∀ c ∈ m.cs, 0 ≤ c := fun c hc => (h.ok.1.1.2.2.1 c hc).1
  have ht : total (m.cs.set j (m.cs.getD j 0 + n)) = total m.cs + n := by
    rw [total_set _ hj, List.getD_eq_getElem?_getD, List.getElem?_eq_getElem hj]
    simp; omega
  have hcs' : CsOK (m.cs.set j (m.cs.getD j 0 + n)) m.ws.length := by
    refine csOK_of (by simpa using hcl) (fun c hc => ?_) (by omega)
    rcases List.mem_or_eq_of_mem_set hc with hc | hc
    · exact hc0 c hc
    · rw [hc, List.getD_eq_getElem?_getD, List.getElem?_eq_getElem hj]
      have := hc0 _ (List.getElem_mem hj)
      simp; omega
  have hps : PsGood m.ws.length (B + n) (L + 1) (nextM m prev j n).ps := by
    unfold nextM
    by_cases hp : 0 ≤ prev
    · rw [if_pos hp, countP_eq]
      exact h.good.ins (g := ⟨prev, j, n⟩) ⟨⟨hp, h4⟩, ⟨by simp, by simpa using h3⟩, h1⟩
    · rw [if_neg hp]
      exact h.good.mono (by omega) (by omega)
  have hl : Lim (nextM m prev j n) (B + n) (L + 1) := by
    refine ⟨⟨⟨⟨h.ok.1.1.1, hcs'⟩, ?_⟩, h.ok.2⟩, by unfold nextM; simp only [Int.toNat_natCast]; omega, hps.sum, hps.len⟩
    exact psOK_of (by have := hps.len; omega) hps.rng hps.inc (fun a => by have := hps.sum a; omega)
  refine ⟨hl, ?_⟩
  unfold learnM
  rw [if_pos]
  exact ⟨⟨⟨h1, by omega, by omega, h3, h4⟩, h.ok⟩, hl.ok⟩
end Go.Proofs.Ytcimnkijpifkjaa

/-
  The walks of layer 11: costs of pairs (the reference).
-/
namespace Go.Proofs.Ytcimnkijpifkjaa
open Go Go.RowKit

set_option maxRecDepth 100000 in
set_option maxHeartbeats 4000000 in
theorem pair_any (m : Mo) (A1 A2 A3 : Option Addr) (c1 c2 c3 : Nat) (a : Int) (k : Nat) (w : World) (h : MoR w m A1 A2 A3) (hok : MoOK m) (hk : k < m.cs.length) (ha : a < 65536) (hc3 : m.ps.length ≤ c3) (hm3 : c3 ≤ maxLen) :
    Calls Try.prog 41 #[.agg #[.slice A1 m.ws.length c1, .slice A2 m.cs.length c2, .slice A3 m.ps.length c3, .int .i64 m.back], .int .i64 a, .int .i64 k] w fun e w' => e = .returned (.int .i64 (pcost m a k)) ∧ Below w.heap.size w w' := by
  by_cases h0 : a < 0
  · exact pair_neg m A1 A2 A3 c1 c2 c3 a k w h hok hk h0
  · obtain ⟨j, rfl⟩ := Int.eq_ofNat_of_zero_le (show 0 ≤ a by omega)
    exact pair_pos m A1 A2 A3 c1 c2 c3 j k w h hok hk hc3 hm3

set_option maxRecDepth 100000 in
set_option maxHeartbeats 4000000 in
theorem refpair_any (m : Mo) (A1 A2 A3 : Option Addr) (c1 c2 c3 : Nat) (a : Int) (k : Nat) (w : World) (h : MoR w m A1 A2 A3) (hok : MoOK m) (hk : k < m.cs.length) :
    Calls Try.prog 38 #[.agg #[.slice A1 m.ws.length c1, .slice A2 m.cs.length c2, .slice A3 m.ps.length c3, .int .i64 m.back], .int .i64 a, .int .i64 k] w fun e w' => e = .returned (.int .i64 (pcost m a k)) ∧ Below w.heap.size w w' := by
  have HW : Hid (∀ W, Below (w.heap.size + 1) (w.alloc (.cells #[.slice A1 m.ws.length c1, .slice A2 m.cs.length c2, .slice A3 m.ps.length c3, .int .i64 m.back] 34)) W → Calls Try.prog 22 #[.agg #[.slice A1 m.ws.length c1, .slice A2 m.cs.length c2, .slice A3 m.ps.length c3, .int .i64 m.back], .int .i64 k] W fun e w' => e = .returned (.int .i64 (wcost m k)) ∧ Below W.heap.size W w') := fun W hW =>
    refwcost_any m A1 A2 A3 c1 c2 c3 k W (h.below (unbox hW)) hok.1.1.2 hk
  by_cases ha : a < 0
  · have HP := Lib.hid (show pcost m a k = wcost m k by unfold pcost; rw [if_pos ha])
    clear h hok
    go_enter Try.func38, Try.ntmps38
    go_wp2_with (go_at_call 22; refine (HW.out _ (rebox _ _)).mono ?_; rintro e w1 ⟨rfl, hb1⟩)
    go_ret
    exact ⟨ret_int HP.out.symm, unbox (bx hb1)⟩
  · have hB : Below w.heap.size w (w.alloc (.cells #[.slice A1 m.ws.length c1, .slice A2 m.cs.length c2, .slice A3 m.ps.length c3, .int .i64 m.back] 34)) := unbox (rebox w _)
    have HF := Lib.hid (find_any (.slice A1 m.ws.length c1) (.slice A2 m.cs.length c2) (.int .i64 m.back) A3 m.ps c3 a k _ (h.below hB).h3 h.l3)
    have HS : Hid (∀ W, Below (w.heap.size + 1) (w.alloc (.cells #[.slice A1 m.ws.length c1, .slice A2 m.cs.length c2, .slice A3 m.ps.length c3, .int .i64 m.back] 34)) W → Calls Try.prog 60 #[.agg #[.slice A1 m.ws.length c1, .slice A2 m.cs.length c2, .slice A3 m.ps.length c3, .int .i64 m.back], .int .i64 a] W fun e w' => e = .returned (.int .i64 (sumAt m.ps a)) ∧ Below W.heap.size W w') := fun W hW =>
      sum_any _ _ _ A3 m.ps c3 a W (h.below (unbox hW)).h3 h.l3 h.n
    have hk65 : m.cs.length ≤ 65536 := h.l2
    have hps65 : m.ps.length ≤ 65536 := h.l3
    have hst := sumAt_ok (a := a) hok.1.2
    have hkt := known_bd (a := a) (b := k) hok.1.2
    have hwb := wcost_bd m k hok.1.1.2 hk (by have := hok.1.1.1.1.2; omega)
    have hmb := hok.2
    have hwm : IntKind.i64.wrap (m.back + wcost m k) = m.back + wcost m k := IntWalk.i64_in _ (by omega)
    have lb1 := lg_bd (sumAt m.ps a) (by omega)
    have lb2 := lg_bd (known m.ps a k) (by omega)
    have H := Lib.hid h
    rcases known_spec (a := a) (b := k) hok.1.2 with ⟨i, p, hp, hpa, hpb, hkn, hbef⟩ | ⟨hkn, hno⟩
    · have hi : findI m.ps a k = i := findI_some hbef hp hpa hpb
      have hpn := (hok.1.2.2.1 p (List.mem_of_getElem? hp))
      have hpn1 := hpn.1.2.2
      have hpn2 := hpn.2.1
      have HPC := Lib.hid (show pcost m a k = lg (sumAt m.ps a) - lg p.n by unfold pcost; rw [if_neg ha, if_neg (by omega), hkn])
      have lb3 := lg_bd p.n (by omega)
      have hwl : IntKind.i64.wrap (lg (sumAt m.ps a) - lg p.n) = lg (sumAt m.ps a) - lg p.n := IntWalk.i64_in _ (by omega)
      obtain ⟨hilt, _⟩ := List.getElem?_eq_some_iff.1 hp
      obtain ⟨b, off, q, hA, hbb, hqq, hq0, hq1, hq2⟩ := (h.h3).pr hilt
      obtain rfl : q = p := by rw [hp] at hqq; exact (Option.some.inj hqq).symm
      have hii : (i : Int) < (m.ps.length : Int) := by omega
      have hi0 : (0 : Int) ≤ (i : Int) := by omega
      subst hA
      rw [hi] at HF
      clear hi hp hpn hqq hbef hkn hkt h hok hB hpa hpb lb2
      go_enter Try.func38, Try.ntmps38
      go_wp2_with (go_at_call 62; refine HF.out.mono ?_; rintro e w1 ⟨rfl, hb1⟩)
      have hb := bx hb1
      have hcA : w1.cell? ⟨b, off + i * 3 + 2, none⟩ = some (.int .i64 q.n) := ((unbox hb).cell (p := ⟨b, _, none⟩) hbb).trans hq2
      clear hb1 hq0 hq1 hq2
      have hm0 := box_cell hb 0
      have hm1 := box_cell hb 1
      have hm2 := box_cell hb 2
      have hm3 := box_cell hb 3
      simp at hm0 hm1 hm2 hm3
      have hsz := box_size hb
      have hbs : b < w1.heap.size := by omega
      refine ord_below [(0, false), (1, false), (4, false), (5, false), (6, false), (7, false), (8, false), (9, false), (2, true), (3, true), (10, true), (11, false), (12, false)] (by kernel_rfl) (by kernel_rfl) (by kernel_rfl) (fun _ _ _ _ _ h => h) ?_
      intro W0 hS0
      repeat (first
        | (refine ord_skip rfl rfl ?_; simp only [Act.put, List.setIfInBounds_toArray, List.set_cons_zero, List.set_cons_succ])
        | (refine ord_cskip rfl rfl (by assumption) ?_; simp only [Act.put, List.setIfInBounds_toArray, List.set_cons_zero, List.set_cons_succ])
        | (refine ord_take (v := ?_) rfl rfl ?_ ?_
           rotate_left 1
           focus (intro W hW; obtain ⟨hcW, hfW⟩ := bcell hW; (go_simp <;> with_reducible rfl))
           simp only [Act.put, List.setIfInBounds_toArray, List.set_cons_zero, List.set_cons_succ])
        | (refine ord_call rfl rfl (fun K hK => ?_)
           go_simp
           first
             | (go_at_call 60; refine (HS.out _ (hb.trans (hS0.mono (by omega)))).mono ?_; rintro e w' ⟨rfl, hb'⟩; refine hK.out _ _ (hS0.trans (hb'.mono hS0.size)) (fun hS0 => ?_))
             | (go_at_call 44; refine (reflog_any _ _ (by omega)).mono ?_; rintro e w' ⟨rfl, rfl⟩; refine hK.out _ _ hS0 (fun hS0 => ?_))))
      refine ord_nil ?_
      go_wp2_with fail
      go_ret
      exact ⟨ret_int HPC.out.symm, (unbox hb).trans (hS0.mono (by omega))⟩
    · have hi : findI m.ps a k = -1 := findI_none (k := m.ps.length) (fun p hp => hno p (List.mem_of_mem_take hp)) (Nat.le_refl _)
      have HPC := Lib.hid (show pcost m a k = m.back + wcost m k by unfold pcost; rw [if_neg ha, if_pos hkn])
      rw [hi] at HF
      clear hi hno hkn hkt h hok hB lb2
      go_enter Try.func38, Try.ntmps38
      go_wp2_with (go_at_call 62; refine HF.out.mono ?_; rintro e w1 ⟨rfl, hb1⟩)
      have hb := bx hb1
      clear hb1
      have hm0 := box_cell hb 0
      have hm1 := box_cell hb 1
      have hm2 := box_cell hb 2
      have hm3 := box_cell hb 3
      simp at hm0 hm1 hm2 hm3
      have hsz := box_size hb
      refine ord_below [(0, false), (1, false), (2, false), (3, false), (4, true), (5, false), (6, false)] (by kernel_rfl) (by kernel_rfl) (by kernel_rfl) (fun _ _ _ _ _ h => h) ?_
      intro W0 hS0
      repeat (first
        | (refine ord_skip rfl rfl ?_; simp only [Act.put, List.setIfInBounds_toArray, List.set_cons_zero, List.set_cons_succ])
        | (refine ord_cskip rfl rfl (by assumption) ?_; simp only [Act.put, List.setIfInBounds_toArray, List.set_cons_zero, List.set_cons_succ])
        | (refine ord_take (v := ?_) rfl rfl ?_ ?_
           rotate_left 1
           focus (intro W hW; obtain ⟨hcW, hfW⟩ := bcell hW; (go_simp <;> with_reducible rfl))
           simp only [Act.put, List.setIfInBounds_toArray, List.set_cons_zero, List.set_cons_succ])
        | (refine ord_call rfl rfl (fun K hK => ?_)
           go_simp
           first
             | (go_at_call 22; refine (HW.out _ (hb.trans (hS0.mono (by omega)))).mono ?_; rintro e w' ⟨rfl, hb'⟩; refine hK.out _ _ (hS0.trans (hb'.mono hS0.size)) (fun hS0 => ?_))))
      refine ord_nil ?_
      go_wp2_with fail
      go_ret
      exact ⟨ret_int HPC.out.symm, (unbox hb).trans (hS0.mono (by omega))⟩
end Go.Proofs.Ytcimnkijpifkjaa
