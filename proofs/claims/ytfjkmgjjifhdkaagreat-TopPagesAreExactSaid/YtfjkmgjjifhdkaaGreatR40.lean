/-
  CostLaw, CostLaw2, CostLaw3, CostWalkK, CostWalkW, CostWalkX, CostWalkY, CostMB, CostPairs, CxCost, Ret2, joined. No conditions.
-/
import Derived.Test.YtfjkmgjjifhdkaaGreatR38
import Derived.Test.YtfjkmgjjifhdkaaGreatR39
import Derived.Test.YtfjkmgjjifhdkaaGreatR37
import Derived.Test.YtfjkmgjjifhdkaaGreatR35
import Derived.Test.YtfjkmgjjifhdkaaGreatR11
/-
  The plain law of layer 11: what is put into increasing lists, which models are valid, how costs change; no walk in sight.
-/
namespace Go.Proofs.YtfjkmgjjifhdkaaGreat
open Go Go.RowKit

/-! Putting a pair into an increasing list. -/
def insP (g : Pr) : List Pr → List Pr
  | [] => [g]
  | q :: l => if lessP g q then g :: q :: l else if q.a = g.a ∧ q.b = g.b then ⟨q.a, q.b, q.n + g.n⟩ :: l else q :: insP g l
theorem lessP_iff (p q : Pr) : lessP p q = true ↔ (p.a < q.a ∨ (p.a = q.a ∧ p.b < q.b)) := by unfold lessP; simp
theorem lessP_no (p q : Pr) : lessP p q = false ↔ ¬ (p.a < q.a ∨ (p.a = q.a ∧ p.b < q.b)) := by rw [← lessP_iff]; simp
theorem insP_lt {g q : Pr} {l : List Pr} (h : g.a < q.a ∨ (g.a = q.a ∧ g.b < q.b)) : insP g (q :: l) = g :: q :: l := by
  rw [insP, if_pos ((lessP_iff _ _).2 h)]
theorem insP_eq {g q : Pr} {l : List Pr} (h1 : q.a = g.a) (h2 : q.b = g.b) : insP g (q :: l) = ⟨q.a, q.b, q.n + g.n⟩ :: l := by
  rw [insP, if_neg (by rw [lessP_iff]; omega), if_pos ⟨h1, h2⟩]
theorem insP_gt {g q : Pr} {l : List Pr} (h : q.a < g.a ∨ (q.a = g.a ∧ q.b < g.b)) : insP g (q :: l) = q :: insP g l := by
  rw [insP, if_neg (by rw [lessP_iff]; omega), if_neg (by omega)]
theorem tri (g q : Pr) : (g.a < q.a ∨ (g.a = q.a ∧ g.b < q.b)) ∨ (q.a = g.a ∧ q.b = g.b) ∨ (q.a < g.a ∨ (q.a = g.a ∧ q.b < g.b)) := by omega
theorem incP_cons {q : Pr} {l : List Pr} : incP (q :: l) = true ↔ (∀ y ∈ l, lessP q y = true) ∧ incP l = true := by
  induction l generalizing q with
  | nil => simp [incP]
  | cons y l ih =>
    rw [incP, Bool.and_eq_true]
    constructor
    · rintro ⟨h1, h2⟩
      refine ⟨fun z hz => ?_, h2⟩
      rcases List.mem_cons.1 hz with rfl | hz
      · exact h1
      · have h3 := (ih.1 h2).1 z hz
        rw [lessP_iff] at *; omega
    · rintro ⟨h1, h2⟩
      exact ⟨h1 y (by simp), h2⟩
theorem insP_mem {g y : Pr} : ∀ {l : List Pr}, y ∈ insP g l → y = g ∨ y ∈ l ∨ ∃ q ∈ l, q.a = g.a ∧ q.b = g.b ∧ y = ⟨q.a, q.b, q.n + g.n⟩
  | [], h => .inl (by simpa [insP] using h)
  | q :: l, h => by
    rcases tri g q with h1 | ⟨h1, h2⟩ | h1
    · rw [insP_lt h1] at h
      rcases List.mem_cons.1 h with h | h
      · exact .inl h
      · exact .inr (.inl h)
    · rw [insP_eq h1 h2] at h
      rcases List.mem_cons.1 h with h | h
      · exact .inr (.inr ⟨q, by simp, h1, h2, h⟩)
      · exact .inr (.inl (by simp [h]))
    · rw [insP_gt h1] at h
      rcases List.mem_cons.1 h with h | h
      · exact .inr (.inl (by simp [h]))
      · rcases insP_mem h with h | h | ⟨z, hz, e⟩
        · exact .inl h
        · exact .inr (.inl (by simp [h]))
        · exact .inr (.inr ⟨z, by simp [hz], e⟩)
theorem insP_inc (g : Pr) : ∀ {l : List Pr}, incP l = true → incP (insP g l) = true
  | [], _ => rfl
  | q :: l, h => by
    obtain ⟨h1, h2⟩ := incP_cons.1 h
    rcases tri g q with h3 | ⟨h3, h4⟩ | h3
    · rw [insP_lt h3, incP_cons]
      refine ⟨fun y hy => ?_, h⟩
      rcases List.mem_cons.1 hy with rfl | hy
      · exact (lessP_iff _ _).2 h3
      · have := h1 y hy
        rw [lessP_iff] at *; omega
    · rw [insP_eq h3 h4, incP_cons]
      exact ⟨fun y hy => by have := h1 y hy; rw [lessP_iff] at *; exact this, h2⟩
    · rw [insP_gt h3, incP_cons]
      refine ⟨fun y hy => ?_, insP_inc g h2⟩
      rcases insP_mem hy with rfl | hy | ⟨z, hz, _, _, rfl⟩
      · exact (lessP_iff _ _).2 h3
      · exact h1 y hy
      · have := h1 z hz; rw [lessP_iff] at *; exact this
theorem addDone (p : Pr) : ∀ (l acc : List Pr), (∀ q ∈ l, ¬ (q.a = p.a ∧ q.b = p.b)) → l.foldl (addStep p) (acc, true) = (acc ++ l, true)
  | [], acc, _ => by simp
  | q :: l, acc, h => by
    have h1 : addStep p (acc, true) q = (acc ++ [q], true) := by
      unfold addStep; rw [if_neg (by simp), if_neg (h q (by simp))]
    rw [List.foldl_cons, h1, addDone p l _ (fun z hz => h z (by simp [hz]))]
    simp
theorem addRun (p : Pr) : ∀ (l acc : List Pr), incP l = true → (let st := l.foldl (addStep p) (acc, false); if st.2 then st.1 else st.1 ++ [p]) = acc ++ insP p l
  | [], acc, _ => by simp [insP]
  | q :: l, acc, h => by
    obtain ⟨h1, h2⟩ := incP_cons.1 h
    rcases tri p q with h3 | ⟨h3, h4⟩ | h3
    · have e : addStep p (acc, false) q = (acc ++ [p] ++ [q], true) := by unfold addStep; rw [if_pos (by simp [(lessP_iff _ _).2 h3])]
      rw [List.foldl_cons, e, addDone p l _ (fun z hz => by have := h1 z hz; rw [lessP_iff] at this; omega), insP_lt h3]
      simp
    · have e : addStep p (acc, false) q = (acc ++ [⟨q.a, q.b, q.n + p.n⟩], true) := by
        unfold addStep; rw [if_neg (by simp [lessP_no]; omega), if_pos ⟨h3, h4⟩]
      rw [List.foldl_cons, e, addDone p l _ (fun z hz => by have := h1 z hz; rw [lessP_iff] at this; omega), insP_eq h3 h4]
      simp
    · have e : addStep p (acc, false) q = (acc ++ [q], false) := by
        unfold addStep; rw [if_neg (by simp [lessP_no]; omega), if_neg (by omega)]
      rw [List.foldl_cons, e, addRun p l _ h2, insP_gt h3]
      simp
theorem addP_eq {ps : List Pr} (p : Pr) (h : incP ps = true) : addP ps p = insP p ps := by
  have := addRun p ps [] h
  unfold addP addTo
  rw [List.take_length]
  simpa using this
theorem insP_len (g : Pr) : ∀ l : List Pr, l.length ≤ (insP g l).length ∧ (insP g l).length ≤ l.length + 1
  | [] => by simp [insP]
  | q :: l => by
    have ih := insP_len g l
    rcases tri g q with h1 | ⟨h1, h2⟩ | h1
    · rw [insP_lt h1]; simp
    · rw [insP_eq h1 h2]; simp
    · rw [insP_gt h1]; simp; omega
theorem sumAt_cons (q : Pr) (l : List Pr) (a : Int) : sumAt (q :: l) a = (if q.a = a then q.n else 0) + sumAt l a := by
  unfold sumAt
  by_cases h : q.a = a
  · rw [List.filter_cons_of_pos (by simpa using h), if_pos h]; simp [total]
  · rw [List.filter_cons_of_neg (by simpa using h), if_neg h]; simp [total]
theorem insP_sum (g : Pr) (a : Int) : ∀ l, sumAt (insP g l) a = sumAt l a + if g.a = a then g.n else 0
  | [] => by rw [insP, sumAt_cons]; simp [sumAt, total]
  | q :: l => by
    have ih := insP_sum g a l
    rcases tri g q with h1 | ⟨h1, h2⟩ | h1
    · rw [insP_lt h1, sumAt_cons, sumAt_cons]; omega
    · rw [insP_eq h1 h2, sumAt_cons, sumAt_cons]
      simp only
      split <;> split <;> omega
    · rw [insP_gt h1, sumAt_cons, sumAt_cons, ih]; omega
theorem known_cons {q : Pr} {l : List Pr} (h : incP (q :: l) = true) (a b : Int) : known (q :: l) a b = if q.a = a ∧ q.b = b then q.n else known l a b := by
  obtain ⟨h1, h2⟩ := incP_cons.1 h
  by_cases hq : q.a = a ∧ q.b = b
  · rw [if_pos hq]
    have e := known_keep (ps := [q]) (qs := l) (a := a) (b := b) (fun p hp he => by have := h1 p hp; rw [lessP_iff] at this; omega)
    rw [show q :: l = [q] ++ l from rfl, e]
    unfold known
    simp [hq]
  · rw [if_neg hq]
    unfold known
    rw [List.foldl_cons, if_neg (by simpa using hq)]
end Go.Proofs.YtfjkmgjjifhdkaaGreat

/-
  The plain law of layer 11, continued: the logarithm grows ever slower; models that are made are valid, and stay so.
-/
namespace Go.Proofs.YtfjkmgjjifhdkaaGreat
open Go Go.RowKit

/-! The logarithm, scaled by 2 ^ K: its steps get smaller. -/
def lgS (K : Nat) (n : Nat) : Nat := 8 * n.log2 * 2 ^ K + 8 * (n - 2 ^ n.log2) * 2 ^ (K - n.log2)
theorem log2_mono {x y : Nat} (h : x ≤ y) (hx : x ≠ 0) : x.log2 ≤ y.log2 := by
  have h1 := Nat.log2_self_le hx
  exact (Nat.le_log2 (by omega)).2 (Nat.le_trans h1 h)
theorem lgS_div {K n : Nat} (hn : n ≠ 0) (hK : n.log2 ≤ K) : lgN n = lgS K n / 2 ^ K := by
  unfold lgN lgS
  rw [if_neg hn]
  obtain ⟨d, rfl⟩ : ∃ d, K = n.log2 + d := ⟨K - n.log2, by omega⟩
  rw [Nat.add_sub_cancel_left, Nat.add_comm (8 * n.log2 * 2 ^ (n.log2 + d)), Nat.add_mul_div_right _ _ (Nat.two_pow_pos _), Nat.add_comm]
  congr 1
  rw [Nat.pow_add, Nat.mul_div_mul_right _ _ (Nat.two_pow_pos d)]
theorem lgS_step {K n : Nat} (hn : n ≠ 0) (hK : n.log2 < K) : lgS K (n + 1) = lgS K n + 8 * 2 ^ (K - n.log2) := by
  have h1 := Nat.log2_self_le hn
  have h2 := Nat.lt_log2_self (n := n)
  by_cases h : n + 1 < 2 ^ (n.log2 + 1)
  · have e : (n + 1).log2 = n.log2 := (Nat.log2_eq_iff (by omega)).2 ⟨by omega, h⟩
    unfold lgS
    rw [e, show n + 1 - 2 ^ n.log2 = (n - 2 ^ n.log2) + 1 by omega, Nat.mul_add, Nat.add_mul]
    omega
  · have hn1 : n + 1 = 2 ^ (n.log2 + 1) := by omega
    have e : (n + 1).log2 = n.log2 + 1 := (Nat.log2_eq_iff (by omega)).2 ⟨by omega, by rw [hn1]; exact Nat.pow_lt_pow_right (by decide) (by omega)⟩
    unfold lgS
    rw [e, show n + 1 - 2 ^ (n.log2 + 1) = 0 by omega]
    obtain ⟨d, rfl⟩ : ∃ d, K = n.log2 + 1 + d := ⟨K - n.log2 - 1, by omega⟩
    rw [show n.log2 + 1 + d - n.log2 = d + 1 by omega]
    have h3 : n - 2 ^ n.log2 + 1 = 2 ^ n.log2 := by rw [Nat.pow_succ] at hn1; omega
    have h4 : 8 * (n - 2 ^ n.log2) * 2 ^ (d + 1) + 8 * 2 ^ (d + 1) = 8 * 2 ^ (n.log2 + 1 + d) := by
      rw [← Nat.add_mul, show 8 * (n - 2 ^ n.log2) + 8 = 8 * 2 ^ n.log2 by omega, Nat.mul_assoc, ← Nat.pow_add, show n.log2 + (d + 1) = n.log2 + 1 + d by omega]
    rw [Nat.mul_add 8, Nat.add_mul]
    omega
theorem lgS_mono1 {K n : Nat} (hn : n ≠ 0) (hK : n.log2 < K) : lgS K n ≤ lgS K (n + 1) := by rw [lgS_step hn hK]; omega
theorem lgN_mono {x y : Nat} (h : x ≤ y) : lgN x ≤ lgN y := by
  by_cases hx : x = 0
  · subst hx; exact Nat.zero_le _
  · obtain ⟨d, rfl⟩ : ∃ d, y = x + d := ⟨y - x, by omega⟩
    clear h
    generalize hk : (x + d).log2 + 1 = K
    have hm : ∀ d, (x + d).log2 < K → lgS K x ≤ lgS K (x + d) := by
      intro d
      induction d with
      | zero => intro _; exact Nat.le_refl _
      | succ d ih =>
        intro h
        have hy : (x + d).log2 < K := Nat.lt_of_le_of_lt (log2_mono (by omega) (by omega)) h
        exact Nat.le_trans (ih hy) (lgS_mono1 (n := x + d) (by omega) hy)
    have l1 := log2_mono (x := x) (y := x + d) (by omega) hx
    rw [lgS_div (K := K) hx (by omega), lgS_div (K := K) (n := x + d) (by omega) (by omega)]
    exact Nat.div_le_div_right (hm d (by omega))
theorem lg_mono {x y : Int} (h : x ≤ y) : lg x ≤ lg y := by
  unfold lg
  have := lgN_mono (x := x.toNat) (y := y.toNat) (by omega)
  omega
end Go.Proofs.YtfjkmgjjifhdkaaGreat

/-
  The plain law of layer 11, continued: the models that are made are valid, and small; so are those behind what is learnt.
-/
namespace Go.Proofs.YtfjkmgjjifhdkaaGreat
open Go Go.RowKit

/-! The order of texts. -/
theorem bl_trans : ∀ (x y z : List UInt8), Op.bytesLess x y = true → Op.bytesLess y z = true → Op.bytesLess x z = true
  | _, [], _, h, _ => by cases ‹List UInt8› <;> simp [Op.bytesLess] at h
  | [], _ :: _, [], _, h => by simp [Op.bytesLess] at h
  | [], _ :: _, _ :: _, _, _ => by simp [Op.bytesLess]
  | _ :: _, _ :: _, [], _, h => by simp [Op.bytesLess] at h
  | a :: x, b :: y, c :: z, h1, h2 => by
    simp only [Op.bytesLess, Bool.or_eq_true, Bool.and_eq_true, decide_eq_true_eq, beq_iff_eq, UInt8.lt_iff_toNat_lt] at *
    rcases h1 with h1 | ⟨rfl, h1⟩
    · rcases h2 with h2 | ⟨rfl, h2⟩
      · left; omega
      · left; exact h1
    · rcases h2 with h2 | ⟨rfl, h2⟩
      · left; exact h2
      · right; exact ⟨rfl, bl_trans x y z h1 h2⟩
theorem bl_tri : ∀ (x y : List UInt8), Op.bytesLess x y = true ∨ x = y ∨ Op.bytesLess y x = true
  | [], [] => by simp
  | [], _ :: _ => by simp [Op.bytesLess]
  | _ :: _, [] => by simp [Op.bytesLess]
  | a :: x, b :: y => by
    have ih := bl_tri x y
    simp only [Op.bytesLess, Bool.or_eq_true, Bool.and_eq_true, decide_eq_true_eq, beq_iff_eq, UInt8.lt_iff_toNat_lt, List.cons.injEq]
    rcases Nat.lt_trichotomy a.toNat b.toNat with h | h | h
    · left; left; exact h
    · have e : a = b := UInt8.toNat_inj.1 h
      subst e
      rcases ih with h | h | h
      · left; right; exact ⟨rfl, h⟩
      · right; left; exact ⟨rfl, h⟩
      · right; right; right; exact ⟨rfl, h⟩
    · right; right; left; exact h
theorem bl_irr : ∀ (x : List UInt8), Op.bytesLess x x = false
  | [] => rfl
  | a :: x => by simp [Op.bytesLess, bl_irr x]
theorem ltS_trans {x y z : ByteArray} (h1 : ltS x y = true) (h2 : ltS y z = true) : ltS x z = true := bl_trans _ _ _ h1 h2
theorem toList_inj {x y : ByteArray} (h : x.toList = y.toList) : x = y := by
  have := bytes_eqb x y
  rw [h] at this
  simpa using this.symm
theorem ltS_tri (x y : ByteArray) : ltS x y = true ∨ x = y ∨ ltS y x = true := by
  rcases bl_tri x.toList y.toList with h | h | h
  · exact .inl h
  · exact .inr (.inl (toList_inj h))
  · exact .inr (.inr h)
theorem ltS_irr (x : ByteArray) : ltS x x = false := bl_irr _

theorem incW_cons {q : ByteArray} {l : List ByteArray} : incW (q :: l) = true ↔ (∀ y ∈ l, ltS q y = true) ∧ incW l = true := by
  induction l generalizing q with
  | nil => simp [incW]
  | cons y l ih =>
    rw [incW, Bool.and_eq_true]
    constructor
    · rintro ⟨h1, h2⟩
      refine ⟨fun z hz => ?_, h2⟩
      rcases List.mem_cons.1 hz with rfl | hz
      · exact h1
      · exact ltS_trans h1 ((ih.1 h2).1 z hz)
    · rintro ⟨h1, h2⟩
      exact ⟨h1 y (by simp), h2⟩
/-- A word put into increasing words. -/
def insS (s : ByteArray) : List ByteArray → List ByteArray
  | [] => [s]
  | q :: l => if ltS s q then s :: q :: l else if s = q then q :: l else q :: insS s l
theorem insDone (s : ByteArray) : ∀ (l acc : List ByteArray), (l.foldl (insStep s) (acc, true)) = (acc ++ l, true)
  | [], acc => by simp
  | q :: l, acc => by
    have h1 : insStep s (acc, true) q = (acc ++ [q], true) := by unfold insStep; simp
    rw [List.foldl_cons, h1, insDone s l]; simp
theorem insRun (s : ByteArray) : ∀ (l acc : List ByteArray), (let st := l.foldl (insStep s) (acc, false); if st.2 then st.1 else st.1 ++ [s]) = acc ++ insS s l
  | [], acc => by simp [insS]
  | q :: l, acc => by
    rw [List.foldl_cons]
    by_cases h1 : ltS s q = true
    · have e : insStep s (acc, false) q = (acc ++ [s] ++ [q], true) := by unfold insStep; simp [h1]
      rw [e, insDone, insS, if_pos h1]; simp
    · by_cases h2 : s = q
      · have e : insStep s (acc, false) q = (acc ++ [q], true) := by subst h2; unfold insStep; simp [ltS_irr]
        rw [e, insDone, insS, if_neg h1, if_pos h2]; simp
      · have e : insStep s (acc, false) q = (acc ++ [q], false) := by unfold insStep; simp [h1, h2]
        rw [e, insRun s l, insS, if_neg h1, if_neg h2]; simp
theorem insW_eq (l : List ByteArray) (s : ByteArray) : insW l s = insS s l := by
  have := insRun s l []
  unfold insW insTo
  rw [List.take_length]
  simpa using this
theorem insS_mem {s y : ByteArray} : ∀ {l : List ByteArray}, y ∈ insS s l → y = s ∨ y ∈ l
  | [], h => .inl (by simpa [insS] using h)
  | q :: l, h => by
    rw [insS] at h
    split at h
    · simpa using h
    · split at h
      · exact .inr h
      · rcases List.mem_cons.1 h with h | h
        · exact .inr (by simp [h])
        · rcases insS_mem h with h | h
          · exact .inl h
          · exact .inr (by simp [h])
theorem insS_inc (s : ByteArray) : ∀ {l : List ByteArray}, incW l = true → incW (insS s l) = true
  | [], _ => rfl
  | q :: l, h => by
    obtain ⟨h1, h2⟩ := incW_cons.1 h
    rw [insS]
    split
    · rename_i e
      rw [incW_cons]
      refine ⟨fun y hy => ?_, h⟩
      rcases List.mem_cons.1 hy with rfl | hy
      · exact e
      · exact ltS_trans e (h1 y hy)
    · rename_i e
      split
      · exact h
      · rename_i e2
        rw [incW_cons]
        refine ⟨fun y hy => ?_, insS_inc s h2⟩
        rcases insS_mem hy with rfl | hy
        · rcases ltS_tri y q with h | h | h
          · exact absurd h e
          · exact absurd h e2
          · exact h
        · exact h1 y hy
theorem insS_len (s : ByteArray) : ∀ l : List ByteArray, (insS s l).length ≤ l.length + 1
  | [] => by simp [insS]
  | q :: l => by
    have := insS_len s l
    rw [insS]
    split
    · simp
    · split
      · simp
      · simp; omega
theorem wsTo_next (x : Raw) (k : Nat) : wsTo x (k + 1) = wsTo x k ∨ ∃ r, wsTo x (k + 1) = insS (wordOf r) (wsTo x k) := by
  by_cases hk : k < x.words.length
  · exact .inr ⟨_, by rw [wsTo_succ (List.getElem?_eq_getElem hk), insW_eq]⟩
  · left; unfold wsTo; rw [List.take_of_length_le (by omega), List.take_of_length_le (by omega)]
theorem wsTo_ok (x : Raw) : ∀ k, incW (wsTo x k) = true ∧ 2 ≤ (wsTo x k).length ∧ (wsTo x k).length ≤ k + 2
  | 0 => by
    show incW ab = true ∧ 2 ≤ ab.length ∧ ab.length ≤ 0 + 2
    decide +kernel
  | k + 1 => by
    obtain ⟨h1, h2, h3⟩ := wsTo_ok x k
    rcases wsTo_next x k with h | ⟨r, h⟩
    · rw [h]; exact ⟨h1, h2, by omega⟩
    · have hge := insW_ge (wsTo x k) (wordOf r)
      rw [insW_eq] at hge
      rw [h]
      have := insS_len (wordOf r) (wsTo x k)
      exact ⟨insS_inc _ h1, by omega, by omega⟩
/-- Counts and sums up to B, at most L pairs. -/
structure Lim (m : Mo) (B : Int) (L : Nat) : Prop where
  ok : MoOK m
  cs : total m.cs ≤ B
  ps : ∀ a, sumAt m.ps a ≤ B
  ln : m.ps.length ≤ L
theorem total_le_len {B : Int} {l : List Int} (h : ∀ x ∈ l, x ≤ B) : total l ≤ B * l.length := by
  induction l with
  | nil => simp [total]
  | cons y l ih =>
    have h1 := ih (fun x hx => h x (List.mem_cons_of_mem _ hx))
    have h2 := h y (List.mem_cons_self)
    simp only [total, List.foldr_cons, List.length_cons] at *
    have : B * ((l.length + 1 : Nat) : Int) = B * (l.length : Int) + B := by rw [Int.natCast_add, Int.mul_add]; omega
    omega
theorem csOK_of {cs : List Int} {n : Nat} (hl : cs.length = n) (h0 : ∀ c ∈ cs, 0 ≤ c) (ht : total cs ≤ 1073741824) : CsOK cs n :=
  CsTo.all (k := cs.length) ⟨fun c hc => h0 c (List.mem_of_mem_take hc), by rw [List.take_length]; exact ht⟩ (Nat.le_refl _) hl
theorem psOK_of {ps : List Pr} {n : Nat} (hl : ps.length ≤ 1000) (hr : ∀ p ∈ ps, PRange n p) (hi : incP ps = true) (hs : ∀ a, sumAt ps a ≤ 1073741824) : PsOK ps n :=
  PsTo.all (k := ps.length) ⟨fun p hp => hr p (List.mem_of_mem_take hp), (incP_iff ps).1 hi, fun a => by rw [List.take_length]; exact hs a⟩ rfl hl
theorem insP_range {n : Nat} {g : Pr} {l : List Pr} (hl : ∀ p ∈ l, PRange n p) (hg : PRange n g) : ∀ p ∈ insP g l, PRange n p := fun p hp => by
  rcases insP_mem hp with rfl | h | ⟨q, hq, h1, h2, rfl⟩
  · exact hg
  · exact hl p h
  · have := hl q hq
    unfold PRange at *
    simp only
    omega
structure PsGood (n : Nat) (B : Int) (L : Nat) (ps : List Pr) : Prop where
  rng : ∀ p ∈ ps, PRange n p
  inc : incP ps = true
  sum : ∀ a, sumAt ps a ≤ B
  len : ps.length ≤ L
theorem PsGood.ins {n : Nat} {B : Int} {L : Nat} {ps : List Pr} (h : PsGood n B L ps) {g : Pr} (hg : PRange n g) : PsGood n (B + g.n) (L + 1) (insP g ps) := by
  have h0 : 1 ≤ g.n := hg.2.2
  refine ⟨insP_range h.rng hg, insP_inc g h.inc, fun a => ?_, ?_⟩
  · rw [insP_sum]
    have := h.sum a
    split <;> omega
  · have := (insP_len g ps).2
    have := h.len
    omega
theorem PsGood.mono {n : Nat} {B B' : Int} {L L' : Nat} {ps : List Pr} (h : PsGood n B L ps) (h1 : B ≤ B') (h2 : L ≤ L') : PsGood n B' L' ps :=
  ⟨h.rng, h.inc, fun a => Int.le_trans (h.sum a) h1, Nat.le_trans h.len h2⟩
theorem psTo_good (x : Raw) (n : Nat) (hn : 0 < n) (hb : ∀ u ∈ x.uses, (0 ≤ u.1 ∧ u.1 ≤ 255) ∧ (0 ≤ u.2.1 ∧ u.2.1 ≤ 255) ∧ (0 ≤ u.2.2 ∧ u.2.2 ≤ 255)) : ∀ k : Nat, PsGood n (16 * k) k (psTo x n k)
  | 0 => ⟨by simp [psTo], rfl, by simp [psTo, sumAt, total], by simp [psTo]⟩
  | k + 1 => by
    have ih := psTo_good x n hn hb k
    by_cases hk : k < x.uses.length
    · have hu := hb x.uses[k] (List.getElem_mem hk)
      rw [psTo_succ (List.getElem?_eq_getElem hk), addP_eq _ ih.inc]
      have h1 := Int.emod_nonneg (x.uses[k].1) (show (n : Int) ≠ 0 by omega)
      have h2 := Int.emod_lt_of_pos (x.uses[k].1) (show (0 : Int) < n by omega)
      have h3 := Int.emod_nonneg (x.uses[k].2.1) (show (n : Int) ≠ 0 by omega)
      have h4 := Int.emod_lt_of_pos (x.uses[k].2.1) (show (0 : Int) < n by omega)
      have hr : PRange n (useP n x.uses[k]) := by
        unfold PRange useP
        simp only
        omega
      refine (ih.ins hr).mono ?_ (Nat.le_refl _)
      unfold useP
      simp only
      omega
    · have : psTo x n (k + 1) = psTo x n k := by unfold psTo; rw [List.take_of_length_le (by omega), List.take_of_length_le (by omega)]
      rw [this]
      exact ih.mono (by omega) (by omega)
theorem csTo_len (x : Raw) (j : Nat) : (csTo x j).length = j := by simp [csTo]
theorem csTo_rng (x : Raw) (j : Nat) (hb : ∀ c ∈ x.counts, 0 ≤ c ∧ c ≤ 255) : ∀ c ∈ csTo x j, 0 ≤ c ∧ c ≤ 255 := fun c hc => by
  unfold csTo at hc
  obtain ⟨i, _, rfl⟩ := List.mem_map.1 hc
  rw [List.getD_eq_getElem?_getD]
  cases h : x.counts[i]? with
  | none => simp
  | some y => exact hb y (List.mem_of_getElem? h)
/-- What Made makes is valid, and small. -/
theorem made_lim (x : Raw) (b2 : ∀ c ∈ x.counts, 0 ≤ c ∧ c ≤ 255) (b3 : ∀ u ∈ x.uses, (0 ≤ u.1 ∧ u.1 ≤ 255) ∧ (0 ≤ u.2.1 ∧ u.2.1 ≤ 255) ∧ (0 ≤ u.2.2 ∧ u.2.2 ≤ 255)) (bk : 0 ≤ x.back ∧ x.back ≤ 255) :
    Lim (madeM x) 2048 8 ∧ 2 ≤ (madeM x).ws.length ∧ (madeM x).ws.length ≤ 8 := by
  obtain ⟨h1, h2, h3⟩ := wsTo_ok x 6
  have hg := psTo_good x (wsTo x 6).length (by omega) b3 8
  have hc := csTo_rng x (wsTo x 6).length b2
  have ht := total_le_len (B := 255) (fun c h => (hc c h).2)
  rw [csTo_len] at ht
  have ht2 : total (csTo x (wsTo x 6).length) ≤ 2048 := by omega
  refine ⟨⟨⟨⟨⟨⟨⟨by show 1 ≤ (wsTo x 6).length; omega, by show (wsTo x 6).length ≤ 200; omega⟩, wsTo_words x 6, h1⟩, ?_⟩, ?_⟩, by show 0 ≤ x.back; omega, by show x.back ≤ 1000; omega⟩, ht2, ?_, hg.len⟩, h2, h3⟩
  · exact csOK_of (csTo_len x _) (fun c h => (hc c h).1) (show total (csTo x (wsTo x 6).length) ≤ _ by omega)
  · exact psOK_of (Nat.le_trans hg.len (by decide)) hg.rng hg.inc (fun a => Int.le_trans (hg.sum a) (by decide))
  · intro a; have := hg.sum a; show sumAt (psTo x _ 8) a ≤ 2048; omega
end Go.Proofs.YtfjkmgjjifhdkaaGreat

/-
  The walks of layer 11: costs of pairs (the reference).
-/
namespace Go.Proofs.YtfjkmgjjifhdkaaGreat
open Go Go.RowKit

set_option maxRecDepth 100000 in
set_option maxHeartbeats 4000000 in
theorem pair_any (m : Mo) (A1 A2 A3 : Option Addr) (c1 c2 c3 : Nat) (a : Int) (k : Nat) (w : World) (h : MoR w m A1 A2 A3) (hok : MoOK m) (hk : k < m.cs.length) (ha : a < 65536) (hc3 : m.ps.length ≤ c3) (hm3 : c3 ≤ maxLen) :
    Calls Tryz.prog 49 #[.agg #[.slice A1 m.ws.length c1, .slice A2 m.cs.length c2, .slice A3 m.ps.length c3, .int .i64 m.back], .int .i64 a, .int .i64 k] w fun e w' => e = .returned (.int .i64 (pcost m a k)) ∧ Below w.heap.size w w' := by
  by_cases h0 : a < 0
  · exact pair_neg m A1 A2 A3 c1 c2 c3 a k w h hok hk h0
  · obtain ⟨j, rfl⟩ := Int.eq_ofNat_of_zero_le (show 0 ≤ a by omega)
    exact pair_pos m A1 A2 A3 c1 c2 c3 j k w h hok hk hc3 hm3

end Go.Proofs.YtfjkmgjjifhdkaaGreat

/-
  The walks of layer 11: Learn, any input; the reference's Learn; when two models are the same.
-/
namespace Go.Proofs.YtfjkmgjjifhdkaaGreat
open Go Go.RowKit

end Go.Proofs.YtfjkmgjjifhdkaaGreat

/-
  The walks of layer 11: when two models are the same.
-/
namespace Go.Proofs.YtfjkmgjjifhdkaaGreat
open Go Go.RowKit

instance : DecidableEq Pr := fun p q =>
  if h : p.a = q.a ∧ p.b = q.b ∧ p.n = q.n then .isTrue (by cases p; cases q; simp at h; obtain ⟨rfl, rfl, rfl⟩ := h; rfl) else .isFalse (fun e => h (by subst e; exact ⟨rfl, rfl, rfl⟩))
end Go.Proofs.YtfjkmgjjifhdkaaGreat

/-
  The walks of layer 11: the fixed examples.
-/
namespace Go.Proofs.YtfjkmgjjifhdkaaGreat
open Go Go.RowKit

theorem slr_of_blk {α : Type} {s : Nat} {enc : α → List Value} {R : World → α → List Value → Prop} {w : World} {g : Nat} {t : TypeId} {xs : List α} (h : Blk w g t (xs.flatMap enc).toArray) (hl : ∀ x, (enc x).length = s) (hR : ∀ x, R w x (enc x)) (hn : xs.length ≤ 65536) :
    SlR s R w (some ⟨g, 0, none⟩) xs := by
  have h1 := own_of_blk (base := 0) (n := xs.length) (cap := xs.length) h (Nat.zero_le _) (Nat.le_refl _) (by unfold maxLen; omega) (flatMap_len hl xs)
  rw [List.take_of_length_le (by rw [flatMap_len hl xs]; exact Nat.le_refl _)] at h1
  obtain ⟨A, cap, hv, _, _, hs⟩ := own_slr (R := R) h1 hl hR rfl
  injection hv with hv
  subst hv
  exact hs
def sanM : Mo := ⟨ab, [0, 3], [], 10⟩
def sanP : Mo := ⟨ab, [0, 3], [⟨0, 0, 3⟩, ⟨0, 1, 1⟩], 10⟩
/-- What the fixed examples keep in memory. -/
structure co_San (B : Nat) (W : World) : Prop where
  b4 : Blk W (B + 1 + 1) 56 #[.slice (some ⟨B, 0, none⟩) 2 2, .slice (some ⟨B + 1, 0, none⟩) 2 2, .slice none 0 0, .int .i64 10]
  b5 : Blk W (B + 1 + 1 + 1) 56 #[.slice (some ⟨B, 0, none⟩) 2 2, .slice (some ⟨B + 1, 0, none⟩) 2 2, .slice (some ⟨B + 1 + 1 + 1 + 1, 0, none⟩) 2 2, .int .i64 10]
  r4 : MoR W sanM (some ⟨B, 0, none⟩) (some ⟨B + 1, 0, none⟩) none
  r5 : MoR W sanP (some ⟨B, 0, none⟩) (some ⟨B + 1, 0, none⟩) (some ⟨B + 1 + 1 + 1 + 1, 0, none⟩)
theorem co_San.below {B : Nat} {W W' : World} (h : co_San B W) (hb : Below W.heap.size W W') : co_San B W' := ⟨h.b4.below hb h.b4.lt, h.b5.below hb h.b5.lt, h.r4.below hb, h.r5.below hb⟩
theorem co_San.alloc {B : Nat} {W : World} (h : co_San B W) (o : Obj) : co_San B (W.alloc o) := h.below ((Below.refl _ _).alloc (Nat.le_refl _) o)
section
variable {B : Nat} {W : World}
end

end Go.Proofs.YtfjkmgjjifhdkaaGreat

/-
  What the statements of layer 11 keep in memory: a model, in a variable of the call's own. What Learn returns, whether it refuses or not.
-/
namespace Go.Proofs.YtfjkmgjjifhdkaaGreat
open Go Go.RowKit

structure MB (m : Mo) (g : Nat) (B1 B2 B3 : Option Addr) (d1 d2 d3 : Nat) (W : World) : Prop where
  b : Blk W g 56 #[.slice B1 m.ws.length d1, .slice B2 m.cs.length d2, .slice B3 m.ps.length d3, .int .i64 m.back]
  r : MoR W m B1 B2 B3
  k : (m.ws.length ≤ d1 ∧ d1 ≤ maxLen) ∧ (m.cs.length ≤ d2 ∧ d2 ≤ maxLen) ∧ (m.ps.length ≤ d3 ∧ d3 ≤ maxLen)
section
variable {m : Mo} {g : Nat} {B1 B2 B3 : Option Addr} {d1 d2 d3 : Nat} {W W' : World}
theorem MB.below (h : MB m g B1 B2 B3 d1 d2 d3 W) (hb : Below W.heap.size W W') : MB m g B1 B2 B3 d1 d2 d3 W' := ⟨h.b.below hb h.b.lt, h.r.below hb, h.k⟩
theorem MB.alloc (h : MB m g B1 B2 B3 d1 d2 d3 W) (o : Obj) : MB m g B1 B2 B3 d1 d2 d3 (W.alloc o) := h.below ((Below.refl _ _).alloc (Nat.le_refl _) o)
theorem mb_new {w2 : World} (hm : MoR w2 m B1 B2 B3) (hc : (m.ws.length ≤ d1 ∧ d1 ≤ maxLen) ∧ (m.cs.length ≤ d2 ∧ d2 ≤ maxLen) ∧ (m.ps.length ≤ d3 ∧ d3 ≤ maxLen)) : MB m w2.heap.size B1 B2 B3 d1 d2 d3 (w2.alloc (.cells #[.slice B1 m.ws.length d1, .slice B2 m.cs.length d2, .slice B3 m.ps.length d3, .int .i64 m.back] 56)) :=
  ⟨Blk.new _ _ _, hm.below ((Below.refl _ _).alloc (Nat.le_refl _) _), hc⟩
end
theorem mem_le_total {l : List Int} (h : ∀ c ∈ l, 0 ≤ c) : ∀ x ∈ l, x ≤ total l := fun x hx => by
  obtain ⟨a, b, rfl⟩ := List.append_of_mem hx
  have h1 := total_nonneg (l := a) (fun x hx => h x (by simp [hx]))
  have h2 := total_nonneg (l := b) (fun x hx => h x (by simp [hx]))
  rw [total_append]
  simp only [total, List.foldr_cons] at *
  omega
theorem wcost_nonneg {m : Mo} (hok : MoOK m) (k : Nat) (hk : k < m.cs.length) : 0 ≤ wcost m k := by
  have hx := List.getElem?_eq_getElem hk
  rw [wcost_at hx]
  have h0 : ∀ c ∈ m.cs, 0 ≤ c := fun c hc => (hok.1.1.2.2.1 c hc).1
  have h1 := mem_le_total h0 _ (List.getElem_mem hk)
  have h2 : 1 ≤ m.ws.length := hok.1.1.1.1.1
  have := lg_mono (x := m.cs[k] + 1) (y := total m.cs + m.ws.length) (by omega)
  omega
end Go.Proofs.YtfjkmgjjifhdkaaGreat

/-
  CostPairs: the plain law, the walk.
-/
namespace Go.Proofs.YtfjkmgjjifhdkaaGreat
open Go Go.RowKit

theorem known_of_mem : ∀ {ps : List Pr}, incP ps = true → ∀ p ∈ ps, known ps p.a p.b = p.n
  | [], _, p, hp => by simp at hp
  | q :: l, h, p, hp => by
    rw [known_cons h]
    rcases List.mem_cons.1 hp with rfl | hp
    · rw [if_pos ⟨rfl, rfl⟩]
    · have h1 := (incP_cons.1 h).1 p hp
      rw [lessP_iff] at h1
      rw [if_neg (by omega)]
      exact known_of_mem (incP_cons.1 h).2 p hp
theorem only_sum {ps : List Pr} {i : Nat} {p : Pr} (hp : ps[i]? = some p) (h : ∀ j q, j ≠ i → ps[j]? = some q → q.a ≠ p.a) : sumAt ps p.a = p.n := by
  obtain ⟨hi, he⟩ := List.getElem?_eq_some_iff.1 hp
  have e : ps = ps.take i ++ p :: ps.drop (i + 1) := by rw [← he]; simp
  rw [e, sumAt_append, sumAt_cons, if_pos rfl, sumAt_none (fun q hq => by
    obtain ⟨j, hj, hjq⟩ := mem_take_get hq
    exact h j q (by omega) hjq), sumAt_none (fun q hq => by
    obtain ⟨j, hj, hjq⟩ := mem_drop_get hq
    exact h j q (by omega) hjq)]
  omega
theorem pcost_known {m : Mo} (hok : MoOK m) {p : Pr} (hp : p ∈ m.ps) : pcost m p.a p.b.toNat = lg (sumAt m.ps p.a) - lg p.n := by
  have hr := (hok.1.2.2.1 p hp).1
  unfold PRange at hr
  have hk : known m.ps p.a ((p.b.toNat : Nat) : Int) = p.n := by
    rw [Int.toNat_of_nonneg (by omega)]; exact known_of_mem hok.1.2.2.2 p hp
  unfold pcost
  rw [if_neg (by omega), hk, if_neg (by omega)]
theorem n_le_sum {ps : List Pr} {n : Nat} (h : ∀ p ∈ ps, PRange n p) {p : Pr} (hp : p ∈ ps) : p.n ≤ sumAt ps p.a := by
  unfold sumAt
  refine mem_le_total (fun c hc => ?_) _ (List.mem_map.2 ⟨p, List.mem_filter.2 ⟨hp, by simp⟩, rfl⟩)
  obtain ⟨q, hq, rfl⟩ := List.mem_map.1 hc
  have := (h q (List.mem_filter.1 hq).1).2.2
  omega
/-- What the inner loop over the pairs has seen: no other pair after the same word, if b is set. -/
def OnlyTo (ps : List Pr) (i : Nat) (p : Pr) (k : Nat) (b : Bool) : Prop := b = true → ∀ j q, j < k → j ≠ i → ps[j]? = some q → q.a ≠ p.a
theorem OnlyTo.skip {ps : List Pr} {i k : Nat} {p q : Pr} {b : Bool} (h : OnlyTo ps i p k b) (hq : ps[k]? = some q) (hn : k = i ∨ q.a ≠ p.a) : OnlyTo ps i p (k + 1) b := fun hb j z hj hji hz => by
  rcases Nat.lt_succ_iff_lt_or_eq.1 hj with hj | rfl
  · exact h hb j z hj hji hz
  · rw [hq] at hz; rw [← Option.some.inj hz]
    rcases hn with hn | hn
    · exact absurd hn hji
    · exact hn
theorem OnlyTo.no (ps : List Pr) (i k : Nat) (p : Pr) : OnlyTo ps i p k false := fun h => by cases h
theorem OnlyTo.all {m : Mo} {i : Nat} {p : Pr} (h : OnlyTo m.ps i p m.ps.length true) (hok : MoOK m) (hp : m.ps[i]? = some p) : pcost m p.a p.b.toNat = 0 := by
  rw [pcost_known hok (List.mem_of_getElem? hp), only_sum hp (fun j q hj hq => h rfl j q (List.getElem?_eq_some_iff.1 hq).1 hj hq)]
  omega
end Go.Proofs.YtfjkmgjjifhdkaaGreat

/-
  The plain law of layer 20: costs of words are small numbers. No program in sight; no conditions.
-/
namespace Go.Proofs.YtfjkmgjjifhdkaaGreat
open List

theorem pcost_in {m : Mo} (hok : MoOK m) (a : Int) {k : Nat} (hk : k < m.cs.length) : 0 ≤ pcost m a k ∧ pcost m a k ≤ 1512 := by
  have hw0 := wcost_nonneg hok k hk
  have hl : m.ws.length ≤ 200 := hok.1.1.1.1.2
  have hw1 := (wcost_bd m k hok.1.1.2 hk (by omega)).2
  have hb := hok.2
  unfold pcost
  split
  · omega
  · rename_i ha
    split
    · omega
    · rename_i hn
      rcases known_spec (a := a) (b := (k : Int)) hok.1.2 with ⟨i, p, hp, hpa, hpb, hkn, _⟩ | ⟨hz, _⟩
      · have hm : p ∈ m.ps := mem_of_getElem? hp
        have h1 := n_le_sum (fun q hq => (hok.1.2.2.1 q hq).1) hm
        rw [hpa] at h1
        rw [hkn]
        have h2 := lg_mono h1
        have h3 := (sumAt_ok (a := a) hok.1.2)
        have h4 := lg_bd (sumAt m.ps a) (by omega)
        have h5 := (hok.1.2.2.1 p hm).2.1
        have h6 := lg_bd p.n (by omega)
        omega
      · exact absurd hz hn
theorem cx_mkLk_ok {x : La} {m : Mo} {prev : Int} (hm : MoOK m) (hf : FitsL x m.ws.length) (hco : ∀ e ∈ x.es, e.co ≤ 1000) {i k : Nat} {p : Int × Int} {e : Ed} (hp : (nodesL x prev)[i]? = some p) (he : x.es[k]? = some e) (hfr : e.fr = p.1) :
    LkOK ((nodesL x prev).length : Int) (cx_mkLk x m prev i p.2 k) ∧ (cx_mkLk x m prev i p.2 k).cost = e.co + pcost m p.2 e.wd.toNat ∧ e.co ≤ (cx_mkLk x m prev i p.2 k).cost := by
  rw [cx_mkLk_at he]
  have hem := mem_of_getElem? he
  have hok := hf.1.2.2.1 e hem
  have hwd := hf.2 e hem
  have hcs : m.cs.length = m.ws.length := hm.1.1.2.1
  have hce := hco e hem
  have hc := pcost_in hm p.2 (k := e.wd.toNat) (by have := hok.2.1; omega)
  have hin := arr_in hf.1 prev hem
  have hg := ix_get hin
  obtain ⟨hil, _⟩ := List.getElem?_eq_some_iff.1 hg
  have hlt := node_lt hf.1 hp hg (by have := hok.1; unfold arrL; split <;> simp <;> omega)
  obtain ⟨hkl, _⟩ := List.getElem?_eq_some_iff.1 he
  have := hf.1.2.1
  have h3 := hok.2.2
  refine ⟨⟨?_, ?_, ?_, ?_, ?_⟩, rfl, ?_⟩
  · show (0 : Int) ≤ (i : Int); omega
  · show (i : Int) < (ixL (nodesL x prev) (arrL x.n e) : Int); omega
  · show (ixL (nodesL x prev) (arrL x.n e) : Int) < _; omega
  · show (0 : Int) ≤ (k : Int) ∧ (k : Int) ≤ 1000000; omega
  · show 0 ≤ e.co + pcost m p.2 e.wd.toNat ∧ e.co + pcost m p.2 e.wd.toNat ≤ 1000000; omega
  · show e.co ≤ e.co + pcost m p.2 e.wd.toNat; omega
end Go.Proofs.YtfjkmgjjifhdkaaGreat

/-
  Returns of a struct that lies in a block of the call's own, beside two other values.
-/
namespace Go.Proofs.YtfjkmgjjifhdkaaGreat
open Go Go.RowKit

section
variable {P : Program} {fn : Func} {p u v : Tmp} {ty : TypeId} {R : Ending → World → Prop} {a : Act} {w : World} {g : Nat} {t : TypeId} {cs : Array Value} {d : TypeDesc}
theorem results_cell_tmp2 (h : fn.results = #[.cell p ty, .tmp u, .tmp v]) (tmps : Array Value) (P : Program) (w : World) :
    (results fn tmps).run P w = ((asAddr (tmps.getD p undef)).run P w).andThen fun a w₁ => ((loadVar ty a).run P w₁).andThen fun x w₂ => .ok (.tuple #[x, tmps.getD u undef, tmps.getD v undef]) w₂ := by
  simp only [results, h]
  simp [Sem.run_bind, Result.andThen]
theorem ret_cell_tmp2 (hB : Blk w g t cs) (h : fn.results = #[.cell p ty, .tmp u, .tmp v]) (hp : a.tmps.getD p undef = .pointer (some ⟨g, 0, none⟩))
    (hu : P.underlying ty = some d) (hd : (match d with | .struct _ | .array _ _ => true | _ => false) = true) (hi : (P.info? ty).map (·.size) = some cs.size) (hdf : a.defers = [])
    (hR : R (.returned (.tuple #[.agg cs, a.tmps.getD u undef, a.tmps.getD v undef])) w) : bodyPost P fn R .ret a w := by
  refine bodyPost_ret ?_ hdf hR
  rw [results_cell_tmp2 h]
  have h1 : (loadVar ty ⟨g, 0, none⟩).run P w = .ok (.agg cs) w := run_loadVar_row w g t ty cs (0, 0) d hB hu hd hi
  rw [hp]
  show (((asAddr (.pointer (some ⟨g, 0, none⟩))).run P w).andThen _) = _
  simp only [asAddr, Sem.run_pure, Result.andThen_ok, h1]
end
end Go.Proofs.YtfjkmgjjifhdkaaGreat
