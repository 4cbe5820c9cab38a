/-
  The plain law of layer 11, continued: the logarithm grows ever slower; models that are made are valid, and stay so.
-/
import Derived.Test.YtbfpcleogdalfaaCostLaw
namespace Go.Proofs.Ytbfpcleogdalfaa
open Go Go.RowKit

/-! The logarithm, scaled by 2 ^ K: its steps get smaller. -/
def lgS (K : Nat) (n : Nat) : Nat := 8 * n.log2 * 2 ^ K + 8 * (n - 2 ^ n.log2) * 2 ^ (K - n.log2)
theorem log2_mono {x y : Nat} (h : x ≤ y) (hx : x ≠ 0) : x.log2 ≤ y.log2 := by
  have h1 := Nat.log2_self_le hx
  exact (Nat.le_log2 (by omega)).2 (Nat.le_trans h1 h)
theorem lgS_div {K n : Nat} (hn : n ≠ 0) (hK : n.log2 ≤ K) : lgN n = lgS K n / 2 ^ K := by
  unfold lgN lgS
  rw [if_neg hn]
  obtain ⟨d, rfl⟩ : ∃ d, K = n.log2 + d := ⟨K - n.log2, by omega⟩
  rw [Nat.add_sub_cancel_left, Nat.add_comm (8 * n.log2 * 2 ^ (n.log2 + d)), Nat.add_mul_div_right _ _ (Nat.two_pow_pos _), Nat.add_comm]
  congr 1
  rw [Nat.pow_add, Nat.mul_div_mul_right _ _ (Nat.two_pow_pos d)]
theorem lgS_step {K n : Nat} (hn : n ≠ 0) (hK : n.log2 < K) : lgS K (n + 1) = lgS K n + 8 * 2 ^ (K - n.log2) := by
  have h1 := Nat.log2_self_le hn
  have h2 := Nat.lt_log2_self (n := n)
  by_cases h : n + 1 < 2 ^ (n.log2 + 1)
  · have e : (n + 1).log2 = n.log2 := (Nat.log2_eq_iff (by omega)).2 ⟨by omega, h⟩
    unfold lgS
    rw [e, show n + 1 - 2 ^ n.log2 = (n - 2 ^ n.log2) + 1 by omega, Nat.mul_add, Nat.add_mul]
    omega
  · have hn1 : n + 1 = 2 ^ (n.log2 + 1) := by omega
    have e : (n + 1).log2 = n.log2 + 1 := (Nat.log2_eq_iff (by omega)).2 ⟨by omega, by rw [hn1]; exact Nat.pow_lt_pow_right (by decide) (by omega)⟩
    unfold lgS
    rw [e, show n + 1 - 2 ^ (n.log2 + 1) = 0 by omega]
    obtain ⟨d, rfl⟩ : ∃ d, K = n.log2 + 1 + d := ⟨K - n.log2 - 1, by omega⟩
    rw [show n.log2 + 1 + d - n.log2 = d + 1 by omega]
    have h3 : n - 2 ^ n.log2 + 1 = 2 ^ n.log2 := by rw [Nat.pow_succ] at hn1; omega
    have h4 : 8 * (n - 2 ^ n.log2) * 2 ^ (d + 1) + 8 * 2 ^ (d + 1) = 8 * 2 ^ (n.log2 + 1 + d) := by
      rw [← Nat.add_mul, show 8 * (n - 2 ^ n.log2) + 8 = 8 * 2 ^ n.log2 by omega, Nat.mul_assoc, ← Nat.pow_add, show n.log2 + (d + 1) = n.log2 + 1 + d by omega]
    rw [Nat.mul_add 8, Nat.add_mul]
    omega
theorem lgS_mono1 {K n : Nat} (hn : n ≠ 0) (hK : n.log2 < K) : lgS K n ≤ lgS K (n + 1) := by rw [lgS_step hn hK]; omega
/-- Adding n to the greater number adds no more than adding it to the smaller one. -/
theorem lgS_slow {K x y : Nat} (hx : x ≠ 0) (hxy : x ≤ y) : ∀ n, (y + n).log2 < K → lgS K (y + n) + lgS K x ≤ lgS K (x + n) + lgS K y
  | 0, _ => by simp only [Nat.add_zero]; omega
  | n + 1, h => by
    have hy : (y + n).log2 < K := Nat.lt_of_le_of_lt (log2_mono (by omega) (by omega)) h
    have ih := lgS_slow hx hxy n hy
    have hl := log2_mono (x := x + n) (y := y + n) (by omega) (by omega)
    have s1 := lgS_step (K := K) (n := y + n) (by omega) hy
    have s2 := lgS_step (K := K) (n := x + n) (by omega) (by omega)
    have hp : 2 ^ (K - (y + n).log2) ≤ 2 ^ (K - (x + n).log2) := Nat.pow_le_pow_right (by decide) (by omega)
    rw [← Nat.add_assoc, ← Nat.add_assoc, s1, s2]
    omega
theorem lgN_slow {x y n : Nat} (hx : x ≠ 0) (hxy : x ≤ y) : lgN (y + n) + lgN x ≤ lgN (x + n) + lgN y + 1 := by
  have hK : (y + n).log2 < (y + n).log2 + 1 := by omega
  generalize hk : (y + n).log2 + 1 = K at hK
  have h := lgS_slow hx hxy n hK
  have l1 := log2_mono (x := x) (y := y + n) (by omega) hx
  have l2 := log2_mono (x := y) (y := y + n) (by omega) (by omega)
  have l3 := log2_mono (x := x + n) (y := y + n) (by omega) (by omega)
  rw [lgS_div (K := K) (n := y + n) (by omega) (by omega), lgS_div (K := K) hx (by omega), lgS_div (K := K) (n := x + n) (by omega) (by omega), lgS_div (K := K) (n := y) (by omega) (by omega)]
  have hp := Nat.two_pow_pos K
  generalize 2 ^ K = P at *
  have a1 := Nat.div_add_mod (lgS K (y + n)) P
  have a2 := Nat.div_add_mod (lgS K x) P
  have a3 := Nat.div_add_mod (lgS K (x + n)) P
  have a4 := Nat.div_add_mod (lgS K y) P
  have b1 := Nat.mod_lt (lgS K (x + n)) hp
  have b2 := Nat.mod_lt (lgS K y) hp
  generalize lgS K (y + n) / P = d1 at *
  generalize lgS K x / P = d2 at *
  generalize lgS K (x + n) / P = d3 at *
  generalize lgS K y / P = d4 at *
  refine Nat.le_of_lt_succ (Nat.lt_of_mul_lt_mul_left (a := P) ?_)
  have e1 : P * (d1 + d2) = P * d1 + P * d2 := Nat.mul_add _ _ _
  have e2 : P * (d3 + d4 + 1).succ = P * d3 + P * d4 + P + P := by rw [Nat.mul_succ, Nat.mul_add, Nat.mul_add, Nat.mul_one]
  rw [e1, e2]
  omega
theorem lgN_mono {x y : Nat} (h : x ≤ y) : lgN x ≤ lgN y := by
  by_cases hx : x = 0
  · subst hx; exact Nat.zero_le _
  · obtain ⟨d, rfl⟩ : ∃ d, y = x + d := ⟨y - x, by omega⟩
    clear h
    generalize hk : (x + d).log2 + 1 = K
    have hm : ∀ d, (x + d).log2 < K → lgS K x ≤ lgS K (x + d) := by
      intro d
      induction d with
      | zero => intro _; exact Nat.le_refl _
      | succ d ih =>
        intro h
        have hy : (x + d).log2 < K := Nat.lt_of_le_of_lt (log2_mono (by omega) (by omega)) h
        exact Nat.le_trans (ih hy) (lgS_mono1 (n := x + d) (by omega) hy)
    have l1 := log2_mono (x := x) (y := x + d) (by omega) hx
    rw [lgS_div (K := K) hx (by omega), lgS_div (K := K) (n := x + d) (by omega) (by omega)]
    exact Nat.div_le_div_right (hm d (by omega))
theorem lg_mono {x y : Int} (h : x ≤ y) : lg x ≤ lg y := by
  unfold lg
  have := lgN_mono (x := x.toNat) (y := y.toNat) (by omega)
  omega
theorem lg_slow {x y n : Int} (hx : 1 ≤ x) (hxy : x ≤ y) (hn : 0 ≤ n) : lg (y + n) - lg (x + n) ≤ lg y - lg x + 1 := by
  have := lgN_slow (x := x.toNat) (y := y.toNat) (n := n.toNat) (by omega) (by omega)
  unfold lg
  rw [show (y + n).toNat = y.toNat + n.toNat by omega, show (x + n).toNat = x.toNat + n.toNat by omega]
  omega
theorem lg_dbl {n : Int} (h : 1 ≤ n) : lg (2 * n) = lg n + 8 := by
  have hn : n.toNat ≠ 0 := by omega
  have h1 := Nat.log2_self_le hn
  have h2 := Nat.lt_log2_self (n := n.toNat)
  unfold lg
  rw [show (2 * n).toNat = 2 * n.toNat by omega, lgN_of (2 * n.toNat) (n.toNat.log2 + 1) (by rw [Nat.pow_succ]; omega) (by rw [Nat.pow_succ]; omega), lgN_of n.toNat n.toNat.log2 h1 h2]
  have : 8 * (2 * n.toNat - 2 ^ (n.toNat.log2 + 1)) / 2 ^ (n.toNat.log2 + 1) = 8 * (n.toNat - 2 ^ n.toNat.log2) / 2 ^ n.toNat.log2 := by
    rw [Nat.pow_succ, show 8 * (2 * n.toNat - 2 ^ n.toNat.log2 * 2) = 8 * (n.toNat - 2 ^ n.toNat.log2) * 2 by omega, Nat.mul_div_mul_right _ _ (by decide)]
  rw [this]
  omega
theorem lg_one : lg 1 = 0 := by decide +kernel
theorem lg_pos {n : Int} (h : 2 ≤ n) : 8 ≤ lg n := by
  have := lg_mono h
  have h2 : lg 2 = 8 := by decide +kernel
  omega
end Go.Proofs.Ytbfpcleogdalfaa
