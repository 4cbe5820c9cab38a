/-
  The plain mathematics of layer 11, continued: bounds of logarithms, costs of words and pairs.
-/
import Derived.Test.YtbfpcleogdalfaaCostMath
namespace Go.Proofs.Ytbfpcleogdalfaa
open Go Go.RowKit

theorem lg_bd (n : Int) (h : n ≤ 4611686018427387904) : 0 ≤ lg n ∧ lg n ≤ 512 := by
  refine ⟨by unfold lg; omega, ?_⟩
  by_cases h1 : n < 1
  · rw [lg_neg n h1]; decide
  · have hl := isLog_log2 n (by omega)
    have hk := isLog_le62 hl h
    obtain ⟨h2, h3⟩ := isLog_nat hl
    unfold lg
    rw [lgN_of _ _ h2 h3]
    have h4 : 8 * (n.toNat - 2 ^ n.toNat.log2) / 2 ^ n.toNat.log2 < 8 := by
      rw [Nat.div_lt_iff_lt_mul (Nat.two_pow_pos _)]
      rw [Nat.pow_succ] at h3
      omega
    omega
/-- The cost of a word. -/
def wcost (m : Mo) (k : Nat) : Int := lg (total m.cs + m.ws.length) - lg (m.cs.getD k 0 + 1)
theorem wcost_at {m : Mo} {k : Nat} {x : Int} (hx : m.cs[k]? = some x) : wcost m k = lg (total m.cs + m.ws.length) - lg (x + 1) := by
  unfold wcost; simp [hx]
end Go.Proofs.Ytbfpcleogdalfaa
