/-
  The walks of layer 21's small functions.
-/
import Derived.Test.YtpjecpefbfobdaaChecked
import Derived.Test.YtpjecpefbfobdaaAreaMath
import Derived.Outline
import Derived.Deep.Light
import Derived.WalkLawsBesides
namespace Go.Proofs.Ytpjecpefbfobdaa
open Go Go.RowKit

theorem letter_any (c : Int) (w : World) : Calls Try.prog 64 #[.int .u8 c] w fun e w' => e = .returned (.bool (letB c)) ∧ w = w' := by
  unfold letB
  by_cases h1 : 97 ≤ c
  · by_cases h2 : c ≤ 122
    all_goals
      go_enter Try.func64, Try.ntmps64
      go_wp2
      go_ret
      exact ⟨ret_bool (by simp; omega), rfl⟩
  · go_enter Try.func64, Try.ntmps64
    go_wp2
    go_ret
    exact ⟨ret_bool (by simp; omega), rfl⟩
theorem refletter_any (c : Int) (w : World) : Calls Try.prog 54 #[.int .u8 c] w fun e w' => e = .returned (.bool (letB c)) ∧ w = w' := by
  unfold letB
  by_cases h1 : 97 ≤ c
  · by_cases h2 : c ≤ 122
    all_goals
      go_enter Try.func54, Try.ntmps54
      go_wp2
      go_ret
      exact ⟨ret_bool (by simp; omega), rfl⟩
  · go_enter Try.func54, Try.ntmps54
    go_wp2
    go_ret
    exact ⟨ret_bool (by simp; omega), rfl⟩

theorem beyond_any (v lo hi : Int) (w : World) (hv : -536870912 ≤ v ∧ v ≤ 536870912) (h2 : Small lo) (h3 : Small hi) : Calls Try.prog 55 #[.int .i64 v, .int .i64 lo, .int .i64 hi] w fun e w' => e = .returned (.int .i64 (bey v lo hi)) ∧ w = w' := by
  unfold Small at h2 h3
  obtain ⟨v1, v2⟩ := hv
  obtain ⟨l1, l2⟩ := h2
  obtain ⟨u1, u2⟩ := h3
  go_enter Try.func55, Try.ntmps55
  go_wp2
  all_goals
    go_ret
    exact ⟨ret_int (by unfold bey; omega), rfl⟩
theorem away_any (v lo hi : Int) (w : World) (hv : -536870912 ≤ v ∧ v ≤ 536870912) (h2 : Small lo) (h3 : Small hi) : Calls Try.prog 53 #[.int .i64 v, .int .i64 lo, .int .i64 hi] w fun e w' => e = .returned (.int .i64 (bey v lo hi)) ∧ w = w' := by
  unfold Small at h2 h3
  obtain ⟨v1, v2⟩ := hv
  obtain ⟨l1, l2⟩ := h2
  obtain ⟨u1, u2⟩ := h3
  go_enter Try.func53, Try.ntmps53
  go_wp2
  all_goals
    go_ret
    exact ⟨ret_int (by unfold bey; omega), rfl⟩
end Go.Proofs.Ytpjecpefbfobdaa
