/-
  The walks of layer 11's small functions: each function's contract.
-/
import Derived.Test.YtbfpcleogdalfaaShelf
import Derived.Test.YtbfpcleogdalfaaChecked
import Derived.Test.YtbfpcleogdalfaaLib
import Derived.Test.YtbfpcleogdalfaaCostMath
import Derived.Outline
import Derived.Deep.Light
namespace Go.Proofs.Ytbfpcleogdalfaa
open Go Go.RowKit

set_option maxHeartbeats 400000 in
theorem log_neg (n : Int) (w : World) (h : n < 1) : Calls Try.prog 21 #[.int .i64 n] w fun e w' => e = .returned (.int .i64 (lg n)) ∧ w = w' := by
  have H := Lib.hid (lg_neg n h)
  go_enter Try.func21, Try.ntmps21
  go_wp2
  go_ret
  exact ⟨ret_int H.out.symm, rfl⟩

theorem log_small_fit (n : Int) (k : Nat) (h : IsLog n k) (h3 : k < 3) (h2 : n ≤ 4611686018427387904) :
    wrap64 (8 * ↑k + wrap64 (wrap64 (n - wrap64 (2 ^ k)) * 2 ^ (3 - k))) = lg n := by
  rw [lg_small n k h h3]
  obtain ⟨h4, h5⟩ := h
  match k, h3 with
  | 0, _ => simp [wrap64] at *; omega
  | 1, _ => simp [wrap64] at *; omega
  | 2, _ => simp [wrap64] at *; omega
theorem log_big_fit (n : Int) (k : Nat) (h : IsLog n k) (h3 : 3 ≤ k) (h2 : n ≤ 4611686018427387904) :
    wrap64 (8 * ↑k + wrap64 (n - wrap64 (2 ^ k)) / 2 ^ (k - 3)) = lg n := by
  have hk := isLog_le62 h h2
  rw [lg_big n k h h3]
  obtain ⟨h4, h5⟩ := h
  have hp := pow_le62 hk
  have hp0 : (0 : Int) < 2 ^ k := Int.pow_pos (by decide)
  have hq0 : (0 : Int) < 2 ^ (k - 3) := Int.pow_pos (by decide)
  rw [IntWalk.wrap64_in (2 ^ k) ⟨by omega, by omega⟩, IntWalk.wrap64_in (n - 2 ^ k) ⟨by omega, by omega⟩]
  have hd0 : 0 ≤ (n - 2 ^ k) / 2 ^ (k - 3) := Int.ediv_nonneg (by omega) (by omega)
  have hd1 : (n - 2 ^ k) / 2 ^ (k - 3) ≤ n - 2 ^ k := Int.ediv_le_self _ (by omega)
  rw [IntWalk.wrap64_in _ ⟨by omega, by omega⟩]

set_option maxHeartbeats 400000 in
theorem log_pos (n : Int) (w : World) (h : 1 ≤ n) (h2 : n ≤ 4611686018427387904) : Calls Try.prog 21 #[.int .i64 n] w fun e w' => e = .returned (.int .i64 (lg n)) ∧ w = w' := by
  obtain ⟨k, hk⟩ : ∃ k, k = n.toNat.log2 := ⟨_, rfl⟩
  have hb : Lib.bitLen n.toNat = k + 1 := by rw [hk]; exact bitLen_log _ (by omega) (by omega)
  have hl := isLog_log2 n h
  rw [← hk] at hl
  have hk62 := isLog_le62 hl h2
  clear hk
  have Hb := Lib.hid hb
  clear hb
  have Hl := Lib.hid hl
  clear hl
  by_cases h3 : k < 3
  all_goals
    go_enter Try.func21, Try.ntmps21
    go_wp2_with (go_at_call 43; refine (Try.bits_Len _ _ (by omega) (by omega)).mono ?_; rintro e w' ⟨rfl, rfl⟩; rw [Hb.out])
    go_ret
  · exact ⟨ret_int (log_small_fit n k Hl.out h3 h2), rfl⟩
  · exact ⟨ret_int (log_big_fit n k Hl.out (by omega) h2), rfl⟩

theorem log_any (n : Int) (w : World) (h2 : n ≤ 4611686018427387904) : Calls Try.prog 21 #[.int .i64 n] w fun e w' => e = .returned (.int .i64 (lg n)) ∧ w = w' := by
  by_cases h : n < 1
  · exact log_neg n w h
  · exact log_pos n w (by omega) h2

/-! The reference's logarithm: a loop that doubles. -/
theorem reflog_neg (n : Int) (w : World) (h : n < 1) : Calls Try.prog 22 #[.int .i64 n] w fun e w' => e = .returned (.int .i64 (lg n)) ∧ w = w' := by
  have H := Lib.hid (lg_neg n h)
  go_enter Try.func22, Try.ntmps22
  go_wp2
  go_ret
  exact ⟨ret_int H.out.symm, rfl⟩
set_option maxHeartbeats 400000 in
theorem reflog_pos (n : Int) (w : World) (h : 1 ≤ n) (h2 : n ≤ 4611686018427387904) : Calls Try.prog 22 #[.int .i64 n] w fun e w' => e = .returned (.int .i64 (lg n)) ∧ w = w' := by
  go_enter Try.func22, Try.ntmps22
  go_wp2
  go_loop [3, 4] (fun k p => ∃ j : Nat, ∃ q : Int, Hid (q = 2 ^ j) ∧ 1 ≤ q ∧ q ≤ n ∧ j ≤ 62 ∧ k = .int .i64 j ∧ p = .int .i64 q) (fun _ p => (n - intOf p).toNat)
  case atStart => exact ⟨0, 1, rfl, by omega, h, by omega, rfl, rfl⟩
  case round =>
    obtain ⟨j, q, Hq, hq1, hq2, hj, rfl, rfl⟩ := hrel
    by_cases hlt : q ≤ n / 2
    · go_wp2
      go_round
      case rel => exact ⟨j + 1, 2 * q, by have := Hq.out; show 2 * q = 2 ^ (j + 1); rw [Int.pow_succ, ← this]; omega, by omega, by omega, pow_bound Hq.out (by omega), by go_num, rfl⟩
      case measure => simp [intOf]; omega
    · by_cases h8 : q < 8
      · go_wp2
        go_ret
        exact ⟨ret_int (reflog_small_fit n q j hj Hq.out hq2 (by omega) h8), rfl⟩
      · go_wp2
        go_ret
        exact ⟨ret_int (reflog_big_fit n q j hj Hq.out hq2 (by omega) h8 h2), rfl⟩
theorem reflog_any (n : Int) (w : World) (h2 : n ≤ 4611686018427387904) : Calls Try.prog 22 #[.int .i64 n] w fun e w' => e = .returned (.int .i64 (lg n)) ∧ w = w' := by
  by_cases h : n < 1
  · exact reflog_neg n w h
  · exact reflog_pos n w (by omega) h2
end Go.Proofs.Ytbfpcleogdalfaa
