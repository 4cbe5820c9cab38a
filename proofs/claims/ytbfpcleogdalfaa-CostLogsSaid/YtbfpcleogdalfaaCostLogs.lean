/-
  CostLogs: the walk.
-/
import Derived.Test.YtbfpcleogdalfaaCostWalkY
namespace Go.Proofs.Ytbfpcleogdalfaa
open Go Go.RowKit

theorem lg_next {n : Int} (h : 1 ≤ n) : lg (n + 1) ≤ lg n + 8 := by
  have h1 := lg_mono (x := n + 1) (y := 2 * n) (by omega)
  rw [lg_dbl h] at h1
  exact h1
set_option maxRecDepth 100000 in
set_option maxHeartbeats 4000000 in
theorem costLogs_any (a b : Int) (w : World) (ha : 0 ≤ a ∧ a < 4294967296) (hb : 0 ≤ b ∧ b < 4294967296) :
    Calls Try.prog 5 #[.int .u32 a, .int .u32 b] w fun e w' => e = .returned (.bool true) ∧ Below w.heap.size w w' := by
  have hn0 : 0 ≤ a / 2 ∧ a / 2 ≤ 2147483647 := by omega
  have hm0 : 0 ≤ b / 2 ∧ b / 2 ≤ 2147483647 := by omega
  have bn := lg_bd (a / 2) (by omega)
  have bm := lg_bd (b / 2) (by omega)
  have hcmp : ((a / 2 ≤ b / 2 ∧ lg (a / 2) ≤ lg (b / 2)) ∧ ¬ (b / 2 ≤ a / 2)) ∨ (¬ (a / 2 ≤ b / 2) ∧ b / 2 ≤ a / 2 ∧ lg (b / 2) ≤ lg (a / 2)) ∨ ((a / 2 ≤ b / 2 ∧ lg (a / 2) ≤ lg (b / 2)) ∧ b / 2 ≤ a / 2 ∧ lg (b / 2) ≤ lg (a / 2)) := by
    rcases Int.lt_trichotomy (a / 2) (b / 2) with h | h | h
    · exact .inl ⟨⟨by omega, lg_mono (by omega)⟩, by omega⟩
    · exact .inr (.inr ⟨⟨by omega, lg_mono (by omega)⟩, by omega, lg_mono (by omega)⟩)
    · exact .inr (.inl ⟨by omega, by omega, lg_mono (by omega)⟩)
  by_cases h1 : a / 2 < 1
  · have e0 : (lg (a / 2) == 0) = true := by rw [lg_neg _ h1]; rfl
    have e1 : (lg (-(a / 2)) == 0) = true := by rw [lg_neg _ (by omega)]; rfl
    rcases hcmp with ⟨⟨c1, c2⟩, c3⟩ | ⟨c1, c2, c3⟩ | ⟨⟨c1, c2⟩, c3, c4⟩
    all_goals
      go_enter Try.func5, Try.ntmps5
      go_wp2_with (first
        | (go_at_call 10; refine (sanity_any _).mono ?_; rintro e w1 ⟨rfl, hb1⟩)
        | (go_at_call 21; refine (log_any _ _ (by omega)).mono ?_; rintro e w' ⟨rfl, rfl⟩)
        | (go_at_call 22; refine (reflog_any _ _ (by omega)).mono ?_; rintro e w' ⟨rfl, rfl⟩))
      all_goals (go_ret; exact ⟨rfl, hb1⟩)
  · have e0 : (lg (2 * (a / 2)) == lg (a / 2) + 8) = true := by rw [lg_dbl (by omega)]; simp
    have e1 := lg_next (n := a / 2) (by omega)
    have e2 : ((lg (a / 2) == 0) = true ∧ (a / 2 == 1) = true) ∨ ((lg (a / 2) == 0) = false ∧ (a / 2 == 1) = false) := by
      by_cases h2 : a / 2 = 1
      · left; rw [h2, lg_one]; simp
      · right; have := lg_pos (n := a / 2) (by omega); simp; omega
    rcases e2 with ⟨e2, e3⟩ | ⟨e2, e3⟩
    all_goals
      rcases hcmp with ⟨⟨c1, c2⟩, c3⟩ | ⟨c1, c2, c3⟩ | ⟨⟨c1, c2⟩, c3, c4⟩
      all_goals
        go_enter Try.func5, Try.ntmps5
        go_wp2_with (first
          | (go_at_call 10; refine (sanity_any _).mono ?_; rintro e w1 ⟨rfl, hb1⟩)
          | (go_at_call 21; refine (log_any _ _ (by omega)).mono ?_; rintro e w' ⟨rfl, rfl⟩)
          | (go_at_call 22; refine (reflog_any _ _ (by omega)).mono ?_; rintro e w' ⟨rfl, rfl⟩))
        all_goals (go_ret; exact ⟨rfl, hb1⟩)
end Go.Proofs.Ytbfpcleogdalfaa
