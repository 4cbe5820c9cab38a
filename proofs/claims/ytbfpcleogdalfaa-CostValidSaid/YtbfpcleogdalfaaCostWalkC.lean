/-
  The walks of layer 11: words, searches, comparisons of lists.
-/
import Derived.Test.YtbfpcleogdalfaaCostWalkB
import Derived.WalkSpells
import Derived.Deep.QuietTactic
import Derived.BigQuiet
namespace Go.Proofs.Ytbfpcleogdalfaa
open Go Go.RowKit

/-! letters and digits -/
def plainB (c : Int) : Bool := (decide (97 ≤ c) && decide (c ≤ 122)) || (decide (65 ≤ c) && decide (c ≤ 90)) || (decide (48 ≤ c) && decide (c ≤ 57))
def plainS (s : ByteArray) : Bool := s.data.toList.all fun c => plainB (c.toNat : Int)
def PlainTo (s : ByteArray) (k : Nat) : Prop := ∀ i (h : i < s.size), i < k → plainB (s[i].toNat : Int) = true
theorem plainS_true {s : ByteArray} (h : PlainTo s s.size) : plainS s = true := by
  unfold plainS
  rw [List.all_eq_true]
  intro c hc
  obtain ⟨i, hi, rfl⟩ := List.getElem_of_mem hc
  have hi' : i < s.size := by simpa using hi
  exact h i hi' hi'
theorem plainS_false {s : ByteArray} {k : Nat} (hk : k < s.size) (h : plainB (s[k].toNat : Int) = false) : plainS s = false := by
  unfold plainS
  rw [List.all_eq_false]
  exact ⟨s[k], List.getElem_mem (l := s.data.toList) (by simpa using hk), by rw [h]; decide⟩
theorem PlainTo.succ {s : ByteArray} {k : Nat} (h : PlainTo s k) (hk : k < s.size) (hp : plainB (s[k].toNat : Int) = true) : PlainTo s (k + 1) := fun i hi hik => by
  by_cases e : i = k
  · subst e; exact hp
  · exact h i hi (by omega)
theorem byte_ranges (c : Int) : c < 48 ∨ (48 ≤ c ∧ c ≤ 57) ∨ (57 < c ∧ c < 65) ∨ (65 ≤ c ∧ c ≤ 90) ∨ (90 < c ∧ c < 97) ∨ (97 ≤ c ∧ c ≤ 122) ∨ 122 < c := by omega

set_option maxHeartbeats 1000000 in
theorem plain_any (s : ByteArray) (w : World) (hs : s.size ≤ maxLen) : Calls Try.prog 52 #[.string s] w fun e w' => e = .returned (.bool (plainS s)) ∧ w = w' := by
  unfold maxLen at hs
  go_enter Try.func52, Try.ntmps52
  go_wp2
  go_loop [3] (fun i => ∃ k : Nat, k ≤ s.size ∧ PlainTo s k ∧ i = .int .i64 k) (fun i => s.size - (intOf i).toNat)
  case atStart => exact ⟨0, by omega, fun _ _ h => absurd h (by omega), rfl⟩
  case round =>
    obtain ⟨k, hk, hp, rfl⟩ := hrel
    have HP := Lib.hid hp
    clear hp
    by_cases hlt : k < s.size
    · have hr := byte_ranges (s[k].toNat : Int)
      obtain ⟨b, hb⟩ : ∃ b, b = plainB (s[k].toNat : Int) := ⟨_, rfl⟩
      have HB := Lib.hid hb
      clear hb
      rcases hr with h | ⟨h, h'⟩ | ⟨h, h'⟩ | ⟨h, h'⟩ | ⟨h, h'⟩ | ⟨h, h'⟩ | h
      all_goals
        go_wp2
        first
          | (go_round
             case rel => exact ⟨k + 1, by omega, HP.out.succ hlt (by unfold plainB; simp; omega), by go_num⟩
             case measure => simp [intOf]; omega)
          | (go_ret
             exact ⟨ret_bool (plainS_false hlt (by unfold plainB; simp; omega)).symm, rfl⟩)
    · obtain rfl : k = s.size := by omega
      go_wp2
      go_ret
      exact ⟨ret_bool (plainS_true HP.out).symm, rfl⟩

/-- A word: 1 to 20 letters and digits. -/
def wordS (s : ByteArray) : Bool := decide (1 ≤ s.size) && decide (s.size ≤ 20) && plainS s
set_option maxHeartbeats 400000 in
theorem refword_any (s : ByteArray) (w : World) (hs : s.size ≤ maxLen) : Calls Try.prog 46 #[.string s] w fun e w' => e = .returned (.bool (wordS s)) ∧ w = w' := by
  by_cases h : inB (s.size : Int) 1 20 = true
  · have hw : wordS s = plainS s := by unfold inB at h; unfold wordS; simp at h; simp; omega
    have HW := Lib.hid hw
    clear hw
    go_enter Try.func46, Try.ntmps46
    go_wp2_with (first
      | (go_at_call 36; refine (in_any _ _ _ _).mono ?_; rintro e w' ⟨rfl, rfl⟩)
      | (go_at_call 52; refine (plain_any _ _ hs).mono ?_; rintro e w' ⟨rfl, rfl⟩))
    go_ret
    exact ⟨ret_bool HW.out.symm, rfl⟩
  · have h' : inB (s.size : Int) 1 20 = false := by simpa using h
    clear h
    have HW := Lib.hid (show wordS s = false by unfold inB at h'; unfold wordS; simp at h'; simp; omega)
    go_enter Try.func46, Try.ntmps46
    go_wp2_with (first
      | (go_at_call 36; refine (in_any _ _ _ _).mono ?_; rintro e w' ⟨rfl, rfl⟩))
    go_ret
    exact ⟨ret_bool HW.out.symm, rfl⟩

/-! scheme.class, allKnown, Word -/
def clsI (c : Int) : Int := if 97 ≤ c ∧ c ≤ 122 then 1 else if 65 ≤ c ∧ c ≤ 90 then 2 else if 48 ≤ c ∧ c ≤ 57 then 3 else 0
theorem clsI_plain (c : Int) : plainB c = !(clsI c == 0) := by
  unfold plainB clsI
  rw [Bool.eq_iff_iff]
  split <;> (try split) <;> (try split) <;> simp <;> omega
set_option maxHeartbeats 1000000 in
theorem class_any (c : Int) (w : World) : Calls Try.prog 54 #[.int .u8 c] w fun e w' => e = .returned (.int .i64 (clsI c)) ∧ w = w' := by
  have hr := byte_ranges c
  rcases hr with h | ⟨h, h'⟩ | ⟨h, h'⟩ | ⟨h, h'⟩ | ⟨h, h'⟩ | ⟨h, h'⟩ | h
  all_goals
    go_enter Try.func54, Try.ntmps54
    go_wp2
    go_ret
    exact ⟨ret_int (by unfold clsI; repeat' split; all_goals omega), rfl⟩
set_option maxHeartbeats 1000000 in
theorem allKnown_any (s : ByteArray) (w : World) (hs : s.size ≤ maxLen) : Calls Try.prog 51 #[.string s] w fun e w' => e = .returned (.bool (plainS s)) ∧ w = w' := by
  unfold maxLen at hs
  go_enter Try.func51, Try.ntmps51
  go_wp2
  go_loop [3, 6] (fun _ i => ∃ k : Nat, k ≤ s.size ∧ PlainTo s k ∧ i = .int .i64 k) (fun _ i => s.size - (intOf i).toNat)
  case atStart => exact ⟨0, by omega, fun _ _ h => absurd h (by omega), rfl⟩
  case round =>
    obtain ⟨k, hk, hp, rfl⟩ := hrel
    have HP := Lib.hid hp
    clear hp
    by_cases hlt : k < s.size
    · by_cases hz : clsI (s[k].toNat : Int) = 0
      · go_wp2_with (go_at_call 54; refine (class_any _ _).mono ?_; rintro e w' ⟨rfl, rfl⟩)
        go_ret
        exact ⟨ret_bool (plainS_false hlt (by rw [clsI_plain, hz]; rfl)).symm, rfl⟩
      · go_wp2_with (go_at_call 54; refine (class_any _ _).mono ?_; rintro e w' ⟨rfl, rfl⟩)
        go_round
        case rel => exact ⟨k + 1, by omega, HP.out.succ hlt (by rw [clsI_plain]; simpa using hz), by go_num⟩
        case measure => simp [intOf]; omega
    · obtain rfl : k = s.size := by omega
      go_wp2
      go_ret
      exact ⟨ret_bool (plainS_true HP.out).symm, rfl⟩
set_option maxHeartbeats 400000 in
theorem word_any (s : ByteArray) (w : World) (hs : s.size ≤ maxLen) : Calls Try.prog 45 #[.string s] w fun e w' => e = .returned (.bool (wordS s)) ∧ w = w' := by
  by_cases h1 : 1 ≤ s.size
  · by_cases h2 : s.size ≤ 20
    · have HW := Lib.hid (show wordS s = plainS s by unfold wordS; simp; omega)
      go_enter Try.func45, Try.ntmps45
      go_wp2_with (go_at_call 51; refine (allKnown_any _ _ hs).mono ?_; rintro e w' ⟨rfl, rfl⟩)
      go_ret
      exact ⟨ret_bool HW.out.symm, rfl⟩
    · have HW := Lib.hid (show wordS s = false by unfold wordS; simp; omega)
      go_enter Try.func45, Try.ntmps45
      go_wp2_with fail
      go_ret
      exact ⟨ret_bool HW.out.symm, rfl⟩
  · have HW := Lib.hid (show wordS s = false by unfold wordS; simp; omega)
    go_enter Try.func45, Try.ntmps45
    go_wp2_with fail
    go_ret
    exact ⟨ret_bool HW.out.symm, rfl⟩
end Go.Proofs.Ytbfpcleogdalfaa
