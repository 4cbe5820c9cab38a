/-
  The walks of layer 16: slices.Compare at whole numbers.
-/
import Derived.Test.YtbikjmafddndpaaGrWalkB
namespace Go.Proofs.Ytbikjmafddndpaa
open Go Go.RowKit

/-- What slices.Compare answers. -/
def cmpL : List Int → List Int → Int
  | [], [] => 0
  | [], _ :: _ => -1
  | _ :: _, [] => 1
  | a :: x, b :: y => if a < b then -1 else if b < a then 1 else cmpL x y
theorem cmpL_lt : ∀ (a b : List Int), (cmpL a b < 0) ↔ lexLt a b = true
  | [], [] => by simp [cmpL, lexLt]
  | [], _ :: _ => by simp [cmpL, lexLt]
  | _ :: _, [] => by simp [cmpL, lexLt]
  | x :: a, y :: b => by
    unfold cmpL lexLt
    by_cases h1 : x < y
    · simp [h1]
    · by_cases h2 : y < x
      · simp [h1, h2]
      · simp only [h1, h2, if_false]
        exact cmpL_lt a b
theorem cmpL_drop {xs ys : List Int} {k : Nat} {x y : Int} (hx : xs[k]? = some x) (hy : ys[k]? = some y) : cmpL (xs.drop k) (ys.drop k) = if x < y then -1 else if y < x then 1 else cmpL (xs.drop (k + 1)) (ys.drop (k + 1)) := by
  obtain ⟨h1, rfl⟩ := List.getElem?_eq_some_iff.1 hx
  obtain ⟨h2, rfl⟩ := List.getElem?_eq_some_iff.1 hy
  rw [List.drop_eq_getElem_cons h1, List.drop_eq_getElem_cons h2]
  rfl
theorem cmpInt_any (x y : Int) (w : World) : Calls Try.prog 59 #[.int .i64 x, .int .i64 y] w fun e w' => e = .returned (.int .i64 (if x < y then -1 else if y < x then 1 else 0)) ∧ w = w' := by
  have hn : ∀ (x : Int) (w : World), Calls Try.prog 68 #[.int .i64 x] w fun e w' => e = .returned (.bool false) ∧ w = w' := fun x w => by
    go_enter Try.func68, Try.ntmps68
    go_wp2_with fail
    go_ret
    exact ⟨rfl, rfl⟩
  have HN := Lib.hid hn
  clear hn
  obtain h | ⟨h, h'⟩ | ⟨h, h'⟩ : x < y ∨ (¬ x < y ∧ y < x) ∨ (¬ x < y ∧ ¬ y < x) := by omega
  all_goals
    go_enter Try.func59, Try.ntmps59
    go_wp2_with (go_at_call 68; refine (HN.out _ _).mono ?_; rintro e w' ⟨rfl, rfl⟩)
    go_ret
    exact ⟨ret_int (by first | (simp; done) | (simp; omega) | (simp [*]; done)), rfl⟩
set_option maxRecDepth 100000 in
set_option maxHeartbeats 4000000 in
theorem compare_any (A B : Option Addr) (xs ys : List Int) (c d : Nat) (w : World) (hx : SlR 1 RInt w A xs) (hy : SlR 1 RInt w B ys) (hl : xs.length ≤ maxLen) (hl2 : ys.length ≤ maxLen) :
    Calls Try.prog 46 #[.slice A xs.length c, .slice B ys.length d] w fun e w' => e = .returned (.int .i64 (cmpL xs ys)) ∧ w = w' := by
  unfold maxLen at hl hl2
  go_enter Try.func46, Try.ntmps46
  go_wp2_with fail
  go_loop [11] (fun i => ∃ k : Nat, k ≤ xs.length ∧ k ≤ ys.length ∧ Hid (cmpL xs ys = cmpL (xs.drop k) (ys.drop k)) ∧ i = .int .i64 k) (fun i => xs.length - (intOf i).toNat)
  case atStart => exact ⟨0, by omega, by omega, rfl, rfl⟩
  case round =>
    obtain ⟨k, hk, hk2, HS, rfl⟩ := hrel
    by_cases hlt : k < xs.length
    · obtain ⟨b, off, x, rfl, hbb, hxx, hc0⟩ := hx.int hlt
      by_cases hlt2 : k < ys.length
      · obtain ⟨b', off', y, rfl, hbb', hyy, hd0⟩ := hy.int hlt2
        have HD := Lib.hid (cmpL_drop hxx hyy)
        clear hxx hyy
        obtain h | ⟨h, h'⟩ | ⟨h, h'⟩ : x < y ∨ (¬ x < y ∧ y < x) ∨ (¬ x < y ∧ ¬ y < x) := by omega
        · have HR : Hid (cmpL xs ys = -1) := by show _ = _; rw [HS.out, HD.out, if_pos h]
          have HC : Hid (∀ W, Calls Try.prog 59 #[.int .i64 x, .int .i64 y] W fun e w' => e = .returned (.int .i64 (-1)) ∧ W = w') := fun W => by have := cmpInt_any x y W; rw [if_pos h] at this; exact this
          clear h
          go_wp2_with (go_at_call 59; refine (HC.out _).mono ?_; rintro e w' ⟨rfl, rfl⟩)
          go_ret
          exact ⟨ret_int (by rw [HR.out]), rfl⟩
        · have HR : Hid (cmpL xs ys = 1) := by show _ = _; rw [HS.out, HD.out, if_neg h, if_pos h']
          have HC : Hid (∀ W, Calls Try.prog 59 #[.int .i64 x, .int .i64 y] W fun e w' => e = .returned (.int .i64 1) ∧ W = w') := fun W => by have := cmpInt_any x y W; rw [if_neg h, if_pos h'] at this; exact this
          clear h h'
          go_wp2_with (go_at_call 59; refine (HC.out _).mono ?_; rintro e w' ⟨rfl, rfl⟩)
          go_ret
          exact ⟨ret_int (by rw [HR.out]), rfl⟩
        · have HR : Hid (cmpL xs ys = cmpL (xs.drop (k + 1)) (ys.drop (k + 1))) := by show _ = _; rw [HS.out, HD.out, if_neg h, if_neg h']
          have HC : Hid (∀ W, Calls Try.prog 59 #[.int .i64 x, .int .i64 y] W fun e w' => e = .returned (.int .i64 0) ∧ W = w') := fun W => by have := cmpInt_any x y W; rw [if_neg h, if_neg h'] at this; exact this
          clear h h'
          go_wp2_with (go_at_call 59; refine (HC.out _).mono ?_; rintro e w' ⟨rfl, rfl⟩)
          go_round
          case rel => exact ⟨k + 1, by omega, by omega, HR.out, by go_num⟩
          case measure => simp [intOf]; omega
      · have HR : Hid (cmpL xs ys = 1) := by
          show _ = _
          rw [HS.out, List.drop_eq_nil_of_le (show ys.length ≤ k by omega), List.drop_eq_getElem_cons hlt]
          rfl
        go_wp2_with fail
        go_ret
        exact ⟨ret_int (by rw [HR.out]), rfl⟩
    · have HR : Hid (cmpL xs ys = if xs.length < ys.length then -1 else 0) := by
        show _ = _
        rw [HS.out, List.drop_eq_nil_of_le (show xs.length ≤ k by omega)]
        split
        · rw [List.drop_eq_getElem_cons (show k < ys.length by omega)]; rfl
        · rw [List.drop_eq_nil_of_le (show ys.length ≤ k by omega)]; rfl
      by_cases hlen : xs.length < ys.length
      · have HR2 : Hid (cmpL xs ys = -1) := HR.out.trans (if_pos hlen)
        go_wp2_with fail
        go_ret
        exact ⟨ret_int (by rw [HR2.out]), rfl⟩
      · have HR2 : Hid (cmpL xs ys = 0) := HR.out.trans (if_neg hlen)
        go_wp2_with fail
        go_ret
        exact ⟨ret_int (by rw [HR2.out]), rfl⟩
end Go.Proofs.Ytbikjmafddndpaa
