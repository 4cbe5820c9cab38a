/-
  The walks of layer 11: a word out of letters (the reference).
-/
import Derived.Test.YtbfpcleogdalfaaApp
import Derived.Test.YtbfpcleogdalfaaCostWalkE
namespace Go.Proofs.Ytbfpcleogdalfaa
open Go Go.RowKit

def letter (x : Int) : ByteArray := (ByteArray.mk #[97, 98, 99, 65, 66, 49]).extract (x % 6).toNat (x % 6 + 1).toNat
def wordTo (l : List Int) (k : Nat) : ByteArray := (l.take k).foldl (fun S x => S ++ letter x) (ByteArray.mk #[])
/-- What word returns. -/
def wordOf (l : List Int) : ByteArray := if l.isEmpty then ByteArray.mk #[97] else wordTo l 3
theorem letter_cases (x : Int) : letter x = ByteArray.mk #[97] ∨ letter x = ByteArray.mk #[98] ∨ letter x = ByteArray.mk #[99] ∨ letter x = ByteArray.mk #[65] ∨ letter x = ByteArray.mk #[66] ∨ letter x = ByteArray.mk #[49] := by
  have h : x % 6 = 0 ∨ x % 6 = 1 ∨ x % 6 = 2 ∨ x % 6 = 3 ∨ x % 6 = 4 ∨ x % 6 = 5 := by omega
  unfold letter
  rcases h with h | h | h | h | h | h
  · rw [h]; exact .inl (by rfl)
  · rw [h]; exact .inr (.inl (by rfl))
  · rw [h]; exact .inr (.inr (.inl (by rfl)))
  · rw [h]; exact .inr (.inr (.inr (.inl (by rfl))))
  · rw [h]; exact .inr (.inr (.inr (.inr (.inl (by rfl)))))
  · rw [h]; exact .inr (.inr (.inr (.inr (.inr (by rfl)))))
theorem ret_str {a b : ByteArray} (h : a = b) : Ending.returned (.string a) = .returned (.string b) := by rw [h]
theorem wordTo_succ {l : List Int} {k : Nat} {x : Int} (hx : l[k]? = some x) : wordTo l (k + 1) = wordTo l k ++ letter x := by
  unfold wordTo; rw [take_succ_of hx, List.foldl_append]; rfl
theorem plainS_append (a b : ByteArray) : plainS (a ++ b) = (plainS a && plainS b) := by
  unfold plainS; simp
theorem letter_ok (x : Int) : (letter x).size = 1 ∧ plainS (letter x) = true := by
  rcases letter_cases x with h | h | h | h | h | h <;> rw [h] <;> exact ⟨by rfl, by decide +kernel⟩
theorem wordTo_ok (l : List Int) : ∀ k, k ≤ l.length → (wordTo l k).size = k ∧ plainS (wordTo l k) = true := by
  intro k
  induction k with
  | zero => intro _; exact ⟨rfl, rfl⟩
  | succ k ih =>
    intro hk
    obtain ⟨h1, h2⟩ := ih (by omega)
    rw [wordTo_succ (List.getElem?_eq_getElem (by omega))]
    have := letter_ok l[k]
    exact ⟨by rw [ByteArray.size_append, h1, this.1], by rw [plainS_append, h2, this.2]; rfl⟩
theorem wordTo_min (l : List Int) (k : Nat) : wordTo l k = wordTo l (min k l.length) := by
  unfold wordTo; rw [List.take_eq_take_min]
theorem wordOf_ok (l : List Int) : wordS (wordOf l) = true := by
  cases l with
  | nil => decide +kernel
  | cons x l =>
    have h : wordOf (x :: l) = wordTo (x :: l) (min 3 (x :: l).length) := by rw [← wordTo_min]; rfl
    rw [h]
    have := wordTo_ok (x :: l) (min 3 (x :: l).length) (by omega)
    unfold wordS
    rw [this.1, this.2]
    simp only [List.length_cons, Bool.and_true, Bool.and_eq_true, decide_eq_true_eq]
    omega

set_option maxHeartbeats 2000000 in
theorem rword_any (A : Option Addr) (l : List Int) (c : Nat) (w : World) (hx : SlR 1 RU8 w A l) (hl : l.length ≤ maxLen) (hb8 : ∀ x ∈ l, 0 ≤ x ∧ x ≤ 255) :
    Calls Try.prog 26 #[.slice A l.length c] w fun e w' => e = .returned (.string (wordOf l)) ∧ Below w.heap.size w w' := by
  unfold maxLen at hl
  go_enter Try.func26, Try.ntmps26
  go_wp2_with fail
  go_loopw [3, 4] (fun out i wr => ∃ k : Nat, ∃ S : ByteArray, k ≤ l.length ∧ k ≤ 3 ∧ Hid (S = wordTo l k) ∧ i = .int .i64 k ∧ out = .string S ∧ Below w.heap.size w wr) (fun _ i _ => 3 - (intOf i).toNat)
  case atStart => exact ⟨0, ByteArray.mk #[], by omega, by omega, rfl, rfl, rfl, Below.refl _ _⟩
  case round =>
    obtain ⟨k, S, hk, hk3, HS, rfl, rfl, hb⟩ := hrel
    have hszN := wordTo_ok l k hk
    have hsz : S.size ≤ 3 := by rw [HS.out, hszN.1]; exact hk3
    by_cases hlt : k < l.length
    · by_cases hlt3 : k < 3
      · obtain ⟨bk, off, x, rfl, hbb, hxx, hcx0⟩ := hx.u8 hlt
        have hcx := (hb.cell (p := ⟨bk, _, none⟩) hbb).trans hcx0
        have HX := Lib.hid hxx
        have hx8 := hb8 x (List.mem_of_getElem? hxx)
        clear hcx0 hxx hszN
        have hm0 : 0 ≤ x % 6 := by omega
        have hm1 : x % 6 ≤ 5 := by omega
        have hwr : IntKind.u8.wrap (x % 6 + 1) = x % 6 + 1 := by unfold IntKind.wrap; simp [IntKind.bits, IntKind.signed]; omega
        have hki : (k : Int) < (l.length : Int) := by omega
        have hk0 : (0 : Int) ≤ (k : Int) := by omega
        go_wp2_with fail
        go_quiet (fail)
        go_wp2_with fail
        go_roundw
        case rel => exact ⟨k + 1, S ++ letter x, by omega, by omega, (by rw [wordTo_succ HX.out, HS.out] : S ++ letter x = wordTo l (k + 1)), by go_num, rfl, below_drewN hb _⟩
        case measure => simp [intOf]; omega
      · obtain rfl : k = 3 := by omega
        have hne : S.toList.isEmpty = false := by
          rw [ByteArray.toList_eq, List.isEmpty_eq_false_iff]
          intro e
          have : S.size = 0 := by simpa using congrArg List.length e
          rw [HS.out, hszN.1] at this; cases this
        have HR := Lib.hid (show wordOf l = S by
          have : l.isEmpty = false := by cases l with | nil => simp at hlt | cons _ _ => rfl
          unfold wordOf; rw [this, HS.out]; rfl)
        clear hszN
        go_wp2_with fail
        go_ret
        exact ⟨ret_str HR.out.symm, hb⟩
    · obtain rfl : k = l.length := by omega
      by_cases h0 : l = []
      · subst h0
        obtain rfl : S = ByteArray.mk #[] := HS.out
        clear hszN hsz
        go_wp2_with fail
        go_ret
        exact ⟨rfl, hb⟩
      · have hne : S.toList.isEmpty = false := by
          rw [ByteArray.toList_eq, List.isEmpty_eq_false_iff]
          intro e
          have : S.size = 0 := by simpa using congrArg List.length e
          rw [HS.out, hszN.1] at this
          exact h0 (List.length_eq_zero_iff.1 this)
        have HR := Lib.hid (show wordOf l = S by
          have : l.isEmpty = false := by cases l with | nil => exact absurd rfl h0 | cons _ _ => rfl
          unfold wordOf; rw [this, HS.out, wordTo_min l 3, Nat.min_eq_right hk3]; rfl)
        clear hszN
        by_cases h3 : l.length < 3
        · go_wp2_with fail
          go_ret
          exact ⟨ret_str HR.out.symm, hb⟩
        · go_wp2_with fail
          go_ret
          exact ⟨ret_str HR.out.symm, hb⟩
end Go.Proofs.Ytbfpcleogdalfaa
