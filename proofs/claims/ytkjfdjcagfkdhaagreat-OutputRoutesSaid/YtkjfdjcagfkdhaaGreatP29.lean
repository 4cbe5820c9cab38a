/-
  OuLawF, OuBaseP, joined. No conditions.
-/
import Derived.Test.YtkjfdjcagfkdhaaGreatP28
/-
  The walk of layer 05: an input out of bytes.
-/
namespace Go.Proofs.YtkjfdjcagfkdhaaGreat
open Go Go.RowKit

def abcL (x : Int) : ByteArray := (ByteArray.mk #[97, 98, 99]).extract (x % 3).toNat (x % 3 + 1).toNat
theorem abcL_cases (x : Int) : abcL x = ByteArray.mk #[97] ∨ abcL x = ByteArray.mk #[98] ∨ abcL x = ByteArray.mk #[99] := by
  have h : x % 3 = 0 ∨ x % 3 = 1 ∨ x % 3 = 2 := by omega
  unfold abcL
  rcases h with h | h | h
  · rw [h]; exact .inl (by rfl)
  · rw [h]; exact .inr (.inl (by rfl))
  · rw [h]; exact .inr (.inr (by rfl))
theorem abcL_ok (x : Int) : (abcL x).size = 1 ∧ smallS (abcL x) = true := by
  rcases abcL_cases x with h | h | h <;> rw [h] <;> exact ⟨by rfl, by decide +kernel⟩
/-- What Input makes of the first k bytes. -/
def inpTo (l : List Int) (k : Nat) : ByteArray := (l.take k).foldl (fun S x => S ++ abcL x) (ByteArray.mk #[])
theorem inpTo_succ {l : List Int} {k : Nat} {x : Int} (hx : l[k]? = some x) : inpTo l (k + 1) = inpTo l k ++ abcL x := by
  unfold inpTo; rw [take_succ_of hx, List.foldl_append]; rfl
theorem inpTo_ok (l : List Int) : ∀ k, k ≤ l.length → (inpTo l k).size = k ∧ smallS (inpTo l k) = true := by
  intro k
  induction k with
  | zero => intro _; exact ⟨rfl, by show smallS (ByteArray.mk #[]) = true; decide +kernel⟩
  | succ k ih =>
    intro hk
    obtain ⟨h1, h2⟩ := ih (by omega)
    rw [inpTo_succ (List.getElem?_eq_getElem (by omega))]
    have := abcL_ok l[k]
    exact ⟨by rw [ByteArray.size_append, h1, this.1], by rw [smallS_app, h2, this.2]; rfl⟩
theorem inpTo_min (l : List Int) (k : Nat) : inpTo l k = inpTo l (min k l.length) := by
  unfold inpTo; rw [List.take_eq_take_min]
theorem inpTo_let (l : List Int) (n : Nat) (hn : n ≤ 40) : letB (inpTo l n) = true ∧ (inpTo l n).size ≤ n := by
  rw [inpTo_min]
  obtain ⟨h1, h2⟩ := inpTo_ok l (min n l.length) (by omega)
  refine ⟨?_, by omega⟩
  unfold letB
  rw [h1, h2]
  simp
  omega
theorem ret_str5 {a b : ByteArray} (h : a = b) : Ending.returned (.string a) = .returned (.string b) := by rw [h]
set_option maxRecDepth 100000 in
set_option maxHeartbeats 2000000 in
theorem input5_any (A : Option Addr) (l : List Int) (c n : Nat) (w : World) (hx : SlR 1 RU8 w A l) (hl : l.length ≤ maxLen) (hb8 : ∀ x ∈ l, 0 ≤ x ∧ x ≤ 255) (hn : n ≤ 40) :
    Calls Tryz.prog 14 #[.slice A l.length c, .int .i64 (n : Int)] w fun e w' => e = .returned (.string (inpTo l n)) ∧ Below w.heap.size w w' := by
  unfold maxLen at hl
  go_enter Tryz.func14, Tryz.ntmps14
  go_wp2_with fail
  go_loopw [5, 6] (fun out i wr => ∃ k : Nat, ∃ S : ByteArray, k ≤ l.length ∧ k ≤ n ∧ Hid (S = inpTo l k) ∧ i = .int .i64 k ∧ out = .string S ∧ Below w.heap.size w wr) (fun _ i _ => n - (intOf i).toNat)
  case atStart => exact ⟨0, ByteArray.mk #[], by omega, by omega, rfl, rfl, rfl, Below.refl _ _⟩
  case round =>
    obtain ⟨k, S, hk, hkn, HS, rfl, rfl, hb⟩ := hrel
    have hszN := inpTo_ok l k hk
    have hsz : S.size ≤ 40 := by rw [HS.out, hszN.1]; omega
    by_cases hlt : k < l.length
    · by_cases hltn : k < n
      · obtain ⟨bk, off, x, rfl, hbb, hxx, hcx0⟩ := hx.u8 hlt
        have hcx := (hb.cell (p := ⟨bk, _, none⟩) hbb).trans hcx0
        have HX := Lib.hid hxx
        have hx8 := hb8 x (List.mem_of_getElem? hxx)
        clear hcx0 hxx hszN
        have hm0 : 0 ≤ x % 3 := by omega
        have hm1 : x % 3 ≤ 2 := by omega
        have hwr : IntKind.u8.wrap (x % 3 + 1) = x % 3 + 1 := by unfold IntKind.wrap; simp [IntKind.bits, IntKind.signed]; omega
        have hki : (k : Int) < (l.length : Int) := by omega
        have hkn2 : (k : Int) < (n : Int) := by omega
        have hk0 : (0 : Int) ≤ (k : Int) := by omega
        go_wp2_with fail
        go_quiet (fail)
        go_wp2_with fail
        go_roundw
        case rel => exact ⟨k + 1, S ++ abcL x, by omega, by omega, (by rw [inpTo_succ HX.out, HS.out] : S ++ abcL x = inpTo l (k + 1)), by go_num, rfl, below_drewN hb _⟩
        case measure => simp [intOf]; omega
      · obtain rfl : k = n := by omega
        have hki : (k : Int) < (l.length : Int) := by omega
        have hkn2 : ¬ ((k : Nat) : Int) < (k : Int) := by omega
        clear hszN
        go_wp2_with fail
        go_ret
        exact ⟨ret_str5 HS.out, hb⟩
    · obtain rfl : k = l.length := by omega
      have hki : ¬ ((l.length : Nat) : Int) < (l.length : Int) := by omega
      have HR : Hid (S = inpTo l n) := by show S = inpTo l n; rw [HS.out, inpTo_min l n, Nat.min_eq_right hkn]
      clear hszN
      go_wp2_with fail
      go_ret
      exact ⟨ret_str5 HR.out, hb⟩
end Go.Proofs.YtkjfdjcagfkdhaaGreat

/-
  The six schemes that R2.Base gives: plain. No conditions.
-/
namespace Go.Proofs.YtkjfdjcagfkdhaaGreat
open Go Go.RowKit

def one5 (i o : ByteArray) : Ru := ⟨0, 0, i, o, (i.size : Int)⟩
def baseS : Nat → Sc
  | 0 => ⟨1, 1, [one5 ⟨#[97]⟩ ⟨#[97]⟩, one5 ⟨#[98]⟩ ⟨#[98]⟩, one5 ⟨#[99]⟩ ⟨#[99]⟩]⟩
  | 1 => ⟨1, 1, [one5 ⟨#[97]⟩ ⟨#[65]⟩, one5 ⟨#[98, 97]⟩ ⟨#[66]⟩, one5 ⟨#[99, 97]⟩ ⟨#[67]⟩, one5 ⟨#[98]⟩ ⟨#[98]⟩]⟩
  | 2 => ⟨2, 1, [⟨0, 1, ⟨#[99]⟩, ⟨#[]⟩, 1⟩, ⟨1, 0, ⟨#[97]⟩, ⟨#[65]⟩, 1⟩, ⟨1, 0, ⟨#[98]⟩, ⟨#[66]⟩, 1⟩, one5 ⟨#[97]⟩ ⟨#[97]⟩, one5 ⟨#[98]⟩ ⟨#[98]⟩]⟩
  | 3 => ⟨1, 1, [one5 ⟨#[97]⟩ ⟨#[97]⟩, one5 ⟨#[98]⟩ ⟨#[98]⟩, one5 ⟨#[97, 98]⟩ ⟨#[97, 98, 99, 49]⟩, one5 ⟨#[99]⟩ ⟨#[99]⟩]⟩
  | 4 => ⟨1, 1, [one5 ⟨#[97]⟩ ⟨#[97]⟩, ⟨0, 0, ⟨#[98]⟩, ⟨#[98]⟩, 0⟩, ⟨0, 0, ⟨#[99]⟩, ⟨#[98]⟩, 7⟩, ⟨0, 0, ⟨#[98]⟩, ⟨#[99]⟩, 9⟩]⟩
  | _ => ⟨1, 1, [one5 ⟨#[97]⟩ ⟨#[97]⟩, one5 ⟨#[97]⟩ ⟨#[65]⟩, one5 ⟨#[97, 97]⟩ ⟨#[66]⟩, one5 ⟨#[98]⟩ ⟨#[98]⟩, ⟨0, 0, ⟨#[98]⟩, ⟨#[]⟩, 20⟩]⟩
theorem base_ok (k : Nat) : ScOK (baseS k) ∧ (baseS k).n ≤ 2 ∧ 3 ≤ (baseS k).rs.length ∧ (baseS k).rs.length ≤ 5 := by
  unfold baseS
  split <;> decide
/-- Rules left out ahead. -/
theorem scOK_drop {s : Sc} (h : ScOK s) (d : Nat) : ScOK ⟨s.n, s.acc, s.rs.drop d⟩ := by
  obtain ⟨h1, h2, h3, h4, h5⟩ := h
  refine ⟨h1, ?_, h3, fun r hr => h4 r (List.mem_of_mem_drop hr), h5.sublist (List.drop_sublist d s.rs)⟩
  show (s.rs.drop d).length ≤ 64
  rw [List.length_drop]
  omega
/-- A right rule more. -/
theorem scOK_snoc {s : Sc} (h : ScOK s) {r : Ru} (hr : RuOK s.n r) (hn : r ∉ s.rs) (hl : s.rs.length < 64) : ScOK ⟨s.n, s.acc, s.rs ++ [r]⟩ := by
  obtain ⟨h1, h2, h3, h4, h5⟩ := h
  refine ⟨h1, ?_, h3, fun x hx => ?_, ?_⟩
  · show (s.rs ++ [r]).length ≤ 64
    simp
    omega
  · rcases List.mem_append.1 hx with hx | hx
    · exact h4 x hx
    · rw [List.mem_singleton.1 hx]; exact hr
  · show (s.rs ++ [r]).Nodup
    rw [List.nodup_append]
    exact ⟨h5, List.pairwise_singleton _ r, fun a ha b hb e => hn (by rw [← List.mem_singleton.1 hb, ← e]; exact ha)⟩
end Go.Proofs.YtkjfdjcagfkdhaaGreat
