/-
  From the statement's premises to the walks' ones: two spoilings as they come.
-/
import Derived.Test.YtbikjmafddndpaaGrFrame
import Derived.Test.YtbikjmafddndpaaOpen2
namespace Go.Proofs.Ytbikjmafddndpaa
open Go Go.RowKit Go.ChangeShapes Go.WideShapes

section
variable {H : Type} {enc : TypeId × Value → H} {w : World} {base : Nat} {spare : Nat → Bool} {held : Bool}
theorem len_four {α : Type} {cs : List α} (h : cs.length = 4) : ∃ a b c d, cs = [a, b, c, d] := by
  match cs, h with
  | [a, b, c, d], _ => exact ⟨a, b, c, d, rfl⟩
set_option maxRecDepth 100000 in
theorem open_spl {fuel : Nat} {cs : List Value} {X : DataW H × List MemPlace} (hh : DataW.trod enc Try.prog w base spare held fuel 64 cs = some X) (hcl : cs.length = 4) :
    ∃ a b c e : Int, cs = [.int .u8 a, .int .u8 b, .int .u8 c, .int .i8 e] ∧ (0 ≤ a ∧ a ≤ 255) ∧ (0 ≤ b ∧ b ≤ 255) ∧ (0 ≤ c ∧ c ≤ 255) ∧ (-128 ≤ e ∧ e ≤ 127) := by
  have hc1 : Try.prog.cellsOf 5 = 1 := by kernel_rfl
  have hc2 : Try.prog.cellsOf 25 = 1 := by kernel_rfl
  obtain ⟨z0, z1, z2, z3, m, _, _, q0, q1, q2, q3⟩ := Go.Joins.trod_struct4 Try.underlying64 hh
  obtain ⟨a, b, c, d, rfl⟩ := len_four hcl
  dsimp only at q0 q1 q2 q3
  simp only [hc1, hc2] at q0 q1 q2 q3
  obtain ⟨n0, f0, _, w0⟩ := DataW.trod_int Try.underlying5 q0
  obtain ⟨n1, f1, _, w1⟩ := DataW.trod_int Try.underlying5 q1
  obtain ⟨n2, f2, _, w2⟩ := DataW.trod_int Try.underlying5 q2
  obtain ⟨n3, f3, _, w3⟩ := DataW.trod_int Try.underlying25 q3
  simp at f0 f1 f2 f3
  subst f0 f1 f2 f3
  exact ⟨n0, n1, n2, n3, rfl, wf_u8 w0, wf_u8 w1, wf_u8 w2, wf_i8 w3⟩
set_option maxRecDepth 100000 in
theorem open_spoil2 {r : Reach} {b0 : Nat} {v : Value} {d : DataW H} {p : List MemPlace} (hv : Value.okWide Try.prog w r b0 65 v) (h : DataW.Trod enc Try.prog w base spare held 65 v d p) :
    ∃ a b c e a' b' c' e' : Int, v = .agg #[.int .u8 a, .int .u8 b, .int .u8 c, .int .i8 e, .int .u8 a', .int .u8 b', .int .u8 c', .int .i8 e'] ∧
      ((0 ≤ a ∧ a ≤ 255) ∧ (0 ≤ b ∧ b ≤ 255) ∧ (0 ≤ c ∧ c ≤ 255) ∧ (-128 ≤ e ∧ e ≤ 127)) ∧ ((0 ≤ a' ∧ a' ≤ 255) ∧ (0 ≤ b' ∧ b' ≤ 255) ∧ (0 ≤ c' ∧ c' ≤ 255) ∧ (-128 ≤ e' ∧ e' ≤ 127)) := by
  have ht := Try.underlying65
  have hct : Try.prog.cellsOf 65 = 8 := by kernel_rfl
  have hce : Try.prog.cellsOf 64 = 4 := by kernel_rfl
  obtain ⟨cs, rfl⟩ := okWide_array_ ht hv
  obtain ⟨fuel, hf⟩ := h
  obtain ⟨xs, m', _, _, hl, hxl, hi⟩ := DataW.trod_array ht hf
  rw [hct] at hl
  have h0 := hi 0 (by omega)
  have h1 := hi 1 (by omega)
  rw [hce, List.getElem?_eq_getElem (by omega)] at h0 h1
  have hl' : cs.toList.length = 8 := hl
  have e0 : (Value.agg cs).cells.toList = cs.toList := rfl
  rw [e0] at h0 h1
  simp only [Nat.zero_mul, List.drop_zero, Nat.one_mul] at h0 h1
  obtain ⟨a, b, c, e, q1, w1⟩ := open_spl h0 (by rw [List.length_take]; omega)
  obtain ⟨a', b', c', e', q2, w2⟩ := open_spl h1 (by rw [List.length_take, List.length_drop]; omega)
  refine ⟨a, b, c, e, a', b', c', e', ?_, w1, w2⟩
  have hcs : cs.toList = cs.toList.take 4 ++ (cs.toList.drop 4).take 4 := by
    rw [List.take_of_length_le (l := cs.toList.drop 4) (by rw [List.length_drop]; omega), List.take_append_drop]
  rw [q1, q2] at hcs
  have : cs = #[.int .u8 a, .int .u8 b, .int .u8 c, .int .i8 e, .int .u8 a', .int .u8 b', .int .u8 c', .int .i8 e'] := by rw [← Array.toArray_toList (xs := cs), hcs]; rfl
  rw [this]
end
end Go.Proofs.Ytbikjmafddndpaa
