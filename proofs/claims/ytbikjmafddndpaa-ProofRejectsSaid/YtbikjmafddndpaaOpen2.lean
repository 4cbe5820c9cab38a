/-
  Arguments opened: arrays by their numbers.
-/
import Derived.Test.YtbikjmafddndpaaOpen
namespace Go.Proofs.Ytbikjmafddndpaa
open Go Go.RowKit Go.ChangeShapes Go.WideShapes

theorem wf_i8 {n : Int} (h : (Lit.int .i8 n).wf = true) : -128 ≤ n ∧ n ≤ 127 := bounds_i8 h
theorem wf_i32 {n : Int} (h : (Lit.int .i32 n).wf = true) : -2147483648 ≤ n ∧ n ≤ 2147483647 := bounds_i32 h
theorem list2 {α : Type} : ∀ (l : List α), l.length = 2 → ∃ a b, l = [a, b]
  | [a, b], _ => ⟨a, b, rfl⟩
theorem list3 {α : Type} : ∀ (l : List α), l.length = 3 → ∃ a b c, l = [a, b, c]
  | [a, b, c], _ => ⟨a, b, c, rfl⟩
section
variable {H : Type} {enc : TypeId × Value → H} {P : Program} {w : World} {base : Nat} {spare : Nat → Bool} {held : Bool}
theorem open_arr2 {r : Reach} {b0 : Nat} {k : IntKind} {t e : TypeId} {v : Value} {d : DataW H} {p : List MemPlace} (ht : P.underlying t = some (.array 2 e)) (he : P.underlying e = some (.int k)) (hc : P.cellsOf e = 1) (hct : P.cellsOf t = 2)
    (hv : Value.okWide P w r b0 t v) (h : DataW.Trod enc P w base spare held t v d p) : ∃ a b, v = .agg #[.int k a, .int k b] ∧ (Lit.int k a).wf = true ∧ (Lit.int k b).wf = true := by
  obtain ⟨ns, hl, rfl, hw⟩ := open_arr ht he hc hct hv h
  obtain ⟨a, b, rfl⟩ := list2 ns hl
  exact ⟨a, b, rfl, hw a (by simp), hw b (by simp)⟩
theorem open_arr3 {r : Reach} {b0 : Nat} {k : IntKind} {t e : TypeId} {v : Value} {d : DataW H} {p : List MemPlace} (ht : P.underlying t = some (.array 3 e)) (he : P.underlying e = some (.int k)) (hc : P.cellsOf e = 1) (hct : P.cellsOf t = 3)
    (hv : Value.okWide P w r b0 t v) (h : DataW.Trod enc P w base spare held t v d p) : ∃ a b c, v = .agg #[.int k a, .int k b, .int k c] ∧ (Lit.int k a).wf = true ∧ (Lit.int k b).wf = true ∧ (Lit.int k c).wf = true := by
  obtain ⟨ns, hl, rfl, hw⟩ := open_arr ht he hc hct hv h
  obtain ⟨a, b, c, rfl⟩ := list3 ns hl
  exact ⟨a, b, c, rfl, hw a (by simp), hw b (by simp), hw c (by simp)⟩
/-- An array of two arrays of three. -/
theorem open_arr23 {r : Reach} {b0 : Nat} {k : IntKind} {t e q : TypeId} {v : Value} {d : DataW H} {p : List MemPlace} (ht : P.underlying t = some (.array 2 e)) (he : P.underlying e = some (.array 3 q)) (hq : P.underlying q = some (.int k)) (hc : P.cellsOf q = 1) (hce : P.cellsOf e = 3) (hct : P.cellsOf t = 6)
    (hv : Value.okWide P w r b0 t v) (h : DataW.Trod enc P w base spare held t v d p) :
    ∃ a b c a' b' c', v = .agg #[.int k a, .int k b, .int k c, .int k a', .int k b', .int k c'] ∧ ((Lit.int k a).wf = true ∧ (Lit.int k b).wf = true ∧ (Lit.int k c).wf = true) ∧ ((Lit.int k a').wf = true ∧ (Lit.int k b').wf = true ∧ (Lit.int k c').wf = true) := by
  obtain ⟨cs, rfl⟩ := okWide_array_ ht hv
  obtain ⟨fuel, hf⟩ := h
  obtain ⟨xs, m', _, _, hl, hxl, hi⟩ := DataW.trod_array ht hf
  rw [hct] at hl
  have h0 := hi 0 (by omega)
  have h1 := hi 1 (by omega)
  rw [hce, List.getElem?_eq_getElem (by omega)] at h0 h1
  obtain ⟨ns, n1, n2, n3⟩ := open_arr_ints he hq hc hce h0
  obtain ⟨ms, m1, m2, m3⟩ := open_arr_ints he hq hc hce h1
  obtain ⟨a, b, c, rfl⟩ := list3 ns n1
  obtain ⟨a', b', c', rfl⟩ := list3 ms m1
  refine ⟨a, b, c, a', b', c', ?_, ⟨n3 a (by simp), n3 b (by simp), n3 c (by simp)⟩, ⟨m3 a' (by simp), m3 b' (by simp), m3 c' (by simp)⟩⟩
  simp only [Nat.zero_mul, List.drop_zero, Nat.one_mul] at n2 m2
  have e0 : (Value.agg cs).cells.toList = cs.toList := rfl
  rw [e0] at n2 m2
  have hl' : cs.toList.length = 6 := hl
  have hcs : cs.toList = cs.toList.take 3 ++ (cs.toList.drop 3).take 3 := by
    rw [List.take_of_length_le (l := cs.toList.drop 3) (by rw [List.length_drop]; omega), List.take_append_drop]
  rw [n2, m2] at hcs
  have : cs = #[.int k a, .int k b, .int k c, .int k a', .int k b', .int k c'] := by rw [← Array.toArray_toList (xs := cs), hcs]; rfl
  rw [this]
end
end Go.Proofs.Ytbikjmafddndpaa
