/-
  The statements of layer 19: their arguments opened.
-/
import Derived.Test.YtpajajffkbkeaaaGrFrame
namespace Go.Proofs.Ytpajajffkbkeaaa
open Go Go.RowKit Go.ChangeShapes Go.WideShapes

theorem list4_ {α : Type} : ∀ (l : List α), l.length = 4 → ∃ a b c d, l = [a, b, c, d]
  | [a, b, c, d], _ => ⟨a, b, c, d, rfl⟩
section
variable {H : Type} {enc : TypeId × Value → H} {P : Program} {w : World} {base : Nat} {spare : Nat → Bool} {held : Bool}
theorem open_arr4 {r : Reach} {b0 : Nat} {k : IntKind} {t e : TypeId} {v : Value} {d : DataW H} {p : List MemPlace} (ht : P.underlying t = some (.array 4 e)) (he : P.underlying e = some (.int k)) (hc : P.cellsOf e = 1) (hct : P.cellsOf t = 4)
    (hv : Value.okWide P w r b0 t v) (h : DataW.Trod enc P w base spare held t v d p) : ∃ a b c d, v = .agg #[.int k a, .int k b, .int k c, .int k d] ∧ (Lit.int k a).wf = true ∧ (Lit.int k b).wf = true ∧ (Lit.int k c).wf = true ∧ (Lit.int k d).wf = true := by
  obtain ⟨ns, hl, rfl, hw⟩ := open_arr ht he hc hct hv h
  obtain ⟨a, b, c, d, rfl⟩ := list4_ ns hl
  exact ⟨a, b, c, d, rfl, hw a (by simp), hw b (by simp), hw c (by simp), hw d (by simp)⟩
end
end Go.Proofs.Ytpajajffkbkeaaa
