/-
  The statements of layer 21: further arguments opened.
-/
import Derived.Test.YtpjecpefbfobdaaAreaFrame
namespace Go.Proofs.Ytpjecpefbfobdaa
open Go Go.RowKit Go.ChangeShapes Go.WideShapes

theorem list4 {α : Type} : ∀ (l : List α), l.length = 4 → ∃ a b c d, l = [a, b, c, d]
  | [a, b, c, d], _ => ⟨a, b, c, d, rfl⟩
theorem list6 {α : Type} : ∀ (l : List α), l.length = 6 → ∃ a b c d e f, l = [a, b, c, d, e, f]
  | [a, b, c, d, e, f], _ => ⟨a, b, c, d, e, f, rfl⟩
section
variable {H : Type} {enc : TypeId × Value → H} {P : Program} {w : World} {base : Nat} {spare : Nat → Bool} {held : Bool}
theorem open_arr4 {r : Reach} {b0 : Nat} {k : IntKind} {t e : TypeId} {v : Value} {d : DataW H} {p : List MemPlace} (ht : P.underlying t = some (.array 4 e)) (he : P.underlying e = some (.int k)) (hc : P.cellsOf e = 1) (hct : P.cellsOf t = 4)
    (hv : Value.okWide P w r b0 t v) (h : DataW.Trod enc P w base spare held t v d p) : ∃ a b c d, v = .agg #[.int k a, .int k b, .int k c, .int k d] ∧ (Lit.int k a).wf = true ∧ (Lit.int k b).wf = true ∧ (Lit.int k c).wf = true ∧ (Lit.int k d).wf = true := by
  obtain ⟨ns, hl, rfl, hw⟩ := open_arr ht he hc hct hv h
  obtain ⟨a, b, c, d, rfl⟩ := list4 ns hl
  exact ⟨a, b, c, d, rfl, hw a (by simp), hw b (by simp), hw c (by simp), hw d (by simp)⟩
theorem open_arr6 {r : Reach} {b0 : Nat} {k : IntKind} {t e : TypeId} {v : Value} {d : DataW H} {p : List MemPlace} (ht : P.underlying t = some (.array 6 e)) (he : P.underlying e = some (.int k)) (hc : P.cellsOf e = 1) (hct : P.cellsOf t = 6)
    (hv : Value.okWide P w r b0 t v) (h : DataW.Trod enc P w base spare held t v d p) : ∃ a b c d e f, v = .agg #[.int k a, .int k b, .int k c, .int k d, .int k e, .int k f] ∧ (Lit.int k a).wf = true ∧ (Lit.int k b).wf = true ∧ (Lit.int k c).wf = true ∧ (Lit.int k d).wf = true ∧ (Lit.int k e).wf = true ∧ (Lit.int k f).wf = true := by
  obtain ⟨ns, hl, rfl, hw⟩ := open_arr ht he hc hct hv h
  obtain ⟨a, b, c, d, e, f, rfl⟩ := list6 ns hl
  exact ⟨a, b, c, d, e, f, rfl, hw a (by simp), hw b (by simp), hw c (by simp), hw d (by simp), hw e (by simp), hw f (by simp)⟩
set_option maxRecDepth 100000 in
theorem open_b2c {r : Reach} {b0 : Nat} {v : Value} {d : DataW H} {p : List MemPlace} (hv : Value.okWide Try.prog w r b0 22 v) (h : DataW.Trod enc Try.prog w base spare held 22 v d p) :
    ∃ (A : Option Addr) (l : List B2) (c : Nat), v = .slice A l.length c ∧ (l.length ≤ maxLen ∧ l.length ≤ c ∧ c ≤ maxLen) ∧ SlR 2 RB2 w A l ∧ ∀ x ∈ l, B2OK x := by
  obtain ⟨A0, len0, cap0, rfl⟩ := okWide_slice (P := Try.prog) (w := w) (r := r) (base := b0) Try.underlying22 hv
  obtain ⟨fuel, hf⟩ := h
  obtain ⟨A, len, cap, xs, he, rfl, hlc, hcm, hs⟩ := open_slr (α := {x : B2 // B2OK x}) (R := fun w x vs => RB2 w x.1 vs) Try.underlying22 (s := 2) (by kernel_rfl) (by decide) (fun n cs y hh _ => by
    obtain ⟨ns, hl, rfl, hw⟩ := open_arr_ints (k := .u8) Try.underlying63 Try.underlying5 (by kernel_rfl) (by kernel_rfl) hh
    match ns, hl with
    | [a, b], _ => exact ⟨⟨⟨a, b⟩, wf_u8 (hw a (by simp)), wf_u8 (hw b (by simp))⟩, rfl⟩) hf
  have he' : Value.slice A0 len0 cap0 = Value.slice A xs.length cap := by simpa [Value.cells] using he
  rw [he']
  refine ⟨A, xs.map (·.1), cap, by simp, by rw [List.length_map]; exact ⟨Nat.le_trans hlc hcm, hlc, hcm⟩, slr_map hs, fun x hx => ?_⟩
  obtain ⟨y, _, rfl⟩ := List.mem_map.1 hx
  exact y.2
end
end Go.Proofs.Ytpjecpefbfobdaa
