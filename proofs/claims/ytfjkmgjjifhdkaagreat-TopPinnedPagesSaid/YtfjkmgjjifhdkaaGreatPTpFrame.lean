/-
  The statements on pages in context: lists of triples opened.
-/
import Derived.Test.YtfjkmgjjifhdkaaGreatP45
import Derived.Test.YtfjkmgjjifhdkaaGreatP11
namespace Go.Proofs.YtfjkmgjjifhdkaaGreat
open Go Go.RowKit Go.ChangeShapes Go.WideShapes

section
variable {H : Type} {enc : TypeId × Value → H} {w : World} {base : Nat} {spare : Nat → Bool} {held : Bool}
set_option maxRecDepth 100000 in
/-- The descriptions of pins. -/
theorem open_t3s {r : Reach} {b0 : Nat} {v : Value} {d : DataW H} {p : List MemPlace} (hv : Value.okWide Tryz.prog w r b0 23 v) (h : DataW.Trod enc Tryz.prog w base spare held 23 v d p) :
    ∃ (A : Option Addr) (l : List T3) (c : Nat), v = .slice A l.length c ∧ l.length ≤ c ∧ c ≤ maxLen ∧ SlR 3 RT3 w A l ∧ ∀ x ∈ l, T3OK x := by
  obtain ⟨A0, len0, cap0, rfl⟩ := okWide_slice (P := Tryz.prog) (w := w) (r := r) (base := b0) Tryz.underlying23 hv
  obtain ⟨fuel, hf⟩ := h
  obtain ⟨A, len, cap, xs, he, rfl, hlc, hcm, hs⟩ := open_slr (α := {x : T3 // T3OK x}) (R := fun w x vs => RT3 w x.1 vs) Tryz.underlying23 (s := 3) (by kernel_rfl) (by decide) (fun n cs y hh _ => by
    obtain ⟨ns, hl, rfl, hw⟩ := open_arr_ints (k := .u8) Tryz.underlying52 Tryz.underlying5 (by kernel_rfl) (by kernel_rfl) hh
    match ns, hl with
    | [a, b, c], _ => exact ⟨⟨⟨a, b, c⟩, wf_u8 (hw a (by simp)), wf_u8 (hw b (by simp)), wf_u8 (hw c (by simp))⟩, rfl⟩) hf
  have he' : Value.slice A0 len0 cap0 = Value.slice A xs.length cap := by simpa [Value.cells] using he
  refine ⟨A, xs.map (·.1), cap, by rw [List.length_map]; exact he', by rw [List.length_map]; exact hlc, hcm, cx_slr_map hs, fun q hq => ?_⟩
  obtain ⟨y, _, rfl⟩ := List.mem_map.1 hq
  exact y.2
end
end Go.Proofs.YtfjkmgjjifhdkaaGreat
