/-
  The statements of layer 15: slices of small numbers opened.
-/
import Derived.Test.YtbikjmafddndpaaGrFrame
namespace Go.Proofs.Ytbikjmafddndpaa
open Go Go.RowKit Go.ChangeShapes Go.WideShapes

theorem wf_i8_ {n : Int} (h : (Lit.int .i8 n).wf = true) : -128 ≤ n ∧ n ≤ 127 := by
  simp [Lit.wf, IntKind.min, IntKind.max, IntKind.signed, IntKind.bits] at h
  omega
section
variable {H : Type} {enc : TypeId × Value → H} {w : World} {base : Nat} {spare : Nat → Bool} {held : Bool}
set_option maxRecDepth 100000 in
theorem open_i8s_ {r : Reach} {b0 : Nat} {v : Value} {d : DataW H} {p : List MemPlace} (hv : Value.okWide Try.prog w r b0 26 v) (h : DataW.Trod enc Try.prog w base spare held 26 v d p) :
    ∃ (A : Option Addr) (l : List Int) (c : Nat), v = .slice A l.length c ∧ l.length ≤ c ∧ c ≤ maxLen ∧ SlR 1 (fun _ x vs => vs = [.int .i8 x]) w A l ∧ ∀ x ∈ l, -128 ≤ x ∧ x ≤ 127 := by
  obtain ⟨A0, len0, cap0, rfl⟩ := okWide_slice (P := Try.prog) (w := w) (r := r) (base := b0) Try.underlying26 hv
  obtain ⟨fuel, hf⟩ := h
  obtain ⟨A, len, cap, xs, he, rfl, hlc, hcm, hs⟩ := open_slr (α := {x : Int // -128 ≤ x ∧ x ≤ 127}) (R := fun _ x vs => vs = [.int .i8 x.1]) Try.underlying26 (s := 1) (by kernel_rfl) (by decide) (fun n cs y hh _ => by
    obtain ⟨m, rfl, _, hw⟩ := DataW.trod_int Try.underlying25 hh
    exact ⟨⟨m, wf_i8_ hw⟩, rfl⟩) hf
  have he' : Value.slice A0 len0 cap0 = Value.slice A xs.length cap := by simpa [Value.cells] using he
  refine ⟨A, xs.map (·.1), cap, by rw [List.length_map]; exact he', by rw [List.length_map]; exact hlc, hcm, slr_map (R := fun _ x vs => vs = [.int .i8 x]) hs, fun q hq => ?_⟩
  obtain ⟨y, _, rfl⟩ := List.mem_map.1 hq
  exact y.2
end
end Go.Proofs.Ytbikjmafddndpaa
