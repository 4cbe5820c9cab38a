/-
  From the statement's premises to the walks' ones: a graph as the laws draw it, with its room.
-/
import Derived.Test.YtbikjmafddndpaaGrFrame
namespace Go.Proofs.Ytbikjmafddndpaa
open Go Go.RowKit Go.ChangeShapes Go.WideShapes

section
variable {H : Type} {enc : TypeId × Value → H} {w : World} {base : Nat} {spare : Nat → Bool} {held : Bool}
set_option maxRecDepth 100000 in
theorem open_grawc {r : Reach} {b0 : Nat} {v : Value} {d : DataW H} {p : List MemPlace} (hv : Value.okWide Try.prog w r b0 24 v) (h : DataW.Trod enc Try.prog w base spare held 24 v d p) :
    ∃ (x : Int) (A : Option Addr) (l : List T3) (c : Nat), v = .agg #[.int .u8 x, .slice A l.length c] ∧ (0 ≤ x ∧ x ≤ 255) ∧ l.length ≤ c ∧ SlR 3 RT3 w A l ∧ ∀ q ∈ l, T3OK q := by
  obtain ⟨v0, v1, y0, y1, n, rfl, _, _, h0, h1⟩ := Go.Joins.open_agg2 Try.underlying24 (by kernel_rfl) (by kernel_rfl) hv h
  obtain ⟨bk, e4, _, hb⟩ := DataW.trod_int Try.underlying5 h0
  obtain ⟨A, len, c, us, e3, rfl, k3, m3, s3⟩ := open_slr (α := {x : T3 // T3OK x}) (R := fun w x vs => RT3 w x.1 vs) Try.underlying22 (s := 3) (by kernel_rfl) (by decide) (fun n cs y hh _ => by
    obtain ⟨ns, hl, rfl, hw⟩ := open_arr_ints (k := .u8) Try.underlying56 Try.underlying5 (by kernel_rfl) (by kernel_rfl) hh
    match ns, hl with
    | [a, b, c], _ => exact ⟨⟨⟨a, b, c⟩, wf_u8 (hw a (by simp)), wf_u8 (hw b (by simp)), wf_u8 (hw c (by simp))⟩, rfl⟩) h1
  simp only [List.cons.injEq, and_true] at e3 e4
  subst e3 e4
  refine ⟨bk, A, us.map (·.1), c, by simp, wf_u8 hb, by rw [List.length_map]; exact k3, slr_map s3, fun q hq => ?_⟩
  obtain ⟨y, _, rfl⟩ := List.mem_map.1 hq
  exact y.2
end
end Go.Proofs.Ytbikjmafddndpaa
