/-
  From the statement's premises to the walks' ones: a graph as it comes.
-/
import Derived.Test.YtbikjmafddndpaaGrFrame
import Derived.Test.YtbikjmafddndpaaGrWalkC
namespace Go.Proofs.Ytbikjmafddndpaa
open Go Go.RowKit Go.ChangeShapes Go.WideShapes

section
variable {H : Type} {enc : TypeId × Value → H} {w : World} {base : Nat} {spare : Nat → Bool} {held : Bool}
theorem list4 {α : Type} {cs : List α} (h : cs.length = 4) : ∃ a b c d, cs = [a, b, c, d] := by
  match cs, h with
  | [a, b, c, d], _ => exact ⟨a, b, c, d, rfl⟩
set_option maxRecDepth 100000 in
theorem open_graph {r : Reach} {b0 : Nat} {v : Value} {d : DataW H} {p : List MemPlace} (hv : Value.okWide Try.prog w r b0 30 v) (h : DataW.Trod enc Try.prog w base spare held 30 v d p) :
    ∃ (g : Gr) (A : Option Addr) (c : Nat), v = .agg #[.int .i64 g.n, .slice A g.ls.length c] ∧ g.ls.length ≤ c ∧ c ≤ maxLen ∧ SlR 4 RLk w A g.ls := by
  obtain ⟨v0, v1, y0, y1, n, rfl, _, _, h0, h1⟩ := Go.Joins.open_agg2 Try.underlying30 (by kernel_rfl) (by kernel_rfl) hv h
  obtain ⟨bk, e4, _, _⟩ := DataW.trod_int Try.underlying3 h0
  have hc1 : Try.prog.cellsOf 3 = 1 := by kernel_rfl
  obtain ⟨A, len, c, us, e3, rfl, k3, m3, s3⟩ := open_slr (α := Lk) (R := RLk) Try.underlying28 (s := 4) (by kernel_rfl) (by decide) (fun n cs y hh hcl => by
    obtain ⟨z0, z1, z2, z3, m, _, _, q0, q1, q2, q3⟩ := Go.Joins.trod_struct4 Try.underlying54 hh
    obtain ⟨a, b, c, d, rfl⟩ := list4 hcl
    dsimp only at q0 q1 q2 q3
    rw [hc1] at q0 q1 q2 q3
    obtain ⟨n0, f0, _, _⟩ := DataW.trod_int Try.underlying3 q0
    obtain ⟨n1, f1, _, _⟩ := DataW.trod_int Try.underlying3 q1
    obtain ⟨n2, f2, _, _⟩ := DataW.trod_int Try.underlying3 q2
    obtain ⟨n3, f3, _, _⟩ := DataW.trod_int Try.underlying3 q3
    simp at f0 f1 f2 f3
    subst f0 f1 f2 f3
    exact ⟨⟨n0, n1, n2, n3⟩, rfl⟩) h1
  simp only [List.cons.injEq, and_true] at e3 e4
  subst e3 e4
  exact ⟨⟨bk, us⟩, A, c, rfl, k3, m3, s3⟩
end
end Go.Proofs.Ytbikjmafddndpaa
