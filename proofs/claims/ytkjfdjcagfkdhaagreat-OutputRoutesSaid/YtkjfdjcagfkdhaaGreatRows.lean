/-
  No cell of these rows narrows 'for every input' (looked for: loops, veiled, ifaces, maps, wideKeys, modest, calm, conditions, laid).
  DERIVED. THE GIVEN ROWS OF THIS SEAT. 3 by the template 'for every input the law returns true; each argument reads behind the call as it read before'; 0 by the template 'total and deterministic' (their statements: YtkjfdjcagfkdhaaGreatTotals.lean).
  GIVEN WITH THE SEED: the statements are not yours to turn. If you find one false, say at which input.
  Laid BY PROGRAM, IN A SANDBOX (cutbox-rows.mjs): the forced cells as the released guide's own fill.sh prints them over the translation 670bd50a720332f8… (all of the seat's roots in one cut). By AI agents, Wed Nov 11 2026. No macro, syntax, notation, axiom, sorry.
-/
import Derived.Test.YtkjfdjcagfkdhaaGreatChecked
import GoSem.Claim
import GoSem.ClaimJoined
import GoSem.ClaimMapViews
import Derived.JoinedTies
import Derived.KernelRfl
namespace Go.Proofs.YtkjfdjcagfkdhaaGreat
/- THE CELL 'sum', in the pinned program and in every row, IS THE sha256 OF THE DUMP (.gsa) THAT YtkjfdjcagfkdhaaGreatProg.lean LOADS. Nothing in Lean hashes anything: it is a label: what it is worth is what the hold of that sum in a sandbox is worth. -/
noncomputable def Tryz.pinned : Pinned := { name := "ytkjfdjcagfkdhaagreat", sum := "670bd50a720332f8b28fec04c9ef06b46e56b5a7fdbafba9a8608d65409b3bf5", checked := Tryz.checked }
namespace Rows
def none {H : Type} : Left H := { results := [], args := [] }

/-- 'syllabarylaw05.OutputRoutes': WHATEVER THE INPUT: true; the input reads as it did. -/
def outputRoutesSpec : ChangeSpec := { name := "outputRoutes", fn := fun _ => fun
  | [d1, d2, d3] => { results := [.lit (.bool true)], args := [d1, d2, d3] }
  | _ => none }
def outputRoutesRow : OpenClaim := { program := "ytkjfdjcagfkdhaagreat", sum := "670bd50a720332f8b28fec04c9ef06b46e56b5a7fdbafba9a8608d65409b3bf5", func := "syllabary/syllabarylaw05.OutputRoutes", spec := "outputRoutes", unfollowed := true, recurses := true, plainKeys := false, apart := false }
def OutputRoutesSaid : Prop := outputRoutesRow.holds Tryz.pinned (OpenSpec.ofChange outputRoutesSpec)

/-- ITS FALSE NEIGHBOUR: 'it returns false'. Refute it at one input. -/
def outputRoutesWrong : ChangeSpec := { name := "outputRoutes", fn := fun _ => fun
  | [d1, d2, d3] => { results := [.lit (.bool false)], args := [d1, d2, d3] }
  | _ => none }
def OutputRoutesWrongFalsely : Prop := outputRoutesRow.holds Tryz.pinned (OpenSpec.ofChange outputRoutesWrong)

/-- 'syllabarylaw05.OutputJoins': WHATEVER THE INPUT: true; the input reads as it did. -/
def outputJoinsSpec : ChangeSpec := { name := "outputJoins", fn := fun _ => fun
  | [d1, d2, d3] => { results := [.lit (.bool true)], args := [d1, d2, d3] }
  | _ => none }
def outputJoinsRow : OpenClaim := { program := "ytkjfdjcagfkdhaagreat", sum := "670bd50a720332f8b28fec04c9ef06b46e56b5a7fdbafba9a8608d65409b3bf5", func := "syllabary/syllabarylaw05.OutputJoins", spec := "outputJoins", unfollowed := true, recurses := true, plainKeys := false, apart := false }
def OutputJoinsSaid : Prop := outputJoinsRow.holds Tryz.pinned (OpenSpec.ofChange outputJoinsSpec)

/-- ITS FALSE NEIGHBOUR: 'it returns false'. Refute it at one input. -/
def outputJoinsWrong : ChangeSpec := { name := "outputJoins", fn := fun _ => fun
  | [d1, d2, d3] => { results := [.lit (.bool false)], args := [d1, d2, d3] }
  | _ => none }
def OutputJoinsWrongFalsely : Prop := outputJoinsRow.holds Tryz.pinned (OpenSpec.ofChange outputJoinsWrong)

/-- 'syllabarylaw05.OutputRules': WHATEVER THE INPUT: true; the input reads as it did. -/
def outputRulesSpec : ChangeSpec := { name := "outputRules", fn := fun _ => fun
  | [d1, d2, d3] => { results := [.lit (.bool true)], args := [d1, d2, d3] }
  | _ => none }
def outputRulesRow : OpenClaim := { program := "ytkjfdjcagfkdhaagreat", sum := "670bd50a720332f8b28fec04c9ef06b46e56b5a7fdbafba9a8608d65409b3bf5", func := "syllabary/syllabarylaw05.OutputRules", spec := "outputRules", unfollowed := true, recurses := true, plainKeys := false, apart := false }
def OutputRulesSaid : Prop := outputRulesRow.holds Tryz.pinned (OpenSpec.ofChange outputRulesSpec)

/-- ITS FALSE NEIGHBOUR: 'it returns false'. Refute it at one input. -/
def outputRulesWrong : ChangeSpec := { name := "outputRules", fn := fun _ => fun
  | [d1, d2, d3] => { results := [.lit (.bool false)], args := [d1, d2, d3] }
  | _ => none }
def OutputRulesWrongFalsely : Prop := outputRulesRow.holds Tryz.pinned (OpenSpec.ofChange outputRulesWrong)

/- THE SECOND FORM. 'bulk': how many values and letters a reading holds, each counted each time it is reached (what is shared counts as often as it is met; a slice's spare places count too). A statement '..UptoSaid' is the law's where the arguments, and the package variables that the reading takes, are together of bulk at most 1048576: NARROWER than '..Said'. Prove '..Said' where nothing that the law and all that it calls make is longer than what came in: it says more and counts as full. Else prove '..UptoSaid'. A law counts once. -/
mutual
def uptoBulk {H : Type} : DataW H → Nat
  | .lit (.string bytes) => bytes.length + 1
  | .lit _ => 1
  | .nil => 1
  | .ptr d => uptoBulk d + 1
  | .slice elems spare => uptoBulkAll elems + uptoBulkAll spare + 1
  | .agg parts => uptoBulkAll parts + 1
  | .iface _ d => uptoBulk d + 1
  | .map entries => uptoBulkEntries entries + 1
  | .held _ => 1
def uptoBulkAll {H : Type} : List (DataW H) → Nat
  | [] => 0
  | d :: r => uptoBulk d + uptoBulkAll r
def uptoBulkEntries {H : Type} : List (Lit × DataW H) → Nat
  | [] => 0
  | x :: r => uptoBulkEntry x + uptoBulkEntries r
def uptoBulkEntry {H : Type} : Lit × DataW H → Nat
  | (.string bytes, d) => bytes.length + uptoBulk d + 1
  | (_, d) => uptoBulk d + 1
 end
def uptoSmall : (H : Type) → List (DataW H) → Bool := fun _ ds => decide (uptoBulkAll ds ≤ 1048576)
def OpenSpec.upto (s : _root_.Go.ChangeSpec) : _root_.Go.OpenSpec := { _root_.Go.OpenSpec.ofChange s with cond := some uptoSmall }

/-- 'syllabarylaw05.OutputRoutes', WHERE WHAT IT READS IS OF BULK AT MOST 1048576: true; the input reads as it did. -/
def outputRoutesUptoRow : OpenClaim := { program := "ytkjfdjcagfkdhaagreat", sum := "670bd50a720332f8b28fec04c9ef06b46e56b5a7fdbafba9a8608d65409b3bf5", func := "syllabary/syllabarylaw05.OutputRoutes", spec := "outputRoutes", unfollowed := true, recurses := true, plainKeys := false, apart := false, narrowed := true }
def OutputRoutesUptoSaid : Prop := outputRoutesUptoRow.holds Tryz.pinned (OpenSpec.upto outputRoutesSpec)

/-- 'syllabarylaw05.OutputJoins', WHERE WHAT IT READS IS OF BULK AT MOST 1048576: true; the input reads as it did. -/
def outputJoinsUptoRow : OpenClaim := { program := "ytkjfdjcagfkdhaagreat", sum := "670bd50a720332f8b28fec04c9ef06b46e56b5a7fdbafba9a8608d65409b3bf5", func := "syllabary/syllabarylaw05.OutputJoins", spec := "outputJoins", unfollowed := true, recurses := true, plainKeys := false, apart := false, narrowed := true }
def OutputJoinsUptoSaid : Prop := outputJoinsUptoRow.holds Tryz.pinned (OpenSpec.upto outputJoinsSpec)

/-- 'syllabarylaw05.OutputRules', WHERE WHAT IT READS IS OF BULK AT MOST 1048576: true; the input reads as it did. -/
def outputRulesUptoRow : OpenClaim := { program := "ytkjfdjcagfkdhaagreat", sum := "670bd50a720332f8b28fec04c9ef06b46e56b5a7fdbafba9a8608d65409b3bf5", func := "syllabary/syllabarylaw05.OutputRules", spec := "outputRules", unfollowed := true, recurses := true, plainKeys := false, apart := false, narrowed := true }
def OutputRulesUptoSaid : Prop := outputRulesUptoRow.holds Tryz.pinned (OpenSpec.upto outputRulesSpec)

end Rows
end Go.Proofs.YtkjfdjcagfkdhaaGreat
