/-
  No cell of these rows narrows 'for every input' (looked for: loops, veiled, ifaces, maps, wideKeys, modest, calm, conditions, laid).
  DERIVED. THE GIVEN ROWS OF THIS SEAT. 4 by the template 'for every input the law returns true; each argument reads behind the call as it read before'; 0 by the template 'total and deterministic' (their statements: YtfpnhgahkjglgaaGreatTotals.lean).
  GIVEN WITH THE SEED: the statements are not yours to turn. If you find one false, say at which input.
  Laid BY PROGRAM, IN A SANDBOX (cutbox-rows.mjs): the forced cells as the released guide's own fill.sh prints them over the translation a3f0599e3478566a… (all of the seat's roots in one cut). By AI agents, Wed Nov 11 2026. No macro, syntax, notation, axiom, sorry.
-/
import Derived.Test.YtfpnhgahkjglgaaGreatChecked
import GoSem.Claim
import GoSem.ClaimJoined
import GoSem.ClaimMapViews
import Derived.JoinedTies
import Derived.KernelRfl
namespace Go.Proofs.YtfpnhgahkjglgaaGreat
/- THE CELL 'sum', in the pinned program and in every row, IS THE sha256 OF THE DUMP (.gsa) THAT YtfpnhgahkjglgaaGreatProg.lean LOADS. Nothing in Lean hashes anything: it is a label: what it is worth is what the hold of that sum in a sandbox is worth. -/
noncomputable def Tryz.pinned : Pinned := { name := "ytfpnhgahkjglgaagreat", sum := "a3f0599e3478566aa88853ad7786a6761b7013b59fbe6df77f9b690b7cdc5962", checked := Tryz.checked }
namespace Rows
def none {H : Type} : Left H := { results := [], args := [] }

/-- 'syllabarylaw08.SingleMatchesReference': WHATEVER THE INPUT: true; the input reads as it did. -/
def singleMatchesReferenceSpec : ChangeSpec := { name := "singleMatchesReference", fn := fun _ => fun
  | [d1, d2, d3] => { results := [.lit (.bool true)], args := [d1, d2, d3] }
  | _ => none }
def singleMatchesReferenceRow : OpenClaim := { program := "ytfpnhgahkjglgaagreat", sum := "a3f0599e3478566aa88853ad7786a6761b7013b59fbe6df77f9b690b7cdc5962", func := "syllabary/syllabarylaw08.SingleMatchesReference", spec := "singleMatchesReference", unfollowed := true, recurses := true, plainKeys := false, apart := false }
def SingleMatchesReferenceSaid : Prop := singleMatchesReferenceRow.holds Tryz.pinned (OpenSpec.ofChange singleMatchesReferenceSpec)

/-- ITS FALSE NEIGHBOUR: 'it returns false'. Refute it at one input. -/
def singleMatchesReferenceWrong : ChangeSpec := { name := "singleMatchesReference", fn := fun _ => fun
  | [d1, d2, d3] => { results := [.lit (.bool false)], args := [d1, d2, d3] }
  | _ => none }
def SingleMatchesReferenceWrongFalsely : Prop := singleMatchesReferenceRow.holds Tryz.pinned (OpenSpec.ofChange singleMatchesReferenceWrong)

/-- 'syllabarylaw08.SingleFirst': WHATEVER THE INPUT: true; the input reads as it did. -/
def singleFirstSpec : ChangeSpec := { name := "singleFirst", fn := fun _ => fun
  | [d] => { results := [.lit (.bool true)], args := [d] }
  | _ => none }
def singleFirstRow : OpenClaim := { program := "ytfpnhgahkjglgaagreat", sum := "a3f0599e3478566aa88853ad7786a6761b7013b59fbe6df77f9b690b7cdc5962", func := "syllabary/syllabarylaw08.SingleFirst", spec := "singleFirst", unfollowed := true, recurses := true, plainKeys := false, apart := false }
def SingleFirstSaid : Prop := singleFirstRow.holds Tryz.pinned (OpenSpec.ofChange singleFirstSpec)

/-- ITS FALSE NEIGHBOUR: 'it returns false'. Refute it at one input. -/
def singleFirstWrong : ChangeSpec := { name := "singleFirst", fn := fun _ => fun
  | [d] => { results := [.lit (.bool false)], args := [d] }
  | _ => none }
def SingleFirstWrongFalsely : Prop := singleFirstRow.holds Tryz.pinned (OpenSpec.ofChange singleFirstWrong)

/-- 'syllabarylaw08.SingleSchemes': WHATEVER THE INPUT: true; the input reads as it did. -/
def singleSchemesSpec : ChangeSpec := { name := "singleSchemes", fn := fun _ => fun
  | [d1, d2, d3] => { results := [.lit (.bool true)], args := [d1, d2, d3] }
  | _ => none }
def singleSchemesRow : OpenClaim := { program := "ytfpnhgahkjglgaagreat", sum := "a3f0599e3478566aa88853ad7786a6761b7013b59fbe6df77f9b690b7cdc5962", func := "syllabary/syllabarylaw08.SingleSchemes", spec := "singleSchemes", unfollowed := true, recurses := true, plainKeys := false, apart := false }
def SingleSchemesSaid : Prop := singleSchemesRow.holds Tryz.pinned (OpenSpec.ofChange singleSchemesSpec)

/-- ITS FALSE NEIGHBOUR: 'it returns false'. Refute it at one input. -/
def singleSchemesWrong : ChangeSpec := { name := "singleSchemes", fn := fun _ => fun
  | [d1, d2, d3] => { results := [.lit (.bool false)], args := [d1, d2, d3] }
  | _ => none }
def SingleSchemesWrongFalsely : Prop := singleSchemesRow.holds Tryz.pinned (OpenSpec.ofChange singleSchemesWrong)

/-- 'syllabarylaw08.SingleRules': WHATEVER THE INPUT: true; the input reads as it did. -/
def singleRulesSpec : ChangeSpec := { name := "singleRules", fn := fun _ => fun
  | [d1, d2] => { results := [.lit (.bool true)], args := [d1, d2] }
  | _ => none }
def singleRulesRow : OpenClaim := { program := "ytfpnhgahkjglgaagreat", sum := "a3f0599e3478566aa88853ad7786a6761b7013b59fbe6df77f9b690b7cdc5962", func := "syllabary/syllabarylaw08.SingleRules", spec := "singleRules", unfollowed := true, recurses := true, plainKeys := false, apart := false }
def SingleRulesSaid : Prop := singleRulesRow.holds Tryz.pinned (OpenSpec.ofChange singleRulesSpec)

/-- ITS FALSE NEIGHBOUR: 'it returns false'. Refute it at one input. -/
def singleRulesWrong : ChangeSpec := { name := "singleRules", fn := fun _ => fun
  | [d1, d2] => { results := [.lit (.bool false)], args := [d1, d2] }
  | _ => none }
def SingleRulesWrongFalsely : Prop := singleRulesRow.holds Tryz.pinned (OpenSpec.ofChange singleRulesWrong)

/- THE SECOND FORM. 'bulk': how many values and letters a reading holds, each counted each time it is reached (what is shared counts as often as it is met; a slice's spare places count too). A statement '..UptoSaid' is the law's where the arguments, and the package variables that the reading takes, are together of bulk at most 1048576: NARROWER than '..Said'. Prove '..Said' where nothing that the law and all that it calls make is longer than what came in: it says more and counts as full. Else prove '..UptoSaid'. A law counts once. -/
mutual
def uptoBulk {H : Type} : DataW H → Nat
  | .lit (.string bytes) => bytes.length + 1
  | .lit _ => 1
  | .nil => 1
  | .ptr d => uptoBulk d + 1
  | .slice elems spare => uptoBulkAll elems + uptoBulkAll spare + 1
  | .agg parts => uptoBulkAll parts + 1
  | .iface _ d => uptoBulk d + 1
  | .map entries => uptoBulkEntries entries + 1
  | .held _ => 1
def uptoBulkAll {H : Type} : List (DataW H) → Nat
  | [] => 0
  | d :: r => uptoBulk d + uptoBulkAll r
def uptoBulkEntries {H : Type} : List (Lit × DataW H) → Nat
  | [] => 0
  | x :: r => uptoBulkEntry x + uptoBulkEntries r
def uptoBulkEntry {H : Type} : Lit × DataW H → Nat
  | (.string bytes, d) => bytes.length + uptoBulk d + 1
  | (_, d) => uptoBulk d + 1
 end
def uptoSmall : (H : Type) → List (DataW H) → Bool := fun _ ds => decide (uptoBulkAll ds ≤ 1048576)
def OpenSpec.upto (s : _root_.Go.ChangeSpec) : _root_.Go.OpenSpec := { _root_.Go.OpenSpec.ofChange s with cond := some uptoSmall }

/-- 'syllabarylaw08.SingleMatchesReference', WHERE WHAT IT READS IS OF BULK AT MOST 1048576: true; the input reads as it did. -/
def singleMatchesReferenceUptoRow : OpenClaim := { program := "ytfpnhgahkjglgaagreat", sum := "a3f0599e3478566aa88853ad7786a6761b7013b59fbe6df77f9b690b7cdc5962", func := "syllabary/syllabarylaw08.SingleMatchesReference", spec := "singleMatchesReference", unfollowed := true, recurses := true, plainKeys := false, apart := false, narrowed := true }
def SingleMatchesReferenceUptoSaid : Prop := singleMatchesReferenceUptoRow.holds Tryz.pinned (OpenSpec.upto singleMatchesReferenceSpec)

/-- 'syllabarylaw08.SingleFirst', WHERE WHAT IT READS IS OF BULK AT MOST 1048576: true; the input reads as it did. -/
def singleFirstUptoRow : OpenClaim := { program := "ytfpnhgahkjglgaagreat", sum := "a3f0599e3478566aa88853ad7786a6761b7013b59fbe6df77f9b690b7cdc5962", func := "syllabary/syllabarylaw08.SingleFirst", spec := "singleFirst", unfollowed := true, recurses := true, plainKeys := false, apart := false, narrowed := true }
def SingleFirstUptoSaid : Prop := singleFirstUptoRow.holds Tryz.pinned (OpenSpec.upto singleFirstSpec)

/-- 'syllabarylaw08.SingleSchemes', WHERE WHAT IT READS IS OF BULK AT MOST 1048576: true; the input reads as it did. -/
def singleSchemesUptoRow : OpenClaim := { program := "ytfpnhgahkjglgaagreat", sum := "a3f0599e3478566aa88853ad7786a6761b7013b59fbe6df77f9b690b7cdc5962", func := "syllabary/syllabarylaw08.SingleSchemes", spec := "singleSchemes", unfollowed := true, recurses := true, plainKeys := false, apart := false, narrowed := true }
def SingleSchemesUptoSaid : Prop := singleSchemesUptoRow.holds Tryz.pinned (OpenSpec.upto singleSchemesSpec)

/-- 'syllabarylaw08.SingleRules', WHERE WHAT IT READS IS OF BULK AT MOST 1048576: true; the input reads as it did. -/
def singleRulesUptoRow : OpenClaim := { program := "ytfpnhgahkjglgaagreat", sum := "a3f0599e3478566aa88853ad7786a6761b7013b59fbe6df77f9b690b7cdc5962", func := "syllabary/syllabarylaw08.SingleRules", spec := "singleRules", unfollowed := true, recurses := true, plainKeys := false, apart := false, narrowed := true }
def SingleRulesUptoSaid : Prop := singleRulesUptoRow.holds Tryz.pinned (OpenSpec.upto singleRulesSpec)

end Rows
end Go.Proofs.YtfpnhgahkjglgaaGreat
