/-
  No cell of these rows narrows 'for every input' (looked for: loops, veiled, ifaces, maps, wideKeys, modest, calm, conditions, laid).
  DERIVED. THE GIVEN ROWS OF THIS SEAT. 7 by the template 'for every input the law returns true; each argument reads behind the call as it read before'; 0 by the template 'total and deterministic' (their statements: YtbfpcleogdalfaaTotals.lean).
  GIVEN WITH THE SEED: the statements are not yours to turn. If you find one false, say at which input.
  Laid BY PROGRAM, IN A SANDBOX (cutbox-rows.mjs): the forced cells as the released guide's own fill.sh prints them over the translation 8864ffc422f2220b… (all of the seat's roots in one cut). By AI agents, Wed Nov 11 2026. No macro, syntax, notation, axiom, sorry.
-/
import Derived.Test.YtbfpcleogdalfaaChecked
import GoSem.Claim
import GoSem.ClaimJoined
import GoSem.ClaimMapViews
import Derived.JoinedTies
import Derived.KernelRfl
namespace Go.Proofs.Ytbfpcleogdalfaa
/- THE CELL 'sum', in the pinned program and in every row, IS THE sha256 OF THE DUMP (.gsa) THAT YtbfpcleogdalfaaProg.lean LOADS. Nothing in Lean hashes anything: it is a label: what it is worth is what the hold of that sum in a sandbox is worth. -/
noncomputable def Try.pinned : Pinned := { name := "ytbfpcleogdalfaa", sum := "8864ffc422f2220b31149cecc028bc81b271f9d385ca426072b0b57104206a75", checked := Try.checked }
namespace Rows
def none {H : Type} : Left H := { results := [], args := [] }

/-- 'syllabarylaw11.CostMatchesReference': WHATEVER THE INPUT: true; the input reads as it did. -/
def costMatchesReferenceSpec : ChangeSpec := { name := "costMatchesReference", fn := fun _ => fun
  | [d1, d2] => { results := [.lit (.bool true)], args := [d1, d2] }
  | _ => none }
def costMatchesReferenceRow : OpenClaim := { program := "ytbfpcleogdalfaa", sum := "8864ffc422f2220b31149cecc028bc81b271f9d385ca426072b0b57104206a75", func := "syllabary/syllabarylaw11.CostMatchesReference", spec := "costMatchesReference", inPlace := ["slices.overlaps[syllabary/api.Pair]"], unfollowed := true, recurses := true, apart := false }
def CostMatchesReferenceSaid : Prop := costMatchesReferenceRow.holds Try.pinned (OpenSpec.ofChange costMatchesReferenceSpec)

/-- ITS FALSE NEIGHBOUR: 'it returns false'. Refute it at one input. -/
def costMatchesReferenceWrong : ChangeSpec := { name := "costMatchesReference", fn := fun _ => fun
  | [d1, d2] => { results := [.lit (.bool false)], args := [d1, d2] }
  | _ => none }
def CostMatchesReferenceWrongFalsely : Prop := costMatchesReferenceRow.holds Try.pinned (OpenSpec.ofChange costMatchesReferenceWrong)

/-- 'syllabarylaw11.CostValid': WHATEVER THE INPUT: true; the input reads as it did. -/
def costValidSpec : ChangeSpec := { name := "costValid", fn := fun _ => fun
  | [d1, d2, d3] => { results := [.lit (.bool true)], args := [d1, d2, d3] }
  | _ => none }
def costValidRow : OpenClaim := { program := "ytbfpcleogdalfaa", sum := "8864ffc422f2220b31149cecc028bc81b271f9d385ca426072b0b57104206a75", func := "syllabary/syllabarylaw11.CostValid", spec := "costValid", inPlace := ["slices.overlaps[syllabary/api.Pair]"], unfollowed := true, recurses := true, apart := false }
def CostValidSaid : Prop := costValidRow.holds Try.pinned (OpenSpec.ofChange costValidSpec)

/-- ITS FALSE NEIGHBOUR: 'it returns false'. Refute it at one input. -/
def costValidWrong : ChangeSpec := { name := "costValid", fn := fun _ => fun
  | [d1, d2, d3] => { results := [.lit (.bool false)], args := [d1, d2, d3] }
  | _ => none }
def CostValidWrongFalsely : Prop := costValidRow.holds Try.pinned (OpenSpec.ofChange costValidWrong)

/-- 'syllabarylaw11.CostLogs': WHATEVER THE INPUT: true; the input reads as it did. -/
def costLogsSpec : ChangeSpec := { name := "costLogs", fn := fun _ => fun
  | [d1, d2] => { results := [.lit (.bool true)], args := [d1, d2] }
  | _ => none }
def costLogsRow : OpenClaim := { program := "ytbfpcleogdalfaa", sum := "8864ffc422f2220b31149cecc028bc81b271f9d385ca426072b0b57104206a75", func := "syllabary/syllabarylaw11.CostLogs", spec := "costLogs", inPlace := ["slices.overlaps[syllabary/api.Pair]"], unfollowed := true, recurses := true, apart := false }
def CostLogsSaid : Prop := costLogsRow.holds Try.pinned (OpenSpec.ofChange costLogsSpec)

/-- ITS FALSE NEIGHBOUR: 'it returns false'. Refute it at one input. -/
def costLogsWrong : ChangeSpec := { name := "costLogs", fn := fun _ => fun
  | [d1, d2] => { results := [.lit (.bool false)], args := [d1, d2] }
  | _ => none }
def CostLogsWrongFalsely : Prop := costLogsRow.holds Try.pinned (OpenSpec.ofChange costLogsWrong)

/-- 'syllabarylaw11.CostWords': WHATEVER THE INPUT: true; the input reads as it did. -/
def costWordsSpec : ChangeSpec := { name := "costWords", fn := fun _ => fun
  | [d] => { results := [.lit (.bool true)], args := [d] }
  | _ => none }
def costWordsRow : OpenClaim := { program := "ytbfpcleogdalfaa", sum := "8864ffc422f2220b31149cecc028bc81b271f9d385ca426072b0b57104206a75", func := "syllabary/syllabarylaw11.CostWords", spec := "costWords", inPlace := ["slices.overlaps[syllabary/api.Pair]"], unfollowed := true, recurses := true, apart := false }
def CostWordsSaid : Prop := costWordsRow.holds Try.pinned (OpenSpec.ofChange costWordsSpec)

/-- ITS FALSE NEIGHBOUR: 'it returns false'. Refute it at one input. -/
def costWordsWrong : ChangeSpec := { name := "costWords", fn := fun _ => fun
  | [d] => { results := [.lit (.bool false)], args := [d] }
  | _ => none }
def CostWordsWrongFalsely : Prop := costWordsRow.holds Try.pinned (OpenSpec.ofChange costWordsWrong)

/-- 'syllabarylaw11.CostPairs': WHATEVER THE INPUT: true; the input reads as it did. -/
def costPairsSpec : ChangeSpec := { name := "costPairs", fn := fun _ => fun
  | [d] => { results := [.lit (.bool true)], args := [d] }
  | _ => none }
def costPairsRow : OpenClaim := { program := "ytbfpcleogdalfaa", sum := "8864ffc422f2220b31149cecc028bc81b271f9d385ca426072b0b57104206a75", func := "syllabary/syllabarylaw11.CostPairs", spec := "costPairs", inPlace := ["slices.overlaps[syllabary/api.Pair]"], unfollowed := true, recurses := true, apart := false }
def CostPairsSaid : Prop := costPairsRow.holds Try.pinned (OpenSpec.ofChange costPairsSpec)

/-- ITS FALSE NEIGHBOUR: 'it returns false'. Refute it at one input. -/
def costPairsWrong : ChangeSpec := { name := "costPairs", fn := fun _ => fun
  | [d] => { results := [.lit (.bool false)], args := [d] }
  | _ => none }
def CostPairsWrongFalsely : Prop := costPairsRow.holds Try.pinned (OpenSpec.ofChange costPairsWrong)

/-- 'syllabarylaw11.CostLearns': WHATEVER THE INPUT: true; the input reads as it did. -/
def costLearnsSpec : ChangeSpec := { name := "costLearns", fn := fun _ => fun
  | [d1, d2] => { results := [.lit (.bool true)], args := [d1, d2] }
  | _ => none }
def costLearnsRow : OpenClaim := { program := "ytbfpcleogdalfaa", sum := "8864ffc422f2220b31149cecc028bc81b271f9d385ca426072b0b57104206a75", func := "syllabary/syllabarylaw11.CostLearns", spec := "costLearns", inPlace := ["slices.overlaps[syllabary/api.Pair]"], unfollowed := true, recurses := true, apart := false }
def CostLearnsSaid : Prop := costLearnsRow.holds Try.pinned (OpenSpec.ofChange costLearnsSpec)

/-- ITS FALSE NEIGHBOUR: 'it returns false'. Refute it at one input. -/
def costLearnsWrong : ChangeSpec := { name := "costLearns", fn := fun _ => fun
  | [d1, d2] => { results := [.lit (.bool false)], args := [d1, d2] }
  | _ => none }
def CostLearnsWrongFalsely : Prop := costLearnsRow.holds Try.pinned (OpenSpec.ofChange costLearnsWrong)

/-- 'syllabarylaw11.CostSums': WHATEVER THE INPUT: true; the input reads as it did. -/
def costSumsSpec : ChangeSpec := { name := "costSums", fn := fun _ => fun
  | [d1, d2] => { results := [.lit (.bool true)], args := [d1, d2] }
  | _ => none }
def costSumsRow : OpenClaim := { program := "ytbfpcleogdalfaa", sum := "8864ffc422f2220b31149cecc028bc81b271f9d385ca426072b0b57104206a75", func := "syllabary/syllabarylaw11.CostSums", spec := "costSums", inPlace := ["slices.overlaps[syllabary/api.Pair]"], unfollowed := true, recurses := true, apart := false }
def CostSumsSaid : Prop := costSumsRow.holds Try.pinned (OpenSpec.ofChange costSumsSpec)

/-- ITS FALSE NEIGHBOUR: 'it returns false'. Refute it at one input. -/
def costSumsWrong : ChangeSpec := { name := "costSums", fn := fun _ => fun
  | [d1, d2] => { results := [.lit (.bool false)], args := [d1, d2] }
  | _ => none }
def CostSumsWrongFalsely : Prop := costSumsRow.holds Try.pinned (OpenSpec.ofChange costSumsWrong)

/- THE SECOND FORM. 'bulk': how many values and letters a reading holds, each counted each time it is reached (what is shared counts as often as it is met; a slice's spare places count too). A statement '..UptoSaid' is the law's where the arguments, and the package variables that the reading takes, are together of bulk at most 1048576: NARROWER than '..Said'. Prove '..Said' where nothing that the law and all that it calls make is longer than what came in: it says more and counts as full. Else prove '..UptoSaid'. A law counts once. -/
mutual
def uptoBulk {H : Type} : DataW H → Nat
  | .lit (.string bytes) => bytes.length + 1
  | .lit _ => 1
  | .nil => 1
  | .ptr d => uptoBulk d + 1
  | .slice elems spare => uptoBulkAll elems + uptoBulkAll spare + 1
  | .agg parts => uptoBulkAll parts + 1
  | .iface _ d => uptoBulk d + 1
  | .map entries => uptoBulkEntries entries + 1
  | .held _ => 1
def uptoBulkAll {H : Type} : List (DataW H) → Nat
  | [] => 0
  | d :: r => uptoBulk d + uptoBulkAll r
def uptoBulkEntries {H : Type} : List (Lit × DataW H) → Nat
  | [] => 0
  | x :: r => uptoBulkEntry x + uptoBulkEntries r
def uptoBulkEntry {H : Type} : Lit × DataW H → Nat
  | (.string bytes, d) => bytes.length + uptoBulk d + 1
  | (_, d) => uptoBulk d + 1
 end
def uptoSmall : (H : Type) → List (DataW H) → Bool := fun _ ds => decide (uptoBulkAll ds ≤ 1048576)
def OpenSpec.upto (s : _root_.Go.ChangeSpec) : _root_.Go.OpenSpec := { _root_.Go.OpenSpec.ofChange s with cond := some uptoSmall }

/-- 'syllabarylaw11.CostMatchesReference', WHERE WHAT IT READS IS OF BULK AT MOST 1048576: true; the input reads as it did. -/
def costMatchesReferenceUptoRow : OpenClaim := { program := "ytbfpcleogdalfaa", sum := "8864ffc422f2220b31149cecc028bc81b271f9d385ca426072b0b57104206a75", func := "syllabary/syllabarylaw11.CostMatchesReference", spec := "costMatchesReference", inPlace := ["slices.overlaps[syllabary/api.Pair]"], unfollowed := true, recurses := true, apart := false, narrowed := true }
def CostMatchesReferenceUptoSaid : Prop := costMatchesReferenceUptoRow.holds Try.pinned (OpenSpec.upto costMatchesReferenceSpec)

/-- 'syllabarylaw11.CostValid', WHERE WHAT IT READS IS OF BULK AT MOST 1048576: true; the input reads as it did. -/
def costValidUptoRow : OpenClaim := { program := "ytbfpcleogdalfaa", sum := "8864ffc422f2220b31149cecc028bc81b271f9d385ca426072b0b57104206a75", func := "syllabary/syllabarylaw11.CostValid", spec := "costValid", inPlace := ["slices.overlaps[syllabary/api.Pair]"], unfollowed := true, recurses := true, apart := false, narrowed := true }
def CostValidUptoSaid : Prop := costValidUptoRow.holds Try.pinned (OpenSpec.upto costValidSpec)

/-- 'syllabarylaw11.CostLogs', WHERE WHAT IT READS IS OF BULK AT MOST 1048576: true; the input reads as it did. -/
def costLogsUptoRow : OpenClaim := { program := "ytbfpcleogdalfaa", sum := "8864ffc422f2220b31149cecc028bc81b271f9d385ca426072b0b57104206a75", func := "syllabary/syllabarylaw11.CostLogs", spec := "costLogs", inPlace := ["slices.overlaps[syllabary/api.Pair]"], unfollowed := true, recurses := true, apart := false, narrowed := true }
def CostLogsUptoSaid : Prop := costLogsUptoRow.holds Try.pinned (OpenSpec.upto costLogsSpec)

/-- 'syllabarylaw11.CostWords', WHERE WHAT IT READS IS OF BULK AT MOST 1048576: true; the input reads as it did. -/
def costWordsUptoRow : OpenClaim := { program := "ytbfpcleogdalfaa", sum := "8864ffc422f2220b31149cecc028bc81b271f9d385ca426072b0b57104206a75", func := "syllabary/syllabarylaw11.CostWords", spec := "costWords", inPlace := ["slices.overlaps[syllabary/api.Pair]"], unfollowed := true, recurses := true, apart := false, narrowed := true }
def CostWordsUptoSaid : Prop := costWordsUptoRow.holds Try.pinned (OpenSpec.upto costWordsSpec)

/-- 'syllabarylaw11.CostPairs', WHERE WHAT IT READS IS OF BULK AT MOST 1048576: true; the input reads as it did. -/
def costPairsUptoRow : OpenClaim := { program := "ytbfpcleogdalfaa", sum := "8864ffc422f2220b31149cecc028bc81b271f9d385ca426072b0b57104206a75", func := "syllabary/syllabarylaw11.CostPairs", spec := "costPairs", inPlace := ["slices.overlaps[syllabary/api.Pair]"], unfollowed := true, recurses := true, apart := false, narrowed := true }
def CostPairsUptoSaid : Prop := costPairsUptoRow.holds Try.pinned (OpenSpec.upto costPairsSpec)

/-- 'syllabarylaw11.CostLearns', WHERE WHAT IT READS IS OF BULK AT MOST 1048576: true; the input reads as it did. -/
def costLearnsUptoRow : OpenClaim := { program := "ytbfpcleogdalfaa", sum := "8864ffc422f2220b31149cecc028bc81b271f9d385ca426072b0b57104206a75", func := "syllabary/syllabarylaw11.CostLearns", spec := "costLearns", inPlace := ["slices.overlaps[syllabary/api.Pair]"], unfollowed := true, recurses := true, apart := false, narrowed := true }
def CostLearnsUptoSaid : Prop := costLearnsUptoRow.holds Try.pinned (OpenSpec.upto costLearnsSpec)

/-- 'syllabarylaw11.CostSums', WHERE WHAT IT READS IS OF BULK AT MOST 1048576: true; the input reads as it did. -/
def costSumsUptoRow : OpenClaim := { program := "ytbfpcleogdalfaa", sum := "8864ffc422f2220b31149cecc028bc81b271f9d385ca426072b0b57104206a75", func := "syllabary/syllabarylaw11.CostSums", spec := "costSums", inPlace := ["slices.overlaps[syllabary/api.Pair]"], unfollowed := true, recurses := true, apart := false, narrowed := true }
def CostSumsUptoSaid : Prop := costSumsUptoRow.holds Try.pinned (OpenSpec.upto costSumsSpec)

end Rows
end Go.Proofs.Ytbfpcleogdalfaa
