/-
  No cell of these rows narrows 'for every input' (looked for: loops, veiled, ifaces, maps, wideKeys, modest, calm, conditions, laid).
  DERIVED. THE GIVEN ROWS OF THIS SEAT. 11 by the template 'for every input the law returns true; each argument reads behind the call as it read before'; 0 by the template 'total and deterministic' (their statements: YtbikjmafddndpaaTotals.lean).
  GIVEN WITH THE SEED: the statements are not yours to turn. If you find one false, say at which input.
  Laid BY PROGRAM, IN A SANDBOX (cutbox-rows.mjs): the forced cells as the released guide's own fill.sh prints them over the translation 50976253fe2cdeca… (all of the seat's roots in one cut). By AI agents, Wed Nov 11 2026. No macro, syntax, notation, axiom, sorry.
-/
import Derived.Test.YtbikjmafddndpaaChecked
import GoSem.Claim
import GoSem.ClaimJoined
import GoSem.ClaimMapViews
import Derived.JoinedTies
import Derived.KernelRfl
namespace Go.Proofs.Ytbikjmafddndpaa
/- THE CELL 'sum', in the pinned program and in every row, IS THE sha256 OF THE DUMP (.gsa) THAT YtbikjmafddndpaaProg.lean LOADS. Nothing in Lean hashes anything: it is a label: what it is worth is what the hold of that sum in a sandbox is worth. -/
noncomputable def Try.pinned : Pinned := { name := "ytbikjmafddndpaa", sum := "50976253fe2cdeca52ed87618cb4d1bc18b8231d91d7eb0eabe0094d55ccfdc2", checked := Try.checked }
namespace Rows
def none {H : Type} : Left H := { results := [], args := [] }

/-- 'syllabarylaw15.BestMatchesReference': WHATEVER THE INPUT: true; the input reads as it did. -/
def bestMatchesReferenceSpec : ChangeSpec := { name := "bestMatchesReference", fn := fun _ => fun
  | [d1, d2, d3] => { results := [.lit (.bool true)], args := [d1, d2, d3] }
  | _ => none }
def bestMatchesReferenceRow : OpenClaim := { program := "ytbikjmafddndpaa", sum := "50976253fe2cdeca52ed87618cb4d1bc18b8231d91d7eb0eabe0094d55ccfdc2", func := "syllabary/syllabarylaw15.BestMatchesReference", spec := "bestMatchesReference", unfollowed := true, recurses := true, apart := false }
def BestMatchesReferenceSaid : Prop := bestMatchesReferenceRow.holds Try.pinned (OpenSpec.ofChange bestMatchesReferenceSpec)

/-- ITS FALSE NEIGHBOUR: 'it returns false'. Refute it at one input. -/
def bestMatchesReferenceWrong : ChangeSpec := { name := "bestMatchesReference", fn := fun _ => fun
  | [d1, d2, d3] => { results := [.lit (.bool false)], args := [d1, d2, d3] }
  | _ => none }
def BestMatchesReferenceWrongFalsely : Prop := bestMatchesReferenceRow.holds Try.pinned (OpenSpec.ofChange bestMatchesReferenceWrong)

/-- 'syllabarylaw15.BestOrders': WHATEVER THE INPUT: true; the input reads as it did. -/
def bestOrdersSpec : ChangeSpec := { name := "bestOrders", fn := fun _ => fun
  | [d1, d2, d3] => { results := [.lit (.bool true)], args := [d1, d2, d3] }
  | _ => none }
def bestOrdersRow : OpenClaim := { program := "ytbikjmafddndpaa", sum := "50976253fe2cdeca52ed87618cb4d1bc18b8231d91d7eb0eabe0094d55ccfdc2", func := "syllabary/syllabarylaw15.BestOrders", spec := "bestOrders", unfollowed := true, recurses := true, apart := false }
def BestOrdersSaid : Prop := bestOrdersRow.holds Try.pinned (OpenSpec.ofChange bestOrdersSpec)

/-- ITS FALSE NEIGHBOUR: 'it returns false'. Refute it at one input. -/
def bestOrdersWrong : ChangeSpec := { name := "bestOrders", fn := fun _ => fun
  | [d1, d2, d3] => { results := [.lit (.bool false)], args := [d1, d2, d3] }
  | _ => none }
def BestOrdersWrongFalsely : Prop := bestOrdersRow.holds Try.pinned (OpenSpec.ofChange bestOrdersWrong)

/-- 'syllabarylaw15.BestBegins': WHATEVER THE INPUT: true; the input reads as it did. -/
def bestBeginsSpec : ChangeSpec := { name := "bestBegins", fn := fun _ => fun
  | [d1, d2] => { results := [.lit (.bool true)], args := [d1, d2] }
  | _ => none }
def bestBeginsRow : OpenClaim := { program := "ytbikjmafddndpaa", sum := "50976253fe2cdeca52ed87618cb4d1bc18b8231d91d7eb0eabe0094d55ccfdc2", func := "syllabary/syllabarylaw15.BestBegins", spec := "bestBegins", unfollowed := true, recurses := true, apart := false }
def BestBeginsSaid : Prop := bestBeginsRow.holds Try.pinned (OpenSpec.ofChange bestBeginsSpec)

/-- ITS FALSE NEIGHBOUR: 'it returns false'. Refute it at one input. -/
def bestBeginsWrong : ChangeSpec := { name := "bestBegins", fn := fun _ => fun
  | [d1, d2] => { results := [.lit (.bool false)], args := [d1, d2] }
  | _ => none }
def BestBeginsWrongFalsely : Prop := bestBeginsRow.holds Try.pinned (OpenSpec.ofChange bestBeginsWrong)

/-- 'syllabarylaw15.BestNumbers': WHATEVER THE INPUT: true; the input reads as it did. -/
def bestNumbersSpec : ChangeSpec := { name := "bestNumbers", fn := fun _ => fun
  | [d] => { results := [.lit (.bool true)], args := [d] }
  | _ => none }
def bestNumbersRow : OpenClaim := { program := "ytbikjmafddndpaa", sum := "50976253fe2cdeca52ed87618cb4d1bc18b8231d91d7eb0eabe0094d55ccfdc2", func := "syllabary/syllabarylaw15.BestNumbers", spec := "bestNumbers", unfollowed := true, recurses := true, apart := false }
def BestNumbersSaid : Prop := bestNumbersRow.holds Try.pinned (OpenSpec.ofChange bestNumbersSpec)

/-- ITS FALSE NEIGHBOUR: 'it returns false'. Refute it at one input. -/
def bestNumbersWrong : ChangeSpec := { name := "bestNumbers", fn := fun _ => fun
  | [d] => { results := [.lit (.bool false)], args := [d] }
  | _ => none }
def BestNumbersWrongFalsely : Prop := bestNumbersRow.holds Try.pinned (OpenSpec.ofChange bestNumbersWrong)

/-- 'syllabarylaw15.BestLinks': WHATEVER THE INPUT: true; the input reads as it did. -/
def bestLinksSpec : ChangeSpec := { name := "bestLinks", fn := fun _ => fun
  | [d1, d2] => { results := [.lit (.bool true)], args := [d1, d2] }
  | _ => none }
def bestLinksRow : OpenClaim := { program := "ytbikjmafddndpaa", sum := "50976253fe2cdeca52ed87618cb4d1bc18b8231d91d7eb0eabe0094d55ccfdc2", func := "syllabary/syllabarylaw15.BestLinks", spec := "bestLinks", unfollowed := true, recurses := true, apart := false }
def BestLinksSaid : Prop := bestLinksRow.holds Try.pinned (OpenSpec.ofChange bestLinksSpec)

/-- ITS FALSE NEIGHBOUR: 'it returns false'. Refute it at one input. -/
def bestLinksWrong : ChangeSpec := { name := "bestLinks", fn := fun _ => fun
  | [d1, d2] => { results := [.lit (.bool false)], args := [d1, d2] }
  | _ => none }
def BestLinksWrongFalsely : Prop := bestLinksRow.holds Try.pinned (OpenSpec.ofChange bestLinksWrong)

/-- 'syllabarylaw15.BestCosts': WHATEVER THE INPUT: true; the input reads as it did. -/
def bestCostsSpec : ChangeSpec := { name := "bestCosts", fn := fun _ => fun
  | [d1, d2, d3] => { results := [.lit (.bool true)], args := [d1, d2, d3] }
  | _ => none }
def bestCostsRow : OpenClaim := { program := "ytbikjmafddndpaa", sum := "50976253fe2cdeca52ed87618cb4d1bc18b8231d91d7eb0eabe0094d55ccfdc2", func := "syllabary/syllabarylaw15.BestCosts", spec := "bestCosts", unfollowed := true, recurses := true, apart := false }
def BestCostsSaid : Prop := bestCostsRow.holds Try.pinned (OpenSpec.ofChange bestCostsSpec)

/-- ITS FALSE NEIGHBOUR: 'it returns false'. Refute it at one input. -/
def bestCostsWrong : ChangeSpec := { name := "bestCosts", fn := fun _ => fun
  | [d1, d2, d3] => { results := [.lit (.bool false)], args := [d1, d2, d3] }
  | _ => none }
def BestCostsWrongFalsely : Prop := bestCostsRow.holds Try.pinned (OpenSpec.ofChange bestCostsWrong)

/-- 'syllabarylaw15.BestParts': WHATEVER THE INPUT: true; the input reads as it did. -/
def bestPartsSpec : ChangeSpec := { name := "bestParts", fn := fun _ => fun
  | [d1, d2] => { results := [.lit (.bool true)], args := [d1, d2] }
  | _ => none }
def bestPartsRow : OpenClaim := { program := "ytbikjmafddndpaa", sum := "50976253fe2cdeca52ed87618cb4d1bc18b8231d91d7eb0eabe0094d55ccfdc2", func := "syllabary/syllabarylaw15.BestParts", spec := "bestParts", unfollowed := true, recurses := true, apart := false }
def BestPartsSaid : Prop := bestPartsRow.holds Try.pinned (OpenSpec.ofChange bestPartsSpec)

/-- ITS FALSE NEIGHBOUR: 'it returns false'. Refute it at one input. -/
def bestPartsWrong : ChangeSpec := { name := "bestParts", fn := fun _ => fun
  | [d1, d2] => { results := [.lit (.bool false)], args := [d1, d2] }
  | _ => none }
def BestPartsWrongFalsely : Prop := bestPartsRow.holds Try.pinned (OpenSpec.ofChange bestPartsWrong)

/-- 'syllabarylaw15.BestRefuses': WHATEVER THE INPUT: true; the input reads as it did. -/
def bestRefusesSpec : ChangeSpec := { name := "bestRefuses", fn := fun _ => fun
  | [d1, d2, d3] => { results := [.lit (.bool true)], args := [d1, d2, d3] }
  | _ => none }
def bestRefusesRow : OpenClaim := { program := "ytbikjmafddndpaa", sum := "50976253fe2cdeca52ed87618cb4d1bc18b8231d91d7eb0eabe0094d55ccfdc2", func := "syllabary/syllabarylaw15.BestRefuses", spec := "bestRefuses", unfollowed := true, recurses := true, apart := false }
def BestRefusesSaid : Prop := bestRefusesRow.holds Try.pinned (OpenSpec.ofChange bestRefusesSpec)

/-- ITS FALSE NEIGHBOUR: 'it returns false'. Refute it at one input. -/
def bestRefusesWrong : ChangeSpec := { name := "bestRefuses", fn := fun _ => fun
  | [d1, d2, d3] => { results := [.lit (.bool false)], args := [d1, d2, d3] }
  | _ => none }
def BestRefusesWrongFalsely : Prop := bestRefusesRow.holds Try.pinned (OpenSpec.ofChange bestRefusesWrong)

/-- 'syllabarylaw16.ProofRejects': WHATEVER THE INPUT: true; the input reads as it did. -/
def proofRejectsSpec : ChangeSpec := { name := "proofRejects", fn := fun _ => fun
  | [d1, d2, d3] => { results := [.lit (.bool true)], args := [d1, d2, d3] }
  | _ => none }
def proofRejectsRow : OpenClaim := { program := "ytbikjmafddndpaa", sum := "50976253fe2cdeca52ed87618cb4d1bc18b8231d91d7eb0eabe0094d55ccfdc2", func := "syllabary/syllabarylaw16.ProofRejects", spec := "proofRejects", unfollowed := true, recurses := true, apart := false }
def ProofRejectsSaid : Prop := proofRejectsRow.holds Try.pinned (OpenSpec.ofChange proofRejectsSpec)

/-- ITS FALSE NEIGHBOUR: 'it returns false'. Refute it at one input. -/
def proofRejectsWrong : ChangeSpec := { name := "proofRejects", fn := fun _ => fun
  | [d1, d2, d3] => { results := [.lit (.bool false)], args := [d1, d2, d3] }
  | _ => none }
def ProofRejectsWrongFalsely : Prop := proofRejectsRow.holds Try.pinned (OpenSpec.ofChange proofRejectsWrong)

/-- 'syllabarylaw16.ProofPotentials': WHATEVER THE INPUT: true; the input reads as it did. -/
def proofPotentialsSpec : ChangeSpec := { name := "proofPotentials", fn := fun _ => fun
  | [d1, d2] => { results := [.lit (.bool true)], args := [d1, d2] }
  | _ => none }
def proofPotentialsRow : OpenClaim := { program := "ytbikjmafddndpaa", sum := "50976253fe2cdeca52ed87618cb4d1bc18b8231d91d7eb0eabe0094d55ccfdc2", func := "syllabary/syllabarylaw16.ProofPotentials", spec := "proofPotentials", unfollowed := true, recurses := true, apart := false }
def ProofPotentialsSaid : Prop := proofPotentialsRow.holds Try.pinned (OpenSpec.ofChange proofPotentialsSpec)

/-- ITS FALSE NEIGHBOUR: 'it returns false'. Refute it at one input. -/
def proofPotentialsWrong : ChangeSpec := { name := "proofPotentials", fn := fun _ => fun
  | [d1, d2] => { results := [.lit (.bool false)], args := [d1, d2] }
  | _ => none }
def ProofPotentialsWrongFalsely : Prop := proofPotentialsRow.holds Try.pinned (OpenSpec.ofChange proofPotentialsWrong)

/-- 'syllabarylaw16.ProofPages': WHATEVER THE INPUT: true; the input reads as it did. -/
def proofPagesSpec : ChangeSpec := { name := "proofPages", fn := fun _ => fun
  | [d1, d2] => { results := [.lit (.bool true)], args := [d1, d2] }
  | _ => none }
def proofPagesRow : OpenClaim := { program := "ytbikjmafddndpaa", sum := "50976253fe2cdeca52ed87618cb4d1bc18b8231d91d7eb0eabe0094d55ccfdc2", func := "syllabary/syllabarylaw16.ProofPages", spec := "proofPages", unfollowed := true, recurses := true, apart := false }
def ProofPagesSaid : Prop := proofPagesRow.holds Try.pinned (OpenSpec.ofChange proofPagesSpec)

/-- ITS FALSE NEIGHBOUR: 'it returns false'. Refute it at one input. -/
def proofPagesWrong : ChangeSpec := { name := "proofPages", fn := fun _ => fun
  | [d1, d2] => { results := [.lit (.bool false)], args := [d1, d2] }
  | _ => none }
def ProofPagesWrongFalsely : Prop := proofPagesRow.holds Try.pinned (OpenSpec.ofChange proofPagesWrong)

/- THE SECOND FORM. 'bulk': how many values and letters a reading holds, each counted each time it is reached (what is shared counts as often as it is met; a slice's spare places count too). A statement '..UptoSaid' is the law's where the arguments, and the package variables that the reading takes, are together of bulk at most 1048576: NARROWER than '..Said'. Prove '..Said' where nothing that the law and all that it calls make is longer than what came in: it says more and counts as full. Else prove '..UptoSaid'. A law counts once. -/
mutual
def uptoBulk {H : Type} : DataW H → Nat
  | .lit (.string bytes) => bytes.length + 1
  | .lit _ => 1
  | .nil => 1
  | .ptr d => uptoBulk d + 1
  | .slice elems spare => uptoBulkAll elems + uptoBulkAll spare + 1
  | .agg parts => uptoBulkAll parts + 1
  | .iface _ d => uptoBulk d + 1
  | .map entries => uptoBulkEntries entries + 1
  | .held _ => 1
def uptoBulkAll {H : Type} : List (DataW H) → Nat
  | [] => 0
  | d :: r => uptoBulk d + uptoBulkAll r
def uptoBulkEntries {H : Type} : List (Lit × DataW H) → Nat
  | [] => 0
  | x :: r => uptoBulkEntry x + uptoBulkEntries r
def uptoBulkEntry {H : Type} : Lit × DataW H → Nat
  | (.string bytes, d) => bytes.length + uptoBulk d + 1
  | (_, d) => uptoBulk d + 1
 end
def uptoSmall : (H : Type) → List (DataW H) → Bool := fun _ ds => decide (uptoBulkAll ds ≤ 1048576)
def OpenSpec.upto (s : _root_.Go.ChangeSpec) : _root_.Go.OpenSpec := { _root_.Go.OpenSpec.ofChange s with cond := some uptoSmall }

/-- 'syllabarylaw15.BestMatchesReference', WHERE WHAT IT READS IS OF BULK AT MOST 1048576: true; the input reads as it did. -/
def bestMatchesReferenceUptoRow : OpenClaim := { program := "ytbikjmafddndpaa", sum := "50976253fe2cdeca52ed87618cb4d1bc18b8231d91d7eb0eabe0094d55ccfdc2", func := "syllabary/syllabarylaw15.BestMatchesReference", spec := "bestMatchesReference", unfollowed := true, recurses := true, apart := false, narrowed := true }
def BestMatchesReferenceUptoSaid : Prop := bestMatchesReferenceUptoRow.holds Try.pinned (OpenSpec.upto bestMatchesReferenceSpec)

/-- 'syllabarylaw15.BestOrders', WHERE WHAT IT READS IS OF BULK AT MOST 1048576: true; the input reads as it did. -/
def bestOrdersUptoRow : OpenClaim := { program := "ytbikjmafddndpaa", sum := "50976253fe2cdeca52ed87618cb4d1bc18b8231d91d7eb0eabe0094d55ccfdc2", func := "syllabary/syllabarylaw15.BestOrders", spec := "bestOrders", unfollowed := true, recurses := true, apart := false, narrowed := true }
def BestOrdersUptoSaid : Prop := bestOrdersUptoRow.holds Try.pinned (OpenSpec.upto bestOrdersSpec)

/-- 'syllabarylaw15.BestBegins', WHERE WHAT IT READS IS OF BULK AT MOST 1048576: true; the input reads as it did. -/
def bestBeginsUptoRow : OpenClaim := { program := "ytbikjmafddndpaa", sum := "50976253fe2cdeca52ed87618cb4d1bc18b8231d91d7eb0eabe0094d55ccfdc2", func := "syllabary/syllabarylaw15.BestBegins", spec := "bestBegins", unfollowed := true, recurses := true, apart := false, narrowed := true }
def BestBeginsUptoSaid : Prop := bestBeginsUptoRow.holds Try.pinned (OpenSpec.upto bestBeginsSpec)

/-- 'syllabarylaw15.BestNumbers', WHERE WHAT IT READS IS OF BULK AT MOST 1048576: true; the input reads as it did. -/
def bestNumbersUptoRow : OpenClaim := { program := "ytbikjmafddndpaa", sum := "50976253fe2cdeca52ed87618cb4d1bc18b8231d91d7eb0eabe0094d55ccfdc2", func := "syllabary/syllabarylaw15.BestNumbers", spec := "bestNumbers", unfollowed := true, recurses := true, apart := false, narrowed := true }
def BestNumbersUptoSaid : Prop := bestNumbersUptoRow.holds Try.pinned (OpenSpec.upto bestNumbersSpec)

/-- 'syllabarylaw15.BestLinks', WHERE WHAT IT READS IS OF BULK AT MOST 1048576: true; the input reads as it did. -/
def bestLinksUptoRow : OpenClaim := { program := "ytbikjmafddndpaa", sum := "50976253fe2cdeca52ed87618cb4d1bc18b8231d91d7eb0eabe0094d55ccfdc2", func := "syllabary/syllabarylaw15.BestLinks", spec := "bestLinks", unfollowed := true, recurses := true, apart := false, narrowed := true }
def BestLinksUptoSaid : Prop := bestLinksUptoRow.holds Try.pinned (OpenSpec.upto bestLinksSpec)

/-- 'syllabarylaw15.BestCosts', WHERE WHAT IT READS IS OF BULK AT MOST 1048576: true; the input reads as it did. -/
def bestCostsUptoRow : OpenClaim := { program := "ytbikjmafddndpaa", sum := "50976253fe2cdeca52ed87618cb4d1bc18b8231d91d7eb0eabe0094d55ccfdc2", func := "syllabary/syllabarylaw15.BestCosts", spec := "bestCosts", unfollowed := true, recurses := true, apart := false, narrowed := true }
def BestCostsUptoSaid : Prop := bestCostsUptoRow.holds Try.pinned (OpenSpec.upto bestCostsSpec)

/-- 'syllabarylaw15.BestParts', WHERE WHAT IT READS IS OF BULK AT MOST 1048576: true; the input reads as it did. -/
def bestPartsUptoRow : OpenClaim := { program := "ytbikjmafddndpaa", sum := "50976253fe2cdeca52ed87618cb4d1bc18b8231d91d7eb0eabe0094d55ccfdc2", func := "syllabary/syllabarylaw15.BestParts", spec := "bestParts", unfollowed := true, recurses := true, apart := false, narrowed := true }
def BestPartsUptoSaid : Prop := bestPartsUptoRow.holds Try.pinned (OpenSpec.upto bestPartsSpec)

/-- 'syllabarylaw15.BestRefuses', WHERE WHAT IT READS IS OF BULK AT MOST 1048576: true; the input reads as it did. -/
def bestRefusesUptoRow : OpenClaim := { program := "ytbikjmafddndpaa", sum := "50976253fe2cdeca52ed87618cb4d1bc18b8231d91d7eb0eabe0094d55ccfdc2", func := "syllabary/syllabarylaw15.BestRefuses", spec := "bestRefuses", unfollowed := true, recurses := true, apart := false, narrowed := true }
def BestRefusesUptoSaid : Prop := bestRefusesUptoRow.holds Try.pinned (OpenSpec.upto bestRefusesSpec)

/-- 'syllabarylaw16.ProofRejects', WHERE WHAT IT READS IS OF BULK AT MOST 1048576: true; the input reads as it did. -/
def proofRejectsUptoRow : OpenClaim := { program := "ytbikjmafddndpaa", sum := "50976253fe2cdeca52ed87618cb4d1bc18b8231d91d7eb0eabe0094d55ccfdc2", func := "syllabary/syllabarylaw16.ProofRejects", spec := "proofRejects", unfollowed := true, recurses := true, apart := false, narrowed := true }
def ProofRejectsUptoSaid : Prop := proofRejectsUptoRow.holds Try.pinned (OpenSpec.upto proofRejectsSpec)

/-- 'syllabarylaw16.ProofPotentials', WHERE WHAT IT READS IS OF BULK AT MOST 1048576: true; the input reads as it did. -/
def proofPotentialsUptoRow : OpenClaim := { program := "ytbikjmafddndpaa", sum := "50976253fe2cdeca52ed87618cb4d1bc18b8231d91d7eb0eabe0094d55ccfdc2", func := "syllabary/syllabarylaw16.ProofPotentials", spec := "proofPotentials", unfollowed := true, recurses := true, apart := false, narrowed := true }
def ProofPotentialsUptoSaid : Prop := proofPotentialsUptoRow.holds Try.pinned (OpenSpec.upto proofPotentialsSpec)

/-- 'syllabarylaw16.ProofPages', WHERE WHAT IT READS IS OF BULK AT MOST 1048576: true; the input reads as it did. -/
def proofPagesUptoRow : OpenClaim := { program := "ytbikjmafddndpaa", sum := "50976253fe2cdeca52ed87618cb4d1bc18b8231d91d7eb0eabe0094d55ccfdc2", func := "syllabary/syllabarylaw16.ProofPages", spec := "proofPages", unfollowed := true, recurses := true, apart := false, narrowed := true }
def ProofPagesUptoSaid : Prop := proofPagesUptoRow.holds Try.pinned (OpenSpec.upto proofPagesSpec)

end Rows
end Go.Proofs.Ytbikjmafddndpaa
