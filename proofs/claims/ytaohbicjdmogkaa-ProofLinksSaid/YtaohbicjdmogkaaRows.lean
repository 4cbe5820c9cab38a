/-
  No cell of these rows narrows 'for every input' (looked for: loops, veiled, ifaces, maps, wideKeys, modest, calm, conditions, laid).
  DERIVED. THE GIVEN ROWS OF THIS SEAT. 5 by the template 'for every input the law returns true; each argument reads behind the call as it read before'; 0 by the template 'total and deterministic' (their statements: YtaohbicjdmogkaaTotals.lean).
  GIVEN WITH THE SEED: the statements are not yours to turn. If you find one false, say at which input.
  Laid BY PROGRAM, IN A SANDBOX (cutbox-rows.mjs): the forced cells as the released guide's own fill.sh prints them over the translation eaf21b3815805328… (all of the seat's roots in one cut). By AI agents, Wed Nov 11 2026. No macro, syntax, notation, axiom, sorry.
-/
import Derived.Test.YtaohbicjdmogkaaChecked
import GoSem.Claim
import GoSem.ClaimJoined
import GoSem.ClaimMapViews
import Derived.JoinedTies
import Derived.KernelRfl
namespace Go.Proofs.Ytaohbicjdmogkaa
/- THE CELL 'sum', in the pinned program and in every row, IS THE sha256 OF THE DUMP (.gsa) THAT YtaohbicjdmogkaaProg.lean LOADS. Nothing in Lean hashes anything: it is a label: what it is worth is what the hold of that sum in a sandbox is worth. -/
noncomputable def Try.pinned : Pinned := { name := "ytaohbicjdmogkaa", sum := "eaf21b3815805328a0d1653d607420b91d5443243e0335e18f56493a9537b075", checked := Try.checked }
namespace Rows
def none {H : Type} : Left H := { results := [], args := [] }

/-- 'syllabarylaw16.ProofMatchesReference': WHATEVER THE INPUT: true; the input reads as it did. -/
def proofMatchesReferenceSpec : ChangeSpec := { name := "proofMatchesReference", fn := fun _ => fun
  | [d1, d2, d3] => { results := [.lit (.bool true)], args := [d1, d2, d3] }
  | _ => none }
def proofMatchesReferenceRow : OpenClaim := { program := "ytaohbicjdmogkaa", sum := "eaf21b3815805328a0d1653d607420b91d5443243e0335e18f56493a9537b075", func := "syllabary/syllabarylaw16.ProofMatchesReference", spec := "proofMatchesReference", unfollowed := true, recurses := true, apart := false }
def ProofMatchesReferenceSaid : Prop := proofMatchesReferenceRow.holds Try.pinned (OpenSpec.ofChange proofMatchesReferenceSpec)

/-- ITS FALSE NEIGHBOUR: 'it returns false'. Refute it at one input. -/
def proofMatchesReferenceWrong : ChangeSpec := { name := "proofMatchesReference", fn := fun _ => fun
  | [d1, d2, d3] => { results := [.lit (.bool false)], args := [d1, d2, d3] }
  | _ => none }
def ProofMatchesReferenceWrongFalsely : Prop := proofMatchesReferenceRow.holds Try.pinned (OpenSpec.ofChange proofMatchesReferenceWrong)

/-- 'syllabarylaw16.ProofChanges': WHATEVER THE INPUT: true; the input reads as it did. -/
def proofChangesSpec : ChangeSpec := { name := "proofChanges", fn := fun _ => fun
  | [d1, d2, d3] => { results := [.lit (.bool true)], args := [d1, d2, d3] }
  | _ => none }
def proofChangesRow : OpenClaim := { program := "ytaohbicjdmogkaa", sum := "eaf21b3815805328a0d1653d607420b91d5443243e0335e18f56493a9537b075", func := "syllabary/syllabarylaw16.ProofChanges", spec := "proofChanges", unfollowed := true, recurses := true, apart := false }
def ProofChangesSaid : Prop := proofChangesRow.holds Try.pinned (OpenSpec.ofChange proofChangesSpec)

/-- ITS FALSE NEIGHBOUR: 'it returns false'. Refute it at one input. -/
def proofChangesWrong : ChangeSpec := { name := "proofChanges", fn := fun _ => fun
  | [d1, d2, d3] => { results := [.lit (.bool false)], args := [d1, d2, d3] }
  | _ => none }
def ProofChangesWrongFalsely : Prop := proofChangesRow.holds Try.pinned (OpenSpec.ofChange proofChangesWrong)

/-- 'syllabarylaw16.ProofRejects': WHATEVER THE INPUT: true; the input reads as it did. -/
def proofRejectsSpec : ChangeSpec := { name := "proofRejects", fn := fun _ => fun
  | [d1, d2, d3] => { results := [.lit (.bool true)], args := [d1, d2, d3] }
  | _ => none }
def proofRejectsRow : OpenClaim := { program := "ytaohbicjdmogkaa", sum := "eaf21b3815805328a0d1653d607420b91d5443243e0335e18f56493a9537b075", func := "syllabary/syllabarylaw16.ProofRejects", spec := "proofRejects", unfollowed := true, recurses := true, apart := false }
def ProofRejectsSaid : Prop := proofRejectsRow.holds Try.pinned (OpenSpec.ofChange proofRejectsSpec)

/-- ITS FALSE NEIGHBOUR: 'it returns false'. Refute it at one input. -/
def proofRejectsWrong : ChangeSpec := { name := "proofRejects", fn := fun _ => fun
  | [d1, d2, d3] => { results := [.lit (.bool false)], args := [d1, d2, d3] }
  | _ => none }
def ProofRejectsWrongFalsely : Prop := proofRejectsRow.holds Try.pinned (OpenSpec.ofChange proofRejectsWrong)

/-- 'syllabarylaw16.ProofBeginnings': WHATEVER THE INPUT: true; the input reads as it did. -/
def proofBeginningsSpec : ChangeSpec := { name := "proofBeginnings", fn := fun _ => fun
  | [d1, d2, d3] => { results := [.lit (.bool true)], args := [d1, d2, d3] }
  | _ => none }
def proofBeginningsRow : OpenClaim := { program := "ytaohbicjdmogkaa", sum := "eaf21b3815805328a0d1653d607420b91d5443243e0335e18f56493a9537b075", func := "syllabary/syllabarylaw16.ProofBeginnings", spec := "proofBeginnings", unfollowed := true, recurses := true, apart := false }
def ProofBeginningsSaid : Prop := proofBeginningsRow.holds Try.pinned (OpenSpec.ofChange proofBeginningsSpec)

/-- ITS FALSE NEIGHBOUR: 'it returns false'. Refute it at one input. -/
def proofBeginningsWrong : ChangeSpec := { name := "proofBeginnings", fn := fun _ => fun
  | [d1, d2, d3] => { results := [.lit (.bool false)], args := [d1, d2, d3] }
  | _ => none }
def ProofBeginningsWrongFalsely : Prop := proofBeginningsRow.holds Try.pinned (OpenSpec.ofChange proofBeginningsWrong)

/-- 'syllabarylaw16.ProofLinks': WHATEVER THE INPUT: true; the input reads as it did. -/
def proofLinksSpec : ChangeSpec := { name := "proofLinks", fn := fun _ => fun
  | [d1, d2] => { results := [.lit (.bool true)], args := [d1, d2] }
  | _ => none }
def proofLinksRow : OpenClaim := { program := "ytaohbicjdmogkaa", sum := "eaf21b3815805328a0d1653d607420b91d5443243e0335e18f56493a9537b075", func := "syllabary/syllabarylaw16.ProofLinks", spec := "proofLinks", unfollowed := true, recurses := true, apart := false }
def ProofLinksSaid : Prop := proofLinksRow.holds Try.pinned (OpenSpec.ofChange proofLinksSpec)

/-- ITS FALSE NEIGHBOUR: 'it returns false'. Refute it at one input. -/
def proofLinksWrong : ChangeSpec := { name := "proofLinks", fn := fun _ => fun
  | [d1, d2] => { results := [.lit (.bool false)], args := [d1, d2] }
  | _ => none }
def ProofLinksWrongFalsely : Prop := proofLinksRow.holds Try.pinned (OpenSpec.ofChange proofLinksWrong)

/- THE SECOND FORM. 'bulk': how many values and letters a reading holds, each counted each time it is reached (what is shared counts as often as it is met; a slice's spare places count too). A statement '..UptoSaid' is the law's where the arguments, and the package variables that the reading takes, are together of bulk at most 1048576: NARROWER than '..Said'. Prove '..Said' where nothing that the law and all that it calls make is longer than what came in: it says more and counts as full. Else prove '..UptoSaid'. A law counts once. -/
mutual
def uptoBulk {H : Type} : DataW H → Nat
  | .lit (.string bytes) => bytes.length + 1
  | .lit _ => 1
  | .nil => 1
  | .ptr d => uptoBulk d + 1
  | .slice elems spare => uptoBulkAll elems + uptoBulkAll spare + 1
  | .agg parts => uptoBulkAll parts + 1
  | .iface _ d => uptoBulk d + 1
  | .map entries => uptoBulkEntries entries + 1
  | .held _ => 1
def uptoBulkAll {H : Type} : List (DataW H) → Nat
  | [] => 0
  | d :: r => uptoBulk d + uptoBulkAll r
def uptoBulkEntries {H : Type} : List (Lit × DataW H) → Nat
  | [] => 0
  | x :: r => uptoBulkEntry x + uptoBulkEntries r
def uptoBulkEntry {H : Type} : Lit × DataW H → Nat
  | (.string bytes, d) => bytes.length + uptoBulk d + 1
  | (_, d) => uptoBulk d + 1
 end
def uptoSmall : (H : Type) → List (DataW H) → Bool := fun _ ds => decide (uptoBulkAll ds ≤ 1048576)
def OpenSpec.upto (s : _root_.Go.ChangeSpec) : _root_.Go.OpenSpec := { _root_.Go.OpenSpec.ofChange s with cond := some uptoSmall }

/-- 'syllabarylaw16.ProofMatchesReference', WHERE WHAT IT READS IS OF BULK AT MOST 1048576: true; the input reads as it did. -/
def proofMatchesReferenceUptoRow : OpenClaim := { program := "ytaohbicjdmogkaa", sum := "eaf21b3815805328a0d1653d607420b91d5443243e0335e18f56493a9537b075", func := "syllabary/syllabarylaw16.ProofMatchesReference", spec := "proofMatchesReference", unfollowed := true, recurses := true, apart := false, narrowed := true }
def ProofMatchesReferenceUptoSaid : Prop := proofMatchesReferenceUptoRow.holds Try.pinned (OpenSpec.upto proofMatchesReferenceSpec)

/-- 'syllabarylaw16.ProofChanges', WHERE WHAT IT READS IS OF BULK AT MOST 1048576: true; the input reads as it did. -/
def proofChangesUptoRow : OpenClaim := { program := "ytaohbicjdmogkaa", sum := "eaf21b3815805328a0d1653d607420b91d5443243e0335e18f56493a9537b075", func := "syllabary/syllabarylaw16.ProofChanges", spec := "proofChanges", unfollowed := true, recurses := true, apart := false, narrowed := true }
def ProofChangesUptoSaid : Prop := proofChangesUptoRow.holds Try.pinned (OpenSpec.upto proofChangesSpec)

/-- 'syllabarylaw16.ProofRejects', WHERE WHAT IT READS IS OF BULK AT MOST 1048576: true; the input reads as it did. -/
def proofRejectsUptoRow : OpenClaim := { program := "ytaohbicjdmogkaa", sum := "eaf21b3815805328a0d1653d607420b91d5443243e0335e18f56493a9537b075", func := "syllabary/syllabarylaw16.ProofRejects", spec := "proofRejects", unfollowed := true, recurses := true, apart := false, narrowed := true }
def ProofRejectsUptoSaid : Prop := proofRejectsUptoRow.holds Try.pinned (OpenSpec.upto proofRejectsSpec)

/-- 'syllabarylaw16.ProofBeginnings', WHERE WHAT IT READS IS OF BULK AT MOST 1048576: true; the input reads as it did. -/
def proofBeginningsUptoRow : OpenClaim := { program := "ytaohbicjdmogkaa", sum := "eaf21b3815805328a0d1653d607420b91d5443243e0335e18f56493a9537b075", func := "syllabary/syllabarylaw16.ProofBeginnings", spec := "proofBeginnings", unfollowed := true, recurses := true, apart := false, narrowed := true }
def ProofBeginningsUptoSaid : Prop := proofBeginningsUptoRow.holds Try.pinned (OpenSpec.upto proofBeginningsSpec)

/-- 'syllabarylaw16.ProofLinks', WHERE WHAT IT READS IS OF BULK AT MOST 1048576: true; the input reads as it did. -/
def proofLinksUptoRow : OpenClaim := { program := "ytaohbicjdmogkaa", sum := "eaf21b3815805328a0d1653d607420b91d5443243e0335e18f56493a9537b075", func := "syllabary/syllabarylaw16.ProofLinks", spec := "proofLinks", unfollowed := true, recurses := true, apart := false, narrowed := true }
def ProofLinksUptoSaid : Prop := proofLinksUptoRow.holds Try.pinned (OpenSpec.upto proofLinksSpec)

end Rows
end Go.Proofs.Ytaohbicjdmogkaa
