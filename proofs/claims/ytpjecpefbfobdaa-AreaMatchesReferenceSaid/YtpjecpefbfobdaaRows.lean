/-
  No cell of these rows narrows 'for every input' (looked for: loops, veiled, ifaces, maps, wideKeys, modest, calm, conditions, laid).
  DERIVED. THE GIVEN ROWS OF THIS SEAT. 8 by the template 'for every input the law returns true; each argument reads behind the call as it read before'; 0 by the template 'total and deterministic' (their statements: YtpjecpefbfobdaaTotals.lean).
  GIVEN WITH THE SEED: the statements are not yours to turn. If you find one false, say at which input.
  Laid BY PROGRAM, IN A SANDBOX (cutbox-rows.mjs): the forced cells as the released guide's own fill.sh prints them over the translation a07337b8ced6f24c… (all of the seat's roots in one cut). By AI agents, Wed Nov 11 2026. No macro, syntax, notation, axiom, sorry.
-/
import Derived.Test.YtpjecpefbfobdaaChecked
import GoSem.Claim
import GoSem.ClaimJoined
import GoSem.ClaimMapViews
import Derived.JoinedTies
import Derived.KernelRfl
namespace Go.Proofs.Ytpjecpefbfobdaa
/- THE CELL 'sum', in the pinned program and in every row, IS THE sha256 OF THE DUMP (.gsa) THAT YtpjecpefbfobdaaProg.lean LOADS. Nothing in Lean hashes anything: it is a label: what it is worth is what the hold of that sum in a sandbox is worth. -/
noncomputable def Try.pinned : Pinned := { name := "ytpjecpefbfobdaa", sum := "a07337b8ced6f24cd81457cbd172ebb60509683fad899f0f09ea7d5cada7ac27", checked := Try.checked }
namespace Rows
def none {H : Type} : Left H := { results := [], args := [] }

/-- 'syllabarylaw21.AreaMatchesReference': WHATEVER THE INPUT: true; the input reads as it did. -/
def areaMatchesReferenceSpec : ChangeSpec := { name := "areaMatchesReference", fn := fun _ => fun
  | [d1, d2, d3] => { results := [.lit (.bool true)], args := [d1, d2, d3] }
  | _ => none }
def areaMatchesReferenceRow : OpenClaim := { program := "ytpjecpefbfobdaa", sum := "a07337b8ced6f24cd81457cbd172ebb60509683fad899f0f09ea7d5cada7ac27", func := "syllabary/syllabarylaw21.AreaMatchesReference", spec := "areaMatchesReference", inPlace := ["slices.overlaps[syllabary/api.Tap]"], unfollowed := true, recurses := true, apart := false }
def AreaMatchesReferenceSaid : Prop := areaMatchesReferenceRow.holds Try.pinned (OpenSpec.ofChange areaMatchesReferenceSpec)

/-- ITS FALSE NEIGHBOUR: 'it returns false'. Refute it at one input. -/
def areaMatchesReferenceWrong : ChangeSpec := { name := "areaMatchesReference", fn := fun _ => fun
  | [d1, d2, d3] => { results := [.lit (.bool false)], args := [d1, d2, d3] }
  | _ => none }
def AreaMatchesReferenceWrongFalsely : Prop := areaMatchesReferenceRow.holds Try.pinned (OpenSpec.ofChange areaMatchesReferenceWrong)

/-- 'syllabarylaw21.AreaValid': WHATEVER THE INPUT: true; the input reads as it did. -/
def areaValidSpec : ChangeSpec := { name := "areaValid", fn := fun _ => fun
  | [d1, d2, d3] => { results := [.lit (.bool true)], args := [d1, d2, d3] }
  | _ => none }
def areaValidRow : OpenClaim := { program := "ytpjecpefbfobdaa", sum := "a07337b8ced6f24cd81457cbd172ebb60509683fad899f0f09ea7d5cada7ac27", func := "syllabary/syllabarylaw21.AreaValid", spec := "areaValid", inPlace := ["slices.overlaps[syllabary/api.Tap]"], unfollowed := true, recurses := true, apart := false }
def AreaValidSaid : Prop := areaValidRow.holds Try.pinned (OpenSpec.ofChange areaValidSpec)

/-- ITS FALSE NEIGHBOUR: 'it returns false'. Refute it at one input. -/
def areaValidWrong : ChangeSpec := { name := "areaValid", fn := fun _ => fun
  | [d1, d2, d3] => { results := [.lit (.bool false)], args := [d1, d2, d3] }
  | _ => none }
def AreaValidWrongFalsely : Prop := areaValidRow.holds Try.pinned (OpenSpec.ofChange areaValidWrong)

/-- 'syllabarylaw21.AreaSlots': WHATEVER THE INPUT: true; the input reads as it did. -/
def areaSlotsSpec : ChangeSpec := { name := "areaSlots", fn := fun _ => fun
  | [d1, d2, d3] => { results := [.lit (.bool true)], args := [d1, d2, d3] }
  | _ => none }
def areaSlotsRow : OpenClaim := { program := "ytpjecpefbfobdaa", sum := "a07337b8ced6f24cd81457cbd172ebb60509683fad899f0f09ea7d5cada7ac27", func := "syllabary/syllabarylaw21.AreaSlots", spec := "areaSlots", inPlace := ["slices.overlaps[syllabary/api.Tap]"], unfollowed := true, recurses := true, apart := false }
def AreaSlotsSaid : Prop := areaSlotsRow.holds Try.pinned (OpenSpec.ofChange areaSlotsSpec)

/-- ITS FALSE NEIGHBOUR: 'it returns false'. Refute it at one input. -/
def areaSlotsWrong : ChangeSpec := { name := "areaSlots", fn := fun _ => fun
  | [d1, d2, d3] => { results := [.lit (.bool false)], args := [d1, d2, d3] }
  | _ => none }
def AreaSlotsWrongFalsely : Prop := areaSlotsRow.holds Try.pinned (OpenSpec.ofChange areaSlotsWrong)

/-- 'syllabarylaw21.AreaInside': WHATEVER THE INPUT: true; the input reads as it did. -/
def areaInsideSpec : ChangeSpec := { name := "areaInside", fn := fun _ => fun
  | [d1, d2] => { results := [.lit (.bool true)], args := [d1, d2] }
  | _ => none }
def areaInsideRow : OpenClaim := { program := "ytpjecpefbfobdaa", sum := "a07337b8ced6f24cd81457cbd172ebb60509683fad899f0f09ea7d5cada7ac27", func := "syllabary/syllabarylaw21.AreaInside", spec := "areaInside", inPlace := ["slices.overlaps[syllabary/api.Tap]"], unfollowed := true, recurses := true, apart := false }
def AreaInsideSaid : Prop := areaInsideRow.holds Try.pinned (OpenSpec.ofChange areaInsideSpec)

/-- ITS FALSE NEIGHBOUR: 'it returns false'. Refute it at one input. -/
def areaInsideWrong : ChangeSpec := { name := "areaInside", fn := fun _ => fun
  | [d1, d2] => { results := [.lit (.bool false)], args := [d1, d2] }
  | _ => none }
def AreaInsideWrongFalsely : Prop := areaInsideRow.holds Try.pinned (OpenSpec.ofChange areaInsideWrong)

/-- 'syllabarylaw21.AreaDistance': WHATEVER THE INPUT: true; the input reads as it did. -/
def areaDistanceSpec : ChangeSpec := { name := "areaDistance", fn := fun _ => fun
  | [d1, d2, d3] => { results := [.lit (.bool true)], args := [d1, d2, d3] }
  | _ => none }
def areaDistanceRow : OpenClaim := { program := "ytpjecpefbfobdaa", sum := "a07337b8ced6f24cd81457cbd172ebb60509683fad899f0f09ea7d5cada7ac27", func := "syllabary/syllabarylaw21.AreaDistance", spec := "areaDistance", inPlace := ["slices.overlaps[syllabary/api.Tap]"], unfollowed := true, recurses := true, apart := false }
def AreaDistanceSaid : Prop := areaDistanceRow.holds Try.pinned (OpenSpec.ofChange areaDistanceSpec)

/-- ITS FALSE NEIGHBOUR: 'it returns false'. Refute it at one input. -/
def areaDistanceWrong : ChangeSpec := { name := "areaDistance", fn := fun _ => fun
  | [d1, d2, d3] => { results := [.lit (.bool false)], args := [d1, d2, d3] }
  | _ => none }
def AreaDistanceWrongFalsely : Prop := areaDistanceRow.holds Try.pinned (OpenSpec.ofChange areaDistanceWrong)

/-- 'syllabarylaw21.AreaMoves': WHATEVER THE INPUT: true; the input reads as it did. -/
def areaMovesSpec : ChangeSpec := { name := "areaMoves", fn := fun _ => fun
  | [d1, d2, d3] => { results := [.lit (.bool true)], args := [d1, d2, d3] }
  | _ => none }
def areaMovesRow : OpenClaim := { program := "ytpjecpefbfobdaa", sum := "a07337b8ced6f24cd81457cbd172ebb60509683fad899f0f09ea7d5cada7ac27", func := "syllabary/syllabarylaw21.AreaMoves", spec := "areaMoves", inPlace := ["slices.overlaps[syllabary/api.Tap]"], unfollowed := true, recurses := true, apart := false }
def AreaMovesSaid : Prop := areaMovesRow.holds Try.pinned (OpenSpec.ofChange areaMovesSpec)

/-- ITS FALSE NEIGHBOUR: 'it returns false'. Refute it at one input. -/
def areaMovesWrong : ChangeSpec := { name := "areaMoves", fn := fun _ => fun
  | [d1, d2, d3] => { results := [.lit (.bool false)], args := [d1, d2, d3] }
  | _ => none }
def AreaMovesWrongFalsely : Prop := areaMovesRow.holds Try.pinned (OpenSpec.ofChange areaMovesWrong)

/-- 'syllabarylaw21.AreaAdapts': WHATEVER THE INPUT: true; the input reads as it did. -/
def areaAdaptsSpec : ChangeSpec := { name := "areaAdapts", fn := fun _ => fun
  | [d1, d2] => { results := [.lit (.bool true)], args := [d1, d2] }
  | _ => none }
def areaAdaptsRow : OpenClaim := { program := "ytpjecpefbfobdaa", sum := "a07337b8ced6f24cd81457cbd172ebb60509683fad899f0f09ea7d5cada7ac27", func := "syllabary/syllabarylaw21.AreaAdapts", spec := "areaAdapts", inPlace := ["slices.overlaps[syllabary/api.Tap]"], unfollowed := true, recurses := true, apart := false }
def AreaAdaptsSaid : Prop := areaAdaptsRow.holds Try.pinned (OpenSpec.ofChange areaAdaptsSpec)

/-- ITS FALSE NEIGHBOUR: 'it returns false'. Refute it at one input. -/
def areaAdaptsWrong : ChangeSpec := { name := "areaAdapts", fn := fun _ => fun
  | [d1, d2] => { results := [.lit (.bool false)], args := [d1, d2] }
  | _ => none }
def AreaAdaptsWrongFalsely : Prop := areaAdaptsRow.holds Try.pinned (OpenSpec.ofChange areaAdaptsWrong)

/-- 'syllabarylaw21.AreaOthers': WHATEVER THE INPUT: true; the input reads as it did. -/
def areaOthersSpec : ChangeSpec := { name := "areaOthers", fn := fun _ => fun
  | [d1, d2, d3] => { results := [.lit (.bool true)], args := [d1, d2, d3] }
  | _ => none }
def areaOthersRow : OpenClaim := { program := "ytpjecpefbfobdaa", sum := "a07337b8ced6f24cd81457cbd172ebb60509683fad899f0f09ea7d5cada7ac27", func := "syllabary/syllabarylaw21.AreaOthers", spec := "areaOthers", inPlace := ["slices.overlaps[syllabary/api.Tap]"], unfollowed := true, recurses := true, apart := false }
def AreaOthersSaid : Prop := areaOthersRow.holds Try.pinned (OpenSpec.ofChange areaOthersSpec)

/-- ITS FALSE NEIGHBOUR: 'it returns false'. Refute it at one input. -/
def areaOthersWrong : ChangeSpec := { name := "areaOthers", fn := fun _ => fun
  | [d1, d2, d3] => { results := [.lit (.bool false)], args := [d1, d2, d3] }
  | _ => none }
def AreaOthersWrongFalsely : Prop := areaOthersRow.holds Try.pinned (OpenSpec.ofChange areaOthersWrong)

/- THE SECOND FORM. 'bulk': how many values and letters a reading holds, each counted each time it is reached (what is shared counts as often as it is met; a slice's spare places count too). A statement '..UptoSaid' is the law's where the arguments, and the package variables that the reading takes, are together of bulk at most 1048576: NARROWER than '..Said'. Prove '..Said' where nothing that the law and all that it calls make is longer than what came in: it says more and counts as full. Else prove '..UptoSaid'. A law counts once. -/
mutual
def uptoBulk {H : Type} : DataW H → Nat
  | .lit (.string bytes) => bytes.length + 1
  | .lit _ => 1
  | .nil => 1
  | .ptr d => uptoBulk d + 1
  | .slice elems spare => uptoBulkAll elems + uptoBulkAll spare + 1
  | .agg parts => uptoBulkAll parts + 1
  | .iface _ d => uptoBulk d + 1
  | .map entries => uptoBulkEntries entries + 1
  | .held _ => 1
def uptoBulkAll {H : Type} : List (DataW H) → Nat
  | [] => 0
  | d :: r => uptoBulk d + uptoBulkAll r
def uptoBulkEntries {H : Type} : List (Lit × DataW H) → Nat
  | [] => 0
  | x :: r => uptoBulkEntry x + uptoBulkEntries r
def uptoBulkEntry {H : Type} : Lit × DataW H → Nat
  | (.string bytes, d) => bytes.length + uptoBulk d + 1
  | (_, d) => uptoBulk d + 1
 end
def uptoSmall : (H : Type) → List (DataW H) → Bool := fun _ ds => decide (uptoBulkAll ds ≤ 1048576)
def OpenSpec.upto (s : _root_.Go.ChangeSpec) : _root_.Go.OpenSpec := { _root_.Go.OpenSpec.ofChange s with cond := some uptoSmall }

/-- 'syllabarylaw21.AreaMatchesReference', WHERE WHAT IT READS IS OF BULK AT MOST 1048576: true; the input reads as it did. -/
def areaMatchesReferenceUptoRow : OpenClaim := { program := "ytpjecpefbfobdaa", sum := "a07337b8ced6f24cd81457cbd172ebb60509683fad899f0f09ea7d5cada7ac27", func := "syllabary/syllabarylaw21.AreaMatchesReference", spec := "areaMatchesReference", inPlace := ["slices.overlaps[syllabary/api.Tap]"], unfollowed := true, recurses := true, apart := false, narrowed := true }
def AreaMatchesReferenceUptoSaid : Prop := areaMatchesReferenceUptoRow.holds Try.pinned (OpenSpec.upto areaMatchesReferenceSpec)

/-- 'syllabarylaw21.AreaValid', WHERE WHAT IT READS IS OF BULK AT MOST 1048576: true; the input reads as it did. -/
def areaValidUptoRow : OpenClaim := { program := "ytpjecpefbfobdaa", sum := "a07337b8ced6f24cd81457cbd172ebb60509683fad899f0f09ea7d5cada7ac27", func := "syllabary/syllabarylaw21.AreaValid", spec := "areaValid", inPlace := ["slices.overlaps[syllabary/api.Tap]"], unfollowed := true, recurses := true, apart := false, narrowed := true }
def AreaValidUptoSaid : Prop := areaValidUptoRow.holds Try.pinned (OpenSpec.upto areaValidSpec)

/-- 'syllabarylaw21.AreaSlots', WHERE WHAT IT READS IS OF BULK AT MOST 1048576: true; the input reads as it did. -/
def areaSlotsUptoRow : OpenClaim := { program := "ytpjecpefbfobdaa", sum := "a07337b8ced6f24cd81457cbd172ebb60509683fad899f0f09ea7d5cada7ac27", func := "syllabary/syllabarylaw21.AreaSlots", spec := "areaSlots", inPlace := ["slices.overlaps[syllabary/api.Tap]"], unfollowed := true, recurses := true, apart := false, narrowed := true }
def AreaSlotsUptoSaid : Prop := areaSlotsUptoRow.holds Try.pinned (OpenSpec.upto areaSlotsSpec)

/-- 'syllabarylaw21.AreaInside', WHERE WHAT IT READS IS OF BULK AT MOST 1048576: true; the input reads as it did. -/
def areaInsideUptoRow : OpenClaim := { program := "ytpjecpefbfobdaa", sum := "a07337b8ced6f24cd81457cbd172ebb60509683fad899f0f09ea7d5cada7ac27", func := "syllabary/syllabarylaw21.AreaInside", spec := "areaInside", inPlace := ["slices.overlaps[syllabary/api.Tap]"], unfollowed := true, recurses := true, apart := false, narrowed := true }
def AreaInsideUptoSaid : Prop := areaInsideUptoRow.holds Try.pinned (OpenSpec.upto areaInsideSpec)

/-- 'syllabarylaw21.AreaDistance', WHERE WHAT IT READS IS OF BULK AT MOST 1048576: true; the input reads as it did. -/
def areaDistanceUptoRow : OpenClaim := { program := "ytpjecpefbfobdaa", sum := "a07337b8ced6f24cd81457cbd172ebb60509683fad899f0f09ea7d5cada7ac27", func := "syllabary/syllabarylaw21.AreaDistance", spec := "areaDistance", inPlace := ["slices.overlaps[syllabary/api.Tap]"], unfollowed := true, recurses := true, apart := false, narrowed := true }
def AreaDistanceUptoSaid : Prop := areaDistanceUptoRow.holds Try.pinned (OpenSpec.upto areaDistanceSpec)

/-- 'syllabarylaw21.AreaMoves', WHERE WHAT IT READS IS OF BULK AT MOST 1048576: true; the input reads as it did. -/
def areaMovesUptoRow : OpenClaim := { program := "ytpjecpefbfobdaa", sum := "a07337b8ced6f24cd81457cbd172ebb60509683fad899f0f09ea7d5cada7ac27", func := "syllabary/syllabarylaw21.AreaMoves", spec := "areaMoves", inPlace := ["slices.overlaps[syllabary/api.Tap]"], unfollowed := true, recurses := true, apart := false, narrowed := true }
def AreaMovesUptoSaid : Prop := areaMovesUptoRow.holds Try.pinned (OpenSpec.upto areaMovesSpec)

/-- 'syllabarylaw21.AreaAdapts', WHERE WHAT IT READS IS OF BULK AT MOST 1048576: true; the input reads as it did. -/
def areaAdaptsUptoRow : OpenClaim := { program := "ytpjecpefbfobdaa", sum := "a07337b8ced6f24cd81457cbd172ebb60509683fad899f0f09ea7d5cada7ac27", func := "syllabary/syllabarylaw21.AreaAdapts", spec := "areaAdapts", inPlace := ["slices.overlaps[syllabary/api.Tap]"], unfollowed := true, recurses := true, apart := false, narrowed := true }
def AreaAdaptsUptoSaid : Prop := areaAdaptsUptoRow.holds Try.pinned (OpenSpec.upto areaAdaptsSpec)

/-- 'syllabarylaw21.AreaOthers', WHERE WHAT IT READS IS OF BULK AT MOST 1048576: true; the input reads as it did. -/
def areaOthersUptoRow : OpenClaim := { program := "ytpjecpefbfobdaa", sum := "a07337b8ced6f24cd81457cbd172ebb60509683fad899f0f09ea7d5cada7ac27", func := "syllabary/syllabarylaw21.AreaOthers", spec := "areaOthers", inPlace := ["slices.overlaps[syllabary/api.Tap]"], unfollowed := true, recurses := true, apart := false, narrowed := true }
def AreaOthersUptoSaid : Prop := areaOthersUptoRow.holds Try.pinned (OpenSpec.upto areaOthersSpec)

end Rows
end Go.Proofs.Ytpjecpefbfobdaa
