/-
  No cell of these rows narrows 'for every input' (looked for: loops, veiled, ifaces, maps, wideKeys, modest, calm, conditions, laid).
  DERIVED. THE GIVEN ROWS OF THIS SEAT. 6 by the template 'for every input the law returns true; each argument reads behind the call as it read before'; 0 by the template 'total and deterministic' (their statements: YtpajajffkbkeaaaTotals.lean).
  GIVEN WITH THE SEED: the statements are not yours to turn. If you find one false, say at which input.
  Laid BY PROGRAM, IN A SANDBOX (cutbox-rows.mjs): the forced cells as the released guide's own fill.sh prints them over the translation 892653a0cb50fcbf… (all of the seat's roots in one cut). By AI agents, Wed Nov 11 2026. No macro, syntax, notation, axiom, sorry.
-/
import Derived.Test.YtpajajffkbkeaaaChecked
import GoSem.Claim
import GoSem.ClaimJoined
import GoSem.ClaimMapViews
import Derived.JoinedTies
import Derived.KernelRfl
namespace Go.Proofs.Ytpajajffkbkeaaa
/- THE CELL 'sum', in the pinned program and in every row, IS THE sha256 OF THE DUMP (.gsa) THAT YtpajajffkbkeaaaProg.lean LOADS. Nothing in Lean hashes anything: it is a label: what it is worth is what the hold of that sum in a sandbox is worth. -/
noncomputable def Try.pinned : Pinned := { name := "ytpajajffkbkeaaa", sum := "892653a0cb50fcbf381ec4d0aabf4c5d4ac9d5d981d1a603459b396766aa8fb6", checked := Try.checked }
namespace Rows
def none {H : Type} : Left H := { results := [], args := [] }

/-- 'syllabarylaw19.PageRight': WHATEVER THE INPUT: true; the input reads as it did. -/
def pageRightSpec : ChangeSpec := { name := "pageRight", fn := fun _ => fun
  | [d1, d2] => { results := [.lit (.bool true)], args := [d1, d2] }
  | _ => none }
def pageRightRow : OpenClaim := { program := "ytpajajffkbkeaaa", sum := "892653a0cb50fcbf381ec4d0aabf4c5d4ac9d5d981d1a603459b396766aa8fb6", func := "syllabary/syllabarylaw19.PageRight", spec := "pageRight", unfollowed := true, recurses := true, apart := false }
def PageRightSaid : Prop := pageRightRow.holds Try.pinned (OpenSpec.ofChange pageRightSpec)

/-- ITS FALSE NEIGHBOUR: 'it returns false'. Refute it at one input. -/
def pageRightWrong : ChangeSpec := { name := "pageRight", fn := fun _ => fun
  | [d1, d2] => { results := [.lit (.bool false)], args := [d1, d2] }
  | _ => none }
def PageRightWrongFalsely : Prop := pageRightRow.holds Try.pinned (OpenSpec.ofChange pageRightWrong)

/-- 'syllabarylaw19.PageBudgets': WHATEVER THE INPUT: true; the input reads as it did. -/
def pageBudgetsSpec : ChangeSpec := { name := "pageBudgets", fn := fun _ => fun
  | [d1, d2] => { results := [.lit (.bool true)], args := [d1, d2] }
  | _ => none }
def pageBudgetsRow : OpenClaim := { program := "ytpajajffkbkeaaa", sum := "892653a0cb50fcbf381ec4d0aabf4c5d4ac9d5d981d1a603459b396766aa8fb6", func := "syllabary/syllabarylaw19.PageBudgets", spec := "pageBudgets", unfollowed := true, recurses := true, apart := false }
def PageBudgetsSaid : Prop := pageBudgetsRow.holds Try.pinned (OpenSpec.ofChange pageBudgetsSpec)

/-- ITS FALSE NEIGHBOUR: 'it returns false'. Refute it at one input. -/
def pageBudgetsWrong : ChangeSpec := { name := "pageBudgets", fn := fun _ => fun
  | [d1, d2] => { results := [.lit (.bool false)], args := [d1, d2] }
  | _ => none }
def PageBudgetsWrongFalsely : Prop := pageBudgetsRow.holds Try.pinned (OpenSpec.ofChange pageBudgetsWrong)

/-- 'syllabarylaw19.PageGoesOn': WHATEVER THE INPUT: true; the input reads as it did. -/
def pageGoesOnSpec : ChangeSpec := { name := "pageGoesOn", fn := fun _ => fun
  | [d1, d2] => { results := [.lit (.bool true)], args := [d1, d2] }
  | _ => none }
def pageGoesOnRow : OpenClaim := { program := "ytpajajffkbkeaaa", sum := "892653a0cb50fcbf381ec4d0aabf4c5d4ac9d5d981d1a603459b396766aa8fb6", func := "syllabary/syllabarylaw19.PageGoesOn", spec := "pageGoesOn", unfollowed := true, recurses := true, apart := false }
def PageGoesOnSaid : Prop := pageGoesOnRow.holds Try.pinned (OpenSpec.ofChange pageGoesOnSpec)

/-- ITS FALSE NEIGHBOUR: 'it returns false'. Refute it at one input. -/
def pageGoesOnWrong : ChangeSpec := { name := "pageGoesOn", fn := fun _ => fun
  | [d1, d2] => { results := [.lit (.bool false)], args := [d1, d2] }
  | _ => none }
def PageGoesOnWrongFalsely : Prop := pageGoesOnRow.holds Try.pinned (OpenSpec.ofChange pageGoesOnWrong)

/-- 'syllabarylaw19.PagePrefix': WHATEVER THE INPUT: true; the input reads as it did. -/
def pagePrefixSpec : ChangeSpec := { name := "pagePrefix", fn := fun _ => fun
  | [d1, d2, d3] => { results := [.lit (.bool true)], args := [d1, d2, d3] }
  | _ => none }
def pagePrefixRow : OpenClaim := { program := "ytpajajffkbkeaaa", sum := "892653a0cb50fcbf381ec4d0aabf4c5d4ac9d5d981d1a603459b396766aa8fb6", func := "syllabary/syllabarylaw19.PagePrefix", spec := "pagePrefix", unfollowed := true, recurses := true, apart := false }
def PagePrefixSaid : Prop := pagePrefixRow.holds Try.pinned (OpenSpec.ofChange pagePrefixSpec)

/-- ITS FALSE NEIGHBOUR: 'it returns false'. Refute it at one input. -/
def pagePrefixWrong : ChangeSpec := { name := "pagePrefix", fn := fun _ => fun
  | [d1, d2, d3] => { results := [.lit (.bool false)], args := [d1, d2, d3] }
  | _ => none }
def PagePrefixWrongFalsely : Prop := pagePrefixRow.holds Try.pinned (OpenSpec.ofChange pagePrefixWrong)

/-- 'syllabarylaw19.PageWhole': WHATEVER THE INPUT: true; the input reads as it did. -/
def pageWholeSpec : ChangeSpec := { name := "pageWhole", fn := fun _ => fun
  | [d1, d2, d3] => { results := [.lit (.bool true)], args := [d1, d2, d3] }
  | _ => none }
def pageWholeRow : OpenClaim := { program := "ytpajajffkbkeaaa", sum := "892653a0cb50fcbf381ec4d0aabf4c5d4ac9d5d981d1a603459b396766aa8fb6", func := "syllabary/syllabarylaw19.PageWhole", spec := "pageWhole", unfollowed := true, recurses := true, apart := false }
def PageWholeSaid : Prop := pageWholeRow.holds Try.pinned (OpenSpec.ofChange pageWholeSpec)

/-- ITS FALSE NEIGHBOUR: 'it returns false'. Refute it at one input. -/
def pageWholeWrong : ChangeSpec := { name := "pageWhole", fn := fun _ => fun
  | [d1, d2, d3] => { results := [.lit (.bool false)], args := [d1, d2, d3] }
  | _ => none }
def PageWholeWrongFalsely : Prop := pageWholeRow.holds Try.pinned (OpenSpec.ofChange pageWholeWrong)

/-- 'syllabarylaw19.PageScales': WHATEVER THE INPUT: true; the input reads as it did. -/
def pageScalesSpec : ChangeSpec := { name := "pageScales", fn := fun _ => fun
  | [d1, d2, d3] => { results := [.lit (.bool true)], args := [d1, d2, d3] }
  | _ => none }
def pageScalesRow : OpenClaim := { program := "ytpajajffkbkeaaa", sum := "892653a0cb50fcbf381ec4d0aabf4c5d4ac9d5d981d1a603459b396766aa8fb6", func := "syllabary/syllabarylaw19.PageScales", spec := "pageScales", unfollowed := true, recurses := true, apart := false }
def PageScalesSaid : Prop := pageScalesRow.holds Try.pinned (OpenSpec.ofChange pageScalesSpec)

/-- ITS FALSE NEIGHBOUR: 'it returns false'. Refute it at one input. -/
def pageScalesWrong : ChangeSpec := { name := "pageScales", fn := fun _ => fun
  | [d1, d2, d3] => { results := [.lit (.bool false)], args := [d1, d2, d3] }
  | _ => none }
def PageScalesWrongFalsely : Prop := pageScalesRow.holds Try.pinned (OpenSpec.ofChange pageScalesWrong)

/- THE SECOND FORM. 'bulk': how many values and letters a reading holds, each counted each time it is reached (what is shared counts as often as it is met; a slice's spare places count too). A statement '..UptoSaid' is the law's where the arguments, and the package variables that the reading takes, are together of bulk at most 1048576: NARROWER than '..Said'. Prove '..Said' where nothing that the law and all that it calls make is longer than what came in: it says more and counts as full. Else prove '..UptoSaid'. A law counts once. -/
mutual
def uptoBulk {H : Type} : DataW H → Nat
  | .lit (.string bytes) => bytes.length + 1
  | .lit _ => 1
  | .nil => 1
  | .ptr d => uptoBulk d + 1
  | .slice elems spare => uptoBulkAll elems + uptoBulkAll spare + 1
  | .agg parts => uptoBulkAll parts + 1
  | .iface _ d => uptoBulk d + 1
  | .map entries => uptoBulkEntries entries + 1
  | .held _ => 1
def uptoBulkAll {H : Type} : List (DataW H) → Nat
  | [] => 0
  | d :: r => uptoBulk d + uptoBulkAll r
def uptoBulkEntries {H : Type} : List (Lit × DataW H) → Nat
  | [] => 0
  | x :: r => uptoBulkEntry x + uptoBulkEntries r
def uptoBulkEntry {H : Type} : Lit × DataW H → Nat
  | (.string bytes, d) => bytes.length + uptoBulk d + 1
  | (_, d) => uptoBulk d + 1
 end
def uptoSmall : (H : Type) → List (DataW H) → Bool := fun _ ds => decide (uptoBulkAll ds ≤ 1048576)
def OpenSpec.upto (s : _root_.Go.ChangeSpec) : _root_.Go.OpenSpec := { _root_.Go.OpenSpec.ofChange s with cond := some uptoSmall }

/-- 'syllabarylaw19.PageRight', WHERE WHAT IT READS IS OF BULK AT MOST 1048576: true; the input reads as it did. -/
def pageRightUptoRow : OpenClaim := { program := "ytpajajffkbkeaaa", sum := "892653a0cb50fcbf381ec4d0aabf4c5d4ac9d5d981d1a603459b396766aa8fb6", func := "syllabary/syllabarylaw19.PageRight", spec := "pageRight", unfollowed := true, recurses := true, apart := false, narrowed := true }
def PageRightUptoSaid : Prop := pageRightUptoRow.holds Try.pinned (OpenSpec.upto pageRightSpec)

/-- 'syllabarylaw19.PageBudgets', WHERE WHAT IT READS IS OF BULK AT MOST 1048576: true; the input reads as it did. -/
def pageBudgetsUptoRow : OpenClaim := { program := "ytpajajffkbkeaaa", sum := "892653a0cb50fcbf381ec4d0aabf4c5d4ac9d5d981d1a603459b396766aa8fb6", func := "syllabary/syllabarylaw19.PageBudgets", spec := "pageBudgets", unfollowed := true, recurses := true, apart := false, narrowed := true }
def PageBudgetsUptoSaid : Prop := pageBudgetsUptoRow.holds Try.pinned (OpenSpec.upto pageBudgetsSpec)

/-- 'syllabarylaw19.PageGoesOn', WHERE WHAT IT READS IS OF BULK AT MOST 1048576: true; the input reads as it did. -/
def pageGoesOnUptoRow : OpenClaim := { program := "ytpajajffkbkeaaa", sum := "892653a0cb50fcbf381ec4d0aabf4c5d4ac9d5d981d1a603459b396766aa8fb6", func := "syllabary/syllabarylaw19.PageGoesOn", spec := "pageGoesOn", unfollowed := true, recurses := true, apart := false, narrowed := true }
def PageGoesOnUptoSaid : Prop := pageGoesOnUptoRow.holds Try.pinned (OpenSpec.upto pageGoesOnSpec)

/-- 'syllabarylaw19.PagePrefix', WHERE WHAT IT READS IS OF BULK AT MOST 1048576: true; the input reads as it did. -/
def pagePrefixUptoRow : OpenClaim := { program := "ytpajajffkbkeaaa", sum := "892653a0cb50fcbf381ec4d0aabf4c5d4ac9d5d981d1a603459b396766aa8fb6", func := "syllabary/syllabarylaw19.PagePrefix", spec := "pagePrefix", unfollowed := true, recurses := true, apart := false, narrowed := true }
def PagePrefixUptoSaid : Prop := pagePrefixUptoRow.holds Try.pinned (OpenSpec.upto pagePrefixSpec)

/-- 'syllabarylaw19.PageWhole', WHERE WHAT IT READS IS OF BULK AT MOST 1048576: true; the input reads as it did. -/
def pageWholeUptoRow : OpenClaim := { program := "ytpajajffkbkeaaa", sum := "892653a0cb50fcbf381ec4d0aabf4c5d4ac9d5d981d1a603459b396766aa8fb6", func := "syllabary/syllabarylaw19.PageWhole", spec := "pageWhole", unfollowed := true, recurses := true, apart := false, narrowed := true }
def PageWholeUptoSaid : Prop := pageWholeUptoRow.holds Try.pinned (OpenSpec.upto pageWholeSpec)

/-- 'syllabarylaw19.PageScales', WHERE WHAT IT READS IS OF BULK AT MOST 1048576: true; the input reads as it did. -/
def pageScalesUptoRow : OpenClaim := { program := "ytpajajffkbkeaaa", sum := "892653a0cb50fcbf381ec4d0aabf4c5d4ac9d5d981d1a603459b396766aa8fb6", func := "syllabary/syllabarylaw19.PageScales", spec := "pageScales", unfollowed := true, recurses := true, apart := false, narrowed := true }
def PageScalesUptoSaid : Prop := pageScalesUptoRow.holds Try.pinned (OpenSpec.upto pageScalesSpec)

end Rows
end Go.Proofs.Ytpajajffkbkeaaa
