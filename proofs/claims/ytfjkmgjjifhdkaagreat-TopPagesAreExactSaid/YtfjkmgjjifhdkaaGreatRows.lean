/-
  No cell of these rows narrows 'for every input' (looked for: loops, veiled, ifaces, maps, wideKeys, modest, calm, conditions, laid).
  DERIVED. THE GIVEN ROWS OF THIS SEAT. 3 by the template 'for every input the law returns true; each argument reads behind the call as it read before'; 0 by the template 'total and deterministic' (their statements: YtfjkmgjjifhdkaaGreatTotals.lean).
  GIVEN WITH THE SEED: the statements are not yours to turn. If you find one false, say at which input.
  Laid BY PROGRAM, IN A SANDBOX (cutbox-rows.mjs): the forced cells as the released guide's own fill.sh prints them over the translation 45aca9c437f17e55… (all of the seat's roots in one cut). By AI agents, Wed Nov 11 2026. No macro, syntax, notation, axiom, sorry.
-/
import Derived.Test.YtfjkmgjjifhdkaaGreatChecked
import GoSem.Claim
import GoSem.ClaimJoined
import GoSem.ClaimMapViews
import Derived.JoinedTies
import Derived.KernelRfl
namespace Go.Proofs.YtfjkmgjjifhdkaaGreat
/- THE CELL 'sum', in the pinned program and in every row, IS THE sha256 OF THE DUMP (.gsa) THAT YtfjkmgjjifhdkaaGreatProg.lean LOADS. Nothing in Lean hashes anything: it is a label: what it is worth is what the hold of that sum in a sandbox is worth. -/
noncomputable def Tryz.pinned : Pinned := { name := "ytfjkmgjjifhdkaagreat", sum := "45aca9c437f17e5500e674c078dc6ee62c90760988928980e228614635b7d33b", checked := Tryz.checked }
namespace Rows
def none {H : Type} : Left H := { results := [], args := [] }

/-- 'syllabarytop.TopPinnedPages': WHATEVER THE INPUT: true; the input reads as it did. -/
def topPinnedPagesSpec : ChangeSpec := { name := "topPinnedPages", fn := fun _ => fun
  | [d1, d2, d3] => { results := [.lit (.bool true)], args := [d1, d2, d3] }
  | _ => none }
def topPinnedPagesRow : OpenClaim := { program := "ytfjkmgjjifhdkaagreat", sum := "45aca9c437f17e5500e674c078dc6ee62c90760988928980e228614635b7d33b", func := "syllabary/syllabarytop.TopPinnedPages", spec := "topPinnedPages", unfollowed := true, recurses := true, plainKeys := false, apart := false }
def TopPinnedPagesSaid : Prop := topPinnedPagesRow.holds Tryz.pinned (OpenSpec.ofChange topPinnedPagesSpec)

/-- ITS FALSE NEIGHBOUR: 'it returns false'. Refute it at one input. -/
def topPinnedPagesWrong : ChangeSpec := { name := "topPinnedPages", fn := fun _ => fun
  | [d1, d2, d3] => { results := [.lit (.bool false)], args := [d1, d2, d3] }
  | _ => none }
def TopPinnedPagesWrongFalsely : Prop := topPinnedPagesRow.holds Tryz.pinned (OpenSpec.ofChange topPinnedPagesWrong)

/-- 'syllabarytop.TopPagesAreExact': WHATEVER THE INPUT: true; the input reads as it did. -/
def topPagesAreExactSpec : ChangeSpec := { name := "topPagesAreExact", fn := fun _ => fun
  | [d1, d2, d3] => { results := [.lit (.bool true)], args := [d1, d2, d3] }
  | _ => none }
def topPagesAreExactRow : OpenClaim := { program := "ytfjkmgjjifhdkaagreat", sum := "45aca9c437f17e5500e674c078dc6ee62c90760988928980e228614635b7d33b", func := "syllabary/syllabarytop.TopPagesAreExact", spec := "topPagesAreExact", unfollowed := true, recurses := true, plainKeys := false, apart := false }
def TopPagesAreExactSaid : Prop := topPagesAreExactRow.holds Tryz.pinned (OpenSpec.ofChange topPagesAreExactSpec)

/-- ITS FALSE NEIGHBOUR: 'it returns false'. Refute it at one input. -/
def topPagesAreExactWrong : ChangeSpec := { name := "topPagesAreExact", fn := fun _ => fun
  | [d1, d2, d3] => { results := [.lit (.bool false)], args := [d1, d2, d3] }
  | _ => none }
def TopPagesAreExactWrongFalsely : Prop := topPagesAreExactRow.holds Tryz.pinned (OpenSpec.ofChange topPagesAreExactWrong)

/-- 'syllabarytop.TopShortBudgetsTellTheTruth': WHATEVER THE INPUT: true; the input reads as it did. -/
def topShortBudgetsTellTheTruthSpec : ChangeSpec := { name := "topShortBudgetsTellTheTruth", fn := fun _ => fun
  | [d1, d2, d3] => { results := [.lit (.bool true)], args := [d1, d2, d3] }
  | _ => none }
def topShortBudgetsTellTheTruthRow : OpenClaim := { program := "ytfjkmgjjifhdkaagreat", sum := "45aca9c437f17e5500e674c078dc6ee62c90760988928980e228614635b7d33b", func := "syllabary/syllabarytop.TopShortBudgetsTellTheTruth", spec := "topShortBudgetsTellTheTruth", unfollowed := true, recurses := true, plainKeys := false, apart := false }
def TopShortBudgetsTellTheTruthSaid : Prop := topShortBudgetsTellTheTruthRow.holds Tryz.pinned (OpenSpec.ofChange topShortBudgetsTellTheTruthSpec)

/-- ITS FALSE NEIGHBOUR: 'it returns false'. Refute it at one input. -/
def topShortBudgetsTellTheTruthWrong : ChangeSpec := { name := "topShortBudgetsTellTheTruth", fn := fun _ => fun
  | [d1, d2, d3] => { results := [.lit (.bool false)], args := [d1, d2, d3] }
  | _ => none }
def TopShortBudgetsTellTheTruthWrongFalsely : Prop := topShortBudgetsTellTheTruthRow.holds Tryz.pinned (OpenSpec.ofChange topShortBudgetsTellTheTruthWrong)

/- THE SECOND FORM. 'bulk': how many values and letters a reading holds, each counted each time it is reached (what is shared counts as often as it is met; a slice's spare places count too). A statement '..UptoSaid' is the law's where the arguments, and the package variables that the reading takes, are together of bulk at most 1048576: NARROWER than '..Said'. Prove '..Said' where nothing that the law and all that it calls make is longer than what came in: it says more and counts as full. Else prove '..UptoSaid'. A law counts once. -/
mutual
def uptoBulk {H : Type} : DataW H → Nat
  | .lit (.string bytes) => bytes.length + 1
  | .lit _ => 1
  | .nil => 1
  | .ptr d => uptoBulk d + 1
  | .slice elems spare => uptoBulkAll elems + uptoBulkAll spare + 1
  | .agg parts => uptoBulkAll parts + 1
  | .iface _ d => uptoBulk d + 1
  | .map entries => uptoBulkEntries entries + 1
  | .held _ => 1
def uptoBulkAll {H : Type} : List (DataW H) → Nat
  | [] => 0
  | d :: r => uptoBulk d + uptoBulkAll r
def uptoBulkEntries {H : Type} : List (Lit × DataW H) → Nat
  | [] => 0
  | x :: r => uptoBulkEntry x + uptoBulkEntries r
def uptoBulkEntry {H : Type} : Lit × DataW H → Nat
  | (.string bytes, d) => bytes.length + uptoBulk d + 1
  | (_, d) => uptoBulk d + 1
 end
def uptoSmall : (H : Type) → List (DataW H) → Bool := fun _ ds => decide (uptoBulkAll ds ≤ 1048576)
def OpenSpec.upto (s : _root_.Go.ChangeSpec) : _root_.Go.OpenSpec := { _root_.Go.OpenSpec.ofChange s with cond := some uptoSmall }

/-- 'syllabarytop.TopPinnedPages', WHERE WHAT IT READS IS OF BULK AT MOST 1048576: true; the input reads as it did. -/
def topPinnedPagesUptoRow : OpenClaim := { program := "ytfjkmgjjifhdkaagreat", sum := "45aca9c437f17e5500e674c078dc6ee62c90760988928980e228614635b7d33b", func := "syllabary/syllabarytop.TopPinnedPages", spec := "topPinnedPages", unfollowed := true, recurses := true, plainKeys := false, apart := false, narrowed := true }
def TopPinnedPagesUptoSaid : Prop := topPinnedPagesUptoRow.holds Tryz.pinned (OpenSpec.upto topPinnedPagesSpec)

/-- 'syllabarytop.TopPagesAreExact', WHERE WHAT IT READS IS OF BULK AT MOST 1048576: true; the input reads as it did. -/
def topPagesAreExactUptoRow : OpenClaim := { program := "ytfjkmgjjifhdkaagreat", sum := "45aca9c437f17e5500e674c078dc6ee62c90760988928980e228614635b7d33b", func := "syllabary/syllabarytop.TopPagesAreExact", spec := "topPagesAreExact", unfollowed := true, recurses := true, plainKeys := false, apart := false, narrowed := true }
def TopPagesAreExactUptoSaid : Prop := topPagesAreExactUptoRow.holds Tryz.pinned (OpenSpec.upto topPagesAreExactSpec)

/-- 'syllabarytop.TopShortBudgetsTellTheTruth', WHERE WHAT IT READS IS OF BULK AT MOST 1048576: true; the input reads as it did. -/
def topShortBudgetsTellTheTruthUptoRow : OpenClaim := { program := "ytfjkmgjjifhdkaagreat", sum := "45aca9c437f17e5500e674c078dc6ee62c90760988928980e228614635b7d33b", func := "syllabary/syllabarytop.TopShortBudgetsTellTheTruth", spec := "topShortBudgetsTellTheTruth", unfollowed := true, recurses := true, plainKeys := false, apart := false, narrowed := true }
def TopShortBudgetsTellTheTruthUptoSaid : Prop := topShortBudgetsTellTheTruthUptoRow.holds Tryz.pinned (OpenSpec.upto topShortBudgetsTellTheTruthSpec)

end Rows
end Go.Proofs.YtfjkmgjjifhdkaaGreat
