/-
  The walks of layer 15: the fixed examples.
-/
import Derived.Test.YtpajajffkbkeaaaBsWalkJ
import Derived.Test.YtpajajffkbkeaaaBsWalkK
namespace Go.Proofs.Ytpajajffkbkeaaa
open Go Go.RowKit

def gS : Gr := ⟨4, [⟨0, 1, 0, 1⟩, ⟨0, 2, 0, 1⟩, ⟨1, 3, 0, 2⟩, ⟨2, 3, 0, 2⟩, ⟨1, 2, 0, 0⟩]⟩
def wantL : List Can := [⟨[0, 2], 3⟩, ⟨[0, 4, 3], 3⟩, ⟨[1, 3], 3⟩]
theorem gS_take : (allR gS).take 3 = wantL := by kernel_rfl
theorem gS_ok : GrOK gS := grB_iff.1 (by kernel_rfl)
theorem g1_take : (allR ⟨1, []⟩).take 5 = [⟨[], 0⟩] := by kernel_rfl
theorem g1_ok : GrOK ⟨1, []⟩ := grB_iff.1 (by kernel_rfl)
theorem g2_take : (allR ⟨2, []⟩).take 5 = [] := by kernel_rfl
theorem g2_ok : GrOK ⟨2, []⟩ := grB_iff.1 (by kernel_rfl)
/-- The list of a small graph is the reference's. -/
theorem isList_allR {g : Gr} (hg : GrOK g) (h14 : g.ls.length ≤ 14) {k : Nat} {L : List Can} (h : IsList g k L) : L = (allR g).take k := isList_unique h (isList_take (allR_is hg h14) k)
end Go.Proofs.Ytpajajffkbkeaaa
