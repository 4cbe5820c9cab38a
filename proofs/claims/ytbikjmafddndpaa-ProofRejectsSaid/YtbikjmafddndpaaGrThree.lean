/-
  The fixed example of layer 16: a graph with three nodes and two ways.
-/
import Derived.Test.YtbikjmafddndpaaBase
namespace Go.Proofs.Ytbikjmafddndpaa
open List

def threeG : Gr := ⟨3, [⟨0, 1, 0, 1⟩, ⟨1, 2, 0, 1⟩, ⟨0, 2, 0, 5⟩]⟩
def canA : Can := ⟨[0, 1], 2⟩
def canB_ : Can := ⟨[2], 5⟩
theorem three_b : grB threeG = true := by decide
theorem three_ok : GrOK threeG := grB_iff.1 three_b
theorem three_pot : potL threeG = [2, 1, 0] := by decide
theorem three_ord : orderedM (waysM threeG 168 threeG.n.toNat 0) = [canA, canB_] := by decide
theorem three_all : IsAll threeG [canA, canB_] := by
  have h := ref_all three_ok (by decide) (most := 168) (Nat.le_refl _)
  rwa [three_ord] at h
theorem three_check (l : List Can) (whole : Bool) : checkM threeG l whole = refCheckM [canA, canB_] l whole := check_eq three_ok three_all l whole
theorem empty_b : grB ⟨0, []⟩ = false := by decide
end Go.Proofs.Ytbikjmafddndpaa
