/-
  CostWalkT, CostWalkU, CostWalkV, CostWalkL, CostWalkM, joined. No conditions.
-/
import Derived.Test.YtfjkmgjjifhdkaaGreatP35
import Derived.Test.YtfjkmgjjifhdkaaGreatP36
import Derived.Test.YtfjkmgjjifhdkaaGreatP33
import Derived.Test.YtfjkmgjjifhdkaaGreatP05
import Derived.Test.YtfjkmgjjifhdkaaGreatP01
import Derived.Test.YtfjkmgjjifhdkaaGreatP29
/-
  The walks of layer 11: count adds to a pair of an increasing list, or puts it in.
-/
namespace Go.Proofs.YtfjkmgjjifhdkaaGreat
open Go Go.RowKit

/-- cost.count. -/
def countP (ps : List Pr) (g : Pr) : List Pr :=
  match ps[cutP ps g]? with
  | some p => if p.a = g.a ∧ p.b = g.b then ps.set (cutP ps g) ⟨p.a, p.b, p.n + g.n⟩ else insAt ps (cutP ps g) g
  | none => insAt ps (cutP ps g) g
end Go.Proofs.YtfjkmgjjifhdkaaGreat

/-
  The walks of layer 11: Learn, where it refuses.
-/
namespace Go.Proofs.YtfjkmgjjifhdkaaGreat
open Go Go.RowKit

end Go.Proofs.YtfjkmgjjifhdkaaGreat

/-
  The walks of layer 11: Learn, where it goes on.
-/
namespace Go.Proofs.YtfjkmgjjifhdkaaGreat
open Go Go.RowKit

/-- A frame of Learn: the slots that are read again, and others. -/
def LA (f : Nat → Value) (x1 x2 x3 x8 x11 : Value) : Act := ⟨#[f 0, x1, x2, x3, f 4, f 5, f 6, f 7, x8, f 9, f 10, x11, f 12, f 13, f 14, f 15, f 16, f 17, f 18, f 19, f 20, f 21, f 22, f 23, f 24, f 25, f 26, f 27, f 28, f 29, f 30, f 31, f 32, f 33, f 34, f 35, f 36, f 37, f 38, f 39, f 40, f 41, f 42, f 43, f 44, f 45, f 46, f 47, f 48, f 49, f 50, f 51, f 52, f 53, f 54, f 55, f 56, f 57, f 58, f 59, f 60, f 61, f 62, f 63, f 64, f 65, f 66, f 67, f 68, f 69, f 70, f 71, f 72, f 73, f 74, f 75, f 76], []⟩
end Go.Proofs.YtfjkmgjjifhdkaaGreat

/-
  The walks of layer 11: a word put into an increasing list (the reference).
-/
namespace Go.Proofs.YtfjkmgjjifhdkaaGreat
open Go Go.RowKit

end Go.Proofs.YtfjkmgjjifhdkaaGreat

/-
  The walks of layer 11: a word out of letters (the reference).
-/
namespace Go.Proofs.YtfjkmgjjifhdkaaGreat
open Go Go.RowKit

end Go.Proofs.YtfjkmgjjifhdkaaGreat
