/-
  The walks of layer 20: Build of the reference.
-/
import Derived.Test.YtfjkmgjjifhdkaaZ35
import Derived.Test.YtfjkmgjjifhdkaaZ36
namespace Go.Proofs.Ytfjkmgjjifhdkaa
open Go Go.RowKit

def GivesRB (b : Bu) (w : World) (r : Ending) (w' : World) : Prop :=
  ∃ (LA LB : Option Addr) (cA cB : Nat), r = .returned (.agg #[.int .i64 b.g.n, .slice LA b.g.ls.length cA, .slice LB b.last.length cB, .int .i64 b.e]) ∧ SlR 4 RLk w' LA b.g.ls ∧ SlR 1 RInt w' LB b.last ∧ (b.g.ls.length ≤ cA ∧ cA ≤ maxLen) ∧ Below w.heap.size w w' ∧ (∀ a, LA = some a → w.heap.size ≤ a.block) ∧ (∀ a, LB = some a → w.heap.size ≤ a.block)
end Go.Proofs.Ytfjkmgjjifhdkaa
