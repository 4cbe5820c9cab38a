/-
  The walks of layer 20: the nodes of a lattice's graph for the reference, and its search among them.
-/
import Derived.Test.YtfjkmgjjifhdkaaZ29
namespace Go.Proofs.Ytfjkmgjjifhdkaa
open Go Go.RowKit

end Go.Proofs.Ytfjkmgjjifhdkaa
