/-
  The walks of layer 16: ways sorted in place.
-/
import Derived.Test.YtfjkmgjjifhdkaaShelf
import Derived.Test.YtfjkmgjjifhdkaaZ03
import Derived.Shelf.SlSortCmp.Whole1
namespace Go.Proofs.Ytfjkmgjjifhdkaa
open Go Go.RowKit Go.Shelf Go.Lib Go.Sort

theorem sw1_below {α : Type} [Inhabited α] {enc : α → Value} {w : World} {blk off n base : Nat} {d : Array α} {os : Array Obj} (hb : base ≤ blk) (hbase : base ≤ w.heap.size) : Go.RowKit.Below base w (sortWorld enc w blk off n d os) where
  os := rfl
  tape := rfl
  output := rfl
  size := by
    unfold sortWorld
    rw [Sort.size_grow, Sort.size_putRow]
    show w.heap.size ≤ w.heap.size + _
    omega
  block := fun k hk => by
    unfold sortWorld
    have h1 : k < (putRow enc (Sort.ahead w n) blk off d).heap.size := by rw [Sort.size_putRow]; show k < w.heap.size; omega
    rw [heap_grow_old _ _ h1]
    show (w.heap.modify blk _)[k]? = _
    rw [Array.getElem?_modify, if_neg (by omega)]
theorem sw1_but {α : Type} [Inhabited α] {enc : α → Value} {w : World} {blk off n : Nat} {d : Array α} {os : Array Obj} : ButB blk w (sortWorld enc w blk off n d os) where
  size := by
    unfold sortWorld
    rw [Sort.size_grow, Sort.size_putRow]
    show w.heap.size ≤ w.heap.size + _
    omega
  block := fun k hk hn => by
    unfold sortWorld
    have h1 : k < (putRow enc (Sort.ahead w n) blk off d).heap.size := by rw [Sort.size_putRow]; show k < w.heap.size; omega
    rw [heap_grow_old _ _ h1]
    show (w.heap.modify blk _)[k]? = _
    rw [Array.getElem?_modify, if_neg (fun e => hn e.symm)]
theorem sw1_holds {α : Type} [Inhabited α] {enc : α → Value} {w : World} {blk off n : Nat} {d0 d : Array α} {os : Array Obj} (h0 : Holds enc w blk off d0) (hblk : blk < w.heap.size) (hs : d.size = d0.size) {j : Nat} (hj : j < d.size) :
    (sortWorld enc w blk off n d os).cell? ⟨blk, off + j, none⟩ = some (enc d[j]!) := by
  unfold sortWorld
  rw [cell?_grow _ _ _ (by rw [Sort.size_putRow]; exact hblk)]
  exact cell?_putRow enc (Sort.ahead w n) blk off d0 d h0 hs j hj
end Go.Proofs.Ytfjkmgjjifhdkaa
