/-
  The walks of layer 21: sorting choices in place.
-/
import Derived.Test.YtpjecpefbfobdaaAreaWalkE
import Derived.Test.YtpjecpefbfobdaaRet
import Derived.Shelf.SlSortCmp.WholeK
namespace Go.Proofs.Ytpjecpefbfobdaa
open Go Go.RowKit Go.Shelf Go.Lib Go.Sort

theorem lt_byKey (x y : Cho) : ltOf byKey x y = decide (x.key < y.key) := by
  unfold ltOf byKey Lib.compareInt
  by_cases h1 : x.key < y.key
  · simp [h1]
  · by_cases h2 : y.key < x.key <;> simp [h1, h2]
theorem lt_byBoth (x y : Cho) : ltOf byBoth x y = decide (x.cost < y.cost ∨ (x.cost = y.cost ∧ x.key < y.key)) := by
  unfold ltOf byBoth byKey byCost Lib.compareInt
  by_cases h1 : x.cost < y.cost
  · simp [h1]
  · by_cases h2 : y.cost < x.cost
    · simp [h1, h2]; omega
    · have h3 : x.cost = y.cost := by omega
      by_cases h4 : x.key < y.key
      · simp [h3, h4]
      · by_cases h5 : y.key < x.key <;> simp [h3, h4, h5]
theorem swo_byKey : SWO (ltOf byKey) where
  irrefl x := by rw [lt_byKey]; simp
  trans x y z h1 h2 := by rw [lt_byKey] at *; simp at *; omega
  ntrans x y z h1 h2 := by rw [lt_byKey] at *; simp at *; omega
theorem swo_byBoth : SWO (ltOf byBoth) where
  irrefl x := by rw [lt_byBoth]; simp
  trans x y z h1 h2 := by rw [lt_byBoth] at *; simp at *; omega
  ntrans x y z h1 h2 := by rw [lt_byBoth] at *; simp only [decide_eq_false_iff_not] at *; omega

theorem sw_below {w : World} {blk off n base : Nat} {d : Array Cho} {os : Array Obj} (hb : base ≤ blk) (hbase : base ≤ w.heap.size) : Go.RowKit.Below base w (sortWorldK encCho 2 w blk off n d os) where
  os := rfl
  tape := rfl
  output := rfl
  size := by
    unfold sortWorldK
    rw [size_grow, size_putRowK]
    show w.heap.size ≤ w.heap.size + _
    omega
  block := fun k hk => by
    unfold sortWorldK
    have h1 : k < (putRowK encCho 2 (Sort.ahead w n) blk off d).heap.size := by rw [size_putRowK]; show k < w.heap.size; omega
    rw [heap_grow_old _ _ h1]
    show (w.heap.modify blk _)[k]? = _
    rw [Array.getElem?_modify, if_neg (by omega)]

theorem isAggCho : ∀ w, (isAgg 67).run Try.prog w = .ok true w := Try.isAgg67
theorem sizeCho : ∀ w, (Go.sizeOf 67).run Try.prog w = .ok 2 w := Try.sizeOf67

set_option maxHeartbeats 2000000 in
theorem order2 (blk off cap base : Nat) (d : Array Cho) (w : World) (g : Nat) (hH : HoldsK encCho 2 w blk off d) (hblk : blk < w.heap.size) (hsz : d.size < 65536) (hg : g < w.heap.size) (hgb : g ≠ blk) (hbase : base ≤ blk)
    (h1 : w.cell? ⟨g, 0, none⟩ = some (.func (.func 35) #[] #[])) (h2 : w.cell? ⟨g, 1, none⟩ = some (.func (.func 33) #[] #[])) :
    Calls Try.prog 37 #[.slice (some ⟨blk, off, none⟩) d.size cap, .slice (some ⟨g, 0, none⟩) 2 2] w fun e w' =>
      e = .returned (.tuple #[]) ∧ ∃ d', PermIn 0 d.size d d' ∧ SortedIn (ltOf byBoth) 0 d.size d' ∧ HoldsK encCho 2 w' blk off d' ∧ Go.RowKit.Below base w w' := by
  obtain ⟨w1, hw1⟩ : ∃ w1, w.alloc (.cells #[.slice (some ⟨g, 0, none⟩) 2 2] 107) = w1 := ⟨_, rfl⟩
  have hb1 : Go.RowKit.Below w.heap.size w w1 := by rw [← hw1]; exact nw _ (Below.refl _ _)
  have hB : Blk w1 w.heap.size 107 #[.slice (some ⟨g, 0, none⟩) 2 2] := by rw [← hw1]; exact Blk.new _ _ _
  have hH1 : HoldsK encCho 2 w1 blk off d := by
    have := holdsK_grow encCho 2 w #[.cells #[.slice (some ⟨g, 0, none⟩) 2 2] 107] blk off d hblk hH
    rwa [← alloc_eq_grow, hw1] at this
  have hs1 : w1.heap.size = w.heap.size + 1 := by rw [← hw1]; simp
  have hcmp : CmpLays Try.prog 59 #[.pointer (some ⟨w.heap.size, 0, none⟩)] encCho 2 byBoth blk off d.size w1 := fun m os dk hdk x y => by
    have hcell : ∀ b o v, b < w1.heap.size → b ≠ blk → w1.cell? ⟨b, o, none⟩ = some v → (sortWorldK encCho 2 w1 blk off m dk os).cell? ⟨b, o, none⟩ = some v := fun b o v hb hne hc => by
      unfold sortWorldK
      rw [cell?_grow _ _ _ (by rw [size_putRowK]; exact hb), cell?_putRowK_other _ _ _ _ _ _ _ hne]
      exact hc
    have hsz1 : w1.heap.size ≤ (sortWorldK encCho 2 w1 blk off m dk os).heap.size := (sw_below (base := 0) (Nat.zero_le _) (Nat.zero_le _)).size
    refine (order2_any x y _ w.heap.size g (by omega) (by omega) (hcell _ _ _ (by omega) (by omega) (hB.cell 0)) (hcell _ _ _ (by omega) hgb ((hb1.cell (p := ⟨g, 0, none⟩) hg).trans h1)) (hcell _ _ _ (by omega) hgb ((hb1.cell (p := ⟨g, 1, none⟩) hg).trans h2))).mono ?_
    rintro e w' ⟨rfl, os', rfl⟩
    exact ⟨rfl, 0, os', rfl⟩
  have eg : ∀ args w, (callFunc 59 args).run Try.prog w = .ok (.enter 59 args) w := enters_of Try.func59 (by kernel_rfl) rfl
  have hcon := AnyQ.slices_SortFunc Try.sortCho 2 isAggCho sizeCho encCho (fun _ => rfl) (fun x v hv => by simp [encCho] at hv; rcases hv with rfl | rfl <;> rfl) byBoth swo_byBoth 59 #[.pointer (some ⟨w.heap.size, 0, none⟩)] blk off cap d w1 eg hcmp hH1 (by omega) (by omega)
  change Calls Try.prog 58 _ _ _ at hcon
  have HC := Lib.hid hcon
  have HW := Lib.hid hw1
  have HH := Lib.hid hH1
  have HB := Lib.hid (hb1.mono (show base ≤ w.heap.size by omega))
  clear hcon hcmp eg hw1 hH1 hH hB hb1
  go_enter Try.func37, Try.ntmps37
  go_wp2_with (go_at_call 58; go_loud (rw [HW.out]; refine HC.out.mono ?_; rintro e w' ⟨rfl, d', n, os, hp, hs, rfl⟩))
  go_end0
  exact ⟨rfl, d', hp, hs, holdsK_sortWorldK_c _ _ _ _ _ d d' n os HH.out (by omega) hp.1, HB.out.trans (sw_below hbase (by omega))⟩
set_option maxHeartbeats 2000000 in
theorem order1 (blk off cap base : Nat) (d : Array Cho) (w : World) (g : Nat) (hH : HoldsK encCho 2 w blk off d) (hblk : blk < w.heap.size) (hsz : d.size < 65536) (hg : g < w.heap.size) (hgb : g ≠ blk) (hbase : base ≤ blk)
    (h1 : w.cell? ⟨g, 0, none⟩ = some (.func (.func 33) #[] #[])) :
    Calls Try.prog 37 #[.slice (some ⟨blk, off, none⟩) d.size cap, .slice (some ⟨g, 0, none⟩) 1 1] w fun e w' =>
      e = .returned (.tuple #[]) ∧ ∃ d', PermIn 0 d.size d d' ∧ SortedIn (ltOf byKey) 0 d.size d' ∧ HoldsK encCho 2 w' blk off d' ∧ Go.RowKit.Below base w w' := by
  obtain ⟨w1, hw1⟩ : ∃ w1, w.alloc (.cells #[.slice (some ⟨g, 0, none⟩) 1 1] 107) = w1 := ⟨_, rfl⟩
  have hb1 : Go.RowKit.Below w.heap.size w w1 := by rw [← hw1]; exact nw _ (Below.refl _ _)
  have hB : Blk w1 w.heap.size 107 #[.slice (some ⟨g, 0, none⟩) 1 1] := by rw [← hw1]; exact Blk.new _ _ _
  have hH1 : HoldsK encCho 2 w1 blk off d := by
    have := holdsK_grow encCho 2 w #[.cells #[.slice (some ⟨g, 0, none⟩) 1 1] 107] blk off d hblk hH
    rwa [← alloc_eq_grow, hw1] at this
  have hs1 : w1.heap.size = w.heap.size + 1 := by rw [← hw1]; simp
  have hcmp : CmpLays Try.prog 59 #[.pointer (some ⟨w.heap.size, 0, none⟩)] encCho 2 byKey blk off d.size w1 := fun m os dk hdk x y => by
    have hcell : ∀ b o v, b < w1.heap.size → b ≠ blk → w1.cell? ⟨b, o, none⟩ = some v → (sortWorldK encCho 2 w1 blk off m dk os).cell? ⟨b, o, none⟩ = some v := fun b o v hb hne hc => by
      unfold sortWorldK
      rw [cell?_grow _ _ _ (by rw [size_putRowK]; exact hb), cell?_putRowK_other _ _ _ _ _ _ _ hne]
      exact hc
    have hsz1 : w1.heap.size ≤ (sortWorldK encCho 2 w1 blk off m dk os).heap.size := (sw_below (base := 0) (Nat.zero_le _) (Nat.zero_le _)).size
    refine (order1_any x y _ w.heap.size g (by omega) (by omega) (hcell _ _ _ (by omega) (by omega) (hB.cell 0)) (hcell _ _ _ (by omega) hgb ((hb1.cell (p := ⟨g, 0, none⟩) hg).trans h1))).mono ?_
    rintro e w' ⟨rfl, os', rfl⟩
    exact ⟨rfl, 0, os', rfl⟩
  have eg : ∀ args w, (callFunc 59 args).run Try.prog w = .ok (.enter 59 args) w := enters_of Try.func59 (by kernel_rfl) rfl
  have hcon := AnyQ.slices_SortFunc Try.sortCho 2 isAggCho sizeCho encCho (fun _ => rfl) (fun x v hv => by simp [encCho] at hv; rcases hv with rfl | rfl <;> rfl) byKey swo_byKey 59 #[.pointer (some ⟨w.heap.size, 0, none⟩)] blk off cap d w1 eg hcmp hH1 (by omega) (by omega)
  change Calls Try.prog 58 _ _ _ at hcon
  have HC := Lib.hid hcon
  have HW := Lib.hid hw1
  have HH := Lib.hid hH1
  have HB := Lib.hid (hb1.mono (show base ≤ w.heap.size by omega))
  clear hcon hcmp eg hw1 hH1 hH hB hb1
  go_enter Try.func37, Try.ntmps37
  go_wp2_with (go_at_call 58; go_loud (rw [HW.out]; refine HC.out.mono ?_; rintro e w' ⟨rfl, d', n, os, hp, hs, rfl⟩))
  go_end0
  exact ⟨rfl, d', hp, hs, holdsK_sortWorldK_c _ _ _ _ _ d d' n os HH.out (by omega) hp.1, HB.out.trans (sw_below hbase (by omega))⟩
end Go.Proofs.Ytpjecpefbfobdaa
