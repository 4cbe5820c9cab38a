/-
  OuSettN, OuPls, OuPre, OuChan, joined. No conditions.
-/
import Derived.Test.YtfpnhgahkjglgaaGreatF11
import Derived.Test.YtfpnhgahkjglgaaGreatF12
import Derived.Conc.LoneCalls
import Derived.OwnWalk
import Derived.Test.YtfpnhgahkjglgaaGreatProg
set_option maxRecDepth 100000
namespace Go.Proofs.YtfpnhgahkjglgaaGreat
open Go Go.RowKit Go.Maps
set_option maxHeartbeats 8000000 in
theorem settleSpot_nil (s : Sc) (A : Option Addr) (c most gO : Nat) (w : World) (hmost : most ≤ 10000) :
 Calls Tryz.prog 99 #[.agg #[.int .i64 s.n, .int .u8 s.acc, .slice A s.rs.length c, .func (.func 67) #[] #[], .func (.func 68) #[] #[.pointer (some ⟨gO, 0, none⟩)], .int .i64 (most : Int)], .map none] w fun e w' => e = .returned (.bool true) ∧ w.grownBy w' none := by
 obtain ⟨i0, hinf, hz0, hz1, hz2⟩ := info_parts infoSpot
 obtain ⟨w1, hw1⟩ : ∃ w1, w.alloc (.cells #[.int .i64 s.n, .int .u8 s.acc, .slice A s.rs.length c, .func (.func 67) #[] #[], .func (.func 68) #[] #[.pointer (some ⟨gO, 0, none⟩)], .int .i64 (most : Int)] 144) = w1 := ⟨_, rfl⟩
 have hb1 : Below w.heap.size w w1 := by rw [← hw1]; exact nw _ (Below.refl _ _)
 have hB : Blk w1 w.heap.size 144 #[.int .i64 s.n, .int .u8 s.acc, .slice A s.rs.length c, .func (.func 67) #[] #[], .func (.func 68) #[] #[.pointer (some ⟨gO, 0, none⟩)], .int .i64 (most : Int)] := by rw [← hw1]; exact Blk.new _ _ _
 obtain ⟨g1, hg1⟩ : ∃ g, w.heap.size = g := ⟨_, rfl⟩
 rw [hg1] at hB
 have HB := Lib.hid hB
 have HW1 := Lib.hid hw1
 have HG1 := Lib.hid hg1
 have HB1 := Lib.hid hb1
 have hg1l := hB.lt
 have hm0 : (0 : Int) ≤ (most : Int) := by omega
 clear hw1 hg1 hb1 hB
 go_enter Tryz.func99, Tryz.ntmps99
 go_upto_region 1 with fail
 rw [HW1.out, HG1.out]
 have HN : ∀ W : World, Hid (TabO Tryz.prog 139 3 vSpot W none 0 (fun _ : (Int × Int) => none)) := fun W k => rfl
 go_wp2_with (first | (at_len; refine tabO_len ktSpot _ rfl _ rfl (b := none) rfl (HN _).out ?_; intro l1 hl1; obtain rfl : l1 = [] := (List.eq_nil_iff_forall_not_mem.2 fun k hk => (hl1.2 k).1 hk rfl)) | (at_make; refine wpList_make_own _ rfl _ _ 199 rfl w1.heap.size 139 i0 _ 2 Tryz.underlying199 hinf hz0 hz1 .i64 .i64 _ 0 rfl rfl rfl (by omega) (by unfold maxLen; omega) (Nat.le_refl _) ?_; intro w2 hown2 hgr2; clear hown2) | (at_range; refine tabO_range ktSpot _ rfl _ rfl (b := none) rfl (HN _).out ?_; intro w3 cnt3 hR3 hg3 hs3))
 go_frame
 have HG3 := Lib.hid (grown_none hgr2 w1.heap.size (Nat.le_refl _) |>.trans ((grown_none hg3 w1.heap.size hgr2.size)))
 have HR3 := Lib.hid hR3
 obtain ⟨r, hr⟩ : ∃ r, w2.heap.size = r := ⟨_, rfl⟩
 rw [hr] at HR3 ⊢
 clear hr hs3 hgr2 hg3 hR3
 obtain ⟨v5, hv5⟩ : ∃ v : Value, v = .slice (some ⟨w1.heap.size, 0, none⟩) 0 0 := ⟨_, rfl⟩
 go_loopw [5] (fun v wr => v = .slice (some ⟨w1.heap.size, 0, none⟩) 0 0 ∧ wr = w3) (fun _ _ => 0)
 case atStart => exact ⟨rfl, rfl⟩
 case round =>
  obtain ⟨rfl, hww⟩ := hrel
  rw [hww]
  clear hww
  go_wp2_with (at_next; refine nextSpot _ rfl _ rfl (b := none) rfl HR3.out (fun hd => ?_) (fun k d w4 cnt4 hk hMk hLk hR4 hlt4 hg4 hs4 hen => (by cases hMk)))
  have HY : Blk w3 g1 144 #[.int .i64 s.n, .int .u8 s.acc, .slice A s.rs.length c, .func (.func 67) #[] #[], .func (.func 68) #[] #[.pointer (some ⟨gO, 0, none⟩)], .int .i64 (most : Int)] := HB.out.below HG3.out HB.out.lt
  have HFIN : Hid (w.grownBy w3 none) := grown_of (HB1.out.trans (HG3.out.mono HB1.out.size))
  have y5 := HY.cell 5
  have yl := HY.lt
  simp at y5
  go_loopw [5] (fun v w5 => v = .slice (some ⟨w1.heap.size, 0, none⟩) 0 0 ∧ w5 = w3) (fun _ _ => 0)
  case atStart => exact ⟨rfl, rfl⟩
  case round =>
   obtain ⟨rfl, rfl⟩ := hrel
   go_wp2_with (at_len; refine tabO_len ktSpot _ rfl _ rfl (b := none) rfl (HN _).out ?_; intro l2 hl2; obtain rfl : l2 = [] := (List.eq_nil_iff_forall_not_mem.2 fun k hk => (hl2.2 k).1 hk rfl))
   go_ret
   exact ⟨rfl, HFIN.out⟩
set_option maxHeartbeats 8000000 in
theorem settlePair_nil (s : Sc) (A : Option Addr) (c most : Nat) (w : World) (hmost : most ≤ 10000) :
 Calls Tryz.prog 78 #[.agg #[.int .i64 s.n, .int .u8 s.acc, .slice A s.rs.length c, .func (.func 39) #[] #[], .func (.func 40) #[] #[], .int .i64 (most : Int)], .map none] w fun e w' => e = .returned (.bool true) ∧ w.grownBy w' none := by
 obtain ⟨i0, hinf, hz0, hz1, hz2⟩ := info_parts infoPair
 obtain ⟨w1, hw1⟩ : ∃ w1, w.alloc (.cells #[.int .i64 s.n, .int .u8 s.acc, .slice A s.rs.length c, .func (.func 39) #[] #[], .func (.func 40) #[] #[], .int .i64 (most : Int)] 89) = w1 := ⟨_, rfl⟩
 have hb1 : Below w.heap.size w w1 := by rw [← hw1]; exact nw _ (Below.refl _ _)
 have hB : Blk w1 w.heap.size 89 #[.int .i64 s.n, .int .u8 s.acc, .slice A s.rs.length c, .func (.func 39) #[] #[], .func (.func 40) #[] #[], .int .i64 (most : Int)] := by rw [← hw1]; exact Blk.new _ _ _
 obtain ⟨g1, hg1⟩ : ∃ g, w.heap.size = g := ⟨_, rfl⟩
 rw [hg1] at hB
 have HB := Lib.hid hB
 have HW1 := Lib.hid hw1
 have HG1 := Lib.hid hg1
 have HB1 := Lib.hid hb1
 have hg1l := hB.lt
 have hm0 : (0 : Int) ≤ (most : Int) := by omega
 clear hw1 hg1 hb1 hB
 go_enter Tryz.func78, Tryz.ntmps78
 go_upto_region 1 with fail
 rw [HW1.out, HG1.out]
 have HN : ∀ W : World, Hid (TabO Tryz.prog 85 3 vPair W none 0 (fun _ : (Int × ByteArray) => none)) := fun W k => rfl
 go_wp2_with (first | (at_len; refine tabO_len ktPair _ rfl _ rfl (b := none) rfl (HN _).out ?_; intro l1 hl1; obtain rfl : l1 = [] := (List.eq_nil_iff_forall_not_mem.2 fun k hk => (hl1.2 k).1 hk rfl)) | (at_make; refine wpList_make_own _ rfl _ _ 188 rfl w1.heap.size 85 i0 _ 2 Tryz.underlying188 hinf hz0 hz1 .i64 .i64 _ 0 rfl rfl rfl (by omega) (by unfold maxLen; omega) (Nat.le_refl _) ?_; intro w2 hown2 hgr2; clear hown2) | (at_range; refine tabO_range ktPair _ rfl _ rfl (b := none) rfl (HN _).out ?_; intro w3 cnt3 hR3 hg3 hs3))
 go_frame
 have HG3 := Lib.hid (grown_none hgr2 w1.heap.size (Nat.le_refl _) |>.trans ((grown_none hg3 w1.heap.size hgr2.size)))
 have HR3 := Lib.hid hR3
 obtain ⟨r, hr⟩ : ∃ r, w2.heap.size = r := ⟨_, rfl⟩
 rw [hr] at HR3 ⊢
 clear hr hs3 hgr2 hg3 hR3
 obtain ⟨v5, hv5⟩ : ∃ v : Value, v = .slice (some ⟨w1.heap.size, 0, none⟩) 0 0 := ⟨_, rfl⟩
 go_loopw [5] (fun v wr => v = .slice (some ⟨w1.heap.size, 0, none⟩) 0 0 ∧ wr = w3) (fun _ _ => 0)
 case atStart => exact ⟨rfl, rfl⟩
 case round =>
  obtain ⟨rfl, hww⟩ := hrel
  rw [hww]
  clear hww
  go_wp2_with (at_next; refine nextPair _ rfl _ rfl (b := none) rfl HR3.out (fun hd => ?_) (fun k d w4 cnt4 hk hMk hLk hR4 hlt4 hg4 hs4 hen => (by cases hMk)))
  have HY : Blk w3 g1 89 #[.int .i64 s.n, .int .u8 s.acc, .slice A s.rs.length c, .func (.func 39) #[] #[], .func (.func 40) #[] #[], .int .i64 (most : Int)] := HB.out.below HG3.out HB.out.lt
  have HFIN : Hid (w.grownBy w3 none) := grown_of (HB1.out.trans (HG3.out.mono HB1.out.size))
  have y5 := HY.cell 5
  have yl := HY.lt
  simp at y5
  go_loopw [5] (fun v w5 => v = .slice (some ⟨w1.heap.size, 0, none⟩) 0 0 ∧ w5 = w3) (fun _ _ => 0)
  case atStart => exact ⟨rfl, rfl⟩
  case round =>
   obtain ⟨rfl, rfl⟩ := hrel
   go_wp2_with (at_len; refine tabO_len ktPair _ rfl _ rfl (b := none) rfl (HN _).out ?_; intro l2 hl2; obtain rfl : l2 = [] := (List.eq_nil_iff_forall_not_mem.2 fun k hk => (hl2.2 k).1 hk rfl))
   go_ret
   exact ⟨rfl, HFIN.out⟩
structure CelK (w w' : World) : Prop where
 os : w'.os = w.os
 tape : w'.tape = w.tape
 output : w'.output = w.output
 size : w.heap.size ≤ w'.heap.size
 block : ∀ (g : Nat) (cs : Array Value) (t : TypeId) (f : Nat × Nat), w.heap[g]? = some (Obj.cells cs t f) → w'.heap[g]? = some (Obj.cells cs t f)
section
variable {w w' w2 : World}
theorem CelK.refl (w : World) : CelK w w := ⟨rfl, rfl, rfl, Nat.le_refl _, fun _ _ _ _ h => h⟩
theorem CelK.trans (h : CelK w w') (k : CelK w' w2) : CelK w w2 := ⟨k.os.trans h.os, k.tape.trans h.tape, k.output.trans h.output, Nat.le_trans h.size k.size, fun g cs t f hg => k.block g cs t f (h.block g cs t f hg)⟩
theorem CelK.of_below (h : Below w.heap.size w w') : CelK w w' := ⟨h.os, h.tape, h.output, h.size, fun g _ _ _ hg => (h.block g (Array.getElem?_eq_some_iff.1 hg).1).trans hg⟩
theorem CelK.of_map {b : Nat} (h : w.grownBy w' (some b)) (hm : ∃ es clock, w.heap[b]? = some (.map es clock)) : CelK w w' := ⟨h.os, h.tape, h.output, h.size, fun g cs t f hg => (h.block g (Array.getElem?_eq_some_iff.1 hg).1 (fun e => by
 obtain ⟨es, clock, hm⟩ := hm
 have e := Option.some.inj e
 subst e
 rw [hm] at hg
 cases hg)).trans hg⟩
theorem CelK.of_iter {r : Nat} (h : w.grownBy w' (some r)) (hm : ∃ m a s c, w.heap[r]? = some (.mapIter m a s c)) : CelK w w' := ⟨h.os, h.tape, h.output, h.size, fun g cs t f hg => (h.block g (Array.getElem?_eq_some_iff.1 hg).1 (fun e => by
 obtain ⟨m, a, s, c, hm⟩ := hm
 have e := Option.some.inj e
 subst e
 rw [hm] at hg
 cases hg)).trans hg⟩
theorem CelK.of_row {o : Option Nat} (h : w.grownBy w' o) (hm : ∀ b, o = some b → ∃ es clock, w.heap[b]? = some (.map es clock)) : CelK w w' := by
 cases o with
 | none => exact CelK.of_below (grown_none h _ (Nat.le_refl _))
 | some b => exact CelK.of_map h (hm b rfl)
theorem CelK.blk {g : Nat} {t : TypeId} {cs : Array Value} (h : CelK w w') (hk : Blk w g t cs) : Blk w' g t cs := h.block _ _ _ _ hk
end
structure PlT {K : Type} (kt : TypeId) (enc : K → Value) (bp most lo t0 hi B0 : Nat) (F : Nat → Option Nat) (n : Nat) (Ms : Nat → K → Option Int) (wr : World) : Prop where
 plc : Plc Tryz.prog 3 wr bp n lo hi F
 free : n + freeN F hi ≤ hi + 2
 tab : ∀ j, t0 ≤ j → j ≤ hi → TabO Tryz.prog kt 3 enc wr (F j) most (Ms j)
 own : ∀ j g, lo ≤ j → j ≤ hi → F j = some g → B0 ≤ g ∧ g ≠ bp ∧ g < wr.heap.size
 inj : ∀ i j g, lo ≤ i → i ≤ hi → lo ≤ j → j ≤ hi → F i = some g → F j = some g → i = j
section
variable {K : Type} {kt : TypeId} {enc : K → Value} {bp most lo t0 hi B0 n : Nat} {F : Nat → Option Nat} {Ms : Nat → K → Option Int} {wr wr' : World}
theorem PlT.keep (h : PlT kt enc bp most lo t0 hi B0 F n Ms wr) (hs : wr.heap.size ≤ wr'.heap.size) (hp : wr'.heap[bp]? = wr.heap[bp]?) (ht : ∀ j g, t0 ≤ j → j ≤ hi → F j = some g → wr'.heap[g]? = wr.heap[g]?) : PlT kt enc bp most lo t0 hi B0 F n Ms wr' :=
 ⟨h.plc.keep hp, h.free, fun j h1 h2 => (h.tab j h1 h2).keep fun g hg => ht j g h1 h2 hg, fun j g h1 h2 h3 => ⟨(h.own j g h1 h2 h3).1, (h.own j g h1 h2 h3).2.1, Nat.lt_of_lt_of_le (h.own j g h1 h2 h3).2.2 hs⟩, h.inj⟩
theorem PlT.below (h : PlT kt enc bp most lo t0 hi B0 F n Ms wr) (hb : Below wr.heap.size wr wr') : PlT kt enc bp most lo t0 hi B0 F n Ms wr' :=
 h.keep hb.size (hb.block _ h.plc.lt) fun j g h1 h2 hg => hb.block g ((h.tab j h1 h2).lt g hg)
theorem PlT.other (h : PlT kt enc bp most lo t0 hi B0 F n Ms wr) {x : Nat} (hg : wr.grownBy wr' (some x)) (hx : x ≠ bp) (ht : ∀ j g, t0 ≤ j → j ≤ hi → F j = some g → x ≠ g) : PlT kt enc bp most lo t0 hi B0 F n Ms wr' :=
 h.keep hg.size (hg.block _ h.plc.lt fun e => hx (Option.some.inj e).symm) fun j g h1 h2 hgj => hg.block g ((h.tab j h1 h2).lt g hgj) fun e => ht j g h1 h2 hgj (Option.some.inj e).symm
theorem PlT.iter (h : PlT kt enc bp most lo t0 hi B0 F n Ms wr) {r : Nat} (hg : wr.grownBy wr' (some r)) (hr : ∃ m a s c, wr.heap[r]? = some (.mapIter m a s c)) : PlT kt enc bp most lo t0 hi B0 F n Ms wr' := by
 obtain ⟨m, a, s, c, hr⟩ := hr
 refine h.other hg (fun e => ?_) fun j g h1 h2 hgj e => ?_
 ·obtain ⟨es, clock, hm⟩ := h.plc.isMap
  rw [e, hm] at hr
  cases hr
 ·have := h.tab j h1 h2
  rw [hgj] at this
  obtain ⟨es, clock, hm⟩ := Tab.isMap this
  rw [e, hm] at hr
  cases hr
theorem PlT.row (h : PlT kt enc bp most lo t0 hi B0 F n Ms wr) {o : Option Nat} (ho : F lo = o) (hlo : lo ≤ hi) (ht : t0 = lo + 1) (hg : wr.grownBy wr' o) : PlT kt enc bp most lo t0 hi B0 F n Ms wr' := by
 cases o with
 | none => exact h.below (grown_none hg _ (Nat.le_refl _))
 | some x =>
  refine h.other hg (h.own lo x (Nat.le_refl _) hlo ho).2.1 fun j g h1 h2 hgj e => ?_
  subst e
  have := h.inj lo j x (Nat.le_refl _) hlo (by omega) h2 ho hgj
  omega
theorem PlT.later (h : PlT kt enc bp most lo t0 hi B0 F n Ms wr) {t1 : Nat} (ht : t0 ≤ t1) : PlT kt enc bp most lo t1 hi B0 F n Ms wr := ⟨h.plc, h.free, fun j h1 h2 => h.tab j (by omega) h2, h.own, h.inj⟩
theorem PlT.left_ (h : PlT kt enc bp most lo (lo + 1) hi B0 F n Ms wr) (hg : wr.grownBy wr' (some bp)) (hp : Plc Tryz.prog 3 wr' bp n (lo + 1) hi F) : PlT kt enc bp most (lo + 1) (lo + 1) hi B0 F n Ms wr' :=
 ⟨hp, h.free, fun j h1 h2 => (h.tab j h1 h2).keep fun g hgj => hg.block g ((h.tab j h1 h2).lt g hgj) fun e => (h.own j g (by omega) h2 hgj).2.1 (Option.some.inj e), fun j g h1 h2 h3 => ⟨(h.own j g (by omega) h2 h3).1, (h.own j g (by omega) h2 h3).2.1, Nat.lt_of_lt_of_le (h.own j g (by omega) h2 h3).2.2 hg.size⟩, fun i j g h1 h2 h3 h4 => h.inj i j g (by omega) h2 (by omega) h4⟩
theorem PlT.n_lt (h : PlT kt enc bp most lo t0 hi B0 F n Ms wr) (hh : hi ≤ 1000) : n < maxLen := by
 have := h.free
 unfold maxLen
 omega
theorem PlT.grow (h : PlT kt enc bp most lo t0 hi B0 F n Ms wr) {tz : Nat} (h1 : t0 ≤ tz) (h2 : tz ≤ hi) (hlt : lo ≤ t0) (hF : F tz = none) (hB : B0 ≤ wr.heap.size) (hg : (wr.alloc (.map #[] 0)).grownBy wr' (some bp))
 (hp : Plc Tryz.prog 3 wr' bp (n + 1) lo hi (fun j => if j = tz then some wr.heap.size else F j)) : PlT kt enc bp most lo t0 hi B0 (fun j => if j = tz then some wr.heap.size else F j) (n + 1) Ms wr' := by
 have hbp := h.plc.lt
 have hfr := freeN_put (g := wr.heap.size) h2 hF
 have key : ∀ g, g < wr.heap.size → g ≠ bp → wr'.heap[g]? = wr.heap[g]? := fun g hgl hgn => (hg.block g (by simp; omega) (fun e => hgn (Option.some.inj e))).trans (Below.heap_alloc wr _ g hgl)
 refine ⟨hp, by have := h.free; omega, fun j h3 h4 => ?_, fun j g h3 h4 hj => ?_, fun i j g h3 h4 h5 h6 hi hj => ?_⟩
 ·by_cases e : j = tz
  ·subst e
   have e2 : Ms j = fun _ => none := by
    have := h.tab j h3 h4
    rw [hF] at this
    exact funext this
   show TabO _ _ _ _ _ (if j = j then some wr.heap.size else F j) _ _
   rw [if_pos rfl, e2]
   show Tab _ _ _ _ _ _ _ _
   refine ((Tab.made wr).mono (Nat.zero_le _)).keep ?_
   exact hg.block _ (by simp) (fun e => by have := Option.some.inj e; omega)
  ·show TabO _ _ _ _ _ (if j = tz then some wr.heap.size else F j) _ _
   rw [if_neg e]
   exact (h.tab j h3 h4).keep fun g hgj => key g ((h.tab j h3 h4).lt g hgj) (h.own j g (by omega) h4 hgj).2.1
 ·have hsz : wr.heap.size + 1 ≤ wr'.heap.size := by have := hg.size; simpa using this
  have hj : (if j = tz then some wr.heap.size else F j) = some g := hj
  by_cases e : j = tz
  ·rw [if_pos e] at hj
   have := Option.some.inj hj
   exact ⟨by omega, by omega, by omega⟩
  ·rw [if_neg e] at hj
   have := h.own j g h3 h4 hj
   exact ⟨this.1, this.2.1, by omega⟩
 ·have hi : (if i = tz then some wr.heap.size else F i) = some g := hi
  have hj : (if j = tz then some wr.heap.size else F j) = some g := hj
  by_cases e : i = tz
  ·by_cases e2 : j = tz
   ·rw [e, e2]
   ·rw [if_pos e] at hi
    rw [if_neg e2] at hj
    have e3 := Option.some.inj hi
    have := (h.own j g h5 h6 hj).2.2
    omega
  ·by_cases e2 : j = tz
   ·rw [if_neg e] at hi
    rw [if_pos e2] at hj
    have e3 := Option.some.inj hj
    have := (h.own i g h3 h4 hi).2.2
    omega
   ·rw [if_neg e] at hi
    rw [if_neg e2] at hj
    exact h.inj i j g h3 h4 h5 h6 hi hj
theorem PlT.put (h : PlT kt enc bp most lo t0 hi B0 F n Ms wr) {tz x : Nat} (h1 : t0 ≤ tz) (h2 : tz ≤ hi) (hlt : lo ≤ t0) (hF : F tz = some x) (hg : wr.grownBy wr' (some x)) {M : K → Option Int} (hT : Tab Tryz.prog kt 3 enc wr' x most M) :
 PlT kt enc bp most lo t0 hi B0 F n (fun j => if j = tz then M else Ms j) wr' := by
 have hx := h.own tz x (by omega) h2 hF
 refine ⟨h.plc.keep (hg.block _ h.plc.lt fun e => hx.2.1 (Option.some.inj e).symm), h.free, fun j h3 h4 => ?_, fun j g h3 h4 h5 => ⟨(h.own j g h3 h4 h5).1, (h.own j g h3 h4 h5).2.1, Nat.lt_of_lt_of_le (h.own j g h3 h4 h5).2.2 hg.size⟩, h.inj⟩
 by_cases e : j = tz
 ·subst e
  show TabO _ _ _ _ _ (F j) _ (if j = j then M else Ms j)
  rw [if_pos rfl, hF]
  exact hT
 ·show TabO _ _ _ _ _ (F j) _ (if j = tz then M else Ms j)
  rw [if_neg e]
  exact (h.tab j h3 h4).keep fun g hgj => hg.block g ((h.tab j h3 h4).lt g hgj) fun e2 => e (h.inj j tz x (by omega) h4 (by omega) h2 (by rw [hgj]; exact e2) hF)
end
section
variable {K : Type} {kt : TypeId} {enc : K → Value} {w w' : World} {o : Option Nat} {r n cnt : Nat} {M : K → Option Int} {L : K → Bool}
theorem RTabO.lt (h : RTabO Tryz.prog kt 3 enc w o r n M L cnt) : (∀ b, o = some b → b < w.heap.size) ∧ r < w.heap.size := by
 refine ⟨fun b hb => ?_, ?_⟩
 ·subst hb; exact (RTab.ne h).2.1
 ·obtain ⟨m, a, s, c, h1⟩ := h.iter
  exact (Array.getElem?_eq_some_iff.1 h1).1
theorem RTabO.below (h : RTabO Tryz.prog kt 3 enc w o r n M L cnt) (hb : Below w.heap.size w w') : RTabO Tryz.prog kt 3 enc w' o r n M L cnt :=
 h.keep (fun b hbo => hb.block b (h.lt.1 b hbo)) (hb.block r h.lt.2)
theorem RTabO.other (h : RTabO Tryz.prog kt 3 enc w o r n M L cnt) {x : Nat} (hg : w.grownBy w' (some x)) (hx : ∀ b, o = some b → b ≠ x) (hm : ∃ es clock, w.heap[x]? = some (.map es clock)) : RTabO Tryz.prog kt 3 enc w' o r n M L cnt :=
 h.keep (fun b hbo => hg.block b (h.lt.1 b hbo) fun e => hx b hbo (Option.some.inj e)) (hg.block r h.lt.2 fun e => by
  have e := Option.some.inj e
  subst e
  obtain ⟨m, a, s, c, h1⟩ := h.iter
  obtain ⟨es, clock, h2⟩ := hm
  rw [h1] at h2
  cases h2)
end
def IsRun {K : Type} (kt : TypeId) (enc : K → Value) (S : Sys K) (st : K) (inp : ByteArray) (most : Nat) (w : World) (e : Ending) (w' : World) : Prop :=
 ∃ (o : Option Nat) (bo : Bool), e = .returned (.tuple #[.map o, .bool bo]) ∧ Below w.heap.size w w' ∧
  (bo = true → ∃ M, TabO Tryz.prog kt 3 enc w' o most M ∧ (∀ g, o = some g → w.heap.size ≤ g) ∧ Holds M (Rch S st (bl inp) inp.size) ∧ ∀ i, i ≤ inp.size → ¬ TooMany most (Rch S st (bl inp) i)) ∧
  (bo = false → ∃ i, i ≤ inp.size ∧ TooMany most (Rch S st (bl inp) i))
def OutI {K : Type} (kt : TypeId) (enc : K → Value) (S : Sys K) (st : K) (inp : List UInt8) (bp most hi : Nat) (w w1 : World) (at_ : Nat) (wr : World) : Prop :=
 ∃ F n Ms, PlT kt enc bp most at_ at_ hi w.heap.size F n Ms wr ∧ (∀ j, at_ ≤ j → j ≤ hi → Holds (Ms j) (Arr S st inp at_ j)) ∧ (∀ i, i < at_ → ¬ TooMany most (Rch S st inp i)) ∧ Below w.heap.size w wr ∧ CelK w1 wr
def RnI {K : Type} (kt : TypeId) (enc : K → Value) (S : Sys K) (st : K) (inp : List UInt8) (bp most hi at_ : Nat) (o : Option Nat) (r : Nat) (M : K → Option Int) (w w1 : World) (L : K → Bool) (cnt : Nat) (D : K → Bool) (now : Option (K × Int × Nat)) (wr : World) : Prop :=
 ∃ F n Ms, RTabO Tryz.prog kt 3 enc wr o r most M L cnt ∧ F at_ = o ∧ PlT kt enc bp most at_ (at_ + 1) hi w.heap.size F n Ms wr ∧ (∀ j, at_ < j → j ≤ hi → Holds (Ms j) (Acc S st inp at_ M D now j)) ∧ Below w.heap.size w wr ∧ CelK w1 wr
section
variable {K : Type} {kt : TypeId} {enc : K → Value} {S : Sys K} {st : K} {inp : List UInt8} {bp most hi at_ : Nat} {o : Option Nat} {r : Nat} {M : K → Option Int} {w w1 w2 : World} {L : K → Bool} {cnt : Nat} {D : K → Bool} {now : Option (K × Int × Nat)} {wr wr' : World}
theorem RnI.below (h : RnI kt enc S st inp bp most hi at_ o r M w w1 L cnt D now wr) (hb : Below wr.heap.size wr wr') : RnI kt enc S st inp bp most hi at_ o r M w w1 L cnt D now wr' := by
 obtain ⟨F, n, Ms, h1, h2, h3, h4, h5, h6⟩ := h
 exact ⟨F, n, Ms, h1.below hb, h2, h3.below hb, h4, h5.trans (hb.mono h5.size), h6.trans (CelK.of_below hb)⟩
theorem RnI.cel (h : RnI kt enc S st inp bp most hi at_ o r M w w1 L cnt D now wr) : CelK w1 wr := h.choose_spec.choose_spec.choose_spec.2.2.2.2.2
theorem RnI.bel (h : RnI kt enc S st inp bp most hi at_ o r M w w1 L cnt D now wr) : Below w.heap.size w wr := h.choose_spec.choose_spec.choose_spec.2.2.2.2.1
theorem RnI.from_ (h : RnI kt enc S st inp bp most hi at_ o r M w w1 L cnt D now wr) (hc : CelK w2 wr) : RnI kt enc S st inp bp most hi at_ o r M w w2 L cnt D now wr := by
 obtain ⟨F, n, Ms, h1, h2, h3, h4, h5, _⟩ := h
 exact ⟨F, n, Ms, h1, h2, h3, h4, h5, hc⟩
theorem RnI.congr {now' : Option (K × Int × Nat)} {D' : K → Bool} (h : RnI kt enc S st inp bp most hi at_ o r M w w1 L cnt D now wr) (e : ∀ j x d, Acc S st inp at_ M D now j x d ↔ Acc S st inp at_ M D' now' j x d) : RnI kt enc S st inp bp most hi at_ o r M w w1 L cnt D' now' wr := by
 obtain ⟨F, n, Ms, h1, h2, h3, h4, h5, h6⟩ := h
 exact ⟨F, n, Ms, h1, h2, h3, fun j h7 h8 => holds_iff (h4 j h7 h8) (e j), h5, h6⟩
theorem RnI.skip {k : K} {c : Int} {t : Nat} {x : Ru} (h : RnI kt enc S st inp bp most hi at_ o r M w w1 L cnt D (some (k, c, t)) wr) (hx : S.rs[t]? = some x) (hn : ∀ j y d, ¬ Jump S inp at_ k c x j y d) : RnI kt enc S st inp bp most hi at_ o r M w w1 L cnt D (some (k, c, t + 1)) wr :=
 h.congr fun j _ _ => (acc_skip hx (hn j)).symm
theorem RnI.next [DecidableEq K] {k : K} {c : Int} {cnt4 : Nat} (h : RnI kt enc S st inp bp most hi at_ o r M w w1 L cnt D none wr) (hR : RTabO Tryz.prog kt 3 enc wr' o r most M (fun x => L x && !decide (x = k)) cnt4) (hg : wr.grownBy wr' (some r)) (hr : w.heap.size ≤ r) :
 RnI kt enc S st inp bp most hi at_ o r M w w1 (fun x => L x && !decide (x = k)) cnt4 D (some (k, c, 0)) wr' := by
 obtain ⟨F, n, Ms, h1, h2, h3, h4, h5, h6⟩ := h
 exact ⟨F, n, Ms, hR, h2, h3.iter hg h1.iter, fun j h7 h8 => holds_iff (h4 j h7 h8) fun _ _ => acc_now.symm, h5.grown hg h5.size (fun k hk => by injection hk with hk; omega), h6.trans (CelK.of_iter hg h1.iter)⟩
theorem RnI.over [DecidableEq K] {k : K} {c : Int} {t : Nat} (h : RnI kt enc S st inp bp most hi at_ o r M w w1 (fun x => L x && !decide (x = k)) cnt (fun x => !L x) (some (k, c, t)) wr) (hM : M k = some c) (ht : S.rs.length ≤ t) :
 RnI kt enc S st inp bp most hi at_ o r M w w1 (fun x => L x && !decide (x = k)) cnt (fun x => !(L x && !decide (x = k))) none wr := by
 have e : (fun x => !(L x && !decide (x = k))) = fun y => !L y || decide (y = k) := funext fun x => by cases L x <;> simp
 rw [e]
 exact h.congr fun j _ _ => (acc_done hM ht).symm
theorem RnI.put [DecidableEq K] {F : Nat → Option Nat} {n : Nat} {Ms : Nat → K → Option Int} {k : K} {c : Int} {t : Nat} {x : Ru} {y : K} {g : Nat} (hR : RTabO Tryz.prog kt 3 enc wr o r most M L cnt) (hF : F at_ = o) (hP : PlT kt enc bp most at_ (at_ + 1) hi w.heap.size F n Ms wr)
 (hH : ∀ j, at_ < j → j ≤ hi → Holds (Ms j) (Acc S st inp at_ M D (some (k, c, t)) j)) (hb : Below w.heap.size w wr) (hc : CelK w1 wr) (hx : S.rs[t]? = some x) (h1 : x.mute = false) (h2 : x.fr = S.mode k) (h3 : bl x.inp <+: inp.drop at_) (h4 : S.step k x = some y)
 (hz : at_ + x.inp.size ≤ hi) (hFz : F (at_ + x.inp.size) = some g) (hg : wr.grownBy wr' (some g)) (hT : Tab Tryz.prog kt 3 enc wr' g most (relaxT (Ms (at_ + x.inp.size)) y (c + x.co))) : RnI kt enc S st inp bp most hi at_ o r M w w1 L cnt D (some (k, c, t + 1)) wr' := by
 have hs := size_pos h1
 have hTz := hP.tab (at_ + x.inp.size) (by omega) hz
 rw [hFz] at hTz
 have hgm : ∃ es clock, wr.heap[g]? = some (.map es clock) := Tab.isMap hTz
 have hown := hP.own _ g (by omega) hz hFz
 have hxo : ∀ b, o = some b → b ≠ g := fun b hbo e => by
  subst e
  have := hP.inj at_ (at_ + x.inp.size) b (Nat.le_refl _) (by omega) (by omega) hz (hF.trans hbo) hFz
  omega
 refine ⟨F, n, _, hR.other hg hxo hgm, hF, hP.put (by omega) hz (by omega) hFz hg hT, fun j h5 h6 => ?_, hb.grown hg hb.size (fun k hk => by injection hk with hk; omega), hc.trans (CelK.of_map hg hgm)⟩
 by_cases e : j = at_ + x.inp.size
 ·subst e
  show Holds (if at_ + x.inp.size = at_ + x.inp.size then _ else _) _
  rw [if_pos rfl]
  exact holds_step (hH _ h5 h6) fun _ _ => acc_step hx h1 h2 h3 h4
 ·show Holds (if j = at_ + x.inp.size then _ else _) _
  rw [if_neg e]
  exact holds_iff (hH j h5 h6) fun _ _ => (acc_skip hx fun _ _ hj => e hj.2.2.2.1).symm
theorem RnI.left_ {F : Nat → Option Nat} {n : Nat} {Ms : Nat → K → Option Int} (hP : PlT kt enc bp most at_ (at_ + 1) hi w.heap.size F n Ms wr) (hH : ∀ j, at_ < j → j ≤ hi → Holds (Ms j) (Acc S st inp at_ M D none j)) (hb : Below w.heap.size w wr) (hc : CelK w1 wr)
 (hD : ∀ k c, M k = some c → D k = true) (hM : Holds M (Rch S st inp at_)) (ht : ∀ i, i ≤ at_ → ¬ TooMany most (Rch S st inp i)) (hg : wr.grownBy wr' (some bp)) (hp : Plc Tryz.prog 3 wr' bp n (at_ + 1) hi F) (hbp : w.heap.size ≤ bp) : OutI kt enc S st inp bp most hi w w1 (at_ + 1) wr' :=
 ⟨F, n, Ms, hP.left_ hg hp, fun j h1 h2 => leapt hM (holds_iff (hH j (by omega) h2) fun _ _ => acc_all hD), fun i hi => ht i (by omega), hb.grown hg hb.size (fun k hk => by injection hk with hk; omega), hc.trans (CelK.of_map hg hP.plc.isMap)⟩
end
theorem acc_start' {K : Type} {S : Sys K} {st : K} {inp : List UInt8} {at_ : Nat} {M : K → Option Int} {D : K → Bool} (hD : ∀ k c, M k = some c → D k = false) {j : Nat} {x : K} {d : Int} : Acc S st inp at_ M D none j x d ↔ Arr S st inp at_ j x d := by
 unfold Acc
 constructor
 ·rintro (h | ⟨k, c, _, h1, h2, _⟩ | ⟨_, _, _, _, h, _⟩)
  ·exact h
  ·rw [hD k c h1] at h2; cases h2
  ·cases h
 ·exact .inl
theorem OutI.start {K : Type} [DecidableEq K] {kt : TypeId} {enc : K → Value} {S : Sys K} {st : K} {inp : List UInt8} {bp most hi g0 : Nat} {w w1 w3 w4 : World} (hP : Plc Tryz.prog 3 w4 bp 1 0 hi (fun j => if j = 0 then some g0 else none)) (hT : Tab Tryz.prog kt 3 enc w3 g0 1 (putT (fun _ => none) st 0))
 (hg : w3.grownBy w4 (some bp)) (hne : g0 ≠ bp) (hB : w.heap.size ≤ g0) (hm1 : 1 ≤ most) (hbw : Below w.heap.size w w4) (hc : CelK w1 w4) : OutI kt enc S st inp bp most hi w w1 0 w4 := by
 have hT4 : Tab Tryz.prog kt 3 enc w4 g0 most (putT (fun _ => none) st 0) := (hT.keep (hg.block g0 hT.lt (fun e => hne (Option.some.inj e)))).mono hm1
 refine ⟨_, 1, fun j => if j = 0 then putT (fun _ => none) st 0 else fun _ => none, ⟨hP, ?_, fun j _ _ => ?_, fun j g _ _ h => ?_, fun i j g _ _ _ _ h1 h2 => ?_⟩, fun j _ _ => ?_, fun i hi => absurd hi (Nat.not_lt_zero _), hbw, hc⟩
 ·have := freeN_le (F := fun j => if j = 0 then some g0 else none) (hi := hi); omega
 ·by_cases e : j = 0
  ·subst e; exact hT4
  ·show TabO _ _ _ _ _ (if j = 0 then some g0 else none) _ (if j = 0 then putT (fun _ => none) st 0 else fun _ => none)
   rw [if_neg e, if_neg e]
   exact fun _ => rfl
 ·have h : (if j = 0 then some g0 else none) = some g := h
  split at h
  ·have := Option.some.inj h
   subst this
   exact ⟨hB, hne, hT4.lt⟩
  ·cases h
 ·have h1 : (if i = 0 then some g0 else none) = some g := h1
  have h2 : (if j = 0 then some g0 else none) = some g := h2
  split at h1
  ·split at h2
   ·omega
   ·cases h2
  ·cases h1
 ·by_cases e : j = 0
  ·subst e
   show Holds (if 0 = 0 then putT (fun _ => none) st 0 else fun _ => none) _
   rw [if_pos rfl]
   intro k
   unfold putT
   by_cases e : k = st
   ·subst e
    rw [if_pos rfl]
    refine ⟨fun c hc => ?_, fun h => by cases h⟩
    obtain rfl := Option.some.inj hc
    exact ⟨arr_zero.2 ⟨rfl, rfl⟩, fun c' h' => by rw [(arr_zero.1 h').2]; exact Int.le_refl _⟩
   ·rw [if_neg e]
    exact ⟨fun c hc => (by cases hc), fun _ c hc => e (arr_zero.1 hc).1⟩
  ·show Holds (if j = 0 then putT (fun _ => none) st 0 else fun _ => none) _
   rw [if_neg e]
   exact fun k => ⟨fun c hc => (by cases hc), fun _ c hc => arr_start e k c hc⟩
theorem bl_drop (s : ByteArray) (i : Nat) : bl (s.extract i s.size) = (bl s).drop i := by
 simp [bl, ByteArray.data_extract]
 exact List.take_of_length_le (by rw [List.length_drop]; exact Nat.le_refl _)
theorem settle_none {K : Type} {kt : TypeId} {enc : K → Value} {S : Sys K} {st : K} {inp : List UInt8} {pl most : Nat} {M : K → Option Int} (hM : ∀ k, M k = none) {w w' : World} (hg : w.grownBy w' none) : IsSettle kt enc S st inp pl most none M w (.returned (.bool true)) w' :=
 ⟨true, M, rfl, hg, fun _ => ⟨hM, fun k => ⟨fun c hc => (by rw [hM k] at hc; cases hc), fun _ c h => (by
  rcases h with h | ⟨k0, c0, _, h, _⟩
  ·have h : M k = some c := h
   rw [hM k] at h; cases h
  ·have h : M k0 = some c0 := h
   rw [hM k0] at h; cases h)⟩⟩, fun h => by cases h⟩
theorem IsSettle.parts {K : Type} {kt : TypeId} {enc : K → Value} {S : Sys K} {st : K} {inp : List UInt8} {pl most : Nat} {o : Option Nat} {M : K → Option Int} {w w' : World} {e : Ending} (h : IsSettle kt enc S st inp pl most o M w e w') :
 (∃ M', e = .returned (.bool true) ∧ w.grownBy w' o ∧ TabO Tryz.prog kt 3 enc w' o most M' ∧ Holds M' (fun k c => Low M k c ∨ Hop S (Low M) k c)) ∨ (e = .returned (.bool false) ∧ w.grownBy w' o ∧ TooMany most (Rch S st inp pl)) := by
 obtain ⟨bo, M', rfl, h1, h2, h3⟩ := h
 cases bo with
 | true => exact .inl ⟨M', rfl, h1, h2 rfl⟩
 | false => exact .inr ⟨rfl, h1, h3 rfl⟩
theorem jump_not {K : Type} {S : Sys K} {inp : List UInt8} {at_ : Nat} {k : K} {c : Int} {x : Ru} (h : x.mute = true ∨ x.fr ≠ S.mode k ∨ ¬ bl x.inp <+: inp.drop at_ ∨ S.step k x = none) : ∀ (j : Nat) (y : K) (d : Int), ¬ Jump S inp at_ k c x j y d := by
 rintro j y d ⟨h1, h2, h3, _, h4, _⟩
 rcases h with h | h | h | h
 ·rw [h1] at h; cases h
 ·exact h h2
 ·exact h h3
 ·rw [h] at h4; cases h4
theorem RnI.two {K : Type} {kt : TypeId} {enc : K → Value} {S : Sys K} {st : K} {inp : List UInt8} {bp most hi at_ : Nat} {o : Option Nat} {r : Nat} {M : K → Option Int} {w w1 wr : World} {L : K → Bool} {cnt : Nat} {D : K → Bool} {now : Option (K × Int × Nat)}
 (h : RnI kt enc S st inp bp most hi at_ o r M w w1 L cnt D now wr) : ∃ F n Ms, RTabO Tryz.prog kt 3 enc wr o r most M L cnt ∧ F at_ = o ∧ PlT kt enc bp most at_ (at_ + 1) hi w.heap.size F n Ms wr ∧ (∀ j, at_ < j → j ≤ hi → Holds (Ms j) (Acc S st inp at_ M D now j)) ∧ Below w.heap.size w wr ∧ CelK w1 wr := h
theorem grow_range {K : Type} {kt : TypeId} {enc : K → Value} {o : Option Nat} {r n cnt bp : Nat} {M : K → Option Int} {L : K → Bool} {w w' : World} (h : RTabO Tryz.prog kt 3 enc w o r n M L cnt) (hg : (w.alloc (.map #[] 0)).grownBy w' (some bp)) (ho : ∀ b, o = some b → b ≠ bp) (hm : ∃ es clock, w.heap[bp]? = some (.map es clock)) : RTabO Tryz.prog kt 3 enc w' o r n M L cnt := by
 have h1 : RTabO Tryz.prog kt 3 enc (w.alloc (.map #[] 0)) o r n M L cnt := h.below (nw _ (Below.refl _ _))
 obtain ⟨es, clock, hm⟩ := hm
 exact h1.other hg ho ⟨es, clock, (Below.heap_alloc w _ bp (Array.getElem?_eq_some_iff.1 hm).1).trans hm⟩
theorem IsRun.ok {K : Type} {kt : TypeId} {enc : K → Value} {S : Sys K} {st : K} {inp : ByteArray} {most : Nat} {w w' : World} {e : Ending} (h : IsRun kt enc S st inp most w e w') (hf : ∀ i, i ≤ inp.size → ¬ TooMany most (Rch S st (bl inp) i)) :
 ∃ o M, e = .returned (.tuple #[.map o, .bool true]) ∧ Below w.heap.size w w' ∧ TabO Tryz.prog kt 3 enc w' o most M ∧ Holds M (Rch S st (bl inp) inp.size) := by
 obtain ⟨o, bo, rfl, h1, h2, h3⟩ := h
 cases bo with
 | false =>
  obtain ⟨i, hi, h4⟩ := h3 rfl
  exact absurd h4 (hf i hi)
 | true =>
  obtain ⟨M, h4, _, h5, _⟩ := h2 rfl
  exact ⟨o, M, rfl, h1, h4, h5⟩
theorem pre_take {s p : ByteArray} : ((s.extract 0 p.size).toList = p.toList ∧ p.size ≤ s.size) ↔ bl p <+: bl s := by
 have e : (s.extract 0 p.size).toList = (bl s).take p.size := by
  rw [Lib.toList_data]
  simp [bl, ByteArray.data_extract]
 rw [e, Lib.toList_data p]
 constructor
 ·rintro ⟨h, _⟩
  rw [show bl p = (bl s).take p.size from h.symm]
  exact List.take_prefix _ _
 ·intro h
  exact ⟨(List.prefix_iff_eq_take.1 h).symm, by have := h.length_le; rwa [bl_len, bl_len] at this⟩
set_option maxHeartbeats 4000000 in
theorem hasPreI_any (s p : ByteArray) (w : World) : Calls Tryz.prog 98 #[.string s, .string p] w fun e w' => e = .returned (.bool (decide (bl p <+: bl s))) ∧ w = w' := by
 by_cases h : p.size ≤ s.size
 ·have hI : (p.size : Int) ≤ (s.size : Int) := by omega
  by_cases h2 : (s.extract 0 p.size).toList = p.toList
  ·have HD : Hid (decide (bl p <+: bl s) = true) := decide_eq_true (pre_take.1 ⟨h2, h⟩)
   go_enter Tryz.func98, Tryz.ntmps98
   go_wp2_with fail
   go_ret
   exact ⟨by rw [HD.out] <;> rfl, rfl⟩
  ·have HD : Hid (decide (bl p <+: bl s) = false) := decide_eq_false (fun hp => h2 (pre_take.2 hp).1)
   go_enter Tryz.func98, Tryz.ntmps98
   go_wp2_with fail
   go_ret
   exact ⟨ret_bool (by rw [HD.out]; simpa using h2), rfl⟩
 ·have hI : ¬ (p.size : Int) ≤ (s.size : Int) := by omega
  have HD : Hid (decide (bl p <+: bl s) = false) := decide_eq_false (fun hp => h (pre_take.2 hp).2)
  go_enter Tryz.func98, Tryz.ntmps98
  go_wp2_with fail
  go_ret
  exact ⟨by rw [HD.out] <;> rfl, rfl⟩
set_option maxHeartbeats 4000000 in
theorem hasPre_any (s p : ByteArray) (w : World) : Calls Tryz.prog 69 #[.string s, .string p] w fun e w' => e = .returned (.bool (decide (bl p <+: bl s))) ∧ w = w' := by
 go_enter Tryz.func69, Tryz.ntmps69
 go_wp2_with (go_at_call 98; refine (hasPreI_any s p _).mono ?_; rintro e w' ⟨rfl, rfl⟩)
 go_ret
 exact ⟨rfl, rfl⟩
end Go.Proofs.YtfpnhgahkjglgaaGreat
namespace Go.Proofs.YtfpnhgahkjglgaaGreat
open Go Go.RowKit Go.Conc
def wpN (P : Program) (c : Code) (Q : Exit → Act → World → Prop) (a : Act) (w : World) : Prop :=
 ∀ (b : Frame) (k : List Item) (cs : List Frame), b.kind ≠ .early → ∃ e a' w', Q e a' w' ∧ Arrives P (lone (b.at a (.code c :: k)) cs w) b k cs e a' w'
section
variable {P : Program} {Q : Exit → Act → World → Prop} {a : Act} {w : World}
theorem wpN_of {c : Code} (h : c.wp P Q a w) : wpN P c Q a w := fun b k cs _ => h b k cs
theorem arrives_on {m m' : Machine} {b : Frame} {x : Item} {k : List Item} {cs : List Frame} {e : Exit} {a : Act} {w : World} (hs : Steps P m m') (hx : x.plain = true) (he : e ≠ .normal) (h : Arrives P m' b (x :: k) cs e a w) : Arrives P m b k cs e a w :=
 .of_steps hs (.pass (x := x) hx (fun _ _ => .inl he) h)
theorem wpN_seq {x y : Code} (h : wpN P x (Exit.then (fun a w => wpN P y Q a w) Q) a w) : wpN P (.seq x y) Q a w := fun b k cs hb => by
 obtain ⟨e, a₁, w₁, h1, h2⟩ := h b (.code y :: k) cs hb
 have hs : Steps P (lone (b.at a (.code (.seq x y) :: k)) cs w) (lone (b.at a (.code x :: .code y :: k)) cs w) := .one step_seq
 cases e with
 | normal =>
  obtain ⟨e₂, a₂, w₂, h3, h4⟩ := h1 b k cs hb
  exact ⟨e₂, a₂, w₂, h3, .of_steps (hs.trans h2) h4⟩
 | exit id => exact ⟨_, _, _, h1, arrives_on hs rfl (by simp) h2⟩
 | goto l => exact ⟨_, _, _, h1, arrives_on hs rfl (by simp) h2⟩
 | ret => exact ⟨_, _, _, h1, arrives_on hs rfl (by simp) h2⟩
 | panic c => exact ⟨_, _, _, h1, arrives_on hs rfl (by simp) h2⟩
 | outgrown => exact ⟨_, _, _, h1, arrives_on hs rfl (by simp) h2⟩
theorem wpN_cond {c : Operand} {x y : Code} {t : Bool} (hc : a.eval c = .bool t) (h : wpN P (if t then x else y) Q a w) : wpN P (.cond c x y) Q a w := fun b k cs hb => by
 obtain ⟨e, a', w', h1, h2⟩ := h b k cs hb
 exact ⟨e, a', w', h1, .of_steps (.one (step_cond hc)) h2⟩
theorem wpN_block {id : Nat} {c : Code} (h : wpN P c (Exit.inBlock id Q) a w) : wpN P (.block id c) Q a w := fun b k cs hb => by
 obtain ⟨e, a₁, w₁, h1, h2⟩ := h b (.inBlock id :: k) cs hb
 have hs : Steps P (lone (b.at a (.code (.block id c) :: k)) cs w) (lone (b.at a (.code c :: .inBlock id :: k)) cs w) := .one step_block
 cases e with
 | normal => exact ⟨.normal, a₁, w₁, h1, (hs.trans h2).trans (.one step_inBlock)⟩
 | exit id' =>
  by_cases e : id' = id
  ·subst e
   have h1 : Q .normal a₁ w₁ := by simpa [Exit.inBlock] using h1
   exact ⟨.normal, a₁, w₁, h1, hs.trans (h2 k (by simp [exitTo]))⟩
  ·have h1 : Q (.exit id') a₁ w₁ := by simpa [Exit.inBlock, e] using h1
   refine ⟨.exit id', a₁, w₁, h1, fun k' hk => hs.trans (h2 k' ?_)⟩
   have : (id == id') = false := by simpa using fun h => e h.symm
   simp [exitTo, this, hk]
 | goto l => exact ⟨_, a₁, w₁, h1, fun k' hk => hs.trans (h2 k' (by simp [gotoIn, hk]))⟩
 | ret => exact ⟨_, a₁, w₁, h1, .of_steps hs h2⟩
 | panic c => exact ⟨_, a₁, w₁, h1, .of_steps hs h2⟩
 | outgrown => exact ⟨_, a₁, w₁, h1, .of_steps (e := .outgrown) hs h2⟩
theorem calls_of_wpN {f : FuncId} {fn : Func} {c : Code} {args : Array Value} {R : Ending → World → Prop} (hf : P.funcs[f]? = some fn) (hb : fn.body = some c)
 (h : wpN P c (bodyPost P fn R) { tmps := args ++ Array.replicate (fn.ntmps - args.size) undef, defers := [] } w) : Calls P f args w R := fun cs => by
 obtain ⟨b, hbb⟩ : ∃ b : Frame, b = { (default : Frame) with fn := f, kind := .normal } := ⟨_, rfl⟩
 have hen : Frame.enter P f args .normal = b.at { tmps := args ++ Array.replicate (fn.ntmps - args.size) undef, defers := [] } [.code c] := by
  subst hbb
  simp [Frame.enter, Frame.at, hf, hb]
 have hk : b.kind ≠ .early := by rw [hbb]; simp
 obtain ⟨e, a', w', hq, harr⟩ := h b [] cs hk
 rw [← hen] at harr
 cases e with
 | normal =>
  obtain ⟨hd, v, hr, hR⟩ := hq
  exact ⟨.returned v, w', _, hR, Steps.trans harr (.one step_end), by rw [hbb]; rfl, by rw [hbb]; exact ⟨rfl, hd, rfl, fn, hf, hr⟩⟩
 | ret =>
  obtain ⟨hd, v, hr, hR⟩ := hq
  obtain ⟨todo, hs⟩ := harr
  exact ⟨.returned v, w', _, hR, hs, by rw [hbb]; rfl, by rw [hbb]; exact ⟨rfl, hd, rfl, fn, hf, hr⟩⟩
 | panic ch =>
  obtain ⟨hd, hR⟩ := hq
  obtain ⟨todo, hs⟩ := harr
  exact ⟨.panicked ch, w', _, hR, hs, by rw [hbb]; rfl, by rw [hbb]; exact ⟨rfl, hd, fn, hf⟩⟩
 | exit id => exact hq.elim
 | goto l => exact hq.elim
 | outgrown => exact ⟨.outgrown, w', b, hq, harr.resolve_left hk, by rw [hbb], trivial⟩
def InR (P : Program) (ops : Array Oper) (Q : Exit → Act → World → Prop) (l : List Nat) (a : Act) (w : World) : Prop :=
 ∀ (b : Frame) (k : List Item) (cs : List Frame), b.kind ≠ .early → ∃ e a' w', Q e a' w' ∧ Arrives P (lone (b.at a (.inRegion ops l :: k)) cs w) b k cs e a' w'
variable {ops : Array Oper}
theorem wpN_region {id : Nat} (h : InR P ops Q (List.range ops.size) a w) : wpN P (.region id ops false) Q a w := fun b k cs hb => by
 obtain ⟨e, a', w', h1, h2⟩ := h b k cs hb
 exact ⟨e, a', w', h1, .of_steps (.one step_region) h2⟩
theorem inR_nil (h : Q .normal a w) : InR P ops Q [] a w := fun _ _ _ _ => ⟨.normal, a, w, h, .one step_region_end⟩
theorem inR_value {i : Nat} {l : List Nat} {o : Oper} {v : Value} {w' : World} (ho : ops[i]? = some o) (hw : Region.wanted o (yielded ops a.tmps) = true) (hr : (execOp a.eval o).run P w = .ok (.value v) w') (h : InR P ops Q l (a.put o.dst v) w') : InR P ops Q (i :: l) a w := fun b k cs hb => by
 obtain ⟨e, a', w₂, h1, h2⟩ := h b k cs hb
 refine ⟨e, a', w₂, h1, .of_steps (.one (step_lone_go ?_)) h2⟩
 rw [stepG_op ho hw]
 have hfin : (b.at a (.inRegion ops (i :: l) :: k)).finish v = b.at (a.put o.dst v) (.inRegion ops l :: k) := by rw [Frame.finish_at, ho]; rfl
 simp [stepG.apply, hr, hfin]
theorem inR_recv {i : Nat} {l : List Nat} {o : Oper} {c cap s r : Nat} {buf : Array Value} {closed tm : Bool} {z : Value} (ho : ops[i]? = some o) (hw : Region.wanted o (yielded ops a.tmps) = true)
 (hr : (execOp a.eval o).run P w = .ok (.comm #[rcase c z] true (.recv false)) w) (hc : w.heap[c]? = some (.chan cap buf closed s r tm)) (hs : 0 < buf.size)
 (h : InR P ops Q l (a.put o.dst (buf.getD 0 undef)) (w.setChan c cap (buf.extract 1 buf.size) closed s (r + 1) tm)) : InR P ops Q (i :: l) a w := fun b k cs hb => by
 obtain ⟨e, a', w₂, h1, h2⟩ := h b k cs hb
 refine ⟨e, a', w₂, h1, .of_steps (.one ?_) h2⟩
 have h3 := step_lone_recv_buf false (stepG_comm (P := P) (main := true) (k := k) (cs := cs) (rest := l) ho hw hb hr) hc hs
 rw [Frame.finish_at, ho] at h3
 exact h3
theorem inR_send {i : Nat} {l : List Nat} {o : Oper} {c cap s r : Nat} {buf : Array Value} {tm : Bool} {v z : Value} (ho : ops[i]? = some o) (hw : Region.wanted o (yielded ops a.tmps) = true)
 (hr : (execOp a.eval o).run P w = .ok (.comm #[scase c v z] true .send) w) (hc : w.heap[c]? = some (.chan cap buf false s r tm)) (hs : buf.size < cap)
 (h : InR P ops Q l (a.put o.dst undef) (w.setChan c cap (buf.push v) false (s + 1) r tm)) : InR P ops Q (i :: l) a w := fun b k cs hb => by
 obtain ⟨e, a', w₂, h1, h2⟩ := h b k cs hb
 refine ⟨e, a', w₂, h1, .of_steps (.one ?_) h2⟩
 have h3 := step_lone_send_room (stepG_comm (P := P) (main := true) (k := k) (cs := cs) (rest := l) ho hw hb hr) hc hs
 rw [Frame.finish_at, ho] at h3
 exact h3
end
end Go.Proofs.YtfpnhgahkjglgaaGreat
