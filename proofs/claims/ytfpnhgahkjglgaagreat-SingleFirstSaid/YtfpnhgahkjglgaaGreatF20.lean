/-
  The walk of layer 05: the states to which routes lead.
-/
import Derived.Test.YtfpnhgahkjglgaaGreatF13
import Derived.Carry
set_option maxRecDepth 100000
namespace Go.Proofs.YtfpnhgahkjglgaaGreat
open Go Go.RowKit Go.Maps
theorem eqnPair (W : World) : (binOp BinOp.eql 90 (.map none) (.map none)).run Tryz.prog W = .ok (.bool true) W := by kernel_rfl
theorem eqsPair (g : Nat) (W : World) : (binOp BinOp.eql 90 (.map (some g)) (.map none)).run Tryz.prog W = .ok (.bool false) W := by kernel_rfl
theorem ptPair : PT Tryz.prog 159 3 90 where
 law := int_keyed Tryz.underlying3
 und := Tryz.underlying159
 kin := Tryz.underlying3
 zero := fun w => by kernel_rfl
set_option maxHeartbeats 8000000 in
theorem runPair_any (S : Sys (Int × ByteArray)) (st : (Int × ByteArray)) (inp : ByteArray) (s : Sc) (A : Option Addr) (c most : Nat) (w : World)
 (hs : ScIn w s A c) (hok : ScOK s) (hrs : S.rs = s.rs) (hF : Flat S st (bl inp)) (hinp : inp.size ≤ 1000) (hm1 : 1 ≤ most) (hmost : most ≤ 10000) (hst : KOk Tryz.prog 85 vPair st)
 (hrch : ∀ (i : Nat) (k : (Int × ByteArray)) (d : Int), i ≤ inp.size → Rch S st (bl inp) i k d → KOk Tryz.prog 85 vPair k ∧ 0 ≤ d ∧ d ≤ 1000000)
 (hmode : ∀ (W : World) (k : (Int × ByteArray)), Calls Tryz.prog 39 #[.agg #[.int .i64 k.1, .string k.2]] W fun e w' => e = .returned (.int .i64 (S.mode k)) ∧ Below W.heap.size W w')
 (hstep : ∀ (W : World), Below w.heap.size w W → ∀ (k : (Int × ByteArray)) (x : Ru), x ∈ s.rs → (∃ i d, i ≤ inp.size ∧ Rch S st (bl inp) i k d) → Calls Tryz.prog 40 #[.agg #[.int .i64 k.1, .string k.2], .agg #[.int .i64 x.fr, .int .i64 x.to, .string x.inp, .string x.out, .int .i64 x.co]] W (IsStep vPair S k x W)) :
 Calls Tryz.prog 41 #[.agg #[.int .i64 s.n, .int .u8 s.acc, .slice A s.rs.length c, .func (.func 39) #[] #[], .func (.func 40) #[] #[], .int .i64 (most : Int)], .agg #[.int .i64 st.1, .string st.2], .string inp] w (IsRun 85 vPair S st inp most w) := by
 have hl := hs.len
 have hl64 := hok.2.1
 have HS := Lib.hid hs
 have HOK := Lib.hid hok
 have HRS := Lib.hid hrs
 have HF := Lib.hid hF
 have HRCH := Lib.hid hrch
 have HMODE := Lib.hid hmode
 have HSTEP := Lib.hid hstep
 have HST := Lib.hid hst
 have HSET : Hid (∀ (g : Nat) (W : World) (M : (Int × ByteArray) → Option Int) (pl : Nat), Below w.heap.size w W → w.heap.size ≤ g → pl ≤ inp.size → Tab Tryz.prog 85 3 vPair W g most M → SubR S st (bl inp) pl M → Calls Tryz.prog 78 #[.agg #[.int .i64 s.n, .int .u8 s.acc, .slice A s.rs.length c, .func (.func 39) #[] #[], .func (.func 40) #[] #[], .int .i64 (most : Int)], .map (some g)] W (IsSettle 85 vPair S st (bl inp) pl most (some g) M W)) := fun g W M pl h1 h2 h3 h4 h5 =>
  settlePair_any S st (bl inp) pl s A c most w W g most M h1 h2 hs hok hrs hF h4 (Nat.le_refl _) hmost h5 (fun k d h => hrch pl k d h3 h) hmode (fun V hV k x hx ⟨d, hd⟩ => hstep V hV k x hx ⟨pl, d, h3, hd⟩)
 have HSETO : Hid (∀ (o : Option Nat) (W : World) (M : (Int × ByteArray) → Option Int) (pl : Nat), Below w.heap.size w W → (∀ g, o = some g → w.heap.size ≤ g) → pl ≤ inp.size → TabO Tryz.prog 85 3 vPair W o most M → SubR S st (bl inp) pl M → Calls Tryz.prog 78 #[.agg #[.int .i64 s.n, .int .u8 s.acc, .slice A s.rs.length c, .func (.func 39) #[] #[], .func (.func 40) #[] #[], .int .i64 (most : Int)], .map o] W (IsSettle 85 vPair S st (bl inp) pl most o M W)) := fun o W M pl h1 h2 h3 h4 h5 => by
  cases o with
  | some g => exact HSET.out g W M pl h1 (h2 g rfl) h3 h4 h5
  | none =>
   refine (settlePair_nil s A c most W hmost).mono ?_
   rintro e w' ⟨rfl, hg⟩
   exact settle_none h4 hg
 obtain ⟨w1, hw1⟩ : ∃ w1, (w.alloc (.cells #[.int .i64 s.n, .int .u8 s.acc, .slice A s.rs.length c, .func (.func 39) #[] #[], .func (.func 40) #[] #[], .int .i64 (most : Int)] 89)).alloc (.cells #[.int .i64 st.1, .string st.2] 85) = w1 := ⟨_, rfl⟩
 obtain ⟨g3, hg3⟩ : ∃ g, w.heap.size = g := ⟨_, rfl⟩
 have hb1 : Below w.heap.size w w1 := by rw [← hw1]; exact nw _ (nw _ (Below.refl _ _))
 have hBK : Blk w1 g3 89 #[.int .i64 s.n, .int .u8 s.acc, .slice A s.rs.length c, .func (.func 39) #[] #[], .func (.func 40) #[] #[], .int .i64 (most : Int)] := by rw [← hw1, ← hg3]; exact (Blk.new _ _ _).alloc _
 have hSB : Blk w1 (g3 + 1) 85 #[.int .i64 st.1, .string st.2] := by rw [← hw1, ← hg3]; exact Blk.new_ (by simp)
 have hg4 : w.heap.size + 1 = g3 + 1 := by omega
 have HW1 := Lib.hid hw1
 have HG3 := Lib.hid hg3
 have HB1 := Lib.hid hb1
 have HBK := Lib.hid hBK
 clear hw1 hg3 hb1 hBK hs hok hrs hF hrch hmode hstep hst
 go_enter Tryz.func41, Tryz.ntmps41
 go_upto_region 1 with fail
 rw [HW1.out, HG3.out]
 have hSB2 := (hSB.alloc (.map #[] 0)).alloc (.map #[] 0)
 have s0 := hSB2.cell 0
 have s1 := hSB2.cell 1
 have sl := hSB2.lt
 simp at s0 s1
 clear hSB hSB2 hg4
 have hmm := @run_makeMap Tryz.prog
 have HT2 : Hid (Tab Tryz.prog 85 3 vPair ((w1.alloc (.map #[] 0)).alloc (.map #[] 0)) (w1.heap.size + 1) 0 (fun _ => none)) := by
  have := Tab.made (P := Tryz.prog) (kt := 85) (et := 3) (enc := vPair) (w1.alloc (.map #[] 0))
  rwa [show (w1.alloc (.map #[] 0)).heap.size = w1.heap.size + 1 by simp] at this
 have HP2 : Hid (Plc Tryz.prog 3 ((w1.alloc (.map #[] 0)).alloc (.map #[] 0)) w1.heap.size 0 0 inp.size (fun _ => none)) :=
  (Plc.made hinp).keep (Below.heap_alloc _ _ _ (by simp))
 have HB2 : Hid (Below w.heap.size w ((w1.alloc (.map #[] 0)).alloc (.map #[] 0))) := nw _ (nw _ HB1.out)
 have HC2 : Hid (CelK w1 ((w1.alloc (.map #[] 0)).alloc (.map #[] 0))) := CelK.of_below (nw _ (nw _ (Below.refl _ _)))
 go_upto_region 2 with (first | (refine tab_ins ktPair _ rfl _ _ _ rfl rfl HT2.out (by decide) st 0 rfl rfl HST.out (by decide) ?_; intro w3 hT3 hgr3 hs3; have HP3 := Lib.hid (HP2.out.keep (hgr3.block _ HP2.out.lt (fun e => by have := Option.some.inj e; omega)))) | (refine plc_ins ptPair _ rfl _ _ _ rfl rfl HP3.out (by decide) 0 (w1.heap.size + 1) rfl rfl (Nat.zero_le _) ?_; intro w4 hP4 hgr4 hs4))
 obtain ⟨bp, hbp⟩ : ∃ b, w1.heap.size = b := ⟨_, rfl⟩
 have hbpw : w.heap.size ≤ bp := by have := HB1.out.size; omega
 have HB4 : Hid (Below w.heap.size w w4) := (HB2.out.grown hgr3 HB2.out.size (fun k hk => by injection hk with hk; omega)).grown hgr4 (Nat.le_trans HB2.out.size hgr3.size) (fun k hk => by injection hk with hk; omega)
 have HC4 : Hid (CelK w1 w4) := (HC2.out.trans (CelK.of_map hgr3 HT2.out.isMap)).trans (CelK.of_map hgr4 HP3.out.isMap)
 have HO4 : Hid (OutI 85 vPair S st (bl inp) bp most inp.size w w1 0 w4) := by
  rw [hbp] at hP4 hT3 hgr4
  exact OutI.start hP4 hT3 hgr4 (by omega) (by omega) hm1 HB4.out HC4.out
 have hg3l := HBK.out.lt
 have HCW : Hid (∀ W, CelK w1 W → W.cell? ⟨g3, 0, none⟩ = some (.int .i64 s.n) ∧ W.cell? ⟨g3, 1, none⟩ = some (.int .u8 s.acc) ∧ W.cell? ⟨g3, 2, none⟩ = some (.slice A s.rs.length c) ∧ W.cell? ⟨g3, 3, none⟩ = some (.func (.func 39) #[] #[]) ∧ W.cell? ⟨g3, 4, none⟩ = some (.func (.func 40) #[] #[]) ∧ W.cell? ⟨g3, 5, none⟩ = some (.int .i64 (most : Int)) ∧ g3 < W.heap.size) := fun W hW => by
  have e1 := hW.blk HBK.out
  exact ⟨by rw [e1.cell]; rfl, by rw [e1.cell]; rfl, by rw [e1.cell]; rfl, by rw [e1.cell]; rfl, by rw [e1.cell]; rfl, by rw [e1.cell]; rfl, e1.lt⟩
 rw [hbp]
 clear hT3 hP4 hgr3 hgr4 hs3 hs4 hbp s0 s1 sl
 have hin0 : (0 : Int) ≤ (inp.size : Int) := by omega
 go_wp2_with fail
 go_loopw [26] (fun iv wr => ∃ at_ : Nat, at_ ≤ inp.size ∧ iv = .int .i64 (at_ : Int) ∧ OutI 85 vPair S st (bl inp) bp most inp.size w w1 at_ wr) (fun iv _ => inp.size - (intOf iv).toNat)
 case atStart => exact ⟨0, by omega, rfl, HO4.out⟩
 case round =>
  obtain ⟨X4, rfl⟩ : ∃ W, W = wr := ⟨wr, rfl⟩
  obtain ⟨at_, hat, rfl, F, n, Ms, hP, hH, hfew, hb, hc⟩ := hrel
  have HP := Lib.hid hP
  have HH := Lib.hid hH
  have HFEW := Lib.hid hfew
  have HBX := Lib.hid hb
  have HCX := Lib.hid hc
  clear hP hH hfew hb hc
  obtain ⟨y0, y1, y2, y3, y4, y5, yl⟩ := HCW.out X4 HCX.out
  obtain ⟨o, ho⟩ : ∃ o, F at_ = o := ⟨_, rfl⟩
  have HOE := Lib.hid ho
  have HTO : Hid (TabO Tryz.prog 85 3 vPair X4 o most (Ms at_)) := by rw [← HOE.out]; exact HP.out.tab at_ (Nat.le_refl _) hat
  have HSUB : Hid (SubR S st (bl inp) at_ (Ms at_)) := fun k d h => arr_rch ((HH.out at_ (Nat.le_refl _) hat k).1 d h).1
  have HOW : Hid (∀ g, o = some g → w.heap.size ≤ g) := fun g hg => (HP.out.own at_ g (Nat.le_refl _) hat (by rw [HOE.out]; exact hg)).1
  have HCALL := Lib.hid (HSETO.out o X4 (Ms at_) at_ HBX.out HOW.out hat HTO.out HSUB.out)
  clear ho
  by_cases hlt : at_ < inp.size
  ·have hltI : (at_ : Int) < (inp.size : Int) := by omega
   have hatI0 : (0 : Int) ≤ (at_ : Int) := by omega
   have hatI : (at_ : Int) ≤ 1000 := by omega
   go_wp2_with (first | (at_lookup; refine plc_lookup ptPair _ rfl _ _ rfl rfl HP.out.plc at_ rfl (Nat.le_refl _) hat ?_; rw [HOE.out]) | (go_at_call 78; go_loud (refine HCALL.out.mono ?_; rintro e X5 hse; rcases hse.parts with ⟨M', rfl, hg5, hT5, hH5⟩ | ⟨rfl, hg5, hno⟩)) | (at_range; refine tabO_range ktPair _ rfl _ rfl (b := o) rfl hT5 ?_; intro X6 cnt6 hR6 hg6 hs6))
   ·go_frame
    have HG5 := Lib.hid hg5
    clear hg5
    have hgm : ∀ b, o = some b → ∃ es clock, X4.heap[b]? = some (.map es clock) := fun b hb => by have h := HTO.out; rw [hb] at h; exact Tab.isMap h
    have HM : Hid (Holds M' (Rch S st (bl inp) at_)) := settled HF.out (HH.out at_ (Nat.le_refl _) hat) hH5
    have HFW : Hid (∀ i, i ≤ at_ → ¬ TooMany most (Rch S st (bl inp) i)) := fun i hi => by
     rcases Nat.lt_or_ge i at_ with h4 | h4
     ·exact HFEW.out i h4
     ·obtain rfl : i = at_ := by omega
      obtain ⟨l, hl, hln⟩ := hT5.keys
      exact fun h => absurd ((keys_tooMany HM.out hl).2 h) (by omega)
    have hb6 := grown_none hg6 X5.heap.size (Nat.le_refl _)
    obtain ⟨r, hr⟩ : ∃ r, X5.heap.size = r := ⟨_, rfl⟩
    rw [hr] at hR6 ⊢
    have hB5 : Below w.heap.size w X5 := HBX.out.grown HG5.out HBX.out.size HOW.out
    have hrw : w.heap.size ≤ r := by have := hB5.size; omega
    have HRN0 : Hid (RnI 85 vPair S st (bl inp) bp most inp.size at_ o r M' w w1 (fun k => (M' k).isSome) cnt6 (fun k => !(M' k).isSome) none X6) :=
     ⟨F, n, Ms, hR6, HOE.out, ((HP.out.later (Nat.le_succ _)).row HOE.out hat rfl HG5.out).below hb6, fun j h1 h2 => holds_iff (HH.out j (by omega) h2) fun _ _ => (acc_start' fun k c h => by simp [h]).symm, hB5.trans (hb6.mono hB5.size), (HCX.out.trans (CelK.of_row HG5.out hgm)).trans (CelK.of_below hb6)⟩
    clear hR6 hg6 hs6 hr hT5 hH5 hgm hb6 hB5 y0 y1 y2 y3 y4 y5 yl
    go_loopw [] (fun wr => ∃ (L : (Int × ByteArray) → Bool) (cnt : Nat), RnI 85 vPair S st (bl inp) bp most inp.size at_ o r M' w w1 L cnt (fun k => !L k) none wr) (fun wr => leftO wr o r)
    case atStart => exact ⟨_, _, HRN0.out⟩
    case round =>
     obtain ⟨X7, rfl⟩ : ∃ W, W = wr := ⟨wr, rfl⟩
     obtain ⟨L, cnt, hrn⟩ := hrel
     have HRN := Lib.hid hrn
     obtain ⟨F7, n7, Ms7, hR7, hF7, hP7, hH7, hb7, hc7⟩ := hrn
     have HR7 := Lib.hid hR7
     have HP7 := Lib.hid hP7
     have HH7 := Lib.hid hH7
     have HB7 := Lib.hid hb7
     have HC7 := Lib.hid hc7
     have HF7 := Lib.hid hF7
     clear hR7 hF7 hP7 hH7 hb7 hc7
     go_wp2_with (first | (at_next; refine nextPair _ rfl _ rfl (b := o) rfl HR7.out (fun hd => ?_) (fun k d X8 cnt8 hk hMk hLk hR8 hlt8 hg8 hs8 hen => have ⟨y0, y1, y2, y3, y4, y5, yl⟩ := HCW.out (X8.alloc (.cells #[.int .i64 k.1, .string k.2] 85)) ((HC7.out.trans (CelK.of_iter hg8 HR7.out.iter)).trans (CelK.of_below (nw _ (Below.refl _ _)))); ?_)) | (at_delete; refine plc_delete ptPair _ rfl _ _ rfl rfl HP7.out.plc rfl hat ?_; intro X9 hP9 hg9 hs9))
     rotate_left
     ·clear y0 y1 y2 y3 y4 y5 yl
      obtain ⟨Xk, hXk⟩ : ∃ W, X8.alloc (.cells #[.int .i64 k.1, .string k.2] 85) = W := ⟨_, rfl⟩
      obtain ⟨g11, hg11⟩ : ∃ g, X7.heap.size = g := ⟨_, rfl⟩
      have hbk : Below X8.heap.size X8 Xk := by rw [← hXk]; exact nw _ (Below.refl _ _)
      have HRN8 := (RnI.next (k := k) (c := d) HRN.out hR8 hg8 hrw).below hbk
      have HRK : Hid (Rch S st (bl inp) at_ k d) := ((HM.out k).1 d hMk).1
      have HKK := Lib.hid hk
      have HMK := Lib.hid hMk
      have hd01 := (HRCH.out at_ k d hat HRK.out).2
      have HCk := Lib.hid HRN8.cel
      have HLT8 : Hid (cnt8 < cnt) := hlt8
      have HKB : Hid (Blk Xk g11 85 #[.int .i64 k.1, .string k.2]) := by show Blk Xk g11 85 #[.int .i64 k.1, .string k.2]; rw [← hXk, ← hg11]; exact Blk.new_ hs8.symm
      have HRN9 := Lib.hid (HRN8.from_ (CelK.refl Xk))
      rw [hXk, hg11]
      clear HRN8 hXk hg11 hbk hR8 hg8 hs8 hen hk hMk hlt8
      go_loopw [47] (fun jv wr => ∃ t : Nat, t ≤ s.rs.length ∧ jv = .int .i64 (t : Int) ∧ RnI 85 vPair S st (bl inp) bp most inp.size at_ o r M' w Xk (fun x => L x && !decide (x = k)) cnt8 (fun x => !L x) (some (k, d, t)) wr) (fun jv _ => s.rs.length - (intOf jv).toNat)
      case atStart => exact ⟨0, by omega, rfl, HRN9.out⟩
      case round =>
       obtain ⟨Y0, rfl⟩ : ∃ W, W = wr := ⟨wr, rfl⟩
       obtain ⟨t, ht, rfl, hrt⟩ := hrel
       have HRT := Lib.hid hrt
       clear hrt
       have HCY : Hid (CelK w1 Y0) := HCk.out.trans HRT.out.cel
       obtain ⟨y0, y1, y2, y3, y4, y5, yl⟩ := HCW.out Y0 HCY.out
       by_cases htl : t < s.rs.length
       ·have htlI : (t : Int) < (s.rs.length : Int) := by omega
        have htI0 : (0 : Int) ≤ (t : Int) := by omega
        obtain ⟨bx, ox, x, rfl, hbxx, hxx, d0, d1, d2, d3, d4⟩ := ((HS.out.below HRT.out.bel).sl).ru htl
        have htm := List.mem_of_getElem? hxx
        have HXX : Hid (S.rs[t]? = some x ∧ x ∈ s.rs) := ⟨by rw [HRS.out]; exact hxx, htm⟩
        have HXS : Hid (x ∈ S.rs) := List.mem_of_getElem? HXX.out.1
        have hru := HOK.out.2.2.2.1 x htm
        have hxco : 0 ≤ x.co ∧ x.co ≤ 1000 := hru.2.2.2
        have hxin : x.inp.size ≤ 4 := hru.2.1.1
        clear hxx htm hru
        go_upto_region 14 with fail
        obtain ⟨Y1, hY1⟩ : ∃ W, Y0.alloc (.cells #[.int .i64 x.fr, .int .i64 x.to, .string x.inp, .string x.out, .int .i64 x.co] 61) = W := ⟨_, rfl⟩
        obtain ⟨g14, hg14⟩ : ∃ g, Y0.heap.size = g := ⟨_, rfl⟩
        have hbY : Below Y0.heap.size Y0 Y1 := by rw [← hY1]; exact nw _ (Below.refl _ _)
        have hXB : Blk Y1 g14 61 #[.int .i64 x.fr, .int .i64 x.to, .string x.inp, .string x.out, .int .i64 x.co] := by rw [← hY1]; exact Blk.new_ hg14.symm
        have HXB := Lib.hid hXB
        have HRT1 := Lib.hid (HRT.out.below hbY)
        rw [hY1, hg14]
        have HVY : Hid (∀ W, CelK Y1 W → (W.cell? ⟨g11, 0, none⟩ = some (.int .i64 k.1) ∧ W.cell? ⟨g11, 1, none⟩ = some (.string k.2) ∧ g11 < W.heap.size) ∧ (W.cell? ⟨g14, 0, none⟩ = some (.int .i64 x.fr) ∧ W.cell? ⟨g14, 1, none⟩ = some (.int .i64 x.to) ∧ W.cell? ⟨g14, 2, none⟩ = some (.string x.inp) ∧ W.cell? ⟨g14, 3, none⟩ = some (.string x.out) ∧ W.cell? ⟨g14, 4, none⟩ = some (.int .i64 x.co) ∧ g14 < W.heap.size) ∧
         W.cell? ⟨g3, 0, none⟩ = some (.int .i64 s.n) ∧ W.cell? ⟨g3, 1, none⟩ = some (.int .u8 s.acc) ∧ W.cell? ⟨g3, 2, none⟩ = some (.slice (some ⟨bx, ox, none⟩) s.rs.length c) ∧ W.cell? ⟨g3, 3, none⟩ = some (.func (.func 39) #[] #[]) ∧ W.cell? ⟨g3, 4, none⟩ = some (.func (.func 40) #[] #[]) ∧ W.cell? ⟨g3, 5, none⟩ = some (.int .i64 (most : Int)) ∧ g3 < W.heap.size) := fun W hW => by
         have e2 := hW.blk HXB.out
         have e1 := hW.blk (HRT1.out.cel.blk HKB.out)
         exact ⟨⟨by rw [e1.cell]; rfl, by rw [e1.cell]; rfl, e1.lt⟩, ⟨by rw [e2.cell]; rfl, by rw [e2.cell]; rfl, by rw [e2.cell]; rfl, by rw [e2.cell]; rfl, by rw [e2.cell]; rfl, e2.lt⟩, HCW.out W ((HCk.out.trans HRT1.out.cel).trans hW)⟩
        clear hY1 hbY hXB y0 y1 y2 y3 y4 y5 yl d0 d1 d2 d3 d4 hbxx hg14
        obtain ⟨⟨k0, k1, kl⟩, ⟨x0, x1, x2, x3, x4, xl⟩, y0, y1, y2, y3, y4, y5, yl⟩ := HVY.out Y1 (CelK.refl _)
        cases hmu : x.mute with
        | true =>
         have HJ : Hid (x.mute = true ∨ x.fr ≠ S.mode k ∨ ¬ bl x.inp <+: (bl inp).drop at_ ∨ S.step k x = none) := .inl hmu
         have h1 : x.inp.toList = [] := by rw [Lib.toList_data]; exact mute_bl.1 hmu
         clear hmu
         refine ordB_below (.quiet 0 (.quiet 1 (.quiet 2 (.quiet 3 (.quiet 4 (.quiet 5 (.quiet 6 (.quiet 7 (.quiet 8 (.only 9 (.quiet 10 (.quiet 11 (.quiet 12 (.quiet 13 (.quiet 14 (.quiet 15 (.quiet 16 (.quiet 17 (.only 18 (.quiet 19 (.quiet 20 .done))))))))))))))))))))) (by kernel_rfl) (by kernel_rfl) (by kernel_rfl) (fun _ _ _ _ _ h => h) ?_
         intro W0 hS0
         iterate 9 ((first | refine ordB_skip rfl rfl ?_ | (refine ordB_take (v := ?_) rfl rfl ?_ ?_; rotate_left 1; (focus (intro W hW; obtain ⟨hcW, hfW⟩ := bcell hW; (go_simp <;> with_reducible rfl))))); simp only [Act.put, zA, zB, zC])
         refine ordB_only (opB_cskip rfl rfl hS0 ?_)
         simp only [Act.put, zA, zB, zC]
         iterate 8 ((first | refine ordB_skip rfl rfl ?_ | (refine ordB_take (v := ?_) rfl rfl ?_ ?_; rotate_left 1; (focus (intro W hW; obtain ⟨hcW, hfW⟩ := bcell hW; (go_simp <;> with_reducible rfl))))); simp only [Act.put, zA, zB, zC])
         refine ordB_only (opB_cskip rfl rfl hS0 ?_)
         simp only [Act.put, zA, zB, zC]
         iterate 2 ((first | refine ordB_skip rfl rfl ?_ | (refine ordB_take (v := ?_) rfl rfl ?_ ?_; rotate_left 1; (focus (intro W hW; obtain ⟨hcW, hfW⟩ := bcell hW; (go_simp <;> with_reducible rfl))))); simp only [Act.put, zA, zB, zC])
         refine ordB_nil ?_
         have hbE := hS0
         clear hS0
         have HLE := Lib.hid (RnI.skip (HRT1.out.below hbE) HXX.out.1 (jump_not HJ.out))
         go_wp2_with fail
         go_roundw
         case rel => exact ⟨t + 1, by omega, by go_num, HLE.out⟩
         case measure => simp [intOf]; omega
        | false =>
         have HMU := Lib.hid hmu
         clear hmu
         have h1 : ¬ x.inp.toList = [] := fun e => by have h := HMU.out; rw [Lib.toList_data] at e; have h3 := mute_bl (r := x).2 e; rw [h] at h3; cases h3
         have h2 : x.inp.toList.isEmpty = false := by simpa using h1
         by_cases hfm : x.fr = S.mode k
         ·have HFM := Lib.hid hfm
          clear hfm
          have HMODX : Hid (∀ W : World, Calls Tryz.prog 39 #[.agg #[.int .i64 k.1, .string k.2]] W fun e w' => e = .returned (.int .i64 x.fr) ∧ Below W.heap.size W w') := fun W => by
           have := HMODE.out W k
           rw [← HFM.out] at this
           exact this
          by_cases hpre : bl x.inp <+: (bl inp).drop at_
          ·have HPRE := Lib.hid hpre
           have HPC : Hid (∀ W : World, Calls Tryz.prog 69 #[.string (inp.extract at_ inp.size), .string x.inp] W fun e w' => e = .returned (.bool true) ∧ W = w') := fun W => by
            have := hasPre_any (inp.extract at_ inp.size) x.inp W
            rw [bl_drop, decide_eq_true HPRE.out] at this
            exact this
           have htz : at_ + x.inp.size ≤ inp.size := by
            have h5 := HPRE.out.length_le
            rw [List.length_drop, bl_len, bl_len] at h5
            omega
           clear hpre
           refine ordB_below (.quiet 0 (.quiet 1 (.quiet 2 (.quiet 3 (.quiet 4 (.quiet 5 (.quiet 6 (.quiet 7 (.quiet 8 (.only 9 (.quiet 10 (.quiet 11 (.quiet 12 (.quiet 13 (.quiet 14 (.quiet 15 (.quiet 16 (.quiet 17 (.only 18 (.quiet 19 (.quiet 20 .done))))))))))))))))))))) (by kernel_rfl) (by kernel_rfl) (by kernel_rfl) (fun _ _ _ _ _ h => h) ?_
           intro W0 hS0
           iterate 9 ((first | refine ordB_skip rfl rfl ?_ | (refine ordB_take (v := ?_) rfl rfl ?_ ?_; rotate_left 1; (focus (intro W hW; obtain ⟨hcW, hfW⟩ := bcell hW; (go_simp <;> with_reducible rfl))))); simp only [Act.put, zA, zB, zC])
           refine ordB_only (opB_call rfl rfl (fun K hK => ?_))
           go_simp
           go_at_call 39
           refine (HMODX.out W0).mono ?_
           rintro e W0_1 ⟨rfl, hxa⟩
           refine hK.out _ _ (hS0.trans (hxa.mono hS0.size)) (fun hS0_1 => ?_)
           iterate 8 ((first | refine ordB_skip rfl rfl ?_ | (refine ordB_take (v := ?_) rfl rfl ?_ ?_; rotate_left 1; (focus (intro W hW; obtain ⟨hcW, hfW⟩ := bcell hW; (go_simp <;> with_reducible rfl))))); simp only [Act.put, zA, zB, zC])
           refine ordB_only (opB_call rfl rfl (fun K hK => ?_))
           go_simp
           go_at_call 69
           refine (HPC.out W0_1).mono ?_
           rintro e w' ⟨rfl, rfl⟩
           refine hK.out _ _ hS0_1 (fun hS0_1_2 => ?_)
           iterate 2 ((first | refine ordB_skip rfl rfl ?_ | (refine ordB_take (v := ?_) rfl rfl ?_ ?_; rotate_left 1; (focus (intro W hW; obtain ⟨hcW, hfW⟩ := bcell hW; (go_simp <;> with_reducible rfl))))); simp only [Act.put, zA, zB, zC])
           refine ordB_nil ?_
           have hbE := hS0_1_2
           clear hS0_1_2
           obtain ⟨Y7, rfl⟩ : ∃ V, V = W0_1 := ⟨_, rfl⟩
           have HRT7 := Lib.hid (HRT1.out.below hbE)
           have HCY7 : Hid (CelK Y1 Y7) := CelK.of_below hbE
           clear hbE
           clear k0 k1 kl x0 x1 x2 x3 x4 xl y0 y1 y2 y3 y4 y5 yl
           obtain ⟨⟨k0, k1, kl⟩, ⟨x0, x1, x2, x3, x4, xl⟩, y0, y1, y2, y3, y4, y5, yl⟩ := HVY.out Y7 HCY7.out
           cases hsy : S.step k x with
           | none =>
            have HSY := Lib.hid hsy
            clear hsy
            have HJ : Hid (x.mute = true ∨ x.fr ≠ S.mode k ∨ ¬ bl x.inp <+: (bl inp).drop at_ ∨ S.step k x = none) := .inr (.inr (.inr HSY.out))
            go_wp2_with (go_at_call 40; go_loud (refine (HSTEP.out _ HRT7.out.bel k x HXX.out.2 ⟨at_, d, hat, HRK.out⟩).mono ?_; rintro e Y8 hst; obtain ⟨⟨y, he⟩, hb8⟩ := hst.no HSY.out; have he2 : e = .returned (.tuple #[.agg #[.int .i64 y.1, .string y.2], .bool false]) := he; subst he2; have HB8 := Lib.hid hb8; clear hb8 hst he))
            go_roundw
            case rel => exact ⟨t + 1, by omega, by go_num, (RnI.skip ((HRT7.out.below HB8.out).below (nw _ (Below.refl _ _))) HXX.out.1 (jump_not HJ.out))⟩
            case measure => simp [intOf]; omega
           | some y =>
            have HSY := Lib.hid hsy
            clear hsy
            go_upto_region 16 with (go_at_call 40; go_loud (refine (HSTEP.out _ HRT7.out.bel k x HXX.out.2 ⟨at_, d, hat, HRK.out⟩).mono ?_; rintro e Y8 hst; obtain ⟨he, hb8⟩ := hst.yes HSY.out; have he2 : e = .returned (.tuple #[.agg #[.int .i64 y.1, .string y.2], .bool true]) := he; subst he2; have HB8 := Lib.hid hb8; clear hb8 hst he))
            obtain ⟨Y9, hY9⟩ : ∃ W, Y8.alloc (.cells #[.int .i64 y.1, .string y.2] 85) = W := ⟨_, rfl⟩
            obtain ⟨g15, hg15⟩ : ∃ g, Y8.heap.size = g := ⟨_, rfl⟩
            have hb9 : Below Y8.heap.size Y8 Y9 := by rw [← hY9]; exact nw _ (Below.refl _ _)
            have hYB : Blk Y9 g15 85 #[.int .i64 y.1, .string y.2] := by rw [← hY9, ← hg15]; exact Blk.new _ _ _
            have HYB := Lib.hid hYB
            clear hYB
            have HRT9 := Lib.hid ((HRT7.out.below HB8.out).below hb9)
            have HCY9 : Hid (CelK Y1 Y9) := (HCY7.out.trans (CelK.of_below HB8.out)).trans (CelK.of_below hb9)
            rw [hY9, hg15]
            clear hY9 hg15 hb9
            clear k0 k1 kl x0 x1 x2 x3 x4 xl y0 y1 y2 y3 y4 y5 yl
            obtain ⟨⟨k0, k1, kl⟩, ⟨x0, x1, x2, x3, x4, xl⟩, y0, y1, y2, y3, y4, y5, yl⟩ := HVY.out Y9 HCY9.out
            have z0 := HYB.out.cell 0
            have z1 := HYB.out.cell 1
            have zl := HYB.out.lt
            simp at z0 z1
            obtain ⟨tz, htzE⟩ : ∃ z, at_ + x.inp.size = z := ⟨_, rfl⟩
            have hcast : (at_ : Int) + (x.inp.size : Int) = (tz : Int) := by omega
            have hxs : 0 < x.inp.size := size_pos HMU.out
            have HTZ := Lib.hid htzE
            have htz1 : at_ + 1 ≤ tz := by omega
            have htzI : (tz : Int) ≤ 1000 := by omega
            have htz2 : tz ≤ inp.size := by omega
            have hry : Rch S st (bl inp) tz y (d + x.co) := by rw [← htzE]; exact Rch.step HRK.out HXS.out HFM.out HPRE.out HSY.out
            obtain ⟨hyk, hy0, hy1⟩ := HRCH.out tz y _ htz2 hry
            have HRY := Lib.hid hry
            have HYK := Lib.hid hyk
            have hwr : IntKind.i64.wrap (d + x.co) = d + x.co := by rw [IntKind.wrap_i64]; omega
            have hwf : (Lit.int .i64 (d + x.co)).wf = true := wf_small hy0 hy1
            clear htzE hry hyk htz
            obtain ⟨F9, n9, Ms9, hR9, hF9, hP9, hH9, hb9, hc9⟩ := HRT9.out.two
            have HR9 := Lib.hid hR9
            have HF9 := Lib.hid hF9
            have HP9 := Lib.hid hP9
            have HH9 := Lib.hid hH9
            have HB9 := Lib.hid hb9
            have HC9 := Lib.hid hc9
            have HSUBZ : Hid (SubR S st (bl inp) tz (relaxT (Ms9 tz) y (d + x.co))) := SubR.relax (fun k' d' h => acc_rch (fun k c h => ((HM.out k).1 c h).1) (fun k2 c2 t2 h => by injection h with h; injection h with h1 h2; injection h2 with h2 _; rw [← h1, ← h2]; exact HMK.out) ((HH9.out tz (by omega) htz2 k').1 d' h).1) HRY.out
            clear hR9 hF9 hP9 hH9 hb9 hc9
            cases hfz : F9 tz with
            | none =>
             have HFZ0 := Lib.hid hfz
             clear hfz
             have hmm := @run_makeMap Tryz.prog
             have heq0 := eqnPair
             have HPM : Hid (Plc Tryz.prog 3 (Y9.alloc (.map #[] 0)) bp n9 at_ inp.size F9) := HP9.out.plc.keep (Below.heap_alloc _ _ _ HP9.out.plc.lt)
             go_upto_region 20 with (first | (at_lookup; go_loud (refine plc_lookup ptPair _ rfl _ _ rfl rfl HP9.out.plc tz rfl (by omega) htz2 ?_; rw [HFZ0.out])) | (at_mapUpdate; go_loud (refine plc_put ptPair _ rfl _ _ _ rfl rfl HPM.out (HP9.out.n_lt hinp) tz Y9.heap.size rfl rfl htz2 ?_; intro Y11 hP11 hg11x hs11)))
             have hPT := HP9.out.grow htz1 htz2 (by omega) HFZ0.out HB9.out.size hg11x hP11
             have hRT := grow_range HR9.out hg11x (fun b hb => (HP9.out.own at_ b (Nat.le_refl _) hat (HF9.out.trans hb)).2.1) HP9.out.plc.isMap
             obtain ⟨FZ, hFZ⟩ : ∃ G : Nat → Option Nat, (fun j => if j = tz then some Y9.heap.size else F9 j) = G := ⟨_, rfl⟩
             obtain ⟨gz, hgz⟩ : ∃ g, Y9.heap.size = g := ⟨_, rfl⟩
             have HFZ : Hid (FZ tz = some gz) := by show FZ tz = some gz; rw [← hFZ, ← hgz]; exact if_pos rfl
             have HFZA : Hid (FZ at_ = o) := by show FZ at_ = o; rw [← hFZ]; exact (if_neg (by omega)).trans HF9.out
             rw [hFZ] at hPT
             have hbp9 : ∃ es clock, (Y9.alloc (.map #[] 0)).heap[bp]? = some (.map es clock) := HPM.out.isMap
             have HBZ : Hid (Below w.heap.size w Y11) := ((HB9.out.alloc HB9.out.size _).grown hg11x (by have := HB9.out.size; simp; omega) (fun k hk => by injection hk with hk; omega))
             have HCZ9 : Hid (CelK Y9 Y11) := (CelK.of_below (nw _ (Below.refl _ _))).trans (CelK.of_map hg11x hbp9)
             have HPZ := Lib.hid hPT
             have HRZ := Lib.hid hRT
             clear hPT hRT hP11 hg11x hs11 hFZ hbp9
             try rw [hgz]
             clear hgz
             obtain ⟨YZ, hYZ⟩ : ∃ W, W = Y11 := ⟨_, rfl⟩
             rw [← hYZ] at HBZ HCZ9 HPZ HRZ ⊢
             clear hYZ
             have HCYZ : Hid (CelK Y1 YZ) := HCY9.out.trans HCZ9.out
             have HTZ4 : Hid (Tab Tryz.prog 85 3 vPair YZ gz most (Ms9 tz)) := by
              have h := HPZ.out.tab tz htz1 htz2
              rw [HFZ.out] at h
              exact h
             clear k0 k1 kl x0 x1 x2 x3 x4 xl y0 y1 y2 y3 y4 y5 yl
             obtain ⟨⟨k0, k1, kl⟩, ⟨x0, x1, x2, x3, x4, xl⟩, y0, y1, y2, y3, y4, y5, yl⟩ := HVY.out YZ HCYZ.out
             have hYB := HCZ9.out.blk HYB.out
             clear z0 z1 zl
             have z0 := hYB.cell 0
             have z1 := hYB.cell 1
             have zl := hYB.lt
             simp at z0 z1
             clear hYB
             go_upto_region 21 with (first | (at_lookup; refine plc_lookup ptPair _ rfl _ _ rfl rfl HPZ.out.plc tz rfl (by omega) htz2 ?_; rw [HFZ.out]) | (go_at_call 79; go_loud (refine (relaxPair_any y (d + x.co) gz most (Ms9 tz) _ HTZ4.out (by unfold maxLen; omega) HYK.out hwf).mono ?_; rintro e YE ⟨rfl, hTE, hgE⟩)))
             have HTE := Lib.hid hTE
             have HGE := Lib.hid hgE
             have hzown := HPZ.out.own tz gz (by omega) htz2 HFZ.out
             have HPE : Hid (Plc Tryz.prog 3 YE bp _ at_ inp.size FZ) := HPZ.out.plc.keep (hgE.block bp HPZ.out.plc.lt (fun e => hzown.2.1 (Option.some.inj e).symm))
             have HCYE : Hid (CelK Y1 YE) := HCYZ.out.trans (CelK.of_map hgE HTZ4.out.isMap)
             have hzw : w.heap.size ≤ gz := hzown.1
             clear hTE hgE hzown
             clear k0 k1 kl x0 x1 x2 x3 x4 xl y0 y1 y2 y3 y4 y5 yl z0 z1 zl
             obtain ⟨⟨k0, k1, kl⟩, ⟨x0, x1, x2, x3, x4, xl⟩, y0, y1, y2, y3, y4, y5, yl⟩ := HVY.out YE HCYE.out
             obtain ⟨l3, hl3, hl3n⟩ := HTE.out.keys
             have HL3 := Lib.hid hl3
             clear hl3
             by_cases hbig : most < l3.length
             ·have hbigI : (most : Int) < (l3.length : Int) := by omega
              go_wp2_with (first | (at_lookup; refine plc_lookup ptPair _ rfl _ _ rfl rfl HPE.out tz rfl (by omega) htz2 ?_; rw [HFZ.out]) | (at_len; refine tab_len ktPair _ rfl _ rfl rfl HTE.out ?_; intro l4 hl4; rw [show l4.length = l3.length from Nat.le_antisymm (keysOf_le hl4 HL3.out) (keysOf_le HL3.out hl4)]))
              go_ret2
              exact ⟨none, false, rfl, HBZ.out.grown HGE.out HBZ.out.size (fun k hk => by injection hk with hk; omega), (fun h => by cases h), fun _ => ⟨tz, htz2, tooMany_keys HSUBZ.out HL3.out hbig⟩⟩
             ·have hbigI : ¬ (most : Int) < (l3.length : Int) := by omega
              have HLE : Hid (RnI 85 vPair S st (bl inp) bp most inp.size at_ o r M' w Xk (fun x => L x && !decide (x = k)) cnt8 (fun x => !L x) (some (k, d, t + 1)) YE) := by
               have hT4 := (HTE.out.tight HL3.out).mono (show l3.length ≤ most by omega)
               have htzo := HTZ.out
               have hfz := HFZ.out
               have hz2 := htz2
               subst htzo
               exact RnI.put HRZ.out HFZA.out HPZ.out HH9.out HBZ.out (HC9.out.trans HCZ9.out) HXX.out.1 HMU.out HFM.out HPRE.out HSY.out hz2 hfz HGE.out hT4
              go_wp2_with (first | (at_lookup; refine plc_lookup ptPair _ rfl _ _ rfl rfl HPE.out tz rfl (by omega) htz2 ?_; rw [HFZ.out]) | (at_len; refine tab_len ktPair _ rfl _ rfl rfl HTE.out ?_; intro l4 hl4; rw [show l4.length = l3.length from Nat.le_antisymm (keysOf_le hl4 HL3.out) (keysOf_le HL3.out hl4)]))
              go_roundw
              case rel => exact ⟨t + 1, by omega, by go_num, HLE.out⟩
              case measure => simp [intOf]; omega
            | some gz =>
             have HFZ := Lib.hid hfz
             clear hfz
             have heq0 := eqsPair
             go_upto_region 20 with (first | (at_lookup; refine plc_lookup ptPair _ rfl _ _ rfl rfl HP9.out.plc tz rfl (by omega) htz2 ?_; rw [HFZ.out]))
             have HFZA := HF9
             have HBZ := HB9
             have HCZ9 : Hid (CelK Y9 Y9) := CelK.refl _
             have HPZ := HP9
             have HRZ := HR9
             obtain ⟨YZ, hYZ⟩ : ∃ W, W = Y9 := ⟨_, rfl⟩
             rw [← hYZ] at HBZ HPZ HRZ ⊢
             have HCZ9 : Hid (CelK Y9 YZ) := by rw [hYZ]; exact CelK.refl _
             obtain ⟨FZ, hFZ⟩ : ∃ G, G = F9 := ⟨_, rfl⟩
             rw [← hFZ] at HFZ HFZA HPZ
             clear hYZ hFZ
             have HCYZ : Hid (CelK Y1 YZ) := HCY9.out.trans HCZ9.out
             have HTZ4 : Hid (Tab Tryz.prog 85 3 vPair YZ gz most (Ms9 tz)) := by
              have h := HPZ.out.tab tz htz1 htz2
              rw [HFZ.out] at h
              exact h
             clear k0 k1 kl x0 x1 x2 x3 x4 xl y0 y1 y2 y3 y4 y5 yl
             obtain ⟨⟨k0, k1, kl⟩, ⟨x0, x1, x2, x3, x4, xl⟩, y0, y1, y2, y3, y4, y5, yl⟩ := HVY.out YZ HCYZ.out
             have hYB := HCZ9.out.blk HYB.out
             clear z0 z1 zl
             have z0 := hYB.cell 0
             have z1 := hYB.cell 1
             have zl := hYB.lt
             simp at z0 z1
             clear hYB
             go_upto_region 21 with (first | (at_lookup; refine plc_lookup ptPair _ rfl _ _ rfl rfl HPZ.out.plc tz rfl (by omega) htz2 ?_; rw [HFZ.out]) | (go_at_call 79; go_loud (refine (relaxPair_any y (d + x.co) gz most (Ms9 tz) _ HTZ4.out (by unfold maxLen; omega) HYK.out hwf).mono ?_; rintro e YE ⟨rfl, hTE, hgE⟩)))
             have HTE := Lib.hid hTE
             have HGE := Lib.hid hgE
             have hzown := HPZ.out.own tz gz (by omega) htz2 HFZ.out
             have HPE : Hid (Plc Tryz.prog 3 YE bp _ at_ inp.size FZ) := HPZ.out.plc.keep (hgE.block bp HPZ.out.plc.lt (fun e => hzown.2.1 (Option.some.inj e).symm))
             have HCYE : Hid (CelK Y1 YE) := HCYZ.out.trans (CelK.of_map hgE HTZ4.out.isMap)
             have hzw : w.heap.size ≤ gz := hzown.1
             clear hTE hgE hzown
             clear k0 k1 kl x0 x1 x2 x3 x4 xl y0 y1 y2 y3 y4 y5 yl z0 z1 zl
             obtain ⟨⟨k0, k1, kl⟩, ⟨x0, x1, x2, x3, x4, xl⟩, y0, y1, y2, y3, y4, y5, yl⟩ := HVY.out YE HCYE.out
             obtain ⟨l3, hl3, hl3n⟩ := HTE.out.keys
             have HL3 := Lib.hid hl3
             clear hl3
             by_cases hbig : most < l3.length
             ·have hbigI : (most : Int) < (l3.length : Int) := by omega
              go_wp2_with (first | (at_lookup; refine plc_lookup ptPair _ rfl _ _ rfl rfl HPE.out tz rfl (by omega) htz2 ?_; rw [HFZ.out]) | (at_len; refine tab_len ktPair _ rfl _ rfl rfl HTE.out ?_; intro l4 hl4; rw [show l4.length = l3.length from Nat.le_antisymm (keysOf_le hl4 HL3.out) (keysOf_le HL3.out hl4)]))
              go_ret2
              exact ⟨none, false, rfl, HBZ.out.grown HGE.out HBZ.out.size (fun k hk => by injection hk with hk; omega), (fun h => by cases h), fun _ => ⟨tz, htz2, tooMany_keys HSUBZ.out HL3.out hbig⟩⟩
             ·have hbigI : ¬ (most : Int) < (l3.length : Int) := by omega
              have HLE : Hid (RnI 85 vPair S st (bl inp) bp most inp.size at_ o r M' w Xk (fun x => L x && !decide (x = k)) cnt8 (fun x => !L x) (some (k, d, t + 1)) YE) := by
               have hT4 := (HTE.out.tight HL3.out).mono (show l3.length ≤ most by omega)
               have htzo := HTZ.out
               have hfz := HFZ.out
               have hz2 := htz2
               subst htzo
               exact RnI.put HRZ.out HFZA.out HPZ.out HH9.out HBZ.out (HC9.out.trans HCZ9.out) HXX.out.1 HMU.out HFM.out HPRE.out HSY.out hz2 hfz HGE.out hT4
              go_wp2_with (first | (at_lookup; refine plc_lookup ptPair _ rfl _ _ rfl rfl HPE.out tz rfl (by omega) htz2 ?_; rw [HFZ.out]) | (at_len; refine tab_len ktPair _ rfl _ rfl rfl HTE.out ?_; intro l4 hl4; rw [show l4.length = l3.length from Nat.le_antisymm (keysOf_le hl4 HL3.out) (keysOf_le HL3.out hl4)]))
              go_roundw
              case rel => exact ⟨t + 1, by omega, by go_num, HLE.out⟩
              case measure => simp [intOf]; omega
          ·have HJ : Hid (x.mute = true ∨ x.fr ≠ S.mode k ∨ ¬ bl x.inp <+: (bl inp).drop at_ ∨ S.step k x = none) := .inr (.inr (.inl hpre))
           have HPC : Hid (∀ W : World, Calls Tryz.prog 69 #[.string (inp.extract at_ inp.size), .string x.inp] W fun e w' => e = .returned (.bool false) ∧ W = w') := fun W => by
            have := hasPre_any (inp.extract at_ inp.size) x.inp W
            rw [bl_drop, decide_eq_false hpre] at this
            exact this
           clear hpre
           refine ordB_below (.quiet 0 (.quiet 1 (.quiet 2 (.quiet 3 (.quiet 4 (.quiet 5 (.quiet 6 (.quiet 7 (.quiet 8 (.only 9 (.quiet 10 (.quiet 11 (.quiet 12 (.quiet 13 (.quiet 14 (.quiet 15 (.quiet 16 (.quiet 17 (.only 18 (.quiet 19 (.quiet 20 .done))))))))))))))))))))) (by kernel_rfl) (by kernel_rfl) (by kernel_rfl) (fun _ _ _ _ _ h => h) ?_
           intro W0 hS0
           iterate 9 ((first | refine ordB_skip rfl rfl ?_ | (refine ordB_take (v := ?_) rfl rfl ?_ ?_; rotate_left 1; (focus (intro W hW; obtain ⟨hcW, hfW⟩ := bcell hW; (go_simp <;> with_reducible rfl))))); simp only [Act.put, zA, zB, zC])
           refine ordB_only (opB_call rfl rfl (fun K hK => ?_))
           go_simp
           go_at_call 39
           refine (HMODX.out W0).mono ?_
           rintro e W0_1 ⟨rfl, hxa⟩
           refine hK.out _ _ (hS0.trans (hxa.mono hS0.size)) (fun hS0_1 => ?_)
           iterate 8 ((first | refine ordB_skip rfl rfl ?_ | (refine ordB_take (v := ?_) rfl rfl ?_ ?_; rotate_left 1; (focus (intro W hW; obtain ⟨hcW, hfW⟩ := bcell hW; (go_simp <;> with_reducible rfl))))); simp only [Act.put, zA, zB, zC])
           refine ordB_only (opB_call rfl rfl (fun K hK => ?_))
           go_simp
           go_at_call 69
           refine (HPC.out W0_1).mono ?_
           rintro e w' ⟨rfl, rfl⟩
           refine hK.out _ _ hS0_1 (fun hS0_1_2 => ?_)
           iterate 2 ((first | refine ordB_skip rfl rfl ?_ | (refine ordB_take (v := ?_) rfl rfl ?_ ?_; rotate_left 1; (focus (intro W hW; obtain ⟨hcW, hfW⟩ := bcell hW; (go_simp <;> with_reducible rfl))))); simp only [Act.put, zA, zB, zC])
           refine ordB_nil ?_
           have hbE := hS0_1_2
           clear hS0_1_2
           have HLE := Lib.hid (RnI.skip (HRT1.out.below hbE) HXX.out.1 (jump_not HJ.out))
           go_wp2_with fail
           go_roundw
           case rel => exact ⟨t + 1, by omega, by go_num, HLE.out⟩
           case measure => simp [intOf]; omega
         ·have HJ : Hid (x.mute = true ∨ x.fr ≠ S.mode k ∨ ¬ bl x.inp <+: (bl inp).drop at_ ∨ S.step k x = none) := .inr (.inl hfm)
          have hq1 : (x.fr == S.mode k) = false := by simpa using hfm
          have hq2 : decide (x.fr = S.mode k) = false := by simpa using hfm
          have hq3 : (x.fr != S.mode k) = true := by simpa using hfm
          refine ordB_below (.quiet 0 (.quiet 1 (.quiet 2 (.quiet 3 (.quiet 4 (.quiet 5 (.quiet 6 (.quiet 7 (.quiet 8 (.only 9 (.quiet 10 (.quiet 11 (.quiet 12 (.quiet 13 (.quiet 14 (.quiet 15 (.quiet 16 (.quiet 17 (.only 18 (.quiet 19 (.quiet 20 .done))))))))))))))))))))) (by kernel_rfl) (by kernel_rfl) (by kernel_rfl) (fun _ _ _ _ _ h => h) ?_
          intro W0 hS0
          iterate 9 ((first | refine ordB_skip rfl rfl ?_ | (refine ordB_take (v := ?_) rfl rfl ?_ ?_; rotate_left 1; (focus (intro W hW; obtain ⟨hcW, hfW⟩ := bcell hW; (go_simp <;> with_reducible rfl))))); simp only [Act.put, zA, zB, zC])
          refine ordB_only (opB_call rfl rfl (fun K hK => ?_))
          go_simp
          go_at_call 39
          refine (HMODE.out W0 k).mono ?_
          rintro e W0_1 ⟨rfl, hxa⟩
          refine hK.out _ _ (hS0.trans (hxa.mono hS0.size)) (fun hS0_1 => ?_)
          iterate 8 ((first | refine ordB_skip rfl rfl ?_ | (refine ordB_take (v := ?_) rfl rfl ?_ ?_; rotate_left 1; (focus (intro W hW; obtain ⟨hcW, hfW⟩ := bcell hW; (go_simp <;> with_reducible rfl))))); simp only [Act.put, zA, zB, zC])
          refine ordB_only (opB_cskip rfl rfl hS0_1 ?_)
          simp only [Act.put, zA, zB, zC]
          iterate 2 ((first | refine ordB_skip rfl rfl ?_ | (refine ordB_take (v := ?_) rfl rfl ?_ ?_; rotate_left 1; (focus (intro W hW; obtain ⟨hcW, hfW⟩ := bcell hW; (go_simp <;> with_reducible rfl))))); simp only [Act.put, zA, zB, zC])
          refine ordB_nil ?_
          have hbE := hS0_1
          clear hS0_1
          have HLE := Lib.hid (RnI.skip (HRT1.out.below hbE) HXX.out.1 (jump_not HJ.out))
          go_wp2_with fail
          go_roundw
          case rel => exact ⟨t + 1, by omega, by go_num, HLE.out⟩
          case measure => simp [intOf]; omega
       ·obtain rfl : t = s.rs.length := by omega
        have htlI : ¬ ((s.rs.length : Nat) : Int) < (s.rs.length : Int) := by omega
        have HOV := Lib.hid ((RnI.over HRT.out HMK.out (by rw [HRS.out]; exact Nat.le_refl _)).from_ HCY.out)
        have HLEFT : Hid (leftO Y0 o r < leftO X7 o r) := by
         obtain ⟨F9, n9, Ms9, hR9, _⟩ := HOV.out.two
         show leftO Y0 o r < leftO X7 o r
         rw [hR9.left_eq, HR7.out.left_eq]
         exact HLT8.out
        go_wp2_with fail
        go_roundw
        case rel => exact ⟨_, _, HOV.out⟩
        case measure => exact HLEFT.out
     ·refine ⟨⟨at_ + 1, by omega, by go_num, RnI.left_ HP7.out HH7.out HB7.out HC7.out (fun k d h => ?_) HM.out HFW.out hg9 hP9 hbpw⟩, by simp [intOf]; omega⟩
      have := hd k (TabO.ok HR7.out.tab (by rw [h]; simp))
      simp [this]
   ·go_ret2
    refine ⟨none, false, rfl, ?_, (fun h => by cases h), fun _ => ⟨at_, hat, hno⟩⟩
    exact HBX.out.grown hg5 HBX.out.size HOW.out
  ·obtain rfl : at_ = inp.size := by omega
   have hltI : ¬ ((inp.size : Nat) : Int) < (inp.size : Int) := by omega
   go_wp2_with (first | (at_lookup; refine plc_lookup ptPair _ rfl _ _ rfl rfl HP.out.plc inp.size rfl (Nat.le_refl _) hat ?_; rw [HOE.out]) | (go_at_call 78; go_loud (refine HCALL.out.mono ?_; rintro e X5 ⟨bo, M', rfl, hg5, hyes, hno⟩)))
   go_ret2
   refine ⟨o, bo, rfl, HBX.out.grown hg5 HBX.out.size HOW.out, fun hbo => ?_, fun hbo => ⟨inp.size, Nat.le_refl _, hno hbo⟩⟩
   obtain ⟨h1, h2⟩ := hyes hbo
   have h3 := settled HF.out (HH.out inp.size (Nat.le_refl _) (Nat.le_refl _)) h2
   refine ⟨M', h1, HOW.out, h3, fun i hi => ?_⟩
   rcases Nat.lt_or_ge i inp.size with h4 | h4
   ·exact HFEW.out i h4
   ·obtain rfl : i = inp.size := by omega
    obtain ⟨l, hl, hln⟩ := h1.keys
    exact fun h => absurd ((keys_tooMany h3 hl).2 h) (by omega)
end Go.Proofs.YtfpnhgahkjglgaaGreat
