/-
  The walks of layer 05: a place is settled.
-/
import Derived.Test.YtfpnhgahkjglgaaGreatF10
import Derived.Test.YtfpnhgahkjglgaaGreatF06
set_option maxRecDepth 100000
namespace Go.Proofs.YtfpnhgahkjglgaaGreat
open Go Go.RowKit Go.Maps
theorem nextSpot (w : World) {ops : Array Oper} {rest : List Oper} {o : Oper} {a : Act} {Q : Exit → Act → World → Prop} (hg : o.guard = none) (it : Operand) (hop : o.op = Op.next it false) {b : Option Nat} {r n cnt : Nat} {M : (Int × Int) → Option Int} {L : (Int × Int) → Bool} (hit : a.eval it = .pointer (some ⟨r, 0, none⟩)) (h : RTabO Tryz.prog 139 3 vSpot w b r n M L cnt)
 (hDone : (∀ k, KOk Tryz.prog 139 vSpot k → L k = false) → wpList Tryz.prog ops Q rest (a.put o.dst (.tuple #[.bool false])) w)
 (hMore : ∀ (k : (Int × Int)) (c : Int) (w' : World) (cnt' : Nat), KOk Tryz.prog 139 vSpot k → M k = some c → L k = true → RTabO Tryz.prog 139 3 vSpot w' b r n M (fun x => L x && !decide (x = k)) cnt' → cnt' < cnt → w.grownBy w' (some r) → w'.heap.size = w.heap.size →
  (Instr.entry (.pointer (some ⟨r, 0, none⟩))).run Tryz.prog w' = .ok (.tuple #[.agg #[.int .i64 k.1, .int .i64 k.2], .int .i64 c]) w' → wpList Tryz.prog ops Q rest (a.put o.dst (.tuple #[.bool true, .agg #[.int .i64 k.1, .int .i64 k.2], .int .i64 c])) w') : wpList Tryz.prog ops Q (o :: rest) a w :=
 tabO_next ktSpot w hg it hop hit h hDone hMore
theorem infoSpot : (Tryz.prog.info? 139).map (fun i => (i.zero, i.size, i.bytes)) = some (some (.agg #[.int .i64 0, .int .i64 0]), 2, 16) := by kernel_rfl
set_option maxHeartbeats 8000000 in
theorem settleSpot_any (S : Sys (Int × Int)) (st : (Int × Int)) (inp : List UInt8) (pl : Nat) (s : Sc) (A : Option Addr) (c most gO : Nat) (w0 w : World) (b n : Nat) (M : (Int × Int) → Option Int)
 (hb0 : Below w0.heap.size w0 w) (hbb : w0.heap.size ≤ b) (hs : ScIn w0 s A c) (hok : ScOK s) (hrs : S.rs = s.rs) (hF : Flat S st inp) (hT : Tab Tryz.prog 139 3 vSpot w b n M) (hn : n ≤ most) (hmost : most ≤ 10000) (hM : SubR S st inp pl M)
 (hrch : ∀ (k : (Int × Int)) (d : Int), Rch S st inp pl k d → KOk Tryz.prog 139 vSpot k ∧ 0 ≤ d ∧ d ≤ 1000000)
 (hmode : ∀ (W : World) (k : (Int × Int)), Calls Tryz.prog 67 #[.agg #[.int .i64 k.1, .int .i64 k.2]] W fun e w' => e = .returned (.int .i64 (S.mode k)) ∧ Below W.heap.size W w')
 (hstep : ∀ (W : World), Below w0.heap.size w0 W → ∀ (k : (Int × Int)) (x : Ru), x ∈ s.rs → (∃ d, Rch S st inp pl k d) → Calls Tryz.prog 68 #[.agg #[.int .i64 k.1, .int .i64 k.2], .agg #[.int .i64 x.fr, .int .i64 x.to, .string x.inp, .string x.out, .int .i64 x.co], .pointer (some ⟨gO, 0, none⟩)] W (IsStep vSpot S k x W)) :
 Calls Tryz.prog 99 #[.agg #[.int .i64 s.n, .int .u8 s.acc, .slice A s.rs.length c, .func (.func 67) #[] #[], .func (.func 68) #[] #[.pointer (some ⟨gO, 0, none⟩)], .int .i64 (most : Int)], .map (some b)] w (IsSettle 139 vSpot S st inp pl most (some b) M w) := by
 obtain ⟨i0, hinf, hz0, hz1, hz2⟩ := info_parts infoSpot
 have hT0 : Tab Tryz.prog 139 3 vSpot w b most M := hT.mono hn
 have hlt := hT.lt
 obtain ⟨ls, hls, hlsn⟩ := hT0.keys
 obtain ⟨w1, hw1⟩ : ∃ w1, w.alloc (.cells #[.int .i64 s.n, .int .u8 s.acc, .slice A s.rs.length c, .func (.func 67) #[] #[], .func (.func 68) #[] #[.pointer (some ⟨gO, 0, none⟩)], .int .i64 (most : Int)] 144) = w1 := ⟨_, rfl⟩
 have hb1 : Below w.heap.size w w1 := by rw [← hw1]; exact nw _ (Below.refl _ _)
 have hB : Blk w1 w.heap.size 144 #[.int .i64 s.n, .int .u8 s.acc, .slice A s.rs.length c, .func (.func 67) #[] #[], .func (.func 68) #[] #[.pointer (some ⟨gO, 0, none⟩)], .int .i64 (most : Int)] := by rw [← hw1]; exact Blk.new _ _ _
 have hT1 : Tab Tryz.prog 139 3 vSpot w1 b most M := hT0.keep (hb1.block b hlt)
 have hs1 : w1.heap.size = w.heap.size + 1 := by rw [← hw1]; simp
 obtain ⟨g1, hg1⟩ : ∃ g, w.heap.size = g := ⟨_, rfl⟩
 obtain ⟨g2, hg2⟩ : ∃ g, w1.heap.size = g := ⟨_, rfl⟩
 rw [hg1] at hB
 have hg1b : b < g1 := by omega
 have hg12 : g1 < g2 := by omega
 have HG1 := Lib.hid hg1
 have HG2 := Lib.hid hg2
 have HW1 := Lib.hid hw1
 have HB1 := Lib.hid hb1
 have HB0 := Lib.hid hb0
 have HT1 := Lib.hid hT1
 have HRCH := Lib.hid hrch
 have HMODE := Lib.hid hmode
 have HSTEP := Lib.hid hstep
 have HS := Lib.hid hs
 have HOK := Lib.hid hok
 have HF := Lib.hid hF
 have HM := Lib.hid hM
 have HBK := Lib.hid hB
 have HRS := Lib.hid hrs
 have hl := hs.len
 have hl64 := hok.2.1
 clear hw1 hg1 hg2 hs1 hb1 hT hT0 hT1 hrch hmode hstep hs hok hF hM hB hrs
 go_enter Tryz.func99, Tryz.ntmps99
 go_upto_region 1 with fail
 rw [HW1.out, HG1.out]
 go_wp2_with (first | (at_len; refine tab_len ktSpot _ rfl _ rfl rfl HT1.out ?_; intro l1 hl1; have hl1n : l1.length ≤ 10000 := (by have := keysOf_le hl1 hls; omega)) | (at_make; refine wpList_make_own _ rfl _ _ 199 rfl g2 139 i0 _ 2 Tryz.underlying199 hinf hz0 hz1 .i64 .i64 _ l1.length rfl rfl rfl (by rw [hz2]; omega) (by unfold maxLen; omega) (Nat.le_of_eq HG2.out.symm) ?_; intro w2 hown2 hgr2; rw [HG2.out] at hown2; rw [HG2.out]; have HT2 := Lib.hid (hT2_of HT1.out hgr2); have HGR2 := Lib.hid hgr2; clear hgr2; have HOWN2 := Lib.hid hown2; clear hown2) | (at_range; refine tab_range ktSpot _ rfl _ rfl rfl HT2.out ?_; intro w3 cnt3 hR3 hg3 hs3; have HR3 := Lib.hid hR3; have HG3 := Lib.hid hg3; clear hR3 hg3))
 obtain ⟨r, hr⟩ : ∃ r, w2.heap.size = r := ⟨_, rfl⟩
 rw [hr] at HR3 ⊢
 have HRG : Hid (g2 ≤ r) := by have := HGR2.out.size; have := HG2.out; show g2 ≤ r; omega
 have HB3 : Hid (Below g2 w1 w3) := (grown_none HGR2.out g2 (Nat.le_of_eq HG2.out.symm)).trans (grown_none HG3.out g2 (by have := HRG.out; omega))
 have HOWN3 : Hid (w3.ownsRow g2 139 2 (.slice (some ⟨g2, 0, none⟩) 0 l1.length) 0 []) := HOWN2.out.kept HG3.out (.inr (fun e => by cases e))
 clear hr hs3
 go_frame
 go_loopw [5] (fun v wr => RgI 139 3 2 vSpot cSpot M b r most g2 w1 v wr) (fun _ wr => wr.rangeLeft b r)
 case atStart => exact ⟨[], _, cnt3, List.Pairwise.nil, fun k => by simp, HOWN3.out, HR3.out, HB3.out⟩
 case round =>
  obtain ⟨wR, rfl⟩ : ∃ W, W = wr := ⟨wr, rfl⟩
  obtain ⟨ks, Lf, cnt, hnd, hmem, hown, hR, hbr⟩ := hrel
  have HR := Lib.hid hR
  have HOWN := Lib.hid hown
  have HBR := Lib.hid hbr
  have HMEM := Lib.hid hmem
  have hksl : ks.length ≤ 10000 := by
   have := nodup_le hnd fun k hk => (hl1.2 k).2 ((HMEM.out k).1 hk).1
   omega
  clear hown hR hbr hmem
  have HSZ : Hid (g2 ≤ wR.heap.size) := by have := HBR.out.size; have := HG2.out; show g2 ≤ wR.heap.size; omega
  go_wp2_with (first | (at_next; refine nextSpot _ rfl _ rfl (b := some b) rfl HR.out (fun hd => ?_) (fun k d w4 cnt4 hk hMk hLk hR4 hlt4 hg4 hs4 hen => ?_)) | (at_builtin; go_loud (refine wpList_app1 rfl _ _ 199 rfl g2 139 i0 _ 2 16 Tryz.underlying199 hinf hz0 hz1 hz2 rfl (by decide) _ ks.length (ks.flatMap cSpot) rfl (w4.alloc (.cells #[.int .i64 k.1, .int .i64 k.2] 139)) [.int .i64 k.1, .int .i64 k.2] rfl ((own_iter HR.out hg4 HOWN.out).alloc _) _ rfl (by simp [hs4]) rfl (by simp [Value.oneCell']) (by omega) (by decide) (by have := HSZ.out; simp; omega) ?_; intro v5 w5 hown5 hb5 ha5)))
  rotate_left
  ·go_roundw
   case rel => exact (RgI.round hnd HMEM.out HOWN.out HR.out HBR.out HRG.out (Nat.le_of_eq HG2.out.symm) hMk hLk hR4 hg4 (nw _ (Below.refl _ _)) hown5 hb5 ha5).1
   case measure =>
    rw [RTab.left_eq (RgI.round hnd HMEM.out HOWN.out HR.out HBR.out HRG.out (Nat.le_of_eq HG2.out.symm) hMk hLk hR4 hg4 (nw _ (Below.refl _ _)) hown5 hb5 ha5).2, HR.out.left_eq]
    exact hlt4
  have HKS : Hid (KeysOf M ks) := ⟨hnd, fun k => ⟨fun h => ((HMEM.out k).1 h).1, fun h => (HMEM.out k).2 ⟨h, hd k (TabO.ok (o := some b) (RTab.tab HR.out) h)⟩⟩⟩
  obtain ⟨At, ct, rfl, hct, hctm, hslr⟩ := own_slr (R := RL cSpot) HOWN.out (fun _ => rfl) (fun _ => rfl) rfl
  clear hnd hd
  obtain ⟨B1, hB1⟩ : ∃ B, wR.heap.size = B := ⟨_, rfl⟩
  have HB1e := Lib.hid hB1
  have hg2B1 : g2 ≤ B1 := by have := HSZ.out; omega
  have HPH0 : Hid (PhI 139 3 2 vSpot cSpot S M ks b most B1 wR (.slice At ks.length ct) wR) := ⟨ks, At, ct, M, rfl, hct, hctm, hslr, RTab.tab HR.out, BelB.refl _ _ _, .inl ⟨rfl, rfl, fun a ha => by rw [← hB1]; exact (own_base_le HOWN.out a ha).2⟩⟩
  have HBKR : Hid (Blk wR g1 144 #[.int .i64 s.n, .int .u8 s.acc, .slice A s.rs.length c, .func (.func 67) #[] #[], .func (.func 68) #[] #[.pointer (some ⟨gO, 0, none⟩)], .int .i64 (most : Int)]) := HBK.out.below HBR.out hg12
  have HMAPR : Hid (∃ es clock, wR.heap[b]? = some (.map es clock)) := (RTab.tab HR.out).isMap
  clear hB1 hslr
  go_loopw [5] (fun v wr => PhI 139 3 2 vSpot cSpot S M ks b most B1 wR v wr) (fun v _ => measS B1 v)
  case atStart => exact HPH0.out
  case round =>
   obtain ⟨X2, rfl⟩ : ∃ W, W = wr := ⟨wr, rfl⟩
   obtain ⟨tl, Ax, cx, Mx, rfl, hcx, hcxm, hsx, hTx, hbx, hph⟩ := hrel
   have HSX := Lib.hid hsx
   have HTX := Lib.hid hTx
   have HBX := Lib.hid hbx
   have HPH := Lib.hid hph
   have HMX : Hid (∃ es clock, X2.heap[b]? = some (.map es clock)) := hTx.isMap
   have HBK2 : Hid (Blk X2 g1 144 #[.int .i64 s.n, .int .u8 s.acc, .slice A s.rs.length c, .func (.func 67) #[] #[], .func (.func 68) #[] #[.pointer (some ⟨gO, 0, none⟩)], .int .i64 (most : Int)]) := HBX.out.blk HBKR.out (by omega) (by omega)
   obtain ⟨B2, hB2⟩ : ∃ B, X2.heap.size = B := ⟨_, rfl⟩
   have HB2e := Lib.hid hB2
   have hB12 : B1 ≤ B2 := by have := HBX.out.size; have := HB1e.out; omega
   have HCW : Hid (∀ W, BelB b B2 X2 W → W.cell? ⟨g1, 2, none⟩ = some (.slice A s.rs.length c) ∧ W.cell? ⟨g1, 3, none⟩ = some (.func (.func 67) #[] #[]) ∧ W.cell? ⟨g1, 4, none⟩ = some (.func (.func 68) #[] #[.pointer (some ⟨gO, 0, none⟩)]) ∧ W.cell? ⟨g1, 5, none⟩ = some (.int .i64 (most : Int)) ∧ g1 < W.heap.size) := fun W hW => by
    have e1 := hW.blk HBK2.out (by omega) (by omega)
    exact ⟨by rw [e1.cell]; rfl, by rw [e1.cell]; rfl, by rw [e1.cell]; rfl, by rw [e1.cell]; rfl, e1.lt⟩
   clear hsx hTx hbx hph hB2
   obtain ⟨y2, y3, y4, y5, yl⟩ := HCW.out X2 (BelB.refl _ _ _)
   by_cases htl : 0 < tl.length
   ·have htli : (0 : Int) < (tl.length : Int) := by omega
    go_wp2_with fail
    have HRK : Hid (RoundOK S st inp pl tl Mx) := PhI.ok HF.out HM.out HKS.out hksl (by rw [HRS.out]; exact hl64) HPH.out
    have HLP0 : Hid (LpI 139 3 2 vSpot cSpot b most B2 X2 (setL S (Mx, []) (tl.take 0)) (.slice none 0 0) X2) := ⟨own_nil _ _ _ _, HTX.out, BelB.refl _ _ _⟩
    clear y2 y3 y4 y5 yl
    go_loopw [7, 32] (fun vn iv wr => ∃ i : Nat, i ≤ tl.length ∧ iv = .int .i64 (i : Int) ∧ LpI 139 3 2 vSpot cSpot b most B2 X2 (setL S (Mx, []) (tl.take i)) vn wr) (fun _ iv _ => tl.length - (intOf iv).toNat)
    case atStart => exact ⟨0, by omega, rfl, HLP0.out⟩
    case round =>
     obtain ⟨X3, rfl⟩ : ∃ W, W = wr := ⟨wr, rfl⟩
     obtain ⟨i, hi, rfl, hlp⟩ := hrel
     have HLP := Lib.hid hlp
     clear hlp
     have HB3 : Hid (BelB b B2 X2 X3) := HLP.out.2.2
     by_cases hil : i < tl.length
     ·have hilI : (i : Int) < (tl.length : Int) := by omega
      have hiI0 : (0 : Int) ≤ (i : Int) := by omega
      have hib : (i : Int) ≤ 9223372036854775806 := by have h := Nat.le_trans hcx hcxm; unfold maxLen at h; omega
      have HSX3 : Hid (SlR 2 (RL cSpot) X3 Ax tl) := HSX.out.belB (fun _ _ _ _ h => h) (by decide) HMX.out (by rw [HB2e.out]; exact HB3.out)
      obtain ⟨bt, off, k, rfl, hbt, hk, e0, e1⟩ := HSX3.out.spots hil
      have HK := Lib.hid hk
      clear hk
      obtain ⟨y2, y3, y4, y5, yl⟩ := HCW.out X3 HB3.out
      go_upto_region 11 with fail
      obtain ⟨X4, hX4⟩ : ∃ W, X3.alloc (.cells #[.int .i64 k.1, .int .i64 k.2] 139) = W := ⟨_, rfl⟩
      obtain ⟨g9, hg9⟩ : ∃ g, X3.heap.size = g := ⟨_, rfl⟩
      have hb4 : Below X3.heap.size X3 X4 := by rw [← hX4]; exact nw _ (Below.refl _ _)
      have HB4 : Hid (BelB b B2 X2 X4) := HB3.out.trans (BelB.of_below (hb4.mono (by have := HB3.out.size; have := HB2e.out; omega)))
      have HLQ0 : Hid (LqI 139 3 2 vSpot cSpot b most B2 g9 k X2 (setL S (Mx, []) (tl.take i)) u7 X4) := by
       refine ⟨⟨own_below HLP.out.1 hb4, HLP.out.2.1.keep (hb4.block b HLP.out.2.1.lt), HB4.out⟩, ?_, ?_⟩
       ·rw [← hX4, ← hg9]; exact Blk.new _ _ _
       ·exact own_lt HLP.out.1 (Nat.le_of_eq hg9)
      have hg9b : g9 ≠ b := by have := HLP.out.2.1.lt; omega
      rw [hX4, hg9]
      obtain ⟨y2, y3, y4, y5, yl⟩ := HCW.out X4 HB4.out
      clear hX4 hb4 hg9 hbt e0 e1
      go_wp2_with fail
      clear y2 y3 y4 y5 yl
      obtain ⟨q0, hq0⟩ : ∃ q, setL S (Mx, []) (tl.take i) = q := ⟨_, rfl⟩
      have HQ0 := Lib.hid hq0
      rw [hq0] at HLQ0
      clear hq0
      go_loopw [7, 40] (fun vn jv wr => ∃ j : Nat, j ≤ s.rs.length ∧ jv = .int .i64 (j : Int) ∧ LqI 139 3 2 vSpot cSpot b most B2 g9 k X2 ((S.rs.take j).foldl (setR S k) q0) vn wr) (fun _ jv _ => s.rs.length - (intOf jv).toNat)
      case atStart => exact ⟨0, by omega, rfl, HLQ0.out⟩
      case round =>
       obtain ⟨X5, rfl⟩ : ∃ W, W = wr := ⟨wr, rfl⟩
       obtain ⟨j, hj, rfl, hlq⟩ := hrel
       have HLQ := Lib.hid hlq
       clear hlq
       have HB5 : Hid (BelB b B2 X2 X5) := HLQ.out.1.2.2
       obtain ⟨y2, y3, y4, y5, yl⟩ := HCW.out X5 HB5.out
       by_cases hjl : j < s.rs.length
       ·have hjlI : (j : Int) < (s.rs.length : Int) := by omega
        have hjI0 : (0 : Int) ≤ (j : Int) := by omega
        have HB05 : Hid (Below w0.heap.size w0 X5) := by
         have e0 := HB0.out.size; have e1 := HG1.out; have e2 := HG2.out; have e3 := HB2e.out; have e4 := HB1e.out; have e5 := HSZ.out
         exact ((HB0.out.trans (HB1.out.mono e0)).trans (HBR.out.mono (by omega))).trans ((HBX.out.below (by omega) hbb).trans (HB5.out.below (by omega) hbb))
        obtain ⟨bx, ox, x, rfl, hbxx, hxx, d0, d1, d2, d3, d4⟩ := ((HS.out.below HB05.out).sl).ru hjl
        have htm := List.mem_of_getElem? hxx
        have HXX : Hid (S.rs[j]? = some x ∧ x ∈ s.rs) := ⟨by rw [HRS.out]; exact hxx, htm⟩
        have HXS : Hid (x ∈ S.rs) := List.mem_of_getElem? HXX.out.1
        have hru := HOK.out.2.2.2.1 x htm
        have hxco : 0 ≤ x.co ∧ x.co ≤ 1000 := hru.2.2.2
        clear hxx htm hru
        go_upto_region 14 with fail
        obtain ⟨X6, hX6⟩ : ∃ W, X5.alloc (.cells #[.int .i64 x.fr, .int .i64 x.to, .string x.inp, .string x.out, .int .i64 x.co] 61) = W := ⟨_, rfl⟩
        obtain ⟨g11, hg11⟩ : ∃ g, X5.heap.size = g := ⟨_, rfl⟩
        have hb6 : Below X5.heap.size X5 X6 := by rw [← hX6]; exact nw _ (Below.refl _ _)
        have HX6S : Hid (X6.heap.size = g11 + 1) := by show X6.heap.size = g11 + 1; rw [← hX6]; simp; omega
        have hXB : Blk X6 g11 61 #[.int .i64 x.fr, .int .i64 x.to, .string x.inp, .string x.out, .int .i64 x.co] := by rw [← hX6]; exact Blk.new_ hg11.symm
        rw [hX6, hg11]
        have HB6 := Lib.hid hb6
        have HXB := Lib.hid hXB
        have hB25 : B2 ≤ X5.heap.size := by have := HB5.out.size; have := HB2e.out; omega
        have hb5 : b < X5.heap.size := HLQ.out.1.2.1.lt
        have hg11b : g11 ≠ b := by omega
        have HX6 : Hid (X5.heap.size ≤ X6.heap.size) := hb6.size
        have HLQ6 := Lib.hid (HLQ.out.below hB25 hb6)
        have HB26 : Hid (BelB b B2 X2 X6) := HB5.out.trans (BelB.of_below (hb6.mono hB25))
        have HV6 : Hid (∀ W, BelB b X6.heap.size X6 W → (W.cell? ⟨g9, 0, none⟩ = some (.int .i64 k.1) ∧ W.cell? ⟨g9, 1, none⟩ = some (.int .i64 k.2) ∧ g9 < W.heap.size) ∧ (W.cell? ⟨g11, 0, none⟩ = some (.int .i64 x.fr) ∧ W.cell? ⟨g11, 1, none⟩ = some (.int .i64 x.to) ∧ W.cell? ⟨g11, 2, none⟩ = some (.string x.inp) ∧ W.cell? ⟨g11, 3, none⟩ = some (.string x.out) ∧ W.cell? ⟨g11, 4, none⟩ = some (.int .i64 x.co) ∧ g11 < W.heap.size) ∧
         W.cell? ⟨g1, 2, none⟩ = some (.slice (some ⟨bx, ox, none⟩) s.rs.length c) ∧ W.cell? ⟨g1, 3, none⟩ = some (.func (.func 67) #[] #[]) ∧ W.cell? ⟨g1, 4, none⟩ = some (.func (.func 68) #[] #[.pointer (some ⟨gO, 0, none⟩)]) ∧ W.cell? ⟨g1, 5, none⟩ = some (.int .i64 (most : Int)) ∧ g1 < W.heap.size) := fun W hW => by
         have e2 := hW.blk HXB.out HXB.out.lt hg11b
         have e1 := hW.blk (HLQ6.out.2.1) HLQ6.out.2.1.lt hg9b
         exact ⟨⟨by rw [e1.cell]; rfl, by rw [e1.cell]; rfl, e1.lt⟩, ⟨by rw [e2.cell]; rfl, by rw [e2.cell]; rfl, by rw [e2.cell]; rfl, by rw [e2.cell]; rfl, by rw [e2.cell]; rfl, e2.lt⟩, HCW.out W (HB26.out.trans (hW.mono (Nat.le_trans hB25 HX6.out)))⟩
        clear hX6 hb6 hXB y2 y3 y4 y5 yl d0 d1 d2 d3 d4 hbxx hg11
        obtain ⟨⟨k0, k1, kl⟩, ⟨x0, x1, x2, x3, x4, xl⟩, y2, y3, y4, y5, yl⟩ := HV6.out X6 (BelB.refl _ _ _)
        cases hmu : x.mute with
        | false =>
         have HMU := Lib.hid hmu
         clear hmu
         have h1 : ¬ x.inp.toList = [] := fun e => by have h := HMU.out; rw [Lib.toList_data] at e; have h3 := mute_bl (r := x).2 e; rw [h] at h3; cases h3
         have h2 : x.inp.toList.isEmpty = false := by simpa using h1
         have HNX : Hid ((S.rs.take (j + 1)).foldl (setR S k) q0 = (S.rs.take j).foldl (setR S k) q0) := by
          show _ = _
          rw [fold_take HXX.out.1]
          exact setR_skip (fun h => by rw [HMU.out] at h; cases h.1)
         refine ordB_below (.quiet 0 (.quiet 1 (.quiet 2 (.quiet 3 (.quiet 4 (.quiet 5 (.quiet 6 (.quiet 7 (.quiet 8 (.only 9 (.quiet 10 (.quiet 11 .done)))))))))))) (by kernel_rfl) (by kernel_rfl) (by kernel_rfl) (fun _ _ _ _ _ h => h) ?_
         intro W0 hS0
         iterate 9 ((first | refine ordB_skip rfl rfl ?_ | (refine ordB_take (v := ?_) rfl rfl ?_ ?_; rotate_left 1; (focus (intro W hW; obtain ⟨hcW, hfW⟩ := bcell hW; (go_simp <;> with_reducible rfl))))); simp only [Act.put, zA, zB, zC])
         refine ordB_only (opB_cskip rfl rfl hS0 ?_)
         simp only [Act.put, zA, zB, zC]
         iterate 2 ((first | refine ordB_skip rfl rfl ?_ | (refine ordB_take (v := ?_) rfl rfl ?_ ?_; rotate_left 1; (focus (intro W hW; obtain ⟨hcW, hfW⟩ := bcell hW; (go_simp <;> with_reducible rfl))))); simp only [Act.put, zA, zB, zC])
         refine ordB_nil ?_
         have hbE := hS0
         clear hS0
         have HLE := HLQ6.out.below (Nat.le_trans hB25 HX6.out) hbE
         rw [← HNX.out] at HLE
         go_wp2_with fail
         go_roundw
         case rel => exact ⟨j + 1, by omega, by go_num, HLE⟩
         case measure => simp [intOf]; omega
        | true =>
         have HMU := Lib.hid hmu
         clear hmu
         have h1 : x.inp.toList = [] := by rw [Lib.toList_data]; exact mute_bl.1 HMU.out
         by_cases hfm : x.fr = S.mode k
         ·have HFM := Lib.hid hfm
          clear hfm
          have HMODX : Hid (∀ W : World, Calls Tryz.prog 67 #[.agg #[.int .i64 k.1, .int .i64 k.2]] W fun e w' => e = .returned (.int .i64 x.fr) ∧ Below W.heap.size W w') := fun W => by
           have := HMODE.out W k
           rw [← HFM.out] at this
           exact this
          obtain ⟨qj, hqj⟩ : ∃ q, (S.rs.take j).foldl (setR S k) q0 = q := ⟨_, rfl⟩
          obtain ⟨hset, hdom⟩ := HRK.out.set i j k HK.out
          have hfew := HRK.out.few i j k HK.out
          rw [HQ0.out, hqj] at hset hdom hfew
          have HNX : Hid ((S.rs.take (j + 1)).foldl (setR S k) q0 = setR S k qj x) := by
           show _ = _
           rw [fold_take HXX.out.1, hqj]
          rw [hqj] at HLQ6
          have HSET := Lib.hid hset
          have HDOM := Lib.hid hdom
          clear hqj hset hdom
          obtain ⟨d, hd⟩ : ∃ d, qj.1 k = some d := Option.ne_none_iff_exists'.1 HDOM.out
          have HD := Lib.hid hd
          have hrk := HSET.out.sub k d hd
          obtain ⟨hkk, hd0, hd1⟩ := HRCH.out k d hrk
          have HRKD := Lib.hid hrk
          have HKK := Lib.hid hkk
          clear hd hrk hkk
          refine ordB_below (.quiet 0 (.quiet 1 (.quiet 2 (.quiet 3 (.quiet 4 (.quiet 5 (.quiet 6 (.quiet 7 (.quiet 8 (.only 9 (.quiet 10 (.quiet 11 .done)))))))))))) (by kernel_rfl) (by kernel_rfl) (by kernel_rfl) (fun _ _ _ _ _ h => h) ?_
          intro W0 hS0
          iterate 9 ((first | refine ordB_skip rfl rfl ?_ | (refine ordB_take (v := ?_) rfl rfl ?_ ?_; rotate_left 1; (focus (intro W hW; obtain ⟨hcW, hfW⟩ := bcell hW; (go_simp <;> with_reducible rfl))))); simp only [Act.put, zA, zB, zC])
          refine ordB_only (opB_call rfl rfl (fun K hK => ?_))
          go_simp
          go_at_call 67
          refine (HMODX.out W0).mono ?_
          rintro e W0_1 ⟨rfl, hxa⟩
          refine hK.out _ _ (hS0.trans (hxa.mono hS0.size)) (fun hS0_1 => ?_)
          iterate 2 ((first | refine ordB_skip rfl rfl ?_ | (refine ordB_take (v := ?_) rfl rfl ?_ ?_; rotate_left 1; (focus (intro W hW; obtain ⟨hcW, hfW⟩ := bcell hW; (go_simp <;> with_reducible rfl))))); simp only [Act.put, zA, zB, zC])
          refine ordB_nil ?_
          have hbE := hS0_1
          clear hS0_1
          obtain ⟨X7, rfl⟩ : ∃ V, V = W0_1 := ⟨_, rfl⟩
          have HB7 := Lib.hid hbE
          have HB07 : Hid (Below w0.heap.size w0 X7) := (HB05.out.trans (HB6.out.mono HB05.out.size)).trans (hbE.mono (Nat.le_trans HB05.out.size HX6.out))
          have HLQ7 := Lib.hid (HLQ6.out.below (Nat.le_trans hB25 HX6.out) hbE)
          clear hbE
          clear k0 k1 kl x0 x1 x2 x3 x4 xl y2 y3 y4 y5 yl
          obtain ⟨⟨k0, k1, kl⟩, ⟨x0, x1, x2, x3, x4, xl⟩, y2, y3, y4, y5, yl⟩ := HV6.out X7 (BelB.of_below HB7.out)
          cases hsy : S.step k x with
          | none =>
           have HSY := Lib.hid hsy
           have HNX2 : Hid (setR S k qj x = qj) := setR_none hsy
           clear hsy
           go_upto_region 16 with (go_at_call 68; go_loud (refine (HSTEP.out _ HB07.out k x HXX.out.2 ⟨d, HRKD.out⟩).mono ?_; rintro e X8 hst; obtain ⟨⟨y, he⟩, hb8⟩ := hst.no HSY.out; have he2 : e = .returned (.tuple #[.agg #[.int .i64 y.1, .int .i64 y.2], .bool false]) := he; subst he2; have HB8 := Lib.hid hb8; clear hb8 hst he))
           obtain ⟨X9, hX9⟩ : ∃ W, X8.alloc (.cells #[.int .i64 y.1, .int .i64 y.2] 139) = W := ⟨_, rfl⟩
           have hb9 : Below X8.heap.size X8 X9 := by rw [← hX9]; exact nw _ (Below.refl _ _)
           rw [hX9]
           have hb79 : Below X7.heap.size X7 X9 := HB8.out.trans (hb9.mono HB8.out.size)
           have HB9 : Hid (BelB b X6.heap.size X6 X9) := BelB.of_below (HB7.out.trans (hb79.mono HB7.out.size))
           have HLQ9 := Lib.hid (HLQ7.out.below (Nat.le_trans hB25 (Nat.le_trans HX6.out HB7.out.size)) hb79)
           clear hb9 hb79
           clear k0 k1 kl x0 x1 x2 x3 x4 xl y2 y3 y4 y5 yl
           obtain ⟨⟨k0, k1, kl⟩, ⟨x0, x1, x2, x3, x4, xl⟩, y2, y3, y4, y5, yl⟩ := HV6.out X9 HB9.out
           clear hX9
           refine ordB_below (.quiet 0 (.quiet 1 (.quiet 2 (.quiet 3 (.quiet 4 (.quiet 5 (.quiet 6 (.quiet 7 (.quiet 8 (.quiet 9 (.only 10 (.quiet 11 .done)))))))))))) (by kernel_rfl) (by kernel_rfl) (by kernel_rfl) (fun _ _ _ _ _ h => h) ?_
           intro V0 hV0
           iterate 10 ((first | refine ordB_skip rfl rfl ?_ | (refine ordB_take (v := ?_) rfl rfl ?_ ?_; rotate_left 1; (focus (intro W hW; obtain ⟨hcW, hfW⟩ := bcell hW; (go_simp <;> with_reducible rfl))))); simp only [Act.put, zA, zB, zC])
           refine ordB_only (opB_cskip rfl rfl hV0 ?_)
           simp only [Act.put, zA, zB, zC]
           iterate 1 ((first | refine ordB_skip rfl rfl ?_ | (refine ordB_take (v := ?_) rfl rfl ?_ ?_; rotate_left 1; (focus (intro W hW; obtain ⟨hcW, hfW⟩ := bcell hW; (go_simp <;> with_reducible rfl))))); simp only [Act.put, zA, zB, zC])
           refine ordB_nil ?_
           have hbE := hV0
           clear hV0
           have HLE := HLQ9.out.below (Nat.le_trans hB25 (Nat.le_trans HX6.out HB9.out.size)) hbE
           have HTE := Lib.hid HLE.1.2.1
           rw [← HNX2.out, ← HNX.out] at HLE
           have HLE := Lib.hid HLE
           have HBW := Lib.hid (HB9.out.trans ((BelB.of_below hbE).mono HB9.out.size))
           clear hbE
           obtain ⟨l3, hl3, hl3n⟩ := HTE.out.keys
           have HL3 := Lib.hid hl3
           clear hl3
           have hbigI : ¬ (most : Int) < (l3.length : Int) := by omega
           clear k0 k1 kl x0 x1 x2 x3 x4 xl y2 y3 y4 y5 yl
           obtain ⟨⟨k0, k1, kl⟩, ⟨x0, x1, x2, x3, x4, xl⟩, y2, y3, y4, y5, yl⟩ := HV6.out _ HBW.out
           go_wp2_with (at_len; refine tab_len ktSpot _ rfl _ rfl rfl HTE.out ?_; intro l4 hl4; rw [show l4.length = l3.length from Nat.le_antisymm (keysOf_le hl4 HL3.out) (keysOf_le HL3.out hl4)])
           go_roundw
           case rel => exact ⟨j + 1, by omega, by go_num, HLE.out⟩
           case measure => simp [intOf]; omega
          | some y =>
           have HSY := Lib.hid hsy
           clear hsy
           go_upto_region 16 with (go_at_call 68; go_loud (refine (HSTEP.out _ HB07.out k x HXX.out.2 ⟨d, HRKD.out⟩).mono ?_; rintro e X8 hst; obtain ⟨he, hb8⟩ := hst.yes HSY.out; have he2 : e = .returned (.tuple #[.agg #[.int .i64 y.1, .int .i64 y.2], .bool true]) := he; subst he2; have HB8 := Lib.hid hb8; clear hb8 hst he))
           obtain ⟨X9, hX9⟩ : ∃ W, X8.alloc (.cells #[.int .i64 y.1, .int .i64 y.2] 139) = W := ⟨_, rfl⟩
           obtain ⟨g12, hg12e⟩ : ∃ g, X8.heap.size = g := ⟨_, rfl⟩
           have hb9 : Below X8.heap.size X8 X9 := by rw [← hX9]; exact nw _ (Below.refl _ _)
           have hYB : Blk X9 g12 139 #[.int .i64 y.1, .int .i64 y.2] := by rw [← hX9, ← hg12e]; exact Blk.new _ _ _
           rw [hX9, hg12e]
           have hb79 : Below X7.heap.size X7 X9 := HB8.out.trans (hb9.mono HB8.out.size)
           have HB9 : Hid (BelB b X6.heap.size X6 X9) := BelB.of_below (HB7.out.trans (hb79.mono HB7.out.size))
           have HLQ9 := Lib.hid (HLQ7.out.below (Nat.le_trans hB25 (Nat.le_trans HX6.out HB7.out.size)) hb79)
           have hg12b : g12 ≠ b := by have h1 := HB8.out.size; have h2 := HB7.out.size; have h3 := HX6.out; omega
           have HG12 := Lib.hid hg12e
           clear hb9 hb79
           clear k0 k1 kl x0 x1 x2 x3 x4 xl y2 y3 y4 y5 yl
           obtain ⟨⟨k0, k1, kl⟩, ⟨x0, x1, x2, x3, x4, xl⟩, y2, y3, y4, y5, yl⟩ := HV6.out X9 HB9.out
           have HYB := Lib.hid hYB
           have z0 := hYB.cell 0
           have z1 := hYB.cell 1
           have zl := hYB.lt
           simp at z0 z1
           clear hYB
           clear hX9 hg12e
           have hry := HSET.out.sub.hop HDOM.out HXS.out ⟨HMU.out, HFM.out⟩ HSY.out
           rw [HD.out] at hry
           have hry : Rch S st inp pl y (d + x.co) := hry
           obtain ⟨hyk, hy0, hy1⟩ := HRCH.out y _ hry
           have HYK := Lib.hid hyk
           have hky : k ≠ y := flat_ne HF.out HRKD.out HXS.out HMU.out HFM.out HSY.out
           have HKY := Lib.hid hky
           clear hry hyk hky
           have hwr : IntKind.i64.wrap (d + x.co) = d + x.co := by rw [IntKind.wrap_i64]; omega
           have hwf : (Lit.int .i64 (d + x.co)).wf = true := wf_small hy0 hy1
           have HT9 := Lib.hid HLQ9.out.1.2.1
           have HLK : Hid (∀ (W : World) (M' : (Int × Int) → Option Int) (n' : Nat), Tab Tryz.prog 139 3 vSpot W b n' M' → M' k = some d → (Instr.lookup 145 (.map (some b)) (.agg #[.int .i64 k.1, .int .i64 k.2]) false).run Tryz.prog W = .ok (.int .i64 d) W) := fun W M' n' h1 h2 => by
            have := tab_look ktSpot h1 HKK.out
            rw [h2] at this
            exact this
           obtain ⟨nb, hnb⟩ : ∃ nb, newsB qj.1 y (d + x.co) = nb := ⟨_, rfl⟩
           have HNB := Lib.hid hnb
           clear hnb
           refine ordB_start (SetS b 145 (.agg #[.int .i64 k.1, .int .i64 k.2]) d X9) (.quiet 0 (.quiet 1 (.quiet 2 (.quiet 3 (.quiet 4 (.quiet 5 (.quiet 6 (.quiet 7 (.quiet 8 (.quiet 9 (.only 10 (.quiet 11 .done)))))))))))) (by kernel_rfl) (by kernel_rfl) (by kernel_rfl) (fun _ _ _ _ _ h => h) ⟨BelB.of_below (Below.refl _ _).drew, HLK.out X9.drew _ _ (HT9.out.keep rfl) HD.out⟩ ?_
           have hU0 : SetS b 145 (.agg #[.int .i64 k.1, .int .i64 k.2]) d X9 X9.drew := ⟨BelB.of_below (Below.refl _ _).drew, HLK.out X9.drew _ _ (HT9.out.keep rfl) HD.out⟩
           have HTU : Tab Tryz.prog 139 3 vSpot X9.drew b most qj.1 := HT9.out.keep rfl
           obtain ⟨U0, qqU0⟩ : ∃ W, X9.drew = W := ⟨_, rfl⟩
           rw [qqU0] at hU0 HTU ⊢
           clear qqU0
           iterate 10 ((first | refine ordB_skip rfl rfl ?_ | (refine ordB_take (v := ?_) rfl rfl ?_ ?_; rotate_left 1; (focus (intro W hW; obtain ⟨hBW, hlkW⟩ := hW; obtain ⟨hcW, hfW⟩ := bcellB hBW; (go_simp <;> with_reducible rfl))))); simp only [Act.put, zA, zB, zC])
           refine ordB_only (opB_call rfl rfl (fun K hK => ?_))
           go_simp
           go_at_call 100
           refine (relaxSpot_any y (d + x.co) b most qj.1 U0 HTU (by unfold maxLen; omega) HYK.out hwf).mono ?_
           rintro e U0_1 ⟨rfl, hT10, hg10⟩
           rw [HNB.out]
           refine hK.out _ _ ⟨hU0.1.trans (BelB.of_grown hg10 hU0.1.size), HLK.out _ _ _ hT10 (by rw [relaxT_other HKY.out]; exact HD.out)⟩ (fun hU0_1 => ?_)
           iterate 1 ((first | refine ordB_skip rfl rfl ?_ | (refine ordB_take (v := ?_) rfl rfl ?_ ?_; rotate_left 1; (focus (intro W hW; obtain ⟨hBW, hlkW⟩ := hW; obtain ⟨hcW, hfW⟩ := bcellB hBW; (go_simp <;> with_reducible rfl))))); simp only [Act.put, zA, zB, zC])
           refine ordB_nil ?_
           have hS := hU0_1
           clear hU0_1
           obtain ⟨X10, hX10⟩ : ∃ V, V = U0_1 := ⟨_, rfl⟩
           rw [← hX10] at hS hT10 ⊢
           have HS10 := Lib.hid hS.1
           have HT10 := Lib.hid hT10
           clear hS hT10 hX10
           have HB10 : Hid (BelB b X6.heap.size X6 X10) := HB9.out.trans (HS10.out.mono HB9.out.size)
           clear k0 k1 kl x0 x1 x2 x3 x4 xl y2 y3 y4 y5 yl
           obtain ⟨⟨k0, k1, kl⟩, ⟨x0, x1, x2, x3, x4, xl⟩, y2, y3, y4, y5, yl⟩ := HV6.out X10 HB10.out
           have HTB := Lib.hid (setR_tab (S := S) (p := qj) ⟨HMU.out, HFM.out⟩ HSY.out)
           have HSB := (HSET.out.rule HDOM.out HXS.out).1.sub
           rw [HTB.out, HD.out] at HSB
           have HSB : Hid (SubR S st inp pl (relaxT qj.1 y (d + x.co))) := HSB
           have hB29 : B2 ≤ X9.heap.size := Nat.le_trans hB25 (Nat.le_trans HX6.out HB9.out.size)
           cases nb with
           | true =>
            have HNW : Hid (setR S k qj x = (relaxT qj.1 y (d + x.co), qj.2 ++ [y])) := by
             have := setR_new (S := S) (p := qj) ⟨HMU.out, HFM.out⟩ HSY.out (by rw [HD.out]; exact HNB.out)
             rw [HD.out] at this
             exact this
            have hYB := HS10.out.blk HYB.out HYB.out.lt hg12b
            clear z0 z1 zl
            have z0 := hYB.cell 0
            have z1 := hYB.cell 1
            have zl := hYB.lt
            simp at z0 z1
            clear hYB
            have HOW10 : Hid (X10.ownsRow B2 139 2 _ qj.2.length (qj.2.flatMap cSpot)) := own_belB HLQ9.out.1.1 HT9.out.isMap HS10.out
            go_upto_region 18 with (at_builtin; go_loud (refine wpList_app1 rfl _ _ 199 rfl B2 139 i0 _ 2 16 Tryz.underlying199 hinf hz0 hz1 hz2 rfl (by decide) _ qj.2.length (qj.2.flatMap cSpot) rfl X10 [.int .i64 y.1, .int .i64 y.2] rfl HOW10.out _ rfl rfl rfl (by simp [Value.oneCell']) (by omega) (by decide) (Nat.le_trans hB29 HS10.out.size) ?_; intro v11 X11 hown11 hb11 ha11))
            have HT11 := Lib.hid (tab_apps HT10.out ha11 HOW10.out)
            obtain ⟨l3, hl3, hl3n⟩ := HT11.out.keys
            have HL3 := Lib.hid hl3
            have HB11 : Hid (BelB b B2 X2 X11) := (HB26.out.trans (HB10.out.mono (Nat.le_trans hB25 HX6.out))).trans (BelB.of_below hb11)
            have HBB11 := Lib.hid hb11
            have HAA11 := Lib.hid ha11
            have HOW11 := Lib.hid hown11
            clear hl3 hb11 ha11 hown11
            clear k0 k1 kl x0 x1 x2 x3 x4 xl y2 y3 y4 y5 yl z0 z1 zl
            obtain ⟨y2, y3, y4, y5, yl⟩ := HCW.out X11 HB11.out
            by_cases hbig : most < l3.length
            ·have hbigI : (most : Int) < (l3.length : Int) := by omega
             go_wp2_with (at_len; refine tab_len ktSpot _ rfl _ rfl rfl HT11.out ?_; intro l4 hl4; rw [show l4.length = l3.length from Nat.le_antisymm (keysOf_le hl4 HL3.out) (keysOf_le HL3.out hl4)])
             go_ret
             exact ⟨false, M, rfl, BelB.grown ((BelB.of_below (HB1.out.trans (HBR.out.mono (by have := HG1.out; omega)))).trans ((HBX.out.trans (HB11.out.mono hB12)).mono (by have := HG1.out; omega))), (fun h => by cases h), fun _ => tooMany_keys HSB.out HL3.out hbig⟩
            ·have hbigI : ¬ (most : Int) < (l3.length : Int) := by omega
             have HLE := HLQ9.out.news hB29 HS10.out ((HT11.out.tight HL3.out).mono (by omega)) HOW11.out HBB11.out HAA11.out
             rw [← HNW.out, ← HNX.out] at HLE
             have HLE := Lib.hid HLE
             go_wp2_with (at_len; refine tab_len ktSpot _ rfl _ rfl rfl HT11.out ?_; intro l4 hl4; rw [show l4.length = l3.length from Nat.le_antisymm (keysOf_le hl4 HL3.out) (keysOf_le HL3.out hl4)])
             go_roundw
             case rel => exact ⟨j + 1, by omega, by go_num, HLE.out⟩
             case measure => simp [intOf]; omega
           | false =>
            have HNW : Hid (setR S k qj x = qj) := setR_old HSY.out (by rw [HD.out]; exact HNB.out)
            have HEQ : Hid (relaxT qj.1 y (d + x.co) = qj.1) := news_no HNB.out
            obtain ⟨l3, hl3, hl3n⟩ := HT9.out.keys
            have HL3 := Lib.hid hl3
            clear hl3
            have HTE : Hid (Tab Tryz.prog 139 3 vSpot X10 b most qj.1) := by
             have := HT10.out
             rw [HEQ.out] at this
             exact (this.tight HL3.out).mono hl3n
            have HLE := HLQ9.out.same hB29 HS10.out HTE.out
            rw [show (qj.1, qj.2) = qj from rfl, ← HNW.out, ← HNX.out] at HLE
            have HLE := Lib.hid HLE
            have hbigI : ¬ (most : Int) < (l3.length : Int) := by omega
            go_wp2_with (at_len; refine tab_len ktSpot _ rfl _ rfl rfl HTE.out ?_; intro l4 hl4; rw [show l4.length = l3.length from Nat.le_antisymm (keysOf_le hl4 HL3.out) (keysOf_le HL3.out hl4)])
            go_roundw
            case rel => exact ⟨j + 1, by omega, by go_num, HLE.out⟩
            case measure => simp [intOf]; omega
         ·have HFM := Lib.hid hfm
          have HNX : Hid ((S.rs.take (j + 1)).foldl (setR S k) q0 = (S.rs.take j).foldl (setR S k) q0) := by
           show _ = _
           rw [fold_take HXX.out.1]
           exact setR_skip (fun h => HFM.out h.2)
          refine ordB_below (.quiet 0 (.quiet 1 (.quiet 2 (.quiet 3 (.quiet 4 (.quiet 5 (.quiet 6 (.quiet 7 (.quiet 8 (.only 9 (.quiet 10 (.quiet 11 .done)))))))))))) (by kernel_rfl) (by kernel_rfl) (by kernel_rfl) (fun _ _ _ _ _ h => h) ?_
          intro W0 hS0
          iterate 9 ((first | refine ordB_skip rfl rfl ?_ | (refine ordB_take (v := ?_) rfl rfl ?_ ?_; rotate_left 1; (focus (intro W hW; obtain ⟨hcW, hfW⟩ := bcell hW; (go_simp <;> with_reducible rfl))))); simp only [Act.put, zA, zB, zC])
          refine ordB_only (opB_call rfl rfl (fun K hK => ?_))
          go_simp
          go_at_call 67
          refine (HMODE.out W0 k).mono ?_
          rintro e W0_1 ⟨rfl, hxa⟩
          refine hK.out _ _ (hS0.trans (hxa.mono hS0.size)) (fun hS0_1 => ?_)
          iterate 2 ((first | refine ordB_skip rfl rfl ?_ | (refine ordB_take (v := ?_) rfl rfl ?_ ?_; rotate_left 1; (focus (intro W hW; obtain ⟨hcW, hfW⟩ := bcell hW; (go_simp <;> with_reducible rfl))))); simp only [Act.put, zA, zB, zC])
          refine ordB_nil ?_
          have hbE := hS0_1
          clear hS0_1
          have HLE := HLQ6.out.below (Nat.le_trans hB25 HX6.out) hbE
          rw [← HNX.out] at HLE
          go_wp2_with fail
          go_roundw
          case rel => exact ⟨j + 1, by omega, by go_num, HLE⟩
          case measure => simp [intOf]; omega
       ·obtain rfl : j = s.rs.length := by omega
        have hjlI : ¬ ((s.rs.length : Nat) : Int) < (s.rs.length : Int) := by omega
        have HLE := HLQ.out.1
        rw [List.take_of_length_le (by rw [HRS.out]; exact Nat.le_refl _), ← HQ0.out, show S.rs.foldl (setR S k) (setL S (Mx, []) (tl.take i)) = setL S (Mx, []) (tl.take (i + 1)) from (setL_take HK.out).symm] at HLE
        have HLE := Lib.hid HLE
        go_wp2_with fail
        go_roundw
        case rel => exact ⟨i + 1, by omega, by go_num, HLE.out⟩
        case measure => simp [intOf]; omega
     ·obtain rfl : i = tl.length := by omega
      have hilI : ¬ ((tl.length : Nat) : Int) < (tl.length : Int) := by omega
      have htk : tl.take tl.length = tl := List.take_of_length_le (Nat.le_refl _)
      have HLE := HLP.out
      rw [htk] at HLE
      have HLE := Lib.hid HLE
      clear htk
      obtain ⟨b', off', rfl, _⟩ := HSX.out (by rintro e; rw [e] at htl; simp at htl)
      go_wp2_with fail
      exact PhI.next HF.out HM.out HKS.out HPH.out htl HLE.out.1 HLE.out.2.1 (HBX.out.trans (HB3.out.mono hB12)) hB12 (fun _ => rfl)
   ·have htli : ¬ (0 : Int) < (tl.length : Int) := by omega
    have HE : Hid (Mx = (setL S (M, []) ks).1) := PhI.done HPH.out (List.eq_nil_of_length_eq_zero (by omega))
    obtain ⟨lx, hlx, hlxn⟩ := HTX.out.keys
    go_wp2_with (at_len; refine tab_len ktSpot _ rfl _ rfl rfl HTX.out ?_; intro l2 hl2; have hl2n : (l2.length : Int) ≤ (most : Int) := (by have := keysOf_le hl2 hlx; omega))
    go_ret
    refine ⟨true, Mx, rfl, BelB.grown ((BelB.of_below (HB1.out.trans (HBR.out.mono ?_))).trans (HBX.out.mono ?_)), fun _ => ⟨HTX.out, ?_⟩, fun h => by cases h⟩
    ·have := HG2.out; have := HG1.out; omega
    ·have := HG1.out; omega
    ·have := (settle_round HF.out HM.out HKS.out).1
     rw [← HE.out] at this
     exact this
end Go.Proofs.YtfpnhgahkjglgaaGreat
