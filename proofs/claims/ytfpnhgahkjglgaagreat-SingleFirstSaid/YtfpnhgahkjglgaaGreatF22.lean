/-
  OuBestW, OuRunI, OuGoesP, OuGoesW, OuLawA, OuLawB, OuLawC, OuLawD, OuLawE, OuLawF, joined. No conditions.
-/
import Derived.Test.YtfpnhgahkjglgaaGreatF21
import Derived.Laws.EntriesVeiled
import Derived.Carry
import Derived.Test.YtfpnhgahkjglgaaGreatF13
import Derived.Test.YtfpnhgahkjglgaaGreatF19
set_option maxRecDepth 100000
namespace Go.Proofs.YtfpnhgahkjglgaaGreat
open Go Go.RowKit Go.Maps
theorem infoR : (Tryz.prog.info? 48).map (fun i => (i.zero, i.size, i.bytes)) = some (some (.agg #[.string ByteArray.empty, .int .i64 0]), 2, 24) := by kernel_rfl
set_option maxHeartbeats 8000000 in
theorem best05_any (s : Sc) (A : Option Addr) (c : Nat) (inp : ByteArray) (k : Int) (w : World) (hs : ScIn w s A c) (hfl : ScOK s → SoundP s → FlatR s) (hin : inp.size ≤ maxLen) (hk0 : 0 ≤ k) (hk1 : k ≤ 1000) :
 Calls Tryz.prog 18 #[.agg #[.int .i64 s.n, .int .u8 s.acc, .slice A s.rs.length c], .string inp, .int .i64 k] w (IsBestR s inp k w) := by
 obtain ⟨i0, hinf, hz0, hz1, hz2⟩ := info_parts infoR
 obtain ⟨w1, hw1⟩ : ∃ w1, w.alloc (.cells #[.int .i64 s.n, .int .u8 s.acc, .slice A s.rs.length c] 30) = w1 := ⟨_, rfl⟩
 obtain ⟨g, hg⟩ : ∃ g, w.heap.size = g := ⟨_, rfl⟩
 have hb1 : Below w.heap.size w w1 := by rw [← hw1]; exact nw _ (Below.refl _ _)
 have hB : Blk w1 g 30 #[.int .i64 s.n, .int .u8 s.acc, .slice A s.rs.length c] := by rw [← hw1, ← hg]; exact Blk.new _ _ _
 have HW1 := Lib.hid hw1
 have HG := Lib.hid hg
 have HB1 := Lib.hid hb1
 have HBX := Lib.hid hB
 have HS := Lib.hid hs
 have HFL := Lib.hid hfl
 have HSO : Hid (∀ W, Below w1.heap.size w1 W → Calls Tryz.prog 37 #[.agg #[.int .i64 s.n, .int .u8 s.acc, .slice A s.rs.length c]] W fun e w' => e = .returned (.bool (decide (soundE s = 0))) ∧ Below W.heap.size W w') := fun W hW => osound05_any s A c W (hs.below (bthen hb1 hW))
 have HLE : Hid (∀ W : World, Calls Tryz.prog 38 #[.string inp] W fun e w' => e = .returned (.bool (letB inp)) ∧ W = w') := fun W => letters_any inp W hin
 have b0 := hB.cell 0
 have b1 := hB.cell 1
 have b2 := hB.cell 2
 have bl_ := hB.lt
 simp at b0 b1 b2
 clear hw1 hg hb1 hB hs hfl
 cases hso : decide (soundE s = 0) with
 | false =>
  have HC : Hid (bestR s inp k = ([], 1)) := bestR_arg (fun h => of_decide_eq_false hso h.1)
  rw [hso] at HSO
  clear hso
  go_enter Tryz.func18, Tryz.ntmps18
  go_upto_region 1 with fail
  rw [HW1.out, HG.out]
  go_wp2_with (first | (go_at_call 37; go_loud (refine (HSO.out _ (Below.refl _ _)).mono ?_; rintro e w2 ⟨rfl, hb2⟩)) | (go_at_call 38; refine (HLE.out _).mono ?_; rintro e w' ⟨rfl, rfl⟩))
  go_ret2
  exact IsBestR.nil HC.out (HB1.out.trans (hb2.mono HB1.out.size))
 | true =>
  rw [hso] at HSO
  have HSE := Lib.hid (of_decide_eq_true hso)
  clear hso
  cases hle : letB inp with
  | false =>
   have HC : Hid (bestR s inp k = ([], 1)) := bestR_arg (fun h => by rw [hle] at h; cases h.2.1)
   rw [hle] at HLE
   clear hle
   go_enter Tryz.func18, Tryz.ntmps18
   go_upto_region 1 with fail
   rw [HW1.out, HG.out]
   go_wp2_with (first | (go_at_call 37; go_loud (refine (HSO.out _ (Below.refl _ _)).mono ?_; rintro e w2 ⟨rfl, hb2⟩)) | (go_at_call 38; refine (HLE.out _).mono ?_; rintro e w' ⟨rfl, rfl⟩))
   go_ret2
   exact IsBestR.nil HC.out (HB1.out.trans (hb2.mono HB1.out.size))
  | true =>
   rw [hle] at HLE
   have HLI := Lib.hid hle
   have hi40 : inp.size ≤ 40 := by have := hle; unfold letB at this; simp at this; exact this.1
   clear hle
   by_cases hk : k < 1
   ·have HC : Hid (bestR s inp k = ([], 1)) := bestR_arg (fun h => by omega)
    go_enter Tryz.func18, Tryz.ntmps18
    go_upto_region 1 with fail
    rw [HW1.out, HG.out]
    go_wp2_with (first | (go_at_call 37; go_loud (refine (HSO.out _ (Below.refl _ _)).mono ?_; rintro e w2 ⟨rfl, hb2⟩)) | (go_at_call 38; refine (HLE.out _).mono ?_; rintro e w' ⟨rfl, rfl⟩))
    go_ret2
    exact IsBestR.nil HC.out (HB1.out.trans (hb2.mono HB1.out.size))
   ·by_cases hk2 : 50 < k
    ·have HC : Hid (bestR s inp k = ([], 1)) := bestR_arg (fun h => by omega)
     go_enter Tryz.func18, Tryz.ntmps18
     go_upto_region 1 with fail
     rw [HW1.out, HG.out]
     go_wp2_with (first | (go_at_call 37; go_loud (refine (HSO.out _ (Below.refl _ _)).mono ?_; rintro e w2 ⟨rfl, hb2⟩)) | (go_at_call 38; refine (HLE.out _).mono ?_; rintro e w' ⟨rfl, rfl⟩))
     go_ret2
     exact IsBestR.nil HC.out (HB1.out.trans (hb2.mono HB1.out.size))
    ·have HARG : Hid (soundE s = 0 ∧ letB inp = true ∧ 1 ≤ k ∧ k ≤ 50) := ⟨HSE.out, HLI.out, by omega, by omega⟩
     obtain ⟨hok, hsp⟩ := soundE_iff.1 HSE.out
     have hFl := HFL.out hok hsp
     have HOK := Lib.hid hok
     have HFS : Hid (FlatS s inp) := pair_flat hFl (bl inp)
     clear hok hsp hFl
     go_enter Tryz.func18, Tryz.ntmps18
     go_upto_region 1 with fail
     rw [HW1.out, HG.out]
     go_upto_region 3 with (first | (go_at_call 37; go_loud (refine (HSO.out _ (Below.refl _ _)).mono ?_; rintro e w2 ⟨rfl, hb2⟩)) | (go_at_call 38; refine (HLE.out _).mono ?_; rintro e w' ⟨rfl, rfl⟩))
     have HB2 : Hid (Below w.heap.size w w2) := HB1.out.trans (hb2.mono HB1.out.size)
     have HBY := Lib.hid (HBX.out.below hb2 HBX.out.lt)
     clear b0 b1 b2 bl_ hb2
     have b0 := HBY.out.cell 0
     have b1 := HBY.out.cell 1
     have b2 := HBY.out.cell 2
     have bl_ := HBY.out.lt
     simp at b0 b1 b2
     go_upto_region 4 with fail
     obtain ⟨w4, hw4⟩ : ∃ W, w2.alloc (.cells #[.int .i64 s.n, .int .u8 s.acc, .slice A s.rs.length c, .func (.func 39) #[] #[], .func (.func 40) #[] #[], .int .i64 2000] 89) = W := ⟨_, rfl⟩
     obtain ⟨g8, hg8⟩ : ∃ g, w2.heap.size = g := ⟨_, rfl⟩
     have hb4 : Below w2.heap.size w2 w4 := by rw [← hw4]; exact nw _ (Below.refl _ _)
     have hWK : Blk w4 g8 89 #[.int .i64 s.n, .int .u8 s.acc, .slice A s.rs.length c, .func (.func 39) #[] #[], .func (.func 40) #[] #[], .int .i64 2000] := by rw [← hw4, ← hg8]; exact Blk.new _ _ _
     have HB4 : Hid (Below w.heap.size w w4) := HB2.out.trans (hb4.mono HB2.out.size)
     have HB4X := Lib.hid (HBY.out.below hb4 HBY.out.lt)
     rw [hw4, hg8]
     have HRUN : Hid (Calls Tryz.prog 41 #[.agg #[.int .i64 s.n, .int .u8 s.acc, .slice A s.rs.length c, .func (.func 39) #[] #[], .func (.func 40) #[] #[], .int .i64 2000], .agg #[.int .i64 0, .string ByteArray.empty], .string inp] w4 (IsRun 85 vPair (pairS s) (0, ByteArray.empty) inp 2000 w4)) :=
      runPair_any (pairS s) (0, ByteArray.empty) inp s A c 2000 w4 (HS.out.below HB4.out) HOK.out rfl HFS.out (by omega) (by decide) (by decide) (keyPair_ok (wf_small (by decide) (by decide)) (by decide))
       (fun i k d hi h => (pair_facts HOK.out HFS.out hi40 hi h).1) (fun W k => modePair_any k W) (fun W _ k x hx ⟨i, d, hi, h⟩ => stepPair_any s k x W (by have h1 := (pair_facts HOK.out HFS.out hi40 hi h).2.2; have h2 := (HOK.out.2.2.2.1 x hx).2.2.1.1; omega))
     have k0 := hWK.cell 0
     have k1 := hWK.cell 1
     have k2 := hWK.cell 2
     have k3 := hWK.cell 3
     have k4 := hWK.cell 4
     have k5 := hWK.cell 5
     have kl := hWK.lt
     simp at k0 k1 k2 k3 k4 k5
     clear hw4 hg8 hb4 hWK b0 b1 b2 bl_
     have hmm := @run_makeMap Tryz.prog
     go_wp2_with (first | (go_at_call 41; go_loud (refine HRUN.out.mono ?_; rintro e w5 hru; rcases hru.parts with ⟨o, M, rfl, hb5, hTO, hM, hfew⟩ | ⟨o, i, rfl, hb5, hi, hmany⟩)) | (at_range; refine tabO_range ktPair _ rfl _ rfl (b := o) rfl (hTO.keep fun b hb => Below.heap_alloc _ _ b (hTO.lt b hb)) ?_; intro w7 cnt7 hR7 hg7 hs7))
     ·go_frame
      obtain ⟨gc, hgc⟩ : ∃ b, w5.heap.size = b := ⟨_, rfl⟩
      have hs6 : (w5.alloc (.map #[] 0)).heap.size = gc + 1 := by simp [hgc]
      have hb6 : Below w5.heap.size w5 (w5.alloc (.map #[] 0)) := nw _ (Below.refl _ _)
      have hb67 : Below gc w5 w7 := by rw [← hgc]; exact hb6.trans (grown_none hg7 _ (by rw [hs6]; omega))
      have HB5 : Hid (Below w.heap.size w w5) := HB4.out.trans (hb5.mono HB4.out.size)
      have HB7 : Hid (Below w.heap.size w w7) := HB5.out.trans (hb67.mono (by have := HB5.out.size; omega))
      have hgcw : w.heap.size ≤ gc := by have := HB5.out.size; omega
      have HB7X : Hid (Blk w7 g 30 #[.int .i64 s.n, .int .u8 s.acc, .slice A s.rs.length c]) := (HB4X.out.below hb5 HB4X.out.lt).below hb67 (by have := (HB4X.out.below hb5 HB4X.out.lt).lt; omega)
      have hOB : ∀ b, o = some b → b ≠ gc := fun b hb => by have := hTO.lt b hb; omega
      have hT0 : Tab Tryz.prog 9 3 (fun k : ByteArray => Value.string k) (w5.alloc (.map #[] 0)) gc 0 (fun _ => none) := by rw [← hgc]; exact Tab.made w5
      have HBS0 : Hid (BsI s.acc M o (gc + 1) gc cnt7 w w7 w7) := by
       rw [hs6] at hR7
       exact ⟨_, cnt7, 0, _, hR7, hT0.keep ((grown_none hg7 _ (Nat.le_refl _)).block gc (by omega)), by omega, doneP_start, fun _ _ h => (by cases h), CelK.refl _, HB7.out⟩
      have hcm : cnt7 ≤ 2000 := rtab_cnt hR7
      have HM := Lib.hid hM
      have HFEW := Lib.hid hfew
      have HOB := Lib.hid hOB
      rw [hs6]
      try rw [hgc]
      clear hs6 hb6 hb67 hb5 hT0 hR7 hg7 hs7 hTO hM hfew hOB hgc hmm k0 k1 k2 k3 k4 k5 kl
      have HCC : Hid (∀ W, CelK w7 W → W.cell? ⟨g, 0, none⟩ = some (.int .i64 s.n) ∧ W.cell? ⟨g, 1, none⟩ = some (.int .u8 s.acc) ∧ W.cell? ⟨g, 2, none⟩ = some (.slice A s.rs.length c) ∧ g < W.heap.size) := fun W hW => by
       have e1 := hW.blk HB7X.out
       exact ⟨by rw [e1.cell]; rfl, by rw [e1.cell]; rfl, by rw [e1.cell]; rfl, e1.lt⟩
      go_loopw [] (fun wr => BsI s.acc M o (gc + 1) gc cnt7 w w7 wr) (fun wr => leftO wr o (gc + 1))
      case atStart => exact HBS0.out
      case round =>
       obtain ⟨X8, rfl⟩ : ∃ W, W = wr := ⟨wr, rfl⟩
       obtain ⟨L, cnt, n, TT, hR8, hT8, hnc, hD8, hTB, hc8, hb8⟩ := hrel
       have HR8 := Lib.hid hR8
       have HT8 := Lib.hid hT8
       have HD8 := Lib.hid hD8
       have HTB := Lib.hid hTB
       have HC8 := Lib.hid hc8
       have HB8 := Lib.hid hb8
       clear hR8 hT8 hD8 hTB hc8 hb8
       have HTW : Hid (∀ (X9 W : World), X8.grownBy X9 (some (gc + 1)) → Below X9.heap.size X9 W → Tab Tryz.prog 9 3 (fun k : ByteArray => Value.string k) W gc n TT) := fun X9 W h1 h2 => by
        have h3 := HT8.out.keep (h1.block gc HT8.out.lt (fun e => by have := Option.some.inj e; omega))
        exact h3.keep (h2.block gc h3.lt)
       obtain ⟨l, hl, hln⟩ := HT8.out.keys
       have HL := Lib.hid hl
       have hl2 : l.length ≤ 2000 := by omega
       clear hl
       go_wp2_with (first | (at_next; refine nextPair _ rfl _ rfl (b := o) rfl HR8.out (fun hd => ?_) (fun q d X9 cnt9 hq hMq hLq hR9 hlt9 hg9 hs9 hen => have hck := fun (cs : Array Value) => HCC.out (X9.alloc (.cells cs 85)) ((HC8.out.trans (CelK.of_iter hg9 HR8.out.iter)).trans (CelK.of_below (nw _ (Below.refl _ _)))); have b0 := fun cs => (hck cs).1; have b1 := fun cs => (hck cs).2.1; have b2 := fun cs => (hck cs).2.2.1; have bl_ := fun cs => (hck cs).2.2.2; have HMQ := Lib.hid hMq; have HR9 := Lib.hid hR9; have HG9 := Lib.hid hg9; have HQF := Lib.hid (pair_facts HOK.out HFS.out hi40 (Nat.le_refl _) ((HM.out q).1 d hMq).1); ?_); by_cases hl0 : l.length = 0; rotate_left 2; cases hac : accB s.acc q.1) | (go_at_call 42; go_loud (refine (oaccepting_any s A c q.1 _ (HS.out.below (nw _ (HB8.out.grown HG9.out HB8.out.size (fun k hk => by injection hk with hk; omega)))) HQF.out.2.1).mono ?_; rintro e X10 ⟨rfl, hb10⟩; have HB10 := Lib.hid (Below.trans (nw _ (Below.refl X9.heap.size X9)) (hb10.mono (by simp))); have hqb : Blk (X9.alloc (.cells #[.int .i64 q.1, .string q.2] 85)) X8.heap.size 85 #[.int .i64 q.1, .string q.2] := Blk.new_ hs9.symm; have hqb2 := hqb.below hb10 hqb.lt; have z0 := hqb2.cell 0; have z1 := hqb2.cell 1; have zl := hqb2.lt; simp at z0 z1; clear hb10 hqb hqb2)) | (go_at_call 43; go_loud (refine (relaxStr_any q.2 d gc n TT _ (HTW.out _ _ HG9.out HB10.out) (by unfold maxLen; omega) (keyStr_ok (by have := HQF.out.2.2; unfold maxLen; omega)) (wf_small HQF.out.1.2.1 HQF.out.1.2.2)).mono ?_; rintro e X11 ⟨rfl, hT11, hg11⟩)) | (at_len; refine tab_len ktStr _ rfl _ rfl rfl HT8.out ?_; intro l2 hl2; rw [show l2.length = l.length from Nat.le_antisymm (keysOf_le hl2 HL.out) (keysOf_le HL.out hl2)]) | (at_make; refine wpList_make_own _ rfl _ _ 43 rfl X8.heap.size 48 i0 _ 2 Tryz.underlying43 hinf hz0 hz1 .i64 .i64 _ l.length rfl rfl rfl (by rw [hz2]; omega) (by unfold maxLen; omega) (Nat.le_refl _) ?_; intro Y1 hownY hgY; have HOWY := Lib.hid hownY; have HGY := Lib.hid hgY; clear hownY hgY) | (at_range; refine tab_range ktStr _ rfl _ rfl rfl (hT2_of HT8.out HGY.out) ?_; intro Y2 cntY hRY hgY2 hsY2))
       ·exact BsI.no HT8.out HR8.out hnc HD8.out HTB.out HC8.out HB8.out HMQ.out hac HR9.out hlt9 HG9.out (by omega) (by omega) HB10.out
       ·exact BsI.yes HT8.out HR8.out hnc HD8.out HTB.out HC8.out HB8.out HMQ.out hac HR9.out hlt9 HG9.out (by omega) (by omega) HB10.out hT11 hg11 hgcw HOB.out ⟨HQF.out.2.2, HQF.out.1.2⟩
       ·go_ret2
        have hl1 : l = [] := List.eq_nil_of_length_eq_zero (by simpa using hl0)
        have hD := best_done HFS.out HM.out (fun q d h => hd q (TabO.ok HR8.out.tab (by rw [h]; simp))) HD8.out HL.out (R := []) (by rw [hl1]; exact List.Perm.refl _) List.Pairwise.nil
        exact IsBestR.nil (bestR_none HARG.out (fun ⟨i, hi, h⟩ => HFEW.out i hi h) hD.symm) HB8.out
       ·go_frame
        have hb2 := grown_none hgY2 Y1.heap.size (Nat.le_refl _)
        obtain ⟨r2, hr2⟩ : ∃ r, Y1.heap.size = r := ⟨_, rfl⟩
        obtain ⟨g2, hg2⟩ : ∃ g, X8.heap.size = g := ⟨_, rfl⟩
        have HG2 := Lib.hid hg2
        have hg12 : g2 ≤ r2 := by have := HGY.out.size; omega
        have HOY2 : Hid (Y2.ownsRow g2 48 2 (.slice (some ⟨g2, 0, none⟩) 0 l.length) 0 []) := by have h := own_below HOWY.out hb2; rw [hg2] at h; exact h
        have HBY2 : Hid (Below g2 X8 Y2) := (grown_none HGY.out g2 (by omega)).trans (hb2.mono (by omega))
        have HRY2 : Hid (RTab Tryz.prog 9 3 (fun k : ByteArray => Value.string k) Y2 gc r2 n TT (fun t => (TT t).isSome) cntY) := by rw [hr2] at hRY; exact hRY
        have hX8 : (∀ q d, M q = some d → L q = false) := fun q d h => hd q (TabO.ok HR8.out.tab (by rw [h]; simp))
        have HX8 := Lib.hid hX8
        have hlne : l.length ≠ 0 := by simpa using hl0
        rw [hr2, hg2]
        clear hb2 hr2 hg2 hRY hgY2 hsY2 hX8 hl0 hd
        go_loopw [14] (fun v wr => RgR TT gc r2 n g2 X8 v wr) (fun _ wr => wr.rangeLeft gc r2)
        case atStart => exact ⟨[], _, cntY, List.Pairwise.nil, fun t => by simp, HOY2.out, HRY2.out, HBY2.out⟩
        case round =>
         obtain ⟨Z0, rfl⟩ : ∃ W, W = wr := ⟨wr, rfl⟩
         obtain ⟨ks, Lf, cntZ, hnd, hmem, hownZ, hRZ, hbZ⟩ := hrel
         have HRZ := Lib.hid hRZ
         have HOWZ := Lib.hid hownZ
         have HBZ := Lib.hid hbZ
         have HMEM := Lib.hid hmem
         have hksl : ks.length ≤ 2000 := by
          have := nodup_le hnd fun t ht => (HL.out.2 t).2 ((HMEM.out t).1 ht).1
          omega
         have hZs : g2 ≤ Z0.heap.size := by have := HBZ.out.size; have := HG2.out; omega
         clear hownZ hRZ hbZ hmem
         obtain ⟨LL, hLL⟩ : ∃ LL : List Rs, (ks.map fun t => (⟨t, (TT t).getD 0⟩ : Rs)) = LL := ⟨_, rfl⟩
         have hLLn : LL.length = ks.length := by rw [← hLL, List.length_map]
         have HLL := Lib.hid hLL
         have HOWL : Hid (∀ v n, Z0.ownsRow g2 48 2 v n (ks.flatMap fun t => encRs ⟨t, (TT t).getD 0⟩) → n = ks.length → Z0.ownsRow g2 48 2 v LL.length (LL.flatMap encRs)) := fun v n h e => by
          rw [flat_rs, HLL.out, e, ← hLLn] at h
          exact h
         have HKS : Hid ((∀ t, KOk Tryz.prog 9 (fun k : ByteArray => Value.string k) t → Lf t = false) → KeysOf TT ks) := fun hd => ⟨hnd, fun t => ⟨fun h => ((HMEM.out t).1 h).1, fun h => (HMEM.out t).2 ⟨h, hd t (TabO.ok (o := some gc) (RTab.tab HRZ.out) h)⟩⟩⟩
         clear hLL
         obtain ⟨mN, hmN⟩ : ∃ m, min k.toNat ks.length = m := ⟨_, rfl⟩
         have HMN := Lib.hid hmN
         have hmin : min k (ks.length : Int) = (mN : Int) := by omega
         have hmL : (mN : Int) ≤ (ks.length : Int) := by omega
         have hm0 : (0 : Int) ≤ (mN : Int) := by omega
         clear hmN
         go_wp2_with (first | (at_next; refine nextStr _ rfl _ rfl (b := some gc) rfl HRZ.out (fun hd => ?_) (fun t d Z1 cnt1 ht hTt hLt hR1 hlt1 hg1 hs1 hen => ?_)) | (at_builtin; go_loud (refine wpList_app1 rfl _ _ 43 rfl g2 48 i0 _ 2 24 Tryz.underlying43 hinf hz0 hz1 hz2 rfl (by decide) _ ks.length (ks.flatMap (fun t => encRs ⟨t, (TT t).getD 0⟩)) rfl Z1 [.string t, .int .i64 d] rfl (own_iter HRZ.out hg1 HOWZ.out) _ rfl (by simp [hs1]) rfl (by simp [Value.oneCell']) (by omega) (by decide) (by omega) ?_; intro v5 Z5 hown5 hb5 ha5)) | (go_at_call 44; go_loud (refine (sortedF_any g2 _ LL _ (HOWL.out _ _ HOWZ.out rfl) hZs (fun e => hlne (by have h1 := keysOf_le HL.out (HKS.out hd); rw [← hLLn, e] at h1; simp at h1; rw [h1]; rfl)) (by omega)).mono ?_; rintro e Z6 ⟨g6, cap6, LS, rfl, ⟨hg6, hc6, hcm6⟩, hpm, hsd, hsl6, hb6⟩; have HPM := Lib.hid hpm; have HSD := Lib.hid hsd; have HSL6 := Lib.hid hsl6; have HB6 := Lib.hid hb6; have HC6 := Lib.hid hcm6; have HTK : Hid ((LS.take mN).length = mN) := (by show (LS.take mN).length = mN; rw [List.length_take, hpm.length_eq]; omega); clear hpm hsd hsl6 hb6 hcm6)) | (go_at_call 47; go_loud (have hcl := cloneR_any (some ⟨g6, 0, none⟩) (LS.take mN) cap6 _ (slr_pre5 HSL6.out mN) (by rw [HTK.out]; omega); rw [HTK.out] at hcl; refine hcl.mono ?_; rintro e Z7 ⟨v7, rfl, hown7, hb7⟩)))
         ·go_ret2
          obtain ⟨A7, c7, rfl, hn7, hm7, hs7⟩ := own_slr (R := RRs) (xs := LS.take mN) hown7 (fun _ => rfl) (fun _ => rfl) HTK.out.symm
          have hLS : LS = bestL s inp := best_done HFS.out HM.out HX8.out HD8.out (HKS.out hd) (by rw [HLL.out]; exact HPM.out) HSD.out
          have hne : bestL s inp ≠ [] := fun e => by
           rw [hLS] at HPM
           have h1 := HPM.out.length_eq
           rw [e, hLLn] at h1
           have h2 := keysOf_le HL.out (HKS.out hd)
           rw [← h1] at h2
           simp at h2
           rw [h2] at hlne
           exact hlne rfl
          have htk : LS.take mN = (bestL s inp).take k.toNat := by
           rw [← HMN.out, ← hLLn, ← HPM.out.length_eq, take_min_, hLS]
          refine ⟨(bestL s inp).take k.toNat, 0, A7, c7, ?_, (bestR_ok HARG.out (fun ⟨i, hi, h⟩ => HFEW.out i hi h) hne).symm, ?_, ?_, ?_⟩
          ·rw [← htk, HTK.out] <;> rfl
          ·rw [← htk, HTK.out]; exact ⟨hn7, hm7⟩
          ·rw [← htk]; exact hs7
          ·have hZ := HG2.out
           exact ((HB8.out.trans (HBZ.out.mono (by have := HB8.out.size; omega))).trans (HB6.out.mono (by have := HB8.out.size; omega))).trans (hb7.mono (by have := HB8.out.size; have := HBZ.out.size; have := HB6.out.size; omega))
         ·have h := RgR.round hnd HMEM.out HOWZ.out HRZ.out HBZ.out hg12 (Nat.le_of_eq HG2.out.symm) hTt hLt hR1 hg1 hown5 hb5 ha5
          refine ⟨h.1, ?_⟩
          rw [RTab.left_eq h.2, RTab.left_eq HRZ.out]
          exact hlt1
     ·go_ret2
      exact IsBestR.nil (bestR_big HARG.out ⟨i, hi, hmany⟩) (HB4.out.trans (hb5.mono HB4.out.size))
end Go.Proofs.YtfpnhgahkjglgaaGreat
namespace Go.Proofs.YtfpnhgahkjglgaaGreat
open Go Go.RowKit
set_option maxHeartbeats 4000000 in
theorem before5_any (x y : Rs) (w : World) : Calls Tryz.prog 101 #[.agg #[.string x.tx, .int .i64 x.co], .agg #[.string y.tx, .int .i64 y.co]] w fun e w' => e = .returned (.bool (befR x y)) ∧ Below w.heap.size w w' := by
 obtain ⟨w1, hw1⟩ : ∃ w1, (w.alloc (.cells #[.string x.tx, .int .i64 x.co] 48)).alloc (.cells #[.string y.tx, .int .i64 y.co] 48) = w1 := ⟨_, rfl⟩
 obtain ⟨g, hg⟩ : ∃ g, w.heap.size = g := ⟨_, rfl⟩
 have hb1 : Below w.heap.size w w1 := by rw [← hw1]; exact nw _ (nw _ (Below.refl _ _))
 have hX : Blk w1 g 48 #[.string x.tx, .int .i64 x.co] := by rw [← hw1, ← hg]; exact (Blk.new _ _ _).alloc _
 have hY : Blk w1 (g + 1) 48 #[.string y.tx, .int .i64 y.co] := by rw [← hw1]; exact Blk.new_ (by simp; omega)
 have HW1 := Lib.hid hw1
 have HG := Lib.hid hg
 have HB1 := Lib.hid hb1
 have x0 := hX.cell 0
 have x1 := hX.cell 1
 have xl := hX.lt
 have y0 := hY.cell 0
 have y1 := hY.cell 1
 have yl := hY.lt
 simp at x0 x1 y0 y1
 clear hw1 hg hb1 hX hY
 obtain ⟨bb, hbb⟩ : ∃ b, befR x y = b := ⟨_, rfl⟩
 have HBB := Lib.hid hbb
 rw [hbb]
 have hcases : (x.co < y.co ∧ bb = true) ∨ (¬ x.co < y.co ∧ x.co = y.co ∧ ltS x.tx y.tx = bb) ∨ (¬ x.co < y.co ∧ x.co ≠ y.co ∧ bb = false) := by
  rw [← hbb]
  unfold befR
  by_cases h1 : x.co < y.co
  ·exact .inl ⟨h1, by simp [h1]⟩
  ·by_cases h2 : x.co = y.co
   ·exact .inr (.inl ⟨h1, h2, by simp [h2]⟩)
   ·exact .inr (.inr ⟨h1, h2, by simp [h1, h2]⟩)
 clear hbb
 rcases hcases with ⟨h1, rfl⟩ | ⟨h1, h2, h3⟩ | ⟨h1, h2, rfl⟩
 ·go_enter Tryz.func101, Tryz.ntmps101
  go_upto_region 1 with fail
  rw [HW1.out, HG.out]
  go_wp2_with fail
  go_ret
  exact ⟨rfl, HB1.out⟩
 ·have h4 : Op.bytesLess x.tx.toList y.tx.toList = bb := h3
  clear h3
  obtain ⟨xt, xc⟩ := x
  obtain ⟨yt, yc⟩ := y
  simp only at h1 h2 h4 x0 x1 y0 y1
  subst h2
  go_enter Tryz.func101, Tryz.ntmps101
  go_upto_region 1 with fail
  rw [HW1.out, HG.out]
  go_wp2_with fail
  go_ret
  exact ⟨rfl, HB1.out⟩
 ·go_enter Tryz.func101, Tryz.ntmps101
  go_upto_region 1 with fail
  rw [HW1.out, HG.out]
  go_wp2_with fail
  go_ret
  exact ⟨rfl, HB1.out⟩
def encRu5 (r : Ru) : List Value := [.int .i64 r.fr, .int .i64 r.to, .string r.inp, .string r.out, .int .i64 r.co]
set_option maxHeartbeats 4000000 in
theorem simple_any (a b : Int) (i o : ByteArray) (w : World) : Calls Tryz.prog 49 #[.agg #[.int .i64 a, .int .i64 b], .string i, .string o] w fun e w' => e = .returned (.agg #[.int .i64 a, .int .i64 b, .string i, .string o, .int .i64 (i.size : Int)]) ∧ Below w.heap.size w w' := by
 obtain ⟨w1, hw1⟩ : ∃ w1, w.alloc (.cells #[.int .i64 a, .int .i64 b] 100) = w1 := ⟨_, rfl⟩
 obtain ⟨g, hg⟩ : ∃ g, w.heap.size = g := ⟨_, rfl⟩
 have hb1 : Below w.heap.size w w1 := by rw [← hw1]; exact nw _ (Below.refl _ _)
 have hB : Blk w1 g 100 #[.int .i64 a, .int .i64 b] := by rw [← hw1, ← hg]; exact Blk.new _ _ _
 obtain ⟨w2, hw2⟩ : ∃ w2, w1.alloc (.cells #[.int .i64 0, .int .i64 0, .string ⟨#[]⟩, .string ⟨#[]⟩, .int .i64 0] 61) = w2 := ⟨_, rfl⟩
 have hb2 : Below w.heap.size w w2 := by rw [← hw2, ← hw1]; exact nw _ (nw _ (Below.refl _ _))
 have hC : Blk w2 (g + 1) 61 #[.int .i64 0, .int .i64 0, .string ⟨#[]⟩, .string ⟨#[]⟩, .int .i64 0] := by rw [← hw2]; exact Blk.new_ (by rw [← hw1, ← hg]; simp)
 have hB2 : Blk w2 g 100 #[.int .i64 a, .int .i64 b] := by rw [← hw2]; exact hB.alloc _
 have hgw : w.heap.size ≤ g + 1 := by omega
 have HW1 := Lib.hid hw1
 have HW2 := Lib.hid hw2
 have HG := Lib.hid hg
 have c0 := hB2.cell 0
 have c1 := hB2.cell 1
 have cl := hB2.lt
 have d0 := hC.cell 0
 have d1 := hC.cell 1
 have d2 := hC.cell 2
 have d3 := hC.cell 3
 have d4 := hC.cell 4
 have dl := hC.lt
 have f0 := hC.frozen 0
 have f1 := hC.frozen 1
 have f2 := hC.frozen 2
 have f3 := hC.frozen 3
 have f4 := hC.frozen 4
 simp at c0 c1 d0 d1 d2 d3 d4
 have HE := Lib.hid (((((hC.set_ 0 (.int .i64 a)).set_ 1 (.int .i64 b)).set_ 2 (.string i)).set_ 3 (.string o)).set_ 4 (.int .i64 (i.size : Int)))
 have HBE := Lib.hid (((((hb2.setCell (p := ⟨g + 1, 0, none⟩) hgw (.int .i64 a)).setCell (p := ⟨g + 1, 1, none⟩) hgw (.int .i64 b)).setCell (p := ⟨g + 1, 2, none⟩) hgw (.string i)).setCell (p := ⟨g + 1, 3, none⟩) hgw (.string o)).setCell (p := ⟨g + 1, 4, none⟩) hgw (.int .i64 (i.size : Int)))
 clear hw1 hg hb1 hB hw2 hB2 hC hb2
 go_enter Tryz.func49, Tryz.ntmps49
 go_upto_region 1 with fail
 rw [HW1.out, HG.out, HW2.out]
 go_wp2_with fail
 obtain ⟨W, hW⟩ : ∃ W, (((((w2.setCell ⟨g + 1, 0, none⟩ (.int .i64 a)).setCell ⟨g + 1, 1, none⟩ (.int .i64 b)).setCell ⟨g + 1, 2, none⟩ (.string i)).setCell ⟨g + 1, 3, none⟩ (.string o)).setCell ⟨g + 1, 4, none⟩ (.int .i64 (i.size : Int))) = W := ⟨_, rfl⟩
 have hE := HE.out
 have hbE := HBE.out
 rw [hW] at hE hbE ⊢
 clear hW HE HBE
 have q0 := hE.cell 0
 have q1 := hE.cell 1
 have q2 := hE.cell 2
 have q3 := hE.cell 3
 have q4 := hE.cell 4
 simp at q0 q1 q2 q3 q4
 refine bodyPost_ret (v := .agg #[.int .i64 a, .int .i64 b, .string i, .string o, .int .i64 (i.size : Int)]) (by simp [results, Tryz.results49, go_sem, q0, q1, q2, q3, q4]; done) rfl ?_
 exact ⟨rfl, hbE⟩
def abcL (x : Int) : ByteArray := (ByteArray.mk #[97, 98, 99]).extract (x % 3).toNat (x % 3 + 1).toNat
theorem abcL_cases (x : Int) : abcL x = ByteArray.mk #[97] ∨ abcL x = ByteArray.mk #[98] ∨ abcL x = ByteArray.mk #[99] := by
 have h : x % 3 = 0 ∨ x % 3 = 1 ∨ x % 3 = 2 := by omega
 unfold abcL
 rcases h with h | h | h
 ·rw [h]; exact .inl (by rfl)
 ·rw [h]; exact .inr (.inl (by rfl))
 ·rw [h]; exact .inr (.inr (by rfl))
theorem abcL_ok (x : Int) : (abcL x).size = 1 ∧ smallS (abcL x) = true := by
 rcases abcL_cases x with h | h | h <;> rw [h] <;> exact ⟨by rfl, by decide +kernel⟩
end Go.Proofs.YtfpnhgahkjglgaaGreat
