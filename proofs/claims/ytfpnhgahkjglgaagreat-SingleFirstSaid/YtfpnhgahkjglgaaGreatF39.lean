/-
  SiWalkH, SiSan, SiLawA, joined. No conditions.
-/
import Derived.Test.YtfpnhgahkjglgaaGreatF38
import Derived.Test.YtfpnhgahkjglgaaGreatF21
import Derived.Test.YtfpnhgahkjglgaaGreatF22
import Derived.Test.YtfpnhgahkjglgaaGreatF16
set_option maxRecDepth 100000
namespace Go.Proofs.YtfpnhgahkjglgaaGreat
open Go Go.RowKit Go.Maps
theorem two_rs {w : World} {B : Option Addr} {x y : Rs} (h : SlR 2 RRs w B [x, y]) : ∃ b off, B = some ⟨b, off, none⟩ ∧ b < w.heap.size ∧ w.cell? ⟨b, off, none⟩ = some (.string x.tx) ∧ w.cell? ⟨b, off + 1, none⟩ = some (.int .i64 x.co) ∧ w.cell? ⟨b, off + 2, none⟩ = some (.string y.tx) := by
 obtain ⟨b, off, hA, hb, hk⟩ := h (by simp)
 obtain ⟨vs, h1, _, h3⟩ := hk 0 x rfl
 obtain ⟨vs', h1', _, h3'⟩ := hk 1 y rfl
 have e1 := h3 0 (.string x.tx) (by rw [h1]; rfl)
 have e2 := h3 1 (.int .i64 x.co) (by rw [h1]; rfl)
 have e3 := h3' 0 (.string y.tx) (by rw [h1']; rfl)
 simp only [Nat.zero_mul, Nat.one_mul, Nat.add_zero] at e1 e2 e3
 exact ⟨b, off, hA, hb, e1, e2, e3⟩
theorem three_ne {w : World} {g b off : Nat} {t : TypeId} {a1 a2 a3 : ByteArray} {z : Int} (h : Blk w g t #[.string a1, .string a2, .string a3]) (hc : w.cell? ⟨b, off, none⟩ = some (.int .i64 z)) : b ≠ g := fun e => by
 subst e
 rw [h.cell] at hc
 match off, hc with
 | 0, hc => simp at hc
 | 1, hc => simp at hc
 | 2, hc => simp at hc
 | n + 3, hc => simp at hc
def IsChkR (s : Sc) (w : World) (e : Ending) (w' : World) : Prop := ∃ ti ta tb er, e = .returned (.tuple #[.agg #[.string ti, .string ta, .string tb], .int .i64 er]) ∧ ChkP s ti ta tb er ∧ Below w.heap.size w w'
set_option maxHeartbeats 16000000 in
theorem scheck_any (s : Sc) (A : Option Addr) (c : Nat) (w : World) (hs : ScIn w s A c) (hfl : ScOK s → SoundP s → FlatR s) : Calls Tryz.prog 9 #[.agg #[.int .i64 s.n, .int .u8 s.acc, .slice A s.rs.length c]] w (IsChkR s w) := by
 obtain ⟨w2, hw2⟩ : ∃ w2, (w.alloc (.cells #[.int .i64 s.n, .int .u8 s.acc, .slice A s.rs.length c] 30)).alloc (.cells #[.string { data := #[] }, .string { data := #[] }, .string { data := #[] }] 33) = w2 := ⟨_, rfl⟩
 obtain ⟨gb, hgb⟩ : ∃ g, w.heap.size = g := ⟨_, rfl⟩
 obtain ⟨gr, hgr⟩ : ∃ h, gb + 1 = h := ⟨_, rfl⟩
 have hb2 : Below w.heap.size w w2 := by rw [← hw2]; exact nw _ (nw _ (Below.refl _ _))
 have hB : Blk w2 gb 30 #[.int .i64 s.n, .int .u8 s.acc, .slice A s.rs.length c] := by rw [← hw2, ← hgb]; exact (Blk.new _ _ _).alloc _
 have hC : Blk w2 gr 33 #[.string { data := #[] }, .string { data := #[] }, .string { data := #[] }] := by rw [← hw2]; exact Blk.new_ (by simp; omega)
 have hgrw : w.heap.size ≤ gr := by omega
 have HS2 := Lib.hid (hs.below hb2)
 have HW2 := Lib.hid hw2
 have HB2 := Lib.hid hb2
 have HC := Lib.hid hC
 have HG := Lib.hid hgb
 have HGR := Lib.hid hgr
 have HFL := Lib.hid hfl
 have HCE : Hid (∀ W, Below w2.heap.size w2 W → W.cell? ⟨gb, 0, none⟩ = some (.int .i64 s.n) ∧ W.cell? ⟨gb, 1, none⟩ = some (.int .u8 s.acc) ∧ W.cell? ⟨gb, 2, none⟩ = some (.slice A s.rs.length c) ∧ gb < W.heap.size) := fun W hW => by
  have e1 := hB.below hW hB.lt
  exact ⟨by rw [e1.cell]; rfl, by rw [e1.cell]; rfl, by rw [e1.cell]; rfl, e1.lt⟩
 have HSN := Lib.hid (sound05_any s A c w2 HS2.out)
 obtain ⟨se, hse⟩ : ∃ z, soundE s = z := ⟨_, rfl⟩
 have HSE := Lib.hid hse
 rw [hse] at HSN
 obtain ⟨b0, b1, b2, bl⟩ := HCE.out _ (Below.refl _ _)
 clear hs hw2 hb2 hB hC hgb hgr hfl hse
 by_cases hz : se = 0
 ·subst hz
  go_enter Tryz.func9, Tryz.ntmps9
  go_upto_region 1 with fail
  rw [HW2.out, HG.out, HGR.out]
  go_upto_region 3 with (go_at_call 26; go_loud (refine HSN.out.mono ?_; rintro e W3 ⟨rfl, hb3⟩; have HB3 := Lib.hid hb3; clear hb3))
  obtain ⟨hok, hsp⟩ := soundE_iff.1 HSE.out
  have HOK := Lib.hid hok
  have HFR := Lib.hid (HFL.out hok hsp)
  have HFI := Lib.hid (sfirst_any s A c W3 (HS2.out.below HB3.out) hok)
  clear b0 b1 b2 bl hok hsp
  obtain ⟨b0, b1, b2, bl⟩ := HCE.out _ HB3.out
  go_upto_region 4 with (go_at_call 27; go_loud (refine HFI.out.mono ?_; rintro e W4 ⟨o, rfl, hf, hb4⟩; have HF := Lib.hid hf; have HBW4 : Hid (Below w.heap.size w W4) := bthen HB2.out (bthen HB3.out hb4); have HB24 := Lib.hid (bthen HB3.out hb4); clear hf hb4))
  have HC4 := Lib.hid (HC.out.below HB24.out HC.out.lt)
  have hC := HC4.out
  have r0 := hC.cell 0
  have r1 := hC.cell 1
  have r2 := hC.cell 2
  have rf0 := hC.frozen 0
  have rf1 := hC.frozen 1
  have rf2 := hC.frozen 2
  have rl := hC.lt
  simp at r0 r1 r2
  cases o with
  | none =>
   go_wp2_with fail
   have hE := (((hC.set_ 0 (.string { data := #[] })).set_ 1 (.string { data := #[] })).set_ 2 (.string { data := #[] }))
   have hbE := (((HBW4.out.setCell (p := ⟨gr, 0, none⟩) hgrw (.string { data := #[] })).setCell (p := ⟨gr, 1, none⟩) hgrw (.string { data := #[] })).setCell (p := ⟨gr, 2, none⟩) hgrw (.string { data := #[] }))
   obtain ⟨w5, hw5⟩ : ∃ W, (((W4.setCell ⟨gr, 0, none⟩ (.string { data := #[] })).setCell ⟨gr, 1, none⟩ (.string { data := #[] })).setCell ⟨gr, 2, none⟩ (.string { data := #[] })) = W := ⟨_, rfl⟩
   rw [hw5] at hE hbE ⊢
   have z0 := hE.cell 0
   have z1 := hE.cell 1
   have z2 := hE.cell 2
   simp at z0 z1 z2
   refine bodyPost_ret (v := .tuple #[.agg #[.string { data := #[] }, .string { data := #[] }, .string { data := #[] }], .int .i64 0]) (by simp [results, Tryz.results9, go_sem, z0, z1, z2]; done) rfl ?_
   exact ⟨_, _, _, _, rfl, .inr (.inl ⟨HSE.out, HF.out, rfl, rfl, rfl, rfl⟩), hbE⟩
  | some u =>
   have HBE := Lib.hid (best05_any s A c (ba u) 2 W4 (HS2.out.below HB24.out) (fun _ _ => HFR.out) (by have := HF.out.2; show u.length ≤ _; unfold maxLen; omega) (by decide) (by decide))
   clear b0 b1 b2 bl hC r0 r1 r2 rf0 rf1 rf2 rl
   obtain ⟨b0, b1, b2, bl⟩ := HCE.out _ HB24.out
   go_upto_region 7 with (go_at_call 18; go_loud (refine HBE.out.mono ?_; rintro e W5 ⟨l, er, B, cb, rfl, hbr, hcb, hsl, hb5⟩; have HBR := Lib.hid hbr; have HSL := Lib.hid hsl; have HB5 := Lib.hid hb5; clear hbr hsl hb5))
   rcases chk_best HSE.out (fun _ _ => HFR.out) HF.out HBR.out with ⟨rfl, rfl, hbig⟩ | ⟨x, y, rr, rfl, rfl, hnb, hbl⟩
   ·have HBG := Lib.hid hbig
    have hC := HC4.out.below HB5.out HC4.out.lt
    have r0 := hC.cell 0
    have r1 := hC.cell 1
    have r2 := hC.cell 2
    have rf0 := hC.frozen 0
    have rf1 := hC.frozen 1
    have rf2 := hC.frozen 2
    have rl := hC.lt
    simp at r0 r1 r2
    clear hbig b0 b1 b2 bl
    go_wp2_with fail
    have hE := (((hC.set_ 0 (.string { data := #[] })).set_ 1 (.string { data := #[] })).set_ 2 (.string { data := #[] }))
    have hbE := ((((bthen HBW4.out HB5.out).setCell (p := ⟨gr, 0, none⟩) hgrw (.string { data := #[] })).setCell (p := ⟨gr, 1, none⟩) hgrw (.string { data := #[] })).setCell (p := ⟨gr, 2, none⟩) hgrw (.string { data := #[] }))
    obtain ⟨w5, hw5⟩ : ∃ W, (((W5.setCell ⟨gr, 0, none⟩ (.string { data := #[] })).setCell ⟨gr, 1, none⟩ (.string { data := #[] })).setCell ⟨gr, 2, none⟩ (.string { data := #[] })) = W := ⟨_, rfl⟩
    rw [hw5] at hE hbE ⊢
    have z0 := hE.cell 0
    have z1 := hE.cell 1
    have z2 := hE.cell 2
    simp at z0 z1 z2
    refine bodyPost_ret (v := .tuple #[.agg #[.string { data := #[] }, .string { data := #[] }, .string { data := #[] }], .int .i64 2]) (by simp [results, Tryz.results9, go_sem, z0, z1, z2]; done) rfl ?_
    exact ⟨_, _, _, _, rfl, .inr (.inr ⟨HSE.out, u, HF.out, .inl ⟨HBG.out, rfl, rfl, rfl, rfl⟩⟩), hbE⟩
   ·have HNB := Lib.hid hnb
    have HBL := Lib.hid hbl
    obtain ⟨bb, off, rfl, hbb, d0, d1, d2⟩ := two_rs HSL.out
    have HC5 := Lib.hid (HC4.out.below HB5.out HC4.out.lt)
    have hne : bb ≠ gr := three_ne HC5.out d1
    have HBW5 : Hid (Below w.heap.size w W5) := bthen HBW4.out HB5.out
    clear hnb hbl b0 b1 b2 bl d1
    go_upto_region 9 with fail
    refine ordB_start (ButB gr W5) (.quiet 0 (.quiet 1 (.quiet 2 (.quiet 3 (.quiet 4 (.quiet 5 (.quiet 6 (.quiet 7 (.quiet 8 (.quiet 9 (.only 10 (.quiet 11 .done)))))))))))) (by kernel_rfl) (by kernel_rfl) (by kernel_rfl) (fun _ _ _ _ _ h => h) (ButB.of_below (Below.refl _ _).drew) ?_
    have hV0 : ButB gr W5 W5.drew := ButB.of_below (Below.refl _ _).drew
    have hC : Blk W5.drew gr 33 #[.string { data := #[] }, .string { data := #[] }, .string { data := #[] }] := HC5.out
    have hB0 : Below w.heap.size w W5.drew := HBW5.out.drew
    obtain ⟨V0, qqV0⟩ : ∃ W, W5.drew = W := ⟨_, rfl⟩
    rw [qqV0] at hV0 hC hB0 ⊢
    clear qqV0
    iterate 10 ((first | refine ordB_skip rfl rfl ?_ | (refine ordB_take (v := ?_) rfl rfl ?_ ?_; rotate_left 1; (focus (intro W hW; have hcW := hW.cell; (go_simp <;> with_reducible rfl))))); simp only [Act.put, zA, zB, zC])
    refine ordB_only (opB_call rfl rfl (fun K hK => ?_))
    have r0 := hC.cell 0
    have r1 := hC.cell 1
    have r2 := hC.cell 2
    have f0 := hC.frozen 0
    have f1 := hC.frozen 1
    have f2 := hC.frozen 2
    have rl := hC.lt
    simp at r0 r1 r2
    go_simp
    refine hK.out _ _ (((hV0.set_ 0 (.string (ba u))).set_ 1 (.string x.tx)).set_ 2 (.string y.tx)) (fun hV0_1 => ?_)
    clear hK K
    have hE := ((hC.set_ 0 (.string (ba u))).set_ 1 (.string x.tx)).set_ 2 (.string y.tx)
    have hbE := ((hB0.setCell (p := ⟨gr, 0, none⟩) hgrw (.string (ba u))).setCell (p := ⟨gr, 1, none⟩) hgrw (.string x.tx)).setCell (p := ⟨gr, 2, none⟩) hgrw (.string y.tx)
    obtain ⟨V0_1, qq⟩ : ∃ W', (((V0.setCell ⟨gr, 0, none⟩ (.string (ba u))).setCell ⟨gr, 1, none⟩ (.string x.tx)).setCell ⟨gr, 2, none⟩ (.string y.tx)) = W' := ⟨_, rfl⟩
    rw [qq] at hV0_1 hE hbE ⊢
    clear qq r0 r1 r2 f0 f1 f2 rl hC hB0
    iterate 1 ((first | refine ordB_skip rfl rfl ?_ | (refine ordB_take (v := ?_) rfl rfl ?_ ?_; rotate_left 1; (focus (intro W hW; have hcW := hW.cell; (go_simp <;> with_reducible rfl))))); simp only [Act.put, zA, zB, zC])
    refine ordB_nil ?_
    clear hV0_1
    go_wp2_with fail
    have z0 := hE.cell 0
    have z1 := hE.cell 1
    have z2 := hE.cell 2
    simp at z0 z1 z2
    refine bodyPost_ret (v := .tuple #[.agg #[.string (ba u), .string x.tx, .string y.tx], .int .i64 80]) (by simp [results, Tryz.results9, go_sem, z0, z1, z2]; done) rfl ?_
    exact ⟨_, _, _, _, rfl, .inr (.inr ⟨HSE.out, u, HF.out, .inr ⟨HNB.out, x, y, rr, HBL.out, rfl, rfl, rfl, rfl⟩⟩), hbE⟩
 ·have hz1 : (se != 0) = true := by simpa using hz
  have HNZ := Lib.hid hz
  have hC := HC.out
  go_enter Tryz.func9, Tryz.ntmps9
  go_upto_region 1 with fail
  rw [HW2.out, HG.out, HGR.out]
  clear hC
  go_upto_region 2 with (go_at_call 26; go_loud (refine HSN.out.mono ?_; rintro e W3 ⟨rfl, hb3⟩; have HB3 := Lib.hid hb3; clear hb3))
  have hC := HC.out.below HB3.out HC.out.lt
  have r0 := hC.cell 0
  have r1 := hC.cell 1
  have r2 := hC.cell 2
  have rf0 := hC.frozen 0
  have rf1 := hC.frozen 1
  have rf2 := hC.frozen 2
  have rl := hC.lt
  simp at r0 r1 r2
  go_wp2_with fail
  have hE := (((hC.set_ 0 (.string { data := #[] })).set_ 1 (.string { data := #[] })).set_ 2 (.string { data := #[] }))
  have hbE := ((((bthen HB2.out HB3.out).setCell (p := ⟨gr, 0, none⟩) hgrw (.string { data := #[] })).setCell (p := ⟨gr, 1, none⟩) hgrw (.string { data := #[] })).setCell (p := ⟨gr, 2, none⟩) hgrw (.string { data := #[] }))
  obtain ⟨w5, hw5⟩ : ∃ W, (((W3.setCell ⟨gr, 0, none⟩ (.string { data := #[] })).setCell ⟨gr, 1, none⟩ (.string { data := #[] })).setCell ⟨gr, 2, none⟩ (.string { data := #[] })) = W := ⟨_, rfl⟩
  rw [hw5] at hE hbE ⊢
  have z0 := hE.cell 0
  have z1 := hE.cell 1
  have z2 := hE.cell 2
  simp at z0 z1 z2
  refine bodyPost_ret (v := .tuple #[.agg #[.string { data := #[] }, .string { data := #[] }, .string { data := #[] }], .int .i64 20]) (by simp [results, Tryz.results9, go_sem, z0, z1, z2]; done) rfl ?_
  exact ⟨_, _, _, _, rfl, .inl ⟨fun h => HNZ.out (HSE.out.symm.trans h), rfl, rfl, rfl, rfl⟩, hbE⟩
def IsIsR (s : Sc) (w : World) (e : Ending) (w' : World) : Prop := ∃ b : Bool, e = .returned (.bool b) ∧ (b = true ↔ soundE s = 0 ∧ FirstTo s none) ∧ Below w.heap.size w w'
set_option maxHeartbeats 8000000 in
theorem sis_any (s : Sc) (A : Option Addr) (c : Nat) (w : World) (hs : ScIn w s A c) (hfl : ScOK s → SoundP s → FlatR s) : Calls Tryz.prog 11 #[.agg #[.int .i64 s.n, .int .u8 s.acc, .slice A s.rs.length c]] w (IsIsR s w) := by
 obtain ⟨w1, hw1⟩ : ∃ w1, w.alloc (.cells #[.int .i64 s.n, .int .u8 s.acc, .slice A s.rs.length c] 30) = w1 := ⟨_, rfl⟩
 obtain ⟨gb, hgb⟩ : ∃ g, w.heap.size = g := ⟨_, rfl⟩
 have hb1 : Below w.heap.size w w1 := by rw [← hw1]; exact nw _ (Below.refl _ _)
 have hB : Blk w1 gb 30 #[.int .i64 s.n, .int .u8 s.acc, .slice A s.rs.length c] := by rw [← hw1, ← hgb]; exact Blk.new _ _ _
 have HC := Lib.hid (scheck_any s A c w1 (hs.below hb1) hfl)
 have HW1 := Lib.hid hw1
 have HB1 := Lib.hid hb1
 have HG := Lib.hid hgb
 have b0 := hB.cell 0
 have b1 := hB.cell 1
 have b2 := hB.cell 2
 have bl := hB.lt
 simp at b0 b1 b2
 clear hs hw1 hb1 hgb hB hfl
 go_enter Tryz.func11, Tryz.ntmps11
 go_upto_region 1 with fail
 rw [HW1.out, HG.out]
 go_upto_region 2 with (go_at_call 9; go_loud (refine HC.out.mono ?_; rintro e W2 ⟨ti, ta, tb, er, rfl, hck, hb2⟩; have HCK := Lib.hid hck; have HB2 := Lib.hid hb2; clear hck hb2))
 have hbE : Below w.heap.size w (W2.alloc (.cells #[.string ti, .string ta, .string tb] 33)) := by
  have h := bthen HB1.out HB2.out
  exact h.alloc h.size _
 by_cases hz : er = 0
 ·subst hz
  have hok := HCK.out.ok.1 rfl
  have HOK := Lib.hid hok
  clear hok
  go_wp2_with fail
  go_ret
  exact ⟨true, rfl, ⟨fun _ => HOK.out, fun _ => rfl⟩, hbE⟩
 ·have hz1 : (er == 0) = false := by simpa using hz
  have HNZ := Lib.hid hz
  clear hz
  go_wp2_with fail
  go_ret
  exact ⟨false, rfl, ⟨fun h => (by cases h), fun h => absurd (HCK.out.ok.2 h) HNZ.out⟩, hbE⟩
theorem neg_or (r : Int) : r < 0 ∨ 0 ≤ r := by omega
def IsPrvR (s : Sc) (ti ta tb : ByteArray) (w : World) (e : Ending) (w' : World) : Prop := ∃ b : Bool, e = .returned (.bool b) ∧ (b = true ↔ PrvP s ti ta tb) ∧ Below w.heap.size w w'
set_option maxHeartbeats 8000000 in
theorem sproves_any (s : Sc) (A : Option Addr) (c : Nat) (ti ta tb : ByteArray) (w : World) (hs : ScIn w s A c) (hfl : ScOK s → SoundP s → FlatR s) (hti : ti.size ≤ maxLen) (hta : ta.size ≤ 1000) (htb : tb.size ≤ 1000) :
 Calls Tryz.prog 12 #[.agg #[.int .i64 s.n, .int .u8 s.acc, .slice A s.rs.length c], .agg #[.string ti, .string ta, .string tb]] w (IsPrvR s ti ta tb w) := by
 obtain ⟨w2, hw2⟩ : ∃ w2, (w.alloc (.cells #[.int .i64 s.n, .int .u8 s.acc, .slice A s.rs.length c] 30)).alloc (.cells #[.string ti, .string ta, .string tb] 33) = w2 := ⟨_, rfl⟩
 obtain ⟨gb, hgb⟩ : ∃ g, w.heap.size = g := ⟨_, rfl⟩
 obtain ⟨gt, hgt⟩ : ∃ h, gb + 1 = h := ⟨_, rfl⟩
 have hb2 : Below w.heap.size w w2 := by rw [← hw2]; exact nw _ (nw _ (Below.refl _ _))
 have hB : Blk w2 gb 30 #[.int .i64 s.n, .int .u8 s.acc, .slice A s.rs.length c] := by rw [← hw2, ← hgb]; exact (Blk.new _ _ _).alloc _
 have hT : Blk w2 gt 33 #[.string ti, .string ta, .string tb] := by rw [← hw2]; exact Blk.new_ (by simp; omega)
 have HS2 := Lib.hid (hs.below hb2)
 have HW2 := Lib.hid hw2
 have HB2 := Lib.hid hb2
 have HG := Lib.hid hgb
 have HGT := Lib.hid hgt
 have HCE : Hid (∀ W, Below w2.heap.size w2 W → W.cell? ⟨gb, 0, none⟩ = some (.int .i64 s.n) ∧ W.cell? ⟨gb, 1, none⟩ = some (.int .u8 s.acc) ∧ W.cell? ⟨gb, 2, none⟩ = some (.slice A s.rs.length c) ∧ gb < W.heap.size ∧ W.cell? ⟨gt, 0, none⟩ = some (.string ti) ∧ W.cell? ⟨gt, 1, none⟩ = some (.string ta) ∧ W.cell? ⟨gt, 2, none⟩ = some (.string tb) ∧ gt < W.heap.size) := fun W hW => by
  have e1 := hB.below hW hB.lt
  have e2 := hT.below hW hT.lt
  exact ⟨by rw [e1.cell]; rfl, by rw [e1.cell]; rfl, by rw [e1.cell]; rfl, e1.lt, by rw [e2.cell]; rfl, by rw [e2.cell]; rfl, by rw [e2.cell]; rfl, e2.lt⟩
 have HSN := Lib.hid (sound05_any s A c w2 HS2.out)
 have HC1 : Hid (∀ W, Below w2.heap.size w2 W → Calls Tryz.prog 29 #[.agg #[.int .i64 s.n, .int .u8 s.acc, .slice A s.rs.length c], .string ti, .string ta] W fun e w' => (∃ r, e = .returned (.int .i64 r) ∧ CostOf s ti ta r) ∧ Below W.heap.size W w') := fun W hW => cost05_any s A c ti ta W (HS2.out.below hW) hfl hti hta
 have HC2 : Hid (∀ W, Below w2.heap.size w2 W → Calls Tryz.prog 29 #[.agg #[.int .i64 s.n, .int .u8 s.acc, .slice A s.rs.length c], .string ti, .string tb] W fun e w' => (∃ r, e = .returned (.int .i64 r) ∧ CostOf s ti tb r) ∧ Below W.heap.size W w') := fun W hW => cost05_any s A c ti tb W (HS2.out.below hW) hfl hti htb
 obtain ⟨se, hse⟩ : ∃ z, soundE s = z := ⟨_, rfl⟩
 have HSE := Lib.hid hse
 rw [hse] at HSN
 obtain ⟨b0, b1, b2, bl, t0, t1, t2, tl⟩ := HCE.out _ (Below.refl _ _)
 clear hs hw2 hb2 hB hT hgb hgt hfl hse hti hta htb
 by_cases hz : se = 0
 ·subst hz
  by_cases heq : ta = tb
  ·have h1 : (ta.toList == tb.toList) = true := by rw [heq]; simp
   have HEQ := Lib.hid heq
   clear heq
   go_enter Tryz.func12, Tryz.ntmps12
   go_upto_region 1 with fail
   rw [HW2.out, HG.out, HGT.out]
   go_wp2_with (go_at_call 26; go_loud (refine HSN.out.mono ?_; rintro e W3 ⟨rfl, hb3⟩; have HB3 := Lib.hid hb3; clear hb3; obtain ⟨b0, b1, b2, bl, t0, t1, t2, tl⟩ := HCE.out _ HB3.out))
   go_ret
   exact ⟨false, rfl, ⟨fun h => (by cases h), fun h => absurd HEQ.out h.2.1⟩, bthen HB2.out HB3.out⟩
  ·have h1 : (ta.toList == tb.toList) = false := by rw [beq_eq_false_iff_ne]; exact fun e => heq (toL_inj e)
   have HNE := Lib.hid heq
   clear heq
   go_enter Tryz.func12, Tryz.ntmps12
   go_upto_region 1 with fail
   rw [HW2.out, HG.out, HGT.out]
   go_upto_region 3 with (go_at_call 26; go_loud (refine HSN.out.mono ?_; rintro e W3 ⟨rfl, hb3⟩; have HB3 := Lib.hid hb3; clear hb3; obtain ⟨b0, b1, b2, bl, t0, t1, t2, tl⟩ := HCE.out _ HB3.out))
   go_wp2_with (go_at_call 29; go_loud (first | (with_reducible refine (HC2.out _ (HB3.out.trans (hb4.mono HB3.out.size))).mono ?_; rintro e W5 ⟨⟨r2, rfl, hr2⟩, hb5⟩; have HR2 := Lib.hid hr2; have HB5 := Lib.hid hb5; clear hr2 hb5) | (with_reducible refine (HC1.out _ HB3.out).mono ?_; rintro e W4 ⟨⟨r1, rfl, hr1⟩, hb4⟩; have HR1 := Lib.hid hr1; clear hr1; obtain ⟨b0, b1, b2, bl, t0, t1, t2, tl⟩ := HCE.out _ (HB3.out.trans (hb4.mono HB3.out.size)); rcases neg_or r1 with hn | hn)))
   ·go_ret
    exact ⟨false, rfl, ⟨fun h => (by cases h), fun h => absurd ((cost_ge HR1.out).2 ⟨h.1, h.2.2.1, h.2.2.2.1⟩) (by omega)⟩, bthen HB2.out (bthen HB3.out hb4)⟩
   ·go_ret
    refine ⟨decide (0 ≤ r2), rfl, ?_, bthen HB2.out (bthen HB3.out (bthen hb4 HB5.out))⟩
    rw [decide_eq_true_iff, cost_ge HR2.out]
    have h1 := (cost_ge HR1.out).1 hn
    exact ⟨fun h => ⟨h.1, HNE.out, h.2.1, h1.2.2, h.2.2⟩, fun h => ⟨h.1, h.2.2.1, h.2.2.2.2⟩⟩
 ·have hz1 : (se != 0) = true := by simpa using hz
  have HNZ := Lib.hid hz
  clear hz
  go_enter Tryz.func12, Tryz.ntmps12
  go_upto_region 1 with fail
  rw [HW2.out, HG.out, HGT.out]
  go_wp2_with (go_at_call 26; go_loud (refine HSN.out.mono ?_; rintro e W3 ⟨rfl, hb3⟩; have HB3 := Lib.hid hb3; clear hb3))
  go_ret
  exact ⟨false, rfl, ⟨fun h => (by cases h), fun h => absurd (HSE.out.symm.trans h.1) HNZ.out⟩, bthen HB2.out HB3.out⟩
end Go.Proofs.YtfpnhgahkjglgaaGreat
namespace Go.Proofs.YtfpnhgahkjglgaaGreat
open Go Go.RowKit List
theorem one_rm {rs : List Ru} (h : ∀ r ∈ rs, r.to = 0) {m : Int} (hm : RM ⟨1, 1, rs⟩ m) : m = 0 := by
 unfold RM at hm
 induction hm with
 | base h => exact h
 | step _ h2 _ =>
  obtain ⟨x, hx, rfl⟩ := mem_map.1 h2
  exact h x hx
theorem one_sound {rs : List Ru} (h : ∀ r ∈ rs, r.to = 0) (hn : ∀ r ∈ rs, r.mute = false) : SoundP ⟨1, 1, rs⟩ where
 live := .base (show accB 1 0 = true by decide)
 stuck m hm := by rw [one_rm h hm]; exact .base (show accB 1 0 = true by decide)
 endl m _ _ hm := by
  cases hm with
  | one h1 h2 _ => rw [hn _ h1] at h2; cases h2
  | more _ h1 h2 _ => rw [hn _ h1] at h2; cases h2
theorem one_flat {rs : List Ru} (n : Int) (a : Int) (hn : ∀ r ∈ rs, r.mute = false) : FlatR ⟨n, a, rs⟩ := fun r _ h1 _ h2 _ _ => by
 rw [hn r h1] at h2
 cases h2
theorem rte_homo {s : Sc} {h : UInt8 → List UInt8} (hh : ∀ r ∈ s.rs, bl r.out = (bl r.inp).flatMap h) {m : Int} {i o : ByteArray} {c : Int} (hr : Rte s m i o c) : bl o = (bl i).flatMap h := by
 induction hr with
 | nil => rfl
 | snoc _ h2 h3 ih => rw [bl_app, bl_app, flatMap_append, ih, hh _ h2]
theorem homo_none {s : Sc} {h : UInt8 → List UInt8} (hh : ∀ r ∈ s.rs, bl r.out = (bl r.inp).flatMap h) : FirstTo s none := fun U _ ht => by
 obtain ⟨x, y, c, d, ⟨_, _, h1⟩, ⟨_, _, h2⟩, h3⟩ := twice_iff.1 (show Twice (schA s) (bl (ba U)) from ht)
 exact h3 (bl_inj ((rte_homo hh h1).trans (rte_homo hh h2).symm))
theorem rte_letters {s : Sc} {m : Int} {i o : ByteArray} {c : Int} (hr : Rte s m i o c) : ∀ a ∈ bl i, ∃ r ∈ s.rs, a ∈ bl r.inp := by
 induction hr with
 | nil => intro a ha; cases ha
 | @snoc m i o c r _ h2 h3 ih =>
  intro a ha
  rw [bl_app] at ha
  rcases mem_append.1 ha with ha | ha
  ·exact ih a ha
  ·exact ⟨_, h2, ha⟩
theorem few_flat {s : Sc} (hF : FlatR s) {inp : ByteArray} (h : ((List.range (inp.size + 1)).all fun i => decide ((pairsL s inp i).length ≤ 2000)) = true) : ¬ Big 2000 s inp := fun ⟨i, hi, hm⟩ => by
 have h1 := List.all_eq_true.1 h i (List.mem_range.2 (by omega))
 have hF : FlatS s inp := pair_flat hF (bl inp)
 refine few_of_list ((pairsL s inp i).map (·.1)) (fun k c hk => ?_) (by rw [List.length_map]; exact of_decide_eq_true h1) hm
 exact List.mem_map.2 ⟨(k, c), (mem_full hF _ _ _).2 hk, rfl⟩
theorem two_first {s : Sc} (hF : FlatR s) {z : UInt8} (hl : ∀ r ∈ s.rs, ∀ a ∈ bl r.inp, a = 97 ∨ a = 98) (h0 : (bestL s (ba [])).length < 2) (h1 : (bestL s (ba [97])).length < 2) (h2 : (bestL s (ba [98])).length < 2) (h3 : z = 98 → (bestL s (ba [97, 97])).length < 2) (hz : z = 97 ∨ z = 98)
 (ht : 2 ≤ (bestL s (ba [97, z])).length) : FirstTo s (some [97, z]) := by
 have hT : ∀ u, Twice (schA s) u ↔ 2 ≤ (bestL s (ba u)).length := fun u => twice_best (inp := ba u) (pair_flat hF _)
 refine ⟨⟨(hT _).2 ht, fun V hV hV2 => ?_⟩, by simp⟩
 have hle := len_of_code (Nat.le_of_lt hV)
 have hb := (hT V).1 hV2
 obtain ⟨x, _, c, _, ⟨_, _, hw⟩, _⟩ := twice_iff.1 (show Twice (schA s) (bl (ba V)) from hV2)
 have hlet : ∀ a ∈ V, a = 97 ∨ a = 98 := fun a ha => by
  obtain ⟨r, hr, ha2⟩ := rte_letters hw a ha
  exact hl r hr a ha2
 match V, hV, hle, hb, hlet with
 | [], _, _, hb, _ => omega
 | [a], _, _, hb, hlet =>
  rcases hlet a mem_cons_self with rfl | rfl <;> omega
 | [a, b], hV, _, hb, hlet =>
  have e : ∀ p q : UInt8, code [p, q] = (p.toNat + 1) * 256 + q.toNat + 1 := fun p q => by simp [code]
  rw [e, e] at hV
  have ha := hlet a mem_cons_self
  have hb2 := hlet b (mem_cons_of_mem _ mem_cons_self)
  have h97 : (97 : UInt8).toNat = 97 := rfl
  have h98 : (98 : UInt8).toNat = 98 := rfl
  rcases hz with rfl | rfl <;> rcases ha with rfl | rfl <;> rcases hb2 with rfl | rfl <;> first | omega | exact absurd hb (Nat.not_le.2 (h3 rfl))
 | a :: b :: c :: t, _, hle, _, _ => simp at hle
def eS1 : Sc := ⟨1, 1, [⟨0, 0, ⟨#[97]⟩, ⟨#[65]⟩, 0⟩, ⟨0, 0, ⟨#[98]⟩, ⟨#[66]⟩, 0⟩]⟩
def eS2 : Sc := ⟨1, 1, [⟨0, 0, ⟨#[97]⟩, ⟨#[65]⟩, 0⟩, ⟨0, 0, ⟨#[97, 97]⟩, ⟨#[65, 65]⟩, 0⟩]⟩
def eS3 : Sc := ⟨1, 1, []⟩
def eS4 : Sc := ⟨0, 0, []⟩
def eS5 : Sc := ⟨1, 1, [⟨0, 0, ⟨#[97]⟩, ⟨#[65]⟩, 0⟩, ⟨0, 0, ⟨#[97, 98]⟩, ⟨#[66]⟩, 0⟩, ⟨0, 0, ⟨#[98]⟩, ⟨#[]⟩, 0⟩]⟩
def eS6 : Sc := ⟨1, 1, [⟨0, 0, ⟨#[97]⟩, ⟨#[120]⟩, 0⟩, ⟨0, 0, ⟨#[97, 97]⟩, ⟨#[121]⟩, 0⟩]⟩
theorem eE1 : soundE eS1 = 0 := soundE_iff.2 ⟨by decide, one_sound (by decide) (by decide)⟩
theorem eE2 : soundE eS2 = 0 := soundE_iff.2 ⟨by decide, one_sound (by decide) (by decide)⟩
theorem eE3 : soundE eS3 = 0 := soundE_iff.2 ⟨by decide, one_sound (by decide) (by decide)⟩
theorem eE4 : soundE eS4 ≠ 0 := fun h => absurd (soundE_iff.1 h).1 (by decide)
theorem eE5 : soundE eS5 = 0 := soundE_iff.2 ⟨by decide, one_sound (by decide) (by decide)⟩
theorem eE6 : soundE eS6 = 0 := soundE_iff.2 ⟨by decide, one_sound (by decide) (by decide)⟩
theorem eF1 : FlatR eS1 := one_flat _ _ (by decide)
theorem eF2 : FlatR eS2 := one_flat _ _ (by decide)
theorem eF3 : FlatR eS3 := one_flat _ _ (by decide)
theorem eF4 : FlatR eS4 := one_flat _ _ (by decide)
theorem eF5 : FlatR eS5 := one_flat _ _ (by decide)
theorem eF6 : FlatR eS6 := one_flat _ _ (by decide)
theorem eN1 : FirstTo eS1 none := homo_none (h := fun a => if a = 97 then [65] else [66]) (by decide)
theorem eN2 : FirstTo eS2 none := homo_none (h := fun _ => [65]) (by decide)
theorem eN3 : FirstTo eS3 none := homo_none (h := fun _ => []) (by decide)
theorem eB5 : bestL eS5 (ba [97, 98]) = [⟨⟨#[65]⟩, 0⟩, ⟨⟨#[66]⟩, 0⟩] := by kernel_rfl
theorem eB6 : bestL eS6 (ba [97, 97]) = [⟨⟨#[120, 120]⟩, 0⟩, ⟨⟨#[121]⟩, 0⟩] := by kernel_rfl
theorem eT5 : FirstTo eS5 (some [97, 98]) := two_first eF5 (by decide) (of_decide_eq_true (by kernel_rfl)) (of_decide_eq_true (by kernel_rfl)) (of_decide_eq_true (by kernel_rfl)) (fun _ => of_decide_eq_true (by kernel_rfl)) (.inr rfl) (by rw [eB5]; decide)
theorem eT6 : FirstTo eS6 (some [97, 97]) := two_first eF6 (by decide) (of_decide_eq_true (by kernel_rfl)) (of_decide_eq_true (by kernel_rfl)) (of_decide_eq_true (by kernel_rfl)) (fun h => absurd h (by decide)) (.inl rfl) (by rw [eB6]; decide)
theorem chk_none {s : Sc} (hE : soundE s = 0) (hN : FirstTo s none) {ti ta tb : ByteArray} {er : Int} (h : ChkP s ti ta tb er) : ti = ByteArray.empty ∧ ta = ByteArray.empty ∧ tb = ByteArray.empty ∧ er = 0 := by
 rcases h with ⟨h1, _⟩ | ⟨_, _, h⟩ | ⟨_, u, h2, _⟩
 ·exact absurd hE h1
 ·exact h
 ·have := firstTo_unique hN h2; cases this
theorem chk_err {s : Sc} (hE : soundE s ≠ 0) {ti ta tb : ByteArray} {er : Int} (h : ChkP s ti ta tb er) : ti = ByteArray.empty ∧ ta = ByteArray.empty ∧ tb = ByteArray.empty ∧ er = 20 := by
 rcases h with ⟨_, h⟩ | ⟨h1, _⟩ | ⟨h1, _⟩
 ·exact h
 ·exact absurd h1 hE
 ·exact absurd h1 hE
theorem chk_two {s : Sc} (hE : soundE s = 0) {u : List UInt8} (hT : FirstTo s (some u)) (hb : ¬ Big 2000 s (ba u)) {x y : Rs} {l : List Rs} (hL : bestL s (ba u) = x :: y :: l) {ti ta tb : ByteArray} {er : Int} (h : ChkP s ti ta tb er) : ti = ba u ∧ ta = x.tx ∧ tb = y.tx ∧ er = 80 := by
 rcases h with ⟨h1, _⟩ | ⟨_, h2, _⟩ | ⟨_, v, h2, h3⟩
 ·exact absurd hE h1
 ·have := firstTo_unique hT h2; cases this
 ·have e := firstTo_unique hT h2
  obtain rfl := Option.some.inj e
  rcases h3 with ⟨h3, _⟩ | ⟨_, x', y', l', h4, h5, h6, h7, h8⟩
  ·exact absurd h3 hb
  ·rw [hL] at h4
   obtain ⟨e1, h4⟩ := List.cons.inj h4
   obtain ⟨e2, _⟩ := List.cons.inj h4
   rw [e1, e2]
   exact ⟨h5, h6, h7, h8⟩
theorem eC5 {ti ta tb : ByteArray} {er : Int} (h : ChkP eS5 ti ta tb er) : ti = ⟨#[97, 98]⟩ ∧ ta = ⟨#[65]⟩ ∧ tb = ⟨#[66]⟩ ∧ er = 80 := chk_two eE5 eT5 (few_flat eF5 (by kernel_rfl)) eB5 h
theorem eC6 {ti ta tb : ByteArray} {er : Int} (h : ChkP eS6 ti ta tb er) : ti = ⟨#[97, 97]⟩ ∧ ta = ⟨#[120, 120]⟩ ∧ tb = ⟨#[121]⟩ ∧ er = 80 := chk_two eE6 eT6 (few_flat eF6 (by kernel_rfl)) eB6 h
theorem cost_at {s : Sc} (hF : FlatR s) (hc : ∀ r ∈ s.rs, 0 ≤ r.co) {i o : ByteArray} {r : Int} (h : costL s i o = r) : IsCost s i o r := h ▸ isCost_costL (pair_flat hF _) hc _
theorem eP1 : PrvP eS6 ⟨#[97, 97, 97]⟩ ⟨#[120, 121]⟩ ⟨#[121, 120]⟩ := by
 have h1 : IsCost eS6 ⟨#[97, 97, 97]⟩ ⟨#[120, 121]⟩ 0 := cost_at eF6 (by decide) (by kernel_rfl)
 have h2 : IsCost eS6 ⟨#[97, 97, 97]⟩ ⟨#[121, 120]⟩ 0 := cost_at eF6 (by decide) (by kernel_rfl)
 refine ⟨eE6, by decide, by kernel_rfl, ?_, ?_⟩
 ·rcases h1 with ⟨h, _⟩ | ⟨_, h, _⟩
  ·cases h
  ·exact ⟨_, h⟩
 ·rcases h2 with ⟨h, _⟩ | ⟨_, h, _⟩
  ·cases h
  ·exact ⟨_, h⟩
theorem eP2 : ¬ PrvP eS6 ⟨#[97, 97]⟩ ⟨#[121]⟩ ⟨#[121]⟩ := fun h => h.2.1 rfl
theorem eP3 : ¬ PrvP eS6 ⟨#[97]⟩ ⟨#[120]⟩ ⟨#[121]⟩ := fun h => by
 have h2 : IsCost eS6 ⟨#[97]⟩ ⟨#[121]⟩ (-1) := cost_at eF6 (by decide) (by kernel_rfl)
 obtain ⟨c, hc⟩ := h.2.2.2.2
 rcases h2 with ⟨_, h⟩ | ⟨h, _⟩
 ·exact h c hc
 ·exact absurd h (by decide)
end Go.Proofs.YtfpnhgahkjglgaaGreat
namespace Go.Proofs.YtfpnhgahkjglgaaGreat
open Go Go.RowKit Go.Maps
theorem run_eqTw (x1 x2 x3 y1 y2 y3 : ByteArray) (W : World) : (Op.equalIn 10000 33 (.agg #[.string x1, .string x2, .string x3]) (.agg #[.string y1, .string y2, .string y3])).run Tryz.prog W = .ok (decide (x1 = y1 ∧ x2 = y2 ∧ x3 = y3)) W := by
 rw [run_equalIn_agg W 9999 _ _ _ (by kernel_rfl) (by kernel_rfl)]
 have hf : (Tryz.prog.fieldsOf 33).toList.map (fun f => (f.type, f.offset, f.name != "_")) = [(9, 0, true), (9, 1, true), (9, 2, true)] := by kernel_rfl
 obtain ⟨f0, l0, e0, h0, hf⟩ := List.map_eq_cons_iff.1 hf
 obtain ⟨f1, l1, e1, h1, hf⟩ := List.map_eq_cons_iff.1 hf
 obtain ⟨f2, l2, e2, h2, hf⟩ := List.map_eq_cons_iff.1 hf
 obtain rfl := List.map_eq_nil_iff.1 hf
 simp only [Prod.mk.injEq] at h0 h1 h2
 have hps : Tryz.prog.plainKey 9 = true := by kernel_rfl
 have qs : ∀ a b : ByteArray, (Op.equalIn 9999 9 (.string a) (.string b)).run Tryz.prog W = .ok (a.toList == b.toList) W := fun a b => run_equalIn_string W 9998 9 a b Tryz.underlying9
 obtain ⟨X, hX⟩ : ∃ X : Array Value, X = #[.string x1, .string x2, .string x3] := ⟨_, rfl⟩
 obtain ⟨Y, hY⟩ : ∃ X : Array Value, X = #[.string y1, .string y2, .string y3] := ⟨_, rfl⟩
 rw [← hX, ← hY]
 have k5 : (Op.eqFields 9999 X Y []).run Tryz.prog W = .ok true W := by simp [Op.eqFields]
 have k2 := eqF_cons (f := f2) (xs := X) (ys := Y) h2.2.2 (by rw [h2.1]; exact hps) (by rw [h2.2.1, hX]; rfl) (by rw [h2.2.1, hY]; rfl) (by rw [h2.1]; exact qs x3 y3) k5
 rw [← e2] at k2
 have k1 := eqF_cons (f := f1) (xs := X) (ys := Y) h1.2.2 (by rw [h1.1]; exact hps) (by rw [h1.2.1, hX]; rfl) (by rw [h1.2.1, hY]; rfl) (by rw [h1.1]; exact qs x2 y2) k2
 rw [← e1] at k1
 have key := eqF_cons (f := f0) (xs := X) (ys := Y) h0.2.2 (by rw [h0.1]; exact hps) (by rw [h0.2.1, hX]; rfl) (by rw [h0.2.1, hY]; rfl) (by rw [h0.1]; exact qs x1 y1) k1
 rw [← e0] at key
 refine key.trans ?_
 congr 1
 rw [Bool.eq_iff_iff]
 simp only [Bool.and_eq_true, beq_iff_eq, decide_eq_true_iff, and_true]
 constructor
 ·rintro ⟨h1, h2, h3⟩
  exact ⟨toL_inj h1, toL_inj h2, toL_inj h3⟩
 ·rintro ⟨rfl, rfl, rfl⟩
  exact ⟨rfl, rfl, rfl⟩
set_option maxHeartbeats 4000000 in
theorem lone_any (A : Option Addr) (n c : Nat) (w : World) : Calls Tryz.prog 22 #[.slice A n c] w fun e w' => e = .returned (.agg #[.int .i64 1, .int .u8 1, .slice A n c]) ∧ Below w.heap.size w w' := by
 go_enter Tryz.func22, Tryz.ntmps22
 go_wp2_with fail
 refine bodyPost_ret (v := .agg #[.int .i64 1, .int .u8 1, .slice A n c]) (by simp [results, Tryz.results22, go_sem]; done) rfl ?_
 exact ⟨rfl, nw _ (Below.refl _ _)⟩
set_option maxHeartbeats 8000000 in
theorem lchecks_any (s : Sc) (A : Option Addr) (c : Nat) (xi xa xb : ByteArray) (er : Int) (w : World) (hs : ScIn w s A c) (hfl : ScOK s → SoundP s → FlatR s) (hck : ∀ {ti ta tb : ByteArray} {e : Int}, ChkP s ti ta tb e → ti = xi ∧ ta = xa ∧ tb = xb ∧ e = er) :
 Calls Tryz.prog 21 #[.agg #[.int .i64 s.n, .int .u8 s.acc, .slice A s.rs.length c], .agg #[.string xi, .string xa, .string xb], .int .i64 er] w fun e w' => e = .returned (.bool true) ∧ Below w.heap.size w w' := by
 obtain ⟨w2, hw2⟩ : ∃ w2, (w.alloc (.cells #[.int .i64 s.n, .int .u8 s.acc, .slice A s.rs.length c] 30)).alloc (.cells #[.string xi, .string xa, .string xb] 33) = w2 := ⟨_, rfl⟩
 obtain ⟨gb, hgb⟩ : ∃ g, w.heap.size = g := ⟨_, rfl⟩
 obtain ⟨gt, hgt⟩ : ∃ h, gb + 1 = h := ⟨_, rfl⟩
 have hb2 : Below w.heap.size w w2 := by rw [← hw2]; exact nw _ (nw _ (Below.refl _ _))
 have hB : Blk w2 gb 30 #[.int .i64 s.n, .int .u8 s.acc, .slice A s.rs.length c] := by rw [← hw2, ← hgb]; exact (Blk.new _ _ _).alloc _
 have hT : Blk w2 gt 33 #[.string xi, .string xa, .string xb] := by rw [← hw2]; exact Blk.new_ (by simp; omega)
 have HS2 := Lib.hid (hs.below hb2)
 have HFL := Lib.hid hfl
 have HW2 := Lib.hid hw2
 have HB2 := Lib.hid hb2
 have HG := Lib.hid hgb
 have HGT := Lib.hid hgt
 have HCE : Hid (∀ W, Below w2.heap.size w2 W → W.cell? ⟨gb, 0, none⟩ = some (.int .i64 s.n) ∧ W.cell? ⟨gb, 1, none⟩ = some (.int .u8 s.acc) ∧ W.cell? ⟨gb, 2, none⟩ = some (.slice A s.rs.length c) ∧ gb < W.heap.size ∧ W.cell? ⟨gt, 0, none⟩ = some (.string xi) ∧ W.cell? ⟨gt, 1, none⟩ = some (.string xa) ∧ W.cell? ⟨gt, 2, none⟩ = some (.string xb) ∧ gt < W.heap.size) := fun W hW => by
  have e1 := hB.below hW hB.lt
  have e2 := hT.below hW hT.lt
  exact ⟨by rw [e1.cell]; rfl, by rw [e1.cell]; rfl, by rw [e1.cell]; rfl, e1.lt, by rw [e2.cell]; rfl, by rw [e2.cell]; rfl, by rw [e2.cell]; rfl, e2.lt⟩
 have HC := Lib.hid (scheck_any s A c w2 HS2.out hfl)
 have HCK : Hid (∀ {ti ta tb : ByteArray} {e : Int}, ChkP s ti ta tb e → ti = xi ∧ ta = xa ∧ tb = xb ∧ e = er) := fun {ti ta tb e} h => hck h
 have HEQ : ∀ W, (Op.equalIn 10000 33 (.agg #[.string xi, .string xa, .string xb]) (.agg #[.string xi, .string xa, .string xb])).run Tryz.prog W = .ok true W := fun W => by rw [run_eqTw, decide_eq_true ⟨rfl, rfl, rfl⟩]
 obtain ⟨b0, b1, b2, bl, t0, t1, t2, tl⟩ := HCE.out _ (Below.refl _ _)
 clear hs hw2 hb2 hB hT hgb hgt hfl hck
 go_enter Tryz.func21, Tryz.ntmps21
 go_upto_region 1 with fail
 rw [HW2.out, HG.out, HGT.out]
 go_upto_region 2 with (go_at_call 9; go_loud (refine HC.out.mono ?_; rintro e W3 ⟨ti, ta, tb, er', rfl, hck, hb3⟩; obtain ⟨h1, h2, h3, h4⟩ := HCK.out hck; subst h1 h2 h3 h4; have HCP := Lib.hid hck; have HB3 := Lib.hid hb3; clear hck hb3))
 obtain ⟨W4, hW4⟩ : ∃ W, W3.alloc (.cells #[.string ti, .string ta, .string tb] 33) = W := ⟨_, rfl⟩
 obtain ⟨g4, hg4⟩ : ∃ g, W3.heap.size = g := ⟨_, rfl⟩
 have hb4 : Below w2.heap.size w2 W4 := by rw [← hW4]; exact HB3.out.alloc HB3.out.size _
 have hB4 : Blk W4 g4 33 #[.string ti, .string ta, .string tb] := by rw [← hW4, ← hg4]; exact Blk.new _ _ _
 have HB4 := Lib.hid hb4
 have HI := Lib.hid (sis_any s A c W4 (HS2.out.below hb4) HFL.out)
 clear b0 b1 b2 bl t0 t1 t2 tl
 obtain ⟨b0, b1, b2, bl, t0, t1, t2, tl⟩ := HCE.out _ hb4
 have q0 := hB4.cell 0
 have q1 := hB4.cell 1
 have q2 := hB4.cell 2
 have ql := hB4.lt
 simp at q0 q1 q2
 rw [hW4, hg4]
 clear hW4 hg4 hb4 hB4
 by_cases hz : er' = 0
 ·have hz1 : (er' == 0) = true := by simpa using hz
  have HBT : Hid (∀ b : Bool, (b = true ↔ soundE s = 0 ∧ FirstTo s none) → b = true) := fun b hb => hb.2 (HCP.out.ok.1 hz)
  clear hz
  go_wp2_with (go_at_call 11; go_loud (refine HI.out.mono ?_; rintro e W5 ⟨b, rfl, hb, hb5⟩; have HB5 := Lib.hid hb5; obtain rfl := HBT.out b hb; clear hb hb5))
  go_ret
  exact ⟨rfl, bthen HB2.out (bthen HB4.out HB5.out)⟩
 ·have hz1 : (er' == 0) = false := by simpa using hz
  have HBT : Hid (∀ b : Bool, (b = true ↔ soundE s = 0 ∧ FirstTo s none) → b = false) := fun b hb => by
   cases b with
   | false => rfl
   | true => exact absurd (HCP.out.ok.2 (hb.1 rfl)) hz
  clear hz
  go_wp2_with (go_at_call 11; go_loud (refine HI.out.mono ?_; rintro e W5 ⟨b, rfl, hb, hb5⟩; have HB5 := Lib.hid hb5; obtain rfl := HBT.out b hb; clear hb hb5))
  go_ret
  exact ⟨rfl, bthen HB2.out (bthen HB4.out HB5.out)⟩
end Go.Proofs.YtfpnhgahkjglgaaGreat
