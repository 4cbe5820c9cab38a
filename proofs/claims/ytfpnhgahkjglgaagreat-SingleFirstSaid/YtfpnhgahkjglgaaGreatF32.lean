/-
  OuRBest, SiInp, OuRCoP, GrWalkD, joined. No conditions.
-/
import Derived.Test.YtfpnhgahkjglgaaGreatF31
import Derived.Test.YtfpnhgahkjglgaaGreatF26
import Derived.Test.YtfpnhgahkjglgaaGreatF21
import Derived.Test.YtfpnhgahkjglgaaGreatF05
import Derived.Test.YtfpnhgahkjglgaaGreatF23
import Derived.Test.YtfpnhgahkjglgaaGreatF19
import Derived.Test.YtfpnhgahkjglgaaGreatF14
set_option maxRecDepth 100000
namespace Go.Proofs.YtfpnhgahkjglgaaGreat
open Go Go.RowKit
set_option maxHeartbeats 1000000 in
theorem rletters_any (s : ByteArray) (w : World) (hs : s.size ≤ maxLen) : Calls Tryz.prog 30 #[.string s] w fun e w' => e = .returned (.bool (letB s)) ∧ w = w' := by
 by_cases h : s.size ≤ 40
 ·have HL := Lib.hid (show letB s = smallS s by unfold letB; rw [decide_eq_true h]; rfl)
  have h2 : (s.size : Int) ≤ 40 := by omega
  go_enter Tryz.func30, Tryz.ntmps30
  go_wp2_with (go_at_call 50; refine (small_any _ _ hs).mono ?_; rintro e w' ⟨rfl, rfl⟩)
  go_ret
  exact ⟨ret_bool HL.out.symm, rfl⟩
 ·have HL := Lib.hid (show letB s = false by unfold letB; rw [decide_eq_false h]; rfl)
  have h2 : ¬ (s.size : Int) ≤ 40 := by omega
  go_enter Tryz.func30, Tryz.ntmps30
  go_wp2
  go_ret
  exact ⟨ret_bool HL.out.symm, rfl⟩
def RBP (s : Sc) (inp : ByteArray) (k : Int) (l : List Rs) (er : Int) (big : Bool) : Prop :=
 (big = true ∧ (soundE s = 0 ∧ letB inp = true ∧ 1 ≤ k ∧ k ≤ 50) ∧ l = [] ∧ er = 0) ∨ (big = false ∧ ((soundE s = 0 ∧ letB inp = true ∧ 1 ≤ k ∧ k ≤ 50) → ¬ Big 2000 s inp) ∧ (l, er) = bestR s inp k)
def IsRB (s : Sc) (inp : ByteArray) (k : Int) (w : World) (e : Ending) (w' : World) : Prop :=
 ∃ (l : List Rs) (er : Int) (big : Bool) (A : Option Addr) (c : Nat), e = .returned (.agg #[.slice A l.length c, .int .i64 er, .bool big]) ∧ RBP s inp k l er big ∧ (l.length ≤ c ∧ c ≤ maxLen) ∧ SlR 2 RRs w' A l ∧ Below w.heap.size w w'
theorem rs_off {w : World} {A : Option Addr} {l : List Rs} {g : Nat} {t : TypeId} {cs : Array Value} (h : SlR 2 RRs w A l) (hB : Blk w g t cs) (hcs : ∀ (j : Nat) (o : ByteArray), cs[j]? ≠ some (.string o)) : l ≠ [] → ∀ b off, A = some ⟨b, off, none⟩ → b ≠ g := fun hne b off hA e => by
 obtain ⟨b', off', hA', _, hc⟩ := h hne
 rw [hA] at hA'
 injection hA' with hA'
 injection hA' with h1 h2
 subst h1 h2 e
 obtain ⟨x, hx⟩ : ∃ x, l[0]? = some x := ⟨_, List.getElem?_eq_getElem (List.length_pos_iff.2 hne)⟩
 obtain ⟨vs, hv, _, h3⟩ := hc 0 x hx
 have h4 := h3 0 (.string x.tx) (by rw [hv]; rfl)
 rw [hB.cell] at h4
 exact hcs _ _ h4
theorem rs_far {w : World} {A : Option Addr} {l : List Rs} {g : Nat} (h : SlR 2 RRs w A l) (hne : l ≠ [] → ∀ b off, A = some ⟨b, off, none⟩ → b ≠ g) (j : Nat) (v : Value) : SlR 2 RRs (w.setCell ⟨g, j, none⟩ v) A l := fun h0 => by
 obtain ⟨b, off, hA, hb, hc⟩ := h h0
 refine ⟨b, off, hA, by simpa using hb, fun k x hk => ?_⟩
 obtain ⟨vs, h1, h2, h3⟩ := hc k x hk
 refine ⟨vs, h1, h2, fun i u hi => ?_⟩
 rw [World.cell?_of_block (Below.heap_setCell w ⟨g, j, none⟩ v b (hne h0 b off hA))]
 exact h3 i u hi
set_option maxHeartbeats 8000000 in
theorem rbest_any (s : Sc) (A : Option Addr) (c : Nat) (inp : ByteArray) (k : Int) (w : World) (hs : ScIn w s A c) (hsz : inp.size ≤ maxLen) (hfl : ScOK s → SoundP s → FlatR s) :
 Calls Tryz.prog 14 #[.agg #[.int .i64 s.n, .int .u8 s.acc, .slice A s.rs.length c], .string inp, .int .i64 k] w (IsRB s inp k w) := by
 obtain ⟨w1, hw1⟩ : ∃ w1, (w.alloc (.cells #[.int .i64 s.n, .int .u8 s.acc, .slice A s.rs.length c] 30)).alloc (.cells #[.slice none 0 0, .int .i64 0, .bool false] 45) = w1 := ⟨_, rfl⟩
 obtain ⟨g, hg⟩ : ∃ g, w.heap.size = g := ⟨_, rfl⟩
 have hb1 : Below w.heap.size w w1 := by rw [← hw1]; exact nw _ (nw _ (Below.refl _ _))
 have hB : Blk w1 g 30 #[.int .i64 s.n, .int .u8 s.acc, .slice A s.rs.length c] := by rw [← hw1, ← hg]; exact (Blk.new _ _ _).alloc _
 have hC : Blk w1 (g + 1) 45 #[.slice none 0 0, .int .i64 0, .bool false] := by rw [← hw1]; exact Blk.new_ (by simp; omega)
 have HW1 := Lib.hid hw1
 have HG := Lib.hid hg
 have HB1 := Lib.hid hb1
 have HBL := Lib.hid hC
 have HGW : Hid (w.heap.size ≤ g + 1) := by show _ ≤ _; omega
 have HCE : Hid (∀ W, Below w1.heap.size w1 W → W.cell? ⟨g, 0, none⟩ = some (.int .i64 s.n) ∧ W.cell? ⟨g, 1, none⟩ = some (.int .u8 s.acc) ∧ W.cell? ⟨g, 2, none⟩ = some (.slice A s.rs.length c) ∧ g < W.heap.size) := fun W hW => by
  have e1 := hB.below hW hB.lt
  exact ⟨by rw [e1.cell]; rfl, by rw [e1.cell]; rfl, by rw [e1.cell]; rfl, e1.lt⟩
 have HS2 : Hid (∀ W, Below w1.heap.size w1 W → ScIn W s A c) := fun W hW => hs.below (HB1.out.trans (hW.mono HB1.out.size))
 have HSND : Hid (∀ W, Below w1.heap.size w1 W → Calls Tryz.prog 16 #[.agg #[.int .i64 s.n, .int .u8 s.acc, .slice A s.rs.length c]] W fun e w' => IsSnd s e ∧ Below W.heap.size W w') := fun W hW => rsound5_any s A c W (HS2.out W hW)
 have HSZ := Lib.hid hsz
 have hz2 := hsz
 unfold maxLen at hz2
 obtain ⟨b0, b1, b2, bl⟩ := HCE.out _ (Below.refl _ _)
 clear hw1 hg hb1 hB hC hs hsz
 by_cases hE : soundE s = 0
 ·have HE := Lib.hid hE
  by_cases hL : letB inp = true
  ·have HLT : Hid (∀ W, Calls Tryz.prog 30 #[.string inp] W fun e w' => e = .returned (.bool true) ∧ W = w') := fun W => by
    have h := rletters_any inp W HSZ.out
    rw [hL] at h
    exact h
   by_cases hK : inB k 1 50 = true
   ·have HIN : Hid (∀ W, Calls Tryz.prog 31 #[.int .i64 k, .int .i64 1, .int .i64 50] W fun e w' => e = .returned (.bool true) ∧ W = w') := fun W => by
     have h := in_any k 1 50 W
     rw [hK] at h
     exact h
    have HK4 : Hid (soundE s = 0 ∧ letB inp = true ∧ 1 ≤ k ∧ k ≤ 50) := ⟨hE, hL, by unfold inB at hK; simpa using hK⟩
    have HOK := Lib.hid (soundE_iff.1 hE).1
    have HF : Hid (FlatS s inp) := pair_flat (hfl HOK.out (soundE_iff.1 hE).2) (Go.Proofs.YtfpnhgahkjglgaaGreat.bl inp)
    have HI40 : Hid (inp.size ≤ 40) := (letB_iff.1 hL).1
    clear hE hL hK
    go_enter Tryz.func14, Tryz.ntmps14
    go_upto_region 1 with fail
    rw [HW1.out, HG.out]
    go_upto_region 3 with (first | (go_at_call 16; go_loud (refine (HSND.out _ (Below.refl _ _)).mono ?_; rintro e w2 ⟨hq, hb2⟩; obtain rfl := hq.yes HE.out; have HB2 := Lib.hid hb2; clear hb2 hq)) | (go_at_call 30; go_loud (refine (HLT.out w2).mono ?_; rintro e w' ⟨rfl, rfl⟩)) | (go_at_call 31; go_loud (refine (HIN.out w2).mono ?_; rintro e w' ⟨rfl, rfl⟩)))
    obtain ⟨b0, b1, b2, bl⟩ := HCE.out _ HB2.out
    have HGO : Hid (Calls Tryz.prog 32 #[.agg #[.int .i64 s.n, .int .u8 s.acc, .slice A s.rs.length c], .string inp] w2 (IsGoF s A c inp w2)) := rgo_full s A c inp w2 (HS2.out _ HB2.out) HOK.out HF.out HI40.out
    go_upto_region 4 with (go_at_call 32; go_loud (refine HGO.out.mono ?_; rintro e w3 ⟨⟨gp, gL, cL, rows, big, rfl, hP, hI, hcl⟩, hb3⟩; have HP := Lib.hid hP; have HI := Lib.hid hI; have HCL := Lib.hid hcl; have HB3 := Lib.hid (HB2.out.trans (hb3.mono HB2.out.size)); clear hP hI hcl hb3))
    have p5 := HP.out.hp.cell 5
    have pl := HP.out.hp.lt
    simp at p5
    clear b0 b1 b2 bl
    have hD := HBL.out.below HB3.out HBL.out.lt
    have HD3 := Lib.hid hD
    have x0 := hD.cell 0
    have x1 := hD.cell 1
    have x2 := hD.cell 2
    have xf0 := hD.frozen 0
    have xf1 := hD.frozen 1
    have xf2 := hD.frozen 2
    have xl := hD.lt
    simp at x0 x1 x2
    clear hD
    cases hbig : big with
    | true =>
     rw [hbig] at p5
     go_wp2_with fail
     (try simp only [Exit.inBlock, Exit.then])
     refine ret_cell (t := 45) (cs := #[.slice none 0 0, .int .i64 0, .bool true]) (by have := ((HD3.out.set_ 0 (.slice none 0 0)).set_ 1 (.int .i64 0)).set_ 2 (.bool true); simpa using this) rfl rfl Tryz.underlying45 rfl (by kernel_rfl) rfl ?_
     exact ⟨[], 0, true, none, 0, rfl, .inl ⟨rfl, HK4.out, rfl, rfl⟩, ⟨Nat.le_refl _, Nat.zero_le _⟩, SlR.nil, (((HB1.out.trans (HB3.out.mono HB1.out.size)).setCell (p := ⟨g + 1, 0, none⟩) HGW.out _).setCell (p := ⟨g + 1, 1, none⟩) HGW.out _).setCell (p := ⟨g + 1, 2, none⟩) HGW.out _⟩
    | false =>
     rw [hbig] at p5
     go_upto_region 6 with fail
     have HC2 := Lib.hid (HCL.out hbig)
     have HNB : Hid (¬ Big 2000 s inp) := not_many HI.out HC2.out.1 HC2.out.2
     have hlen : rows.length = inp.size + 1 := by have := HI.out.len; rwa [List.length_map] at this
     obtain ⟨r, hr⟩ : ∃ r, rows[inp.size]? = some r := ⟨_, List.getElem?_eq_getElem (by omega)⟩
     have hrp : (rows.map (·.ps))[inp.size]? = some r.ps := by rw [List.getElem?_map, hr]; rfl
     have HWB : Hid (wholeTo s r.ps r.ps.length = bestL s inp) := whole_best HF.out HI.out HC2.out.1 HC2.out.2 hrp
     have HWH : Hid (Calls Tryz.prog 33 #[.pointer (some ⟨gp, 0, none⟩)] w3 (IsWho (bestL s inp) w3)) := by
      have h := rwhole_any gp gL cL s A c inp rows big r w3 (HS2.out _ HB3.out) HP.out hlen hr (HI.out.le _ _ hrp) (fun p hp => (pair_facts HOK.out HF.out HI40.out (Nat.le_refl _) (HI.out.rch _ _ hrp p hp)).2.1) HI40.out
      rw [HWB.out] at h
      exact h
     clear hlen hr hrp hbig p5 pl
     obtain ⟨L, hL⟩ : ∃ l, bestL s inp = l := ⟨_, rfl⟩
     have HL := Lib.hid hL
     rw [hL] at HWH
     clear hL
     go_upto_region 7 with (go_at_call 33; go_loud (refine HWH.out.mono ?_; rintro e w4 ⟨⟨A4, c4, rfl, hc4, hs4⟩, hb4⟩; have HS4 := Lib.hid hs4; have HC4 := Lib.hid hc4; have HB4 := Lib.hid (HB3.out.trans (hb4.mono HB3.out.size)); clear hs4 hc4 hb4))
     have hD := HBL.out.below HB4.out HBL.out.lt
     have HD4 := Lib.hid hD
     clear x0 x1 x2 xf0 xf1 xf2 xl
     have x0 := hD.cell 0
     have x1 := hD.cell 1
     have x2 := hD.cell 2
     have xf0 := hD.frozen 0
     have xf1 := hD.frozen 1
     have xf2 := hD.frozen 2
     have xl := hD.lt
     simp at x0 x1 x2
     clear hD
     by_cases h0 : L.length = 0
     ·have HNL : Hid (bestL s inp = []) := HL.out.trans (List.length_eq_zero_iff.1 h0)
      have hz : ((L.length : Int) == 0) = true := by simp [h0]
      have hz2 : (L.length : Int) = 0 := by omega
      clear h0
      go_wp2_with fail
      (try simp only [Exit.inBlock, Exit.then])
      refine ret_cell (t := 45) (cs := #[.slice none 0 0, .int .i64 50, .bool false]) (by have := ((HD4.out.set_ 0 (.slice none 0 0)).set_ 1 (.int .i64 50)).set_ 2 (.bool false); simpa using this) rfl rfl Tryz.underlying45 rfl (by kernel_rfl) rfl ?_
      exact ⟨[], 50, false, none, 0, rfl, .inr ⟨rfl, fun _ => HNB.out, (bestR_none HK4.out HNB.out HNL.out).symm⟩, ⟨Nat.le_refl _, Nat.zero_le _⟩, SlR.nil, (((HB1.out.trans (HB4.out.mono HB1.out.size)).setCell (p := ⟨g + 1, 0, none⟩) HGW.out _).setCell (p := ⟨g + 1, 1, none⟩) HGW.out _).setCell (p := ⟨g + 1, 2, none⟩) HGW.out _⟩
     ·have HNL : Hid (bestL s inp ≠ []) := fun e => h0 (by rw [← HL.out, e]; rfl)
      have hz : ((L.length : Int) == 0) = false := by simp; intro h; exact h0 (by rw [h]; rfl)
      have hz2 : ¬ (L.length : Int) = 0 := by omega
      have hk1 := HK4.out.2.2.1
      have hk50 := HK4.out.2.2.2
      obtain ⟨m, hm⟩ : ∃ m : Nat, min k.toNat L.length = m := ⟨_, rfl⟩
      have hmi : min k (L.length : Int) = (m : Int) := by omega
      have hm0 : (0 : Int) ≤ (m : Int) := by omega
      have hmc : (m : Int) ≤ (c4 : Int) := by have := HC4.out.1; omega
      have HM : Hid ((L.take k.toNat).length = m ∧ m ≤ c4) := ⟨by rw [List.length_take, hm], by have := HC4.out.1; omega⟩
      clear hm h0
      go_wp2_with fail
      (try simp only [Exit.inBlock, Exit.then])
      refine ret_cell (t := 45) (cs := #[.slice A4 m c4, .int .i64 0, .bool false]) (by have := ((HD4.out.set_ 0 (.slice A4 m c4)).set_ 1 (.int .i64 0)).set_ 2 (.bool false); simpa using this) rfl rfl Tryz.underlying45 rfl (by kernel_rfl) rfl ?_
      refine ⟨L.take k.toNat, 0, false, A4, c4, by rw [HM.out.1], .inr ⟨rfl, fun _ => HNB.out, by rw [bestR_ok HK4.out HNB.out HNL.out, HL.out]⟩, ⟨by rw [HM.out.1]; exact HM.out.2, HC4.out.2⟩, slr_pre5 ?_ _, (((HB1.out.trans (HB4.out.mono HB1.out.size)).setCell (p := ⟨g + 1, 0, none⟩) HGW.out _).setCell (p := ⟨g + 1, 1, none⟩) HGW.out _).setCell (p := ⟨g + 1, 2, none⟩) HGW.out _⟩
      have hne := rs_off HS4.out HD4.out (fun j o => by rcases j with _ | _ | _ | j <;> simp)
      exact rs_far (rs_far (rs_far HS4.out hne _ _) hne _ _) hne _ _
   ·have HIN : Hid (∀ W, Calls Tryz.prog 31 #[.int .i64 k, .int .i64 1, .int .i64 50] W fun e w' => e = .returned (.bool false) ∧ W = w') := fun W => by
     have h := in_any k 1 50 W
     rw [Bool.eq_false_iff.2 hK] at h
     exact h
    have HNO : Hid (¬ (soundE s = 0 ∧ letB inp = true ∧ 1 ≤ k ∧ k ≤ 50)) := fun h => hK (by unfold inB; simpa using h.2.2)
    clear hE hL hK
    go_enter Tryz.func14, Tryz.ntmps14
    go_upto_region 1 with fail
    rw [HW1.out, HG.out]
    go_upto_region 2 with (first | (go_at_call 16; go_loud (refine (HSND.out _ (Below.refl _ _)).mono ?_; rintro e w2 ⟨hq, hb2⟩; obtain rfl := hq.yes HE.out; have HB2 := Lib.hid hb2; clear hb2 hq)) | (go_at_call 30; go_loud (refine (HLT.out w2).mono ?_; rintro e w' ⟨rfl, rfl⟩)) | (go_at_call 31; go_loud (refine (HIN.out w2).mono ?_; rintro e w' ⟨rfl, rfl⟩)))
    have hD := HBL.out.below HB2.out HBL.out.lt
    have x0 := hD.cell 0
    have x1 := hD.cell 1
    have x2 := hD.cell 2
    have xf0 := hD.frozen 0
    have xf1 := hD.frozen 1
    have xf2 := hD.frozen 2
    have xl := hD.lt
    simp at x0 x1 x2
    have HD := Lib.hid hD
    clear hD
    go_wp2_with fail
    (try simp only [Exit.inBlock, Exit.then])
    refine ret_cell (t := 45) (cs := #[.slice none 0 0, .int .i64 1, .bool false]) (by have := ((HD.out.set_ 0 (.slice none 0 0)).set_ 1 (.int .i64 1)).set_ 2 (.bool false); simpa using this) rfl rfl Tryz.underlying45 rfl (by kernel_rfl) rfl ?_
    exact ⟨[], 1, false, none, 0, rfl, .inr ⟨rfl, fun h => absurd h HNO.out, (bestR_arg HNO.out).symm⟩, ⟨Nat.le_refl _, Nat.zero_le _⟩, SlR.nil, (((HB1.out.trans (HB2.out.mono HB1.out.size)).setCell (p := ⟨g + 1, 0, none⟩) HGW.out _).setCell (p := ⟨g + 1, 1, none⟩) HGW.out _).setCell (p := ⟨g + 1, 2, none⟩) HGW.out _⟩
  ·have HLT : Hid (∀ W, Calls Tryz.prog 30 #[.string inp] W fun e w' => e = .returned (.bool false) ∧ W = w') := fun W => by
    have h := rletters_any inp W HSZ.out
    rw [Bool.eq_false_iff.2 hL] at h
    exact h
   have HNO : Hid (¬ (soundE s = 0 ∧ letB inp = true ∧ 1 ≤ k ∧ k ≤ 50)) := fun h => hL h.2.1
   clear hE hL
   go_enter Tryz.func14, Tryz.ntmps14
   go_upto_region 1 with fail
   rw [HW1.out, HG.out]
   go_upto_region 2 with (first | (go_at_call 16; go_loud (refine (HSND.out _ (Below.refl _ _)).mono ?_; rintro e w2 ⟨hq, hb2⟩; obtain rfl := hq.yes HE.out; have HB2 := Lib.hid hb2; clear hb2 hq)) | (go_at_call 30; go_loud (refine (HLT.out w2).mono ?_; rintro e w' ⟨rfl, rfl⟩)))
   have hD := HBL.out.below HB2.out HBL.out.lt
   have x0 := hD.cell 0
   have x1 := hD.cell 1
   have x2 := hD.cell 2
   have xf0 := hD.frozen 0
   have xf1 := hD.frozen 1
   have xf2 := hD.frozen 2
   have xl := hD.lt
   simp at x0 x1 x2
   have HD := Lib.hid hD
   clear hD
   go_wp2_with fail
   (try simp only [Exit.inBlock, Exit.then])
   refine ret_cell (t := 45) (cs := #[.slice none 0 0, .int .i64 1, .bool false]) (by have := ((HD.out.set_ 0 (.slice none 0 0)).set_ 1 (.int .i64 1)).set_ 2 (.bool false); simpa using this) rfl rfl Tryz.underlying45 rfl (by kernel_rfl) rfl ?_
   exact ⟨[], 1, false, none, 0, rfl, .inr ⟨rfl, fun h => absurd h HNO.out, (bestR_arg HNO.out).symm⟩, ⟨Nat.le_refl _, Nat.zero_le _⟩, SlR.nil, (((HB1.out.trans (HB2.out.mono HB1.out.size)).setCell (p := ⟨g + 1, 0, none⟩) HGW.out _).setCell (p := ⟨g + 1, 1, none⟩) HGW.out _).setCell (p := ⟨g + 1, 2, none⟩) HGW.out _⟩
 ·have HE := Lib.hid hE
  have HNO : Hid (¬ (soundE s = 0 ∧ letB inp = true ∧ 1 ≤ k ∧ k ≤ 50)) := fun h => hE h.1
  clear hE
  go_enter Tryz.func14, Tryz.ntmps14
  go_upto_region 1 with fail
  rw [HW1.out, HG.out]
  go_upto_region 2 with ((go_at_call 16; go_loud (refine (HSND.out _ (Below.refl _ _)).mono ?_; rintro e w2 ⟨hq, hb2⟩; obtain rfl := hq.no HE.out; have HB2 := Lib.hid hb2; clear hb2 hq)))
  have hD := HBL.out.below HB2.out HBL.out.lt
  have x0 := hD.cell 0
  have x1 := hD.cell 1
  have x2 := hD.cell 2
  have xf0 := hD.frozen 0
  have xf1 := hD.frozen 1
  have xf2 := hD.frozen 2
  have xl := hD.lt
  simp at x0 x1 x2
  have HD := Lib.hid hD
  clear hD
  go_wp2_with fail
  (try simp only [Exit.inBlock, Exit.then])
  refine ret_cell (t := 45) (cs := #[.slice none 0 0, .int .i64 1, .bool false]) (by have := ((HD.out.set_ 0 (.slice none 0 0)).set_ 1 (.int .i64 1)).set_ 2 (.bool false); simpa using this) rfl rfl Tryz.underlying45 rfl (by kernel_rfl) rfl ?_
  exact ⟨[], 1, false, none, 0, rfl, .inr ⟨rfl, fun h => absurd h HNO.out, (bestR_arg HNO.out).symm⟩, ⟨Nat.le_refl _, Nat.zero_le _⟩, SlR.nil, (((HB1.out.trans (HB2.out.mono HB1.out.size)).setCell (p := ⟨g + 1, 0, none⟩) HGW.out _).setCell (p := ⟨g + 1, 1, none⟩) HGW.out _).setCell (p := ⟨g + 1, 2, none⟩) HGW.out _⟩
end Go.Proofs.YtfpnhgahkjglgaaGreat
namespace Go.Proofs.YtfpnhgahkjglgaaGreat
open Go List
def moreI (u : List UInt8) : List (List UInt8) := [u ++ [97], u ++ [98], u ++ [99]]
def inpsL : Nat → List (List UInt8)
 | 0 => [[]]
 | n + 1 => (inpsL n).flatMap moreI
def AbcL (u : List UInt8) : Prop := ∀ a ∈ u, a = 97 ∨ a = 98 ∨ a = 99
theorem inps_mem : ∀ {n : Nat} {u : List UInt8}, u ∈ inpsL n ↔ u.length = n ∧ AbcL u
 | 0, u => by
  unfold inpsL
  rw [mem_singleton]
  constructor
  ·rintro rfl; exact ⟨rfl, fun a ha => by cases ha⟩
  ·intro h; exact length_eq_zero_iff.1 h.1
 | n + 1, u => by
  unfold inpsL
  rw [mem_flatMap]
  constructor
  ·rintro ⟨v, hv, hu⟩
   obtain ⟨h1, h2⟩ := inps_mem.1 hv
   unfold moreI at hu
   simp only [mem_cons, not_mem_nil, or_false] at hu
   rcases hu with rfl | rfl | rfl <;> refine ⟨by simp [h1], fun a ha => ?_⟩ <;> rcases mem_append.1 ha with ha | ha
   all_goals first | exact h2 a ha | (rw [mem_singleton.1 ha]; simp)
  ·rintro ⟨h1, h2⟩
   rcases eq_nil_or_concat u with rfl | ⟨v, c, rfl⟩
   ·simp at h1
   ·rw [concat_eq_append] at h1 h2 ⊢
    refine ⟨v, inps_mem.2 ⟨by simpa using h1, fun a ha => h2 a (mem_append_left _ ha)⟩, ?_⟩
    rcases h2 c (mem_append_right _ (mem_singleton.2 rfl)) with rfl | rfl | rfl <;> simp [moreI]
theorem more_len : ∀ l : List (List UInt8), (l.flatMap moreI).length = l.length * 3 := fun l => by
 induction l with
 | nil => rfl
 | cons a l ih => rw [flatMap_cons, length_append, ih, length_cons]; show 3 + _ = _; omega
theorem inps_len : ∀ n, (inpsL n).length = 3 ^ n
 | 0 => rfl
 | n + 1 => by
  have h : ∀ l : List (List UInt8), (l.flatMap moreI).length = l.length * 3 := fun l => by
   induction l with
   | nil => rfl
   | cons a l ih => rw [flatMap_cons, length_append, ih, length_cons]; show 3 + _ = _; omega
  unfold inpsL
  rw [h, inps_len n, Nat.pow_succ]
theorem inps_order : ∀ n, (inpsL n).Pairwise (fun a b => code a < code b)
 | 0 => pairwise_singleton _ _
 | n + 1 => by
  have h : ∀ l : List (List UInt8), l.Pairwise (fun a b => code a < code b) → (l.flatMap moreI).Pairwise (fun a b => code a < code b) := fun l => by
   induction l with
   | nil => intro _; exact Pairwise.nil
   | cons a l ih =>
    intro hp
    obtain ⟨h1, h2⟩ := pairwise_cons.1 hp
    rw [flatMap_cons]
    refine pairwise_append.2 ⟨?_, ih h2, fun x hx y hy => ?_⟩
    ·unfold moreI
     simp [code_snoc]
    ·obtain ⟨b, hb, hy⟩ := mem_flatMap.1 hy
     have := h1 b hb
     unfold moreI at hx hy
     simp only [mem_cons, not_mem_nil, or_false] at hx hy
     rcases hx with rfl | rfl | rfl <;> rcases hy with rfl | rfl | rfl <;> simp only [code_snoc] <;> simp <;> omega
  exact h _ (inps_order n)
def PassI (s : Sc) (n i : Nat) : Prop := (∀ V, V.length < n → AbcL V → ¬ Twice (schA s) V) ∧ ∀ V ∈ (inpsL n).take i, ¬ Twice (schA s) V
section
variable {s : Sc} {n i : Nat} {v u : List UInt8}
theorem PassI.start (s : Sc) : PassI s 0 0 := ⟨fun V h => absurd h (Nat.not_lt_zero _), fun V h => by simp at h⟩
theorem PassI.next (h : PassI s n i) (hv : (inpsL n)[i]? = some v) (hn : ¬ Twice (schA s) v) : PassI s n (i + 1) := ⟨h.1, fun V hV => by
 rw [take_add_one, hv] at hV
 rcases mem_append.1 hV with hV | hV
 ·exact h.2 V hV
 ·simp at hV
  rw [hV]; exact hn⟩
theorem PassI.level (h : PassI s n (inpsL n).length) : PassI s (n + 1) 0 := ⟨fun V hV ha => by
 have h2 := h.2
 rw [take_length] at h2
 by_cases e : V.length = n
 ·exact h2 V (inps_mem.2 ⟨e, ha⟩)
 ·exact h.1 V (by omega) ha, fun V hV => by simp at hV⟩
theorem rte_abc (ha : ∀ r ∈ s.rs, abcB r.inp = true) {m : Int} {i o : ByteArray} {c : Int} (h : Rte s m i o c) : abcB i = true := by
 induction h with
 | nil => rfl
 | snoc h hr _ ih => rw [abcB_app, ih, ha _ hr]; rfl
theorem twice_abc (ha : ∀ r ∈ s.rs, abcB r.inp = true) (h : Twice (schA s) v) : AbcL v := by
 obtain ⟨x, _, c, _, ⟨m, _, hw⟩, _⟩ := twice_iff.1 (show Twice (schA s) (bl (ba v)) from h)
 have := rte_abc ha hw
 unfold abcB at this
 rw [bl_ba] at this
 intro a hav
 have h2 := all_eq_true.1 this a hav
 simpa [or_assoc] using h2
theorem first_met (ha : ∀ r ∈ s.rs, abcB r.inp = true) (h : PassI s n i) (hv : (inpsL n)[i]? = some v) (hu : IsFirst (schA s) u) (ht : Twice (schA s) v) : v = u := by
 have h1 : code u ≤ code v := Nat.le_of_not_lt fun hlt => hu.2 v hlt ht
 by_cases e : code u = code v
 ·exact (code_eq e).symm
 ·exfalso
  have hlt : code u < code v := by omega
  have hab := twice_abc ha hu.1
  have hl := len_of_code h1
  obtain ⟨h2, _⟩ := inps_mem.1 (mem_of_getElem? hv)
  by_cases hn : u.length < n
  ·exact h.1 u hn hab hu.1
  ·have hm : u ∈ inpsL n := inps_mem.2 ⟨by omega, hab⟩
   obtain ⟨j, hj⟩ := getElem?_of_mem hm
   obtain ⟨q1, q2⟩ := List.getElem?_eq_some_iff.1 hv
   obtain ⟨q3, q4⟩ := List.getElem?_eq_some_iff.1 hj
   have hji : j < i := by
    rcases Nat.lt_trichotomy j i with h5 | h5 | h5
    ·exact h5
    ·subst h5; rw [hj] at hv; injection hv with hv; subst hv; omega
    ·have := pairwise_iff_getElem.1 (inps_order n) i j q1 q3 h5
     rw [q2, q4] at this
     omega
   exact h.2 u (mem_take_iff_getElem.2 ⟨j, by omega, q4⟩) hu.1
theorem inps_let (hv : (inpsL n)[i]? = some v) (hn : n ≤ 4) : letB (ba v) = true ∧ (ba v).size = n := by
 obtain ⟨h1, h2⟩ := inps_mem.1 (mem_of_getElem? hv)
 refine ⟨letB_iff.2 ⟨?_, ?_⟩, h1⟩
 ·show v.length ≤ 40
  omega
 ·unfold smallS
  rw [bl_ba]
  refine all_eq_true.2 fun a hav => ?_
  rcases h2 a hav with rfl | rfl | rfl <;> decide
theorem first_step (hE : soundE s = 0) (hfl : FlatR s) (ha : ∀ r ∈ s.rs, abcB r.inp = true) (hP : PassI s n i) (hv : (inpsL n)[i]? = some v) (hn : n ≤ 4) {ti ta tb : ByteArray} {er e2 : Int} {l : List Rs} (hC : ChkP s ti ta tb er) (hR : RBP s (ba v) 2 l e2 false) :
 (er = 80 ∧ ti = ba v ∧ ∃ x y, l = [x, y] ∧ x.tx = ta ∧ y.tx = tb) ∨ (¬ (er = 80 ∧ ti = ba v) ∧ l.length ≤ 1 ∧ PassI s n (i + 1)) := by
 have hk : soundE s = 0 ∧ letB (ba v) = true ∧ (1 : Int) ≤ 2 ∧ (2 : Int) ≤ 50 := ⟨hE, (inps_let hv hn).1, by decide, by decide⟩
 have hlen := (inps_mem.1 (mem_of_getElem? hv)).1
 rcases hR with ⟨h, _⟩ | ⟨_, hb, hR⟩
 ·cases h
 have hbig := hb hk
 have hl : l = (bestL s (ba v)).take 2 := by
  by_cases h0 : bestL s (ba v) = []
  ·rw [bestR_none hk hbig h0] at hR
   injection hR with h1 _
   rw [h1, h0]; rfl
  ·rw [bestR_ok hk hbig h0] at hR
   injection hR with h1 _
 have htw : Twice (schA s) v ↔ 2 ≤ (bestL s (ba v)).length := twice_best (s := s) (inp := ba v) (pair_flat hfl _)
 have hstep : ∀ h : ¬ Twice (schA s) v, l.length ≤ 1 ∧ PassI s n (i + 1) := fun h => ⟨by
  rw [hl, length_take]
  have : ¬ 2 ≤ (bestL s (ba v)).length := fun h2 => h (htw.2 h2)
  omega, hP.next hv h⟩
 rcases hC with ⟨h1, _⟩ | ⟨_, h2, _, _, _, rfl⟩ | ⟨_, u, hu, h3⟩
 ·exact absurd hE h1
 ·refine .inr ⟨fun h => absurd h.1 (by decide), hstep (h2 v (by omega))⟩
 ·rcases h3 with ⟨hB, _, _, _, rfl⟩ | ⟨hB, x, y, r, hbest, rfl, rfl, rfl, rfl⟩
  ·refine .inr ⟨fun h => absurd h.1 (by decide), hstep fun ht => ?_⟩
   have := first_met ha hP hv hu.1 ht
   subst this
   exact hbig hB
  ·by_cases e : v = u
   ·subst e
    left
    refine ⟨rfl, rfl, x, y, ?_, rfl, rfl⟩
    rw [hl, hbest]; rfl
   ·refine .inr ⟨fun h => e ?_, hstep fun ht => e (first_met ha hP hv hu.1 ht)⟩
    have := congrArg bl h.2
    exact this.symm
theorem first_end (hE : soundE s = 0) (hok : ScOK s) (hfl : FlatR s) (ha : ∀ r ∈ s.rs, abcB r.inp = true) (hP : PassI s 5 0) {ti ta tb : ByteArray} {er : Int} (hC : ChkP s ti ta tb er) :
 er = 0 ∨ er = 2 ∨ (er = 80 ∧ 4 < ti.size ∧ PrvP s ti ta tb) := by
 rcases hC with ⟨h1, _⟩ | ⟨_, h2, _, _, _, rfl⟩ | ⟨_, u, hu, h3⟩
 ·exact absurd hE h1
 ·exact .inl rfl
 ·rcases h3 with ⟨hB, _, _, _, rfl⟩ | ⟨hB, x, y, r, hbest, rfl, rfl, rfl, rfl⟩
  ·exact .inr (.inl rfl)
  ·right; right
   have hI := best_is (pair_flat hfl (bl (ba u)))
   rw [hbest] at hI
   refine ⟨rfl, ?_, hE, ?_, first_let hok hu, ?_, ?_⟩
   ·show 4 < u.length
    refine Nat.lt_of_not_le fun hle => hP.1 u (by omega) (twice_abc ha hu.1.1) hu.1.1
   ·have := hI.texts
    simp only [pairwise_cons] at this
    exact this.1 y (mem_cons_self ..)
   ·exact ⟨_, hI.is_ x (mem_cons_self ..)⟩
   ·exact ⟨_, hI.is_ y (mem_cons_of_mem _ (mem_cons_self ..))⟩
end
def spi (W n a p m : Nat) : Nat := (a * W + p) * n + m
theorem spi_parts {W n a p m : Nat} (hp : p < W) (hm : m < n) : spi W n a p m % n = m ∧ spi W n a p m / n / W = a ∧ spi W n a p m / n % W = p := by
 have h1 : spi W n a p m % n = m := by
  unfold spi
  rw [Nat.add_comm, Nat.add_mul_mod_self_right, Nat.mod_eq_of_lt hm]
 have h2 : spi W n a p m / n = a * W + p := by
  unfold spi
  rw [Nat.add_comm, Nat.add_mul_div_right _ _ (by omega), Nat.div_eq_of_lt hm, Nat.zero_add]
 refine ⟨h1, ?_, ?_⟩
 ·rw [h2, Nat.add_comm, Nat.add_mul_div_right _ _ (by omega), Nat.div_eq_of_lt hp, Nat.zero_add]
 ·rw [h2, Nat.add_comm, Nat.add_mul_mod_self_right, Nat.mod_eq_of_lt hp]
theorem spi_lt {W n a p m i : Nat} (ha : a ≤ i) (hp : p < W) (hm : m < n) : spi W n a p m < (i + 1) * W * n := by
 unfold spi
 have h1 : a * W + p < (i + 1) * W := by
  have := Nat.mul_le_mul_right W ha
  rw [Nat.add_mul]
  omega
 have h2 := Nat.mul_le_mul_right n h1
 rw [Nat.succ_mul] at h2
 omega
def CoR (s : Sc) (inp out : ByteArray) (a p m : Nat) (c : Int) : Prop := Rch (spotS s (bl out)) (0, 0) (bl inp) a ((m : Int), (p : Int)) c
def Fol (inp out : ByteArray) (r : Ru) (a p m : Nat) : Prop := r.fr = (m : Int) ∧ bl r.inp <+: (bl inp).drop a ∧ bl r.out <+: (bl out).drop p
section
variable {s : Sc} {inp out : ByteArray}
theorem spot_mode (hok : ScOK s) {i : Nat} {k : Int × Int} {c : Int} (h : Rch (spotS s (bl out)) (0, 0) (bl inp) i k c) : 0 ≤ k.1 ∧ k.1 < s.n := by
 induction h with
 | start => exact ⟨Int.le_refl _, by have := hok.1.1; show (0 : Int) < s.n; omega⟩
 | step h hr h1 h2 h3 ih =>
  have := scOK_modes hok _ hr
  unfold spotS at h3
  simp only at h3
  split at h3
  ·injection h3 with h3; rw [← h3]; exact this.2
  ·cases h3
theorem co_step {a p m : Nat} {c : Int} {r : Ru} (h : CoR s inp out a p m c) (hr : r ∈ s.rs) (hf : Fol inp out r a p m) (hto : 0 ≤ r.to) : CoR s inp out (a + r.inp.size) (p + r.out.size) r.to.toNat (c + r.co) := by
 refine Rch.step h hr hf.1 hf.2.1 ?_
 show (if bl r.out <+: (bl out).drop (p : Int).toNat then some (r.to, (p : Int) + r.out.size) else none) = _
 rw [Int.toNat_natCast, if_pos hf.2.2]
 have e : ((r.to.toNat : Nat) : Int) = r.to := Int.toNat_of_nonneg hto
 rw [e]
 rfl
theorem co_facts (hok : ScOK s) {a p m : Nat} {c : Int} (h : CoR s inp out a p m c) : a ≤ inp.size ∧ p ≤ out.size ∧ (m : Int) < s.n := by
 refine ⟨rch_place h, ?_, (spot_mode hok h).2⟩
 have h1 := (spot_rte h).2.1
 have e : ((p : Nat) : Int) ≤ ((bl out).length : Int) := h1
 rw [bl_len] at e
 omega
inductive Rnd (s : Sc) (inp out : List UInt8) : Nat → Nat → Int × Int → Prop
 | start : Rnd s inp out 0 0 (0, 0)
 | up {r i : Nat} {k : Int × Int} : Rnd s inp out r i k → Rnd s inp out (r + 1) i k
 | step {r i : Nat} {k k' : Int × Int} {u : Ru} : Rnd s inp out r i k → u ∈ s.rs → u.fr = k.1 → bl u.inp <+: inp.drop i → (spotS s out).step k u = some k' → Rnd s inp out (r + 1) (i + u.inp.size) k'
theorem Rnd.mono {ip ot : List UInt8} {r r' i : Nat} {k : Int × Int} (h : Rnd s ip ot r i k) (hr : r ≤ r') : Rnd s ip ot r' i k := by
 induction r' with
 | zero =>
  obtain rfl : r = 0 := by omega
  exact h
 | succ n ih =>
  by_cases e : r = n + 1
  ·subst e; exact h
  ·exact .up (ih (by omega))
theorem Rnd.rch {ip ot : List UInt8} {r i : Nat} {k : Int × Int} (h : Rnd s ip ot r i k) : ∃ c, Rch (spotS s ot) (0, 0) ip i k c := by
 induction h with
 | start => exact ⟨0, .start⟩
 | up _ ih => exact ih
 | step _ h1 h2 h3 h4 ih => obtain ⟨c, ih⟩ := ih; exact ⟨_, .step ih h1 h2 h3 h4⟩
theorem spot_put {ot : List UInt8} {k k' : Int × Int} {u : Ru} (h : (spotS s ot).step k u = some k') : k'.1 = u.to ∧ k'.2 = k.2 + u.out.size := by
 unfold spotS at h
 simp only at h
 split at h
 ·injection h with h; rw [← h]; exact ⟨rfl, rfl⟩
 ·cases h
theorem rounds_all (hok : ScOK s) (hF : Flat (spotS s (bl out)) (0, 0) (bl inp)) : ∀ (N i : Nat) (k : Int × Int) (c : Int), i ≤ N → Rch (spotS s (bl out)) (0, 0) (bl inp) i k c → Rnd s (bl inp) (bl out) ((i + k.2.toNat + 1) * s.n.toNat) i k := by
 intro N
 induction N using Nat.strongRecOn with
 | _ N ih =>
 intro i k c hi h
 have hn : 1 ≤ s.n.toNat := by have := hok.1.1; omega
 have harr : ∀ k c, Arr (spotS s (bl out)) (0, 0) (bl inp) i i k c → Rnd s (bl inp) (bl out) ((i + k.2.toNat) * s.n.toNat + 1) i k := fun k c ha => by
  rcases ha with ⟨h1, rfl, _⟩ | ⟨j, hj, k0, c0, r, h1, h2, h3, h4, h5, h6, h7, _⟩
  ·rw [h1]
   exact Rnd.mono Rnd.start (Nat.zero_le _)
  ·have hr := ih j (by omega) j k0 c0 (Nat.le_refl _) h1
   have h8 := Rnd.step hr h2 h4 h5 h7
   rw [← h6] at h8
   have h9 := spot_put h7
   have h10 := (spot_rte h1).1
   refine h8.mono ?_
   have h11 : j + k0.2.toNat + 1 ≤ i + k.2.toNat := by
    have h12 := size_pos h3
    have h13 := h9.2
    omega
   have := Nat.mul_le_mul_right s.n.toNat h11
   omega
 rcases rch_split hF h with ha | ⟨k0, c0, r, ha, h2, h3, h4, h5, _⟩
 ·refine (harr k c ha).mono ?_
  have : (i + k.2.toNat + 1) * s.n.toNat = (i + k.2.toNat) * s.n.toNat + s.n.toNat := by rw [Nat.add_mul, Nat.one_mul]
  omega
 ·have hr := harr k0 c0 ha
  have hz : r.inp.size = 0 := mute_size h3
  have hp : bl r.inp <+: (bl inp).drop i := by
   have : bl r.inp = [] := mute_bl.1 h3
   rw [this]
   exact nil_prefix
  have h8 := Rnd.step hr h2 h4 hp h5
  rw [hz, Nat.add_zero] at h8
  have h9 := spot_put h5
  have h10 := (spot_rte (arr_rch ha)).1
  have h2n : 2 ≤ s.n.toNat := by
   refine Classical.byContradiction fun hlt => ?_
   have h11 := hF i k0 c0 r k r (arr_rch ha) h2 h3 h4 h5 h2 h3
   have h12 := scOK_modes hok r h2
   apply h11
   show r.fr = k.1
   rw [h9.1]
   omega
  refine h8.mono ?_
  have h13 : i + k0.2.toNat ≤ i + k.2.toNat := by have := h9.2; omega
  have h14 := Nat.mul_le_mul_right s.n.toNat h13
  have : (i + k.2.toNat + 1) * s.n.toNat = (i + k.2.toNat) * s.n.toNat + s.n.toNat := by rw [Nat.add_mul, Nat.one_mul]
  omega
def Mkd (T : List Int) (x : Nat) : Prop := ∃ c, T[x]? = some c ∧ 0 ≤ c
structure CoI (s : Sc) (inp out : ByteArray) (W n N : Nat) (B : Int) (T : List Int) : Prop where
 len : T.length = N
 rch : ∀ x c, T[x]? = some c → c = -1 ∨ 0 ≤ c ∧ c ≤ B ∧ CoR s inp out (x / n / W) (x / n % W) (x % n) c
structure RdC (s : Sc) (inp out : ByteArray) (W n : Nat) (T0 T : List Int) (k j : Nat) : Prop where
 keep : ∀ x, Mkd T0 x → Mkd T x
 done : ∀ x, Mkd T0 x → ∀ (j' : Nat) (r : Ru), s.rs[j']? = some r → (x < k ∨ x = k ∧ j' < j) → Fol inp out r (x / n / W) (x / n % W) (x % n) → Mkd T (spi W n (x / n / W + r.inp.size) (x / n % W + r.out.size) r.to.toNat)
variable {W n N k j : Nat} {B : Int} {T0 T : List Int}
theorem RdC.start (T : List Int) : RdC s inp out W n T T 0 0 := ⟨fun _ h => h, fun _ _ _ _ _ h => absurd h (by omega)⟩
theorem RdC.next (h : RdC s inp out W n T0 T k j) (hj : s.rs.length ≤ j) : RdC s inp out W n T0 T (k + 1) 0 := ⟨h.keep, fun x hx j' r hr hk hf => h.done x hx j' r hr (by have := (List.getElem?_eq_some_iff.1 hr).1; omega) hf⟩
theorem RdC.leave (h : RdC s inp out W n T0 T k 0) (hT : ¬ Mkd T k) : RdC s inp out W n T0 T (k + 1) 0 := ⟨h.keep, fun x hx j' r hr hk hf => by
 by_cases e : x = k
 ·subst e; exact absurd (h.keep x hx) hT
 ·exact h.done x hx j' r hr (by omega) hf⟩
theorem RdC.skip (h : RdC s inp out W n T0 T k j) {r : Ru} (hr : s.rs[j]? = some r) (hno : ¬ Fol inp out r (k / n / W) (k / n % W) (k % n) ∨ Mkd T (spi W n (k / n / W + r.inp.size) (k / n % W + r.out.size) r.to.toNat)) : RdC s inp out W n T0 T k (j + 1) := ⟨h.keep, fun x hx j' r' hr' hk hf => by
 by_cases e : x = k ∧ j' = j
 ·obtain ⟨rfl, rfl⟩ := e
  obtain rfl := Option.some.inj (hr.symm.trans hr')
  rcases hno with hno | hno
  ·exact absurd hf hno
  ·exact hno
 ·exact h.done x hx j' r' hr' (by omega) hf⟩
theorem mkd_set {x y : Nat} {c : Int} (h : Mkd T x) (hc : 0 ≤ c) : Mkd (T.set y c) x := by
 obtain ⟨d, h1, h2⟩ := h
 by_cases e : y = x
 ·subst e
  exact ⟨c, by rw [getElem?_set_self (List.getElem?_eq_some_iff.1 h1).1], hc⟩
 ·exact ⟨d, by rw [getElem?_set_ne e]; exact h1, h2⟩
theorem RdC.put (h : RdC s inp out W n T0 T k j) {r : Ru} (hr : s.rs[j]? = some r) {c : Int} (hc : 0 ≤ c) (hlt : spi W n (k / n / W + r.inp.size) (k / n % W + r.out.size) r.to.toNat < T.length) : RdC s inp out W n T0 (T.set (spi W n (k / n / W + r.inp.size) (k / n % W + r.out.size) r.to.toNat) c) k (j + 1) :=
 RdC.skip ⟨fun x hx => mkd_set (h.keep x hx) hc, fun x hx j' r' hr' hk hf => mkd_set (h.done x hx j' r' hr' hk hf) hc⟩ hr (.inr ⟨c, by rw [getElem?_set_self hlt], hc⟩)
theorem fol_to (hok : ScOK s) (hW : W = out.size + 1) (hn : n = s.n.toNat) (hN : N = (inp.size + 1) * W * n) (hI : CoI s inp out W n N B T) {c : Int} (hk : T[k]? = some c) (hc : 0 ≤ c) {r : Ru} (hr : r ∈ s.rs) (hf : Fol inp out r (k / n / W) (k / n % W) (k % n)) :
 spi W n (k / n / W + r.inp.size) (k / n % W + r.out.size) r.to.toNat < N ∧ CoR s inp out (k / n / W + r.inp.size) (k / n % W + r.out.size) r.to.toNat (c + r.co) := by
 have h1 : CoR s inp out (k / n / W) (k / n % W) (k % n) c := by
  rcases hI.rch k c hk with h | ⟨_, _, h⟩
  ·omega
  ·exact h
 have h2 := scOK_modes hok r hr
 have h3 := co_step h1 hr hf h2.2.1
 have h4 := co_facts hok h3
 refine ⟨?_, h3⟩
 rw [hN]
 exact spi_lt h4.1 (by omega) (by omega)
theorem CoI.put (h : CoI s inp out W n N B T) (hW : W = out.size + 1) (hn : n = s.n.toNat) {a p m : Nat} {c : Int} (hc : 0 ≤ c ∧ c ≤ B) (hp : p ≤ out.size) (hm : (m : Int) < s.n) (hr : CoR s inp out a p m c) : CoI s inp out W n N B (T.set (spi W n a p m) c) := by
 refine ⟨by rw [length_set]; exact h.len, fun x d hx => ?_⟩
 by_cases e : spi W n a p m = x
 ·subst e
  have hlt : spi W n a p m < T.length := by have := (List.getElem?_eq_some_iff.1 hx).1; rwa [length_set] at this
  rw [getElem?_set_self hlt] at hx
  obtain rfl := Option.some.inj hx
  obtain ⟨e1, e2, e3⟩ := spi_parts (W := W) (n := n) (a := a) (p := p) (m := m) (by omega) (by omega)
  right
  rw [e1, e2, e3]
  exact ⟨hc.1, hc.2, hr⟩
 ·rw [getElem?_set_ne e] at hx
  exact h.rch x d hx
theorem CoI.more (h : CoI s inp out W n N B T) {B' : Int} (hB : B ≤ B') : CoI s inp out W n N B' T := ⟨h.len, fun x c hx => (h.rch x c hx).imp id fun h => ⟨h.1, by have := h.2.1; omega, h.2.2⟩⟩
def KnR (s : Sc) (inp out : ByteArray) (W n r : Nat) (T : List Int) : Prop := ∀ i k, Rnd s (bl inp) (bl out) r i k → Mkd T (spi W n i k.2.toNat k.1.toNat)
theorem knR_next (hok : ScOK s) (hW : W = out.size + 1) (hn : n = s.n.toNat) (hN : N = (inp.size + 1) * W * n) {r : Nat} (hK : KnR s inp out W n r T0) (_hT : T0.length = N) (h : RdC s inp out W n T0 T N 0) : KnR s inp out W n (r + 1) T := fun i k hk => by
 have key : ∀ {r' : Nat} {i : Nat} {k : Int × Int}, Rnd s (bl inp) (bl out) r' i k → i ≤ inp.size ∧ 0 ≤ k.2 ∧ k.2 ≤ out.size ∧ 0 ≤ k.1 ∧ k.1 < s.n := fun h => by
  obtain ⟨c, h⟩ := h.rch
  have h1 := spot_rte h
  have h2 := spot_mode hok h
  have h3 := rch_place h
  have h4 := h1.2.1
  rw [bl_len] at h3 h4
  exact ⟨h3, h1.1, h4, h2.1, h2.2⟩
 cases hk with
 | up hk => exact h.keep _ (hK i k hk)
 | step hk h1 h2 h3 h4 =>
  rename_i i0 k0 u
  obtain ⟨b1, b2, b3, b4, b5⟩ := key hk
  obtain ⟨e1, e2, e3⟩ := spi_parts (W := W) (n := n) (a := i0) (p := k0.2.toNat) (m := k0.1.toNat) (by omega) (by omega)
  obtain ⟨j', hj'⟩ := getElem?_of_mem h1
  have hm := hK i0 k0 hk
  have hlt : spi W n i0 k0.2.toNat k0.1.toNat < N := by rw [hN]; exact spi_lt b1 (by omega) (by omega)
  have h5 := h.done _ hm j' u hj' (.inl hlt) (by
   rw [e1, e2, e3]
   refine ⟨by rw [h2, Int.toNat_of_nonneg b4], h3, ?_⟩
   unfold spotS at h4
   simp only at h4
   split at h4
   ·assumption
   ·cases h4)
  rw [e2, e3] at h5
  have h6 := spot_put h4
  rw [h6.1, h6.2]
  have e4 : (k0.2 + (u.out.size : Int)).toNat = k0.2.toNat + u.out.size := by omega
  rw [e4]
  exact h5
theorem kn_whole (hok : ScOK s) (hF : Flat (spotS s (bl out)) (0, 0) (bl inp)) (hW : W = out.size + 1) (hn : n = s.n.toNat) (hI : CoI s inp out W n N B T) {r : Nat} (hr : (inp.size + out.size + 1) * n ≤ r) (hK : KnR s inp out W n r T) (m : Nat) (hm : m < n) :
 Mkd T (spi W n inp.size out.size m) ↔ ∃ c, Rte s (m : Int) inp out c := by
 obtain ⟨e1, e2, e3⟩ := spi_parts (W := W) (n := n) (a := inp.size) (p := out.size) (m := m) (by omega) hm
 constructor
 ·rintro ⟨c, h1, h2⟩
  rcases hI.rch _ c h1 with h | ⟨_, _, h⟩
  ·omega
  ·rw [e1, e2, e3] at h
   exact ⟨c, spot_iff.1 h⟩
 ·rintro ⟨c, h⟩
  have h1 := rounds_all hok hF inp.size inp.size _ c (Nat.le_refl _) (spot_iff.2 h)
  have h2 := hK inp.size ((m : Int), (out.size : Int)) (h1.mono (by
   show (inp.size + ((out.size : Int)).toNat + 1) * s.n.toNat ≤ r
   rw [Int.toNat_natCast, ← hn]
   exact hr))
  exact h2
end
end Go.Proofs.YtfpnhgahkjglgaaGreat
namespace Go.Proofs.YtfpnhgahkjglgaaGreat
open Go Go.RowKit
theorem int_info : (Tryz.prog.info? 3).map (fun i => (i.zero, i.size, i.bytes)) = some (some (.int .i64 0), 1, 8) := by kernel_rfl
end Go.Proofs.YtfpnhgahkjglgaaGreat
