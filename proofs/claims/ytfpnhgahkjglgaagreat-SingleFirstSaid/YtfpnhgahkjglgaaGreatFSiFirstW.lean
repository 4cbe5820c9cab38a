/-
  The walk of layer 08's law SingleFirst.
-/
import Derived.Test.YtfpnhgahkjglgaaGreatF34
import Derived.Test.YtfpnhgahkjglgaaGreatF40
import Derived.Test.YtfpnhgahkjglgaaGreatF42
import Derived.Test.YtfpnhgahkjglgaaGreatF23
import Derived.Test.YtfpnhgahkjglgaaGreatF06
set_option maxRecDepth 100000
namespace Go.Proofs.YtfpnhgahkjglgaaGreat
open Go Go.RowKit Go.Maps
theorem best_size {s : Sc} (hok : ScOK s) {inp : ByteArray} (hF : FlatS s inp) (hi : inp.size ≤ 40) {y : Rs} (hy : y ∈ bestL s inp) : y.tx.size ≤ 1000 := by
 obtain ⟨m, _, hw⟩ := (best_is hF).is_ y hy
 exact (pair_facts hok hF hi (Nat.le_refl _) (pair_iff.2 hw)).2.2
theorem chk_sizes {s : Sc} (hok : ScOK s) (hfl : FlatR s) {ti ta tb : ByteArray} {er : Int} (h : ChkP s ti ta tb er) : ti.size ≤ 40 ∧ ta.size ≤ 1000 ∧ tb.size ≤ 1000 := by
 rcases h with ⟨_, rfl, rfl, rfl, _⟩ | ⟨_, _, rfl, rfl, rfl, _⟩ | ⟨_, u, hu, ⟨_, rfl, rfl, rfl, _⟩ | ⟨_, x, y, r, hb, rfl, rfl, rfl, _⟩⟩
 ·exact ⟨by decide, by decide, by decide⟩
 ·exact ⟨by decide, by decide, by decide⟩
 ·exact ⟨by decide, by decide, by decide⟩
 ·have hl : (ba u).size ≤ 40 := hu.2
  exact ⟨hl, best_size hok (pair_flat hfl _) hl (by rw [hb]; simp), best_size hok (pair_flat hfl _) hl (by rw [hb]; simp)⟩
def IsGot (s : Sc) (z : ByteArray) (v : Value) (w w' : World) : Prop :=
 ∃ (gR : Nat) (l : List Rs) (e2 : Int) (big : Bool) (Ab : Option Addr) (cb : Nat), v = .pointer (some ⟨gR, 0, none⟩) ∧ RBP s z 2 l e2 big ∧ (l.length ≤ cb ∧ cb ≤ maxLen) ∧ Blk w' gR 45 #[.slice Ab l.length cb, .int .i64 e2, .bool big] ∧ SlR 2 RRs w' Ab l ∧ Below w.heap.size w w'
set_option maxHeartbeats 16000000 in
theorem singleFirst_any (A : Option Addr) (xs : List Rw) (c : Nat) (qb qd : Int) (w : World) (hx : SlR 5 RRw w A xs) (hl0 : xs.length ≤ maxLen) (hqb : 0 ≤ qb ∧ qb ≤ 255) (hqd : 0 ≤ qd ∧ qd ≤ 255) :
 Calls Tryz.prog 4 #[.agg #[.int .u8 qb, .int .u8 qd, .slice A xs.length c]] w fun e w' => e = .returned (.bool true) ∧ Below w.heap.size w w' := by
 obtain ⟨w1, hw1⟩ : ∃ w1, (w.alloc (.cells #[.int .u8 qb, .int .u8 qd, .slice A xs.length c] 24)) = w1 := ⟨_, rfl⟩
 obtain ⟨g, hg⟩ : ∃ g, w.heap.size = g := ⟨_, rfl⟩
 have hb1 : Below w.heap.size w w1 := by rw [← hw1]; exact nw _ (Below.refl _ _)
 have hX0 : Blk w1 g 24 #[.int .u8 qb, .int .u8 qd, .slice A xs.length c] := by rw [← hw1]; exact (Blk.new_ hg.symm)
 have HW1 := Lib.hid hw1
 have HG := Lib.hid hg
 have HB1 := Lib.hid hb1
 have HKP : Hid (∀ W, Below w1.heap.size w1 W → (W.cell? ⟨g, 0, none⟩ = some (.int .u8 qb) ∧ W.cell? ⟨g, 1, none⟩ = some (.int .u8 qd) ∧ W.cell? ⟨g, 2, none⟩ = some (.slice A xs.length c) ∧ g < W.heap.size)) := fun W hW => ⟨by rw [(hX0.below hW hX0.lt).cell]; rfl, by rw [(hX0.below hW hX0.lt).cell]; rfl, by rw [(hX0.below hW hX0.lt).cell]; rfl, (hX0.below hW hX0.lt).lt⟩
 have HMA : Hid (∀ W, Below w1.heap.size w1 W → Calls Tryz.prog 8 #[.agg #[.int .u8 qb, .int .u8 qd, .slice A xs.length c]] W (IsMadeA W)) := fun W hW => made_any5A A xs c qb qd W (hx.below keeps_rw (hb1.trans (hW.mono hb1.size))) hl0 hqb hqd
 have HSA : Hid (∀ W, Calls Tryz.prog 7 #[] W fun e w' => e = .returned (.bool true) ∧ Below W.heap.size W w') := lsan_any
 clear hw1 hg hb1 hX0 hx
 go_enter Tryz.func4, Tryz.ntmps4
 go_upto_region 1 with fail
 rw [HW1.out, HG.out]
 go_upto_region 3 with (first
  | (go_at_call 7; go_loud (refine (HSA.out _).mono ?_; rintro e w2 ⟨rfl, hb2⟩; obtain ⟨x0, x1, x2, xl⟩ := HKP.out _ hb2))
  | (go_at_call 8; go_loud (refine (HMA.out _ hb2).mono ?_; rintro e w3 ⟨m, rs, A3, c3, rfl, hm, hrs9, hok, habc, hsc, hb3⟩; have hb13 := hb2.trans (hb3.mono hb2.size))))
 obtain ⟨b8, hb8⟩ : ∃ x, w3.heap.size = x := ⟨_, rfl⟩
 generalize hw5 : w3.alloc (.cells _ 30) = w5
 have hB8 : Blk w5 b8 30 #[.int .i64 (m : Int), .int .u8 1, .slice A3 rs.length c3] := by rw [← hw5]; exact Blk.new_ hb8.symm
 have hb15 : Below w1.heap.size w1 w5 := by rw [← hw5]; exact hb13.alloc hb13.size _
 have hsc5 : ScIn w5 ⟨(m : Int), 1, rs⟩ A3 c3 := by rw [← hw5]; exact hsc.below (nw _ (Below.refl _ _))
 rw [hb8]
 have HSCH : Hid (∀ W, Below w5.heap.size w5 W → W.cell? ⟨b8, 0, none⟩ = some (.int .i64 (m : Int)) ∧ W.cell? ⟨b8, 1, none⟩ = some (.int .u8 1) ∧ W.cell? ⟨b8, 2, none⟩ = some (.slice A3 rs.length c3) ∧ b8 < W.heap.size) := fun W hW => by
  have e1 := hB8.below hW hB8.lt
  exact ⟨by rw [e1.cell]; rfl, by rw [e1.cell]; rfl, by rw [e1.cell]; rfl, e1.lt⟩
 have HSND : Hid (∀ W, Below w5.heap.size w5 W → Calls Tryz.prog 16 #[.agg #[.int .i64 (m : Int), .int .u8 1, .slice A3 rs.length c3]] W fun e w' => IsSnd ⟨(m : Int), 1, rs⟩ e ∧ Below W.heap.size W w') := fun W hW => rsound5_any ⟨(m : Int), 1, rs⟩ A3 c3 W (hsc5.below hW)
 have HBW := Lib.hid (HB1.out.trans (hb15.mono HB1.out.size))
 have HB15 := Lib.hid hb15
 have HFL := Lib.hid (made_flat (rs := rs) hm.2)
 have HOK := Lib.hid hok
 have HSC5 := Lib.hid hsc5
 have HMM := Lib.hid hm
 have HCHK : Hid (∀ W, Below w5.heap.size w5 W → Calls Tryz.prog 9 #[.agg #[.int .i64 (m : Int), .int .u8 1, .slice A3 rs.length c3]] W (IsChkR ⟨(m : Int), 1, rs⟩ W)) := fun W hW => scheck_any ⟨(m : Int), 1, rs⟩ A3 c3 W (HSC5.out.below hW) HFL.out
 have HAB := Lib.hid habc
 clear hw5 hb8 hB8 hb15 hsc5 hsc hb13 hb3 hb2 x0 x1 x2 xl HMA HSA HKP HB1 hok hrs9 HG HW1 hm habc
 obtain ⟨e0, e1, e2, el⟩ := HSCH.out _ (Below.refl _ _)
 by_cases hE : soundE ⟨(m : Int), 1, rs⟩ = 0
 ·have HE := Lib.hid hE
  clear hE
  go_upto_region 4 with (go_at_call 9; go_loud (refine (HCHK.out _ (Below.refl _ _)).mono ?_; rintro e w6 ⟨ti, ta, tb, er, rfl, hck, hb6⟩; have HCK := Lib.hid hck; clear hck))
  obtain ⟨bt, hbt⟩ : ∃ b, w6.heap.size = b := ⟨_, rfl⟩
  obtain ⟨w7, hw7⟩ : ∃ W, w6.alloc (.cells #[.string ti, .string ta, .string tb] 33) = W := ⟨_, rfl⟩
  have hT : Blk w7 bt 33 #[.string ti, .string ta, .string tb] := by rw [← hw7]; exact Blk.new_ hbt.symm
  have hb7 : Below w5.heap.size w5 w7 := by rw [← hw7]; exact hb6.alloc hb6.size _
  rw [hbt, hw7]
  have HB7 := Lib.hid hb7
  have HW7 : Hid (∀ W, Below w7.heap.size w7 W → Below w.heap.size w W) := fun W hW => HBW.out.trans ((HB7.out.trans (hW.mono HB7.out.size)).mono HBW.out.size)
  have HK7 : Hid (∀ W, Below w7.heap.size w7 W → (W.cell? ⟨b8, 0, none⟩ = some (.int .i64 (m : Int)) ∧ W.cell? ⟨b8, 1, none⟩ = some (.int .u8 1) ∧ W.cell? ⟨b8, 2, none⟩ = some (.slice A3 rs.length c3) ∧ b8 < W.heap.size) ∧ W.cell? ⟨bt, 0, none⟩ = some (.string ti) ∧ W.cell? ⟨bt, 1, none⟩ = some (.string ta) ∧ W.cell? ⟨bt, 2, none⟩ = some (.string tb) ∧ bt < W.heap.size) := fun W hW => by
   have e2 := hT.below hW hT.lt
   exact ⟨HSCH.out _ (HB7.out.trans (hW.mono HB7.out.size)), by rw [e2.cell]; rfl, by rw [e2.cell]; rfl, by rw [e2.cell]; rfl, e2.lt⟩
  have HSZ := Lib.hid (chk_sizes HOK.out (HFL.out HOK.out (soundE_iff.1 HE.out).2) HCK.out)
  have HRB0 : Hid (∀ (z : ByteArray) (W : World), z.size ≤ 40 → Below w7.heap.size w7 W → Calls Tryz.prog 14 #[.agg #[.int .i64 (m : Int), .int .u8 1, .slice A3 rs.length c3], .string z, .int .i64 2] W (IsRB ⟨(m : Int), 1, rs⟩ z 2 W)) := fun z W hz hW => rbest_any ⟨(m : Int), 1, rs⟩ A3 c3 z 2 W (HSC5.out.below (HB7.out.trans (hW.mono HB7.out.size))) (Nat.le_trans hz (by decide)) HFL.out
  have HPR : Hid (∀ W, Below w7.heap.size w7 W → Calls Tryz.prog 15 #[.agg #[.int .i64 (m : Int), .int .u8 1, .slice A3 rs.length c3], .agg #[.string ti, .string ta, .string tb]] W (IsPrv8 ⟨(m : Int), 1, rs⟩ ti ta tb W)) := fun W hW => rproves_any ⟨(m : Int), 1, rs⟩ A3 c3 ti ta tb W (HSC5.out.below (HB7.out.trans (hW.mono HB7.out.size))) HFL.out (Nat.le_trans HSZ.out.1 (by decide)) HSZ.out.2.1 HSZ.out.2.2
  clear hw7 hbt hT hb7 hb6 e0 e1 e2 el
  obtain ⟨⟨e0, e1, e2, el⟩, t0, t1, t2, tl⟩ := HK7.out _ (Below.refl _ _)
  go_upto_region 6 with (go_at_call 16; go_loud (refine (HSND.out _ HB7.out).mono ?_; rintro e w8 ⟨hsn, hb8⟩; obtain rfl := hsn.yes HE.out; have HB8 := Lib.hid hb8; clear hb8 hsn))
  clear e0 e1 e2 el t0 t1 t2 tl
  go_wp2_with fail
  go_loopw [7] (fun nv wr => ∃ n : Nat, n ≤ 5 ∧ nv = .int .i64 (n : Int) ∧ Hid (PassI ⟨(m : Int), 1, rs⟩ n 0) ∧ Below w7.heap.size w7 wr) (fun nv _ => 5 - (intOf nv).toNat)
  case atStart => exact ⟨0, by omega, rfl, PassI.start _, HB8.out⟩
  case round =>
   obtain ⟨wR, rfl⟩ : ∃ W, W = wr := ⟨wr, rfl⟩
   obtain ⟨n, hn, rfl, HP, hbr⟩ := hrel
   have HBR := Lib.hid hbr
   clear hbr
   by_cases hlt : n ≤ 4
   ·have hni : (n : Int) ≤ 4 := by omega
    have HIN := Lib.hid (rinputs_any n wR hlt)
    go_upto_region 10 with (go_at_call 17; go_loud (refine HIN.out.mono ?_; rintro e w9 ⟨⟨A1, c1, rfl, hc1, hs1⟩, hb9⟩; have HS1 := Lib.hid hs1; have HC1 := Lib.hid hc1; have HB9 := Lib.hid (HBR.out.trans (hb9.mono HBR.out.size)); clear hs1 hc1 hb9))
    obtain ⟨L, hL⟩ : ∃ l, inpsL n = l := ⟨_, rfl⟩
    have HL := Lib.hid hL
    have hL81 : L.length ≤ 81 := by rw [← hL, inps_len]; exact Nat.le_trans (Nat.pow_le_pow_right (by decide) hlt) (by decide)
    rw [hL] at HS1 HC1 ⊢
    clear hL
    go_wp2_with fail
    go_loopw [9] (fun iv wr => ∃ i : Nat, i ≤ L.length ∧ iv = .int .i64 (i : Int) ∧ Hid (PassI ⟨(m : Int), 1, rs⟩ n i) ∧ Below w9.heap.size w9 wr) (fun iv _ => L.length - (intOf iv).toNat)
    case atStart => exact ⟨0, Nat.zero_le _, rfl, HP.out, Below.refl _ _⟩
    case round =>
     obtain ⟨wQ, rfl⟩ : ∃ W, W = wr := ⟨wr, rfl⟩
     obtain ⟨i, hi, rfl, HQ, hbq⟩ := hrel
     have HB9Q := Lib.hid hbq
     have HBQ : Hid (Below w7.heap.size w7 wQ) := HB9.out.trans (hbq.mono HB9.out.size)
     by_cases hli : i < L.length
     ·have hii : (i : Int) < (L.length : Int) := by omega
      have hi0 : (0 : Int) ≤ (i : Int) := by omega
      obtain ⟨b, off, u, rfl, hbb, hu, d0⟩ := (HS1.out.below keeps_ba hbq).ba_ hli
      have HU : Hid ((inpsL n)[i]? = some u) := by show _ = _; rw [HL.out]; exact hu
      obtain ⟨z, hz⟩ : ∃ z, ba u = z := ⟨_, rfl⟩
      have HZ := Lib.hid hz
      have hz40 : z.size ≤ 40 := by rw [← hz]; have := (inps_let HU.out hlt).2; omega
      have HRB : Hid (∀ W, Below wQ.heap.size wQ W → Calls Tryz.prog 14 #[.agg #[.int .i64 (m : Int), .int .u8 1, .slice A3 rs.length c3], .string z, .int .i64 2] W (IsRB ⟨(m : Int), 1, rs⟩ z 2 W)) := fun W hW => HRB0.out z W hz40 (HBQ.out.trans (hW.mono HBQ.out.size))
      rw [hz] at d0
      obtain ⟨⟨e0, e1, e2, el⟩, t0, t1, t2, tl⟩ := HK7.out _ HBQ.out
      clear hu hz hbq
      go_upto_region 13 with fail
      go_cut [10] (fun s10 W => IsGot ⟨(m : Int), 1, rs⟩ z s10 wQ W)
      case first =>
       refine ordB_below (.quiet 0 (.quiet 1 (.quiet 2 (.quiet 3 (.quiet 4 (.fork 5 6 (.only 6 (.only 7 .done)) (.only 5 (.only 7 .done)))))))) (by kernel_rfl) (by kernel_rfl) (by kernel_rfl) (fun _ _ _ _ _ h => h) ?_
       intro V0 hV0
       iterate 5 ((first | refine ordB_skip rfl rfl ?_ | (refine ordB_take (v := ?_) rfl rfl ?_ ?_; rotate_left 1; (focus (intro W hW; obtain ⟨hcW, hfW⟩ := bcell hW; (go_simp <;> with_reducible rfl))))); simp only [Act.put, zA, zB, zC])
       refine ordB_fork (opB_call rfl rfl (fun K hK => ?_)) (opB_call rfl rfl (fun K hK => ?_))
       ·go_simp
        go_at_call 14
        refine (HRB.out V0 hV0).mono ?_
        rintro e V0_1 ⟨l, e2, big, Ab, cb, rfl, hrb, hcb, hsl, hx5⟩
        refine hK.out _ _ (hV0.trans (hx5.mono hV0.size)) (fun hV0_1 => ?_)
        refine ordB_only (opB_call rfl rfl (fun K hK => ?_))
        go_simp
        refine hK.out _ _ (hV0_1.alloc hV0_1.size _) (fun hV0_1_2 => ?_)
        have RB := Blk.new V0_1 45 #[.slice none 0 0, .int .i64 0, .bool false]
        have RBb := nw (.cells #[.slice none 0 0, .int .i64 0, .bool false] 45) (Below.refl V0_1.heap.size V0_1)
        have RBg := hV0_1.size
        obtain ⟨V0_1_2, qqV0_1_2⟩ : ∃ W', V0_1.alloc (.cells #[.slice none 0 0, .int .i64 0, .bool false] 45) = W' := ⟨_, rfl⟩
        rw [qqV0_1_2] at hV0_1_2 RB RBb ⊢
        have RBlt := RB.lt
        clear qqV0_1_2
        refine ordB_only (opB_call rfl rfl (fun K hK => ?_))
        have RBc0 := RB.cell 0
        have RBc1 := RB.cell 1
        have RBc2 := RB.cell 2
        have RBf0 := RB.frozen 0
        have RBf1 := RB.frozen 1
        have RBf2 := RB.frozen 2
        have RBl := RB.lt
        simp at RBc0 RBc1 RBc2
        go_simp
        have hs8 : SlR 2 RRs V0_1_2 Ab l := by first | exact hsl | exact hsl.below keeps_rs RBb
        have hne8 := rs_off hs8 RB (fun j o => by rcases j with _ | _ | _ | j <;> simp)
        have HSL9 := rs_far (rs_far (rs_far hs8 hne8 0 (.slice Ab l.length cb)) hne8 1 (.int .i64 e2)) hne8 2 (.bool big)
        refine hK.out _ _ (((hV0_1_2.setCell (p := ⟨V0_1.heap.size, 0, none⟩) RBg (.slice Ab l.length cb)).setCell (p := ⟨V0_1.heap.size, 1, none⟩) RBg (.int .i64 e2)).setCell (p := ⟨V0_1.heap.size, 2, none⟩) RBg (.bool big)) (fun hV0_1_2_3 => ?_)
        clear hK K
        have RB := ((RB.set_ 0 (.slice Ab l.length cb)).set_ 1 (.int .i64 e2)).set_ 2 (.bool big)
        obtain ⟨V0_1_2_3, qq⟩ : ∃ W', (((V0_1_2.setCell ⟨V0_1.heap.size, 0, none⟩ (.slice Ab l.length cb)).setCell ⟨V0_1.heap.size, 1, none⟩ (.int .i64 e2)).setCell ⟨V0_1.heap.size, 2, none⟩ (.bool big)) = W' := ⟨_, rfl⟩
        rw [qq] at hV0_1_2_3 RB HSL9 ⊢
        clear qq RBc0 RBc1 RBc2 RBf0 RBf1 RBf2 RBl hs8 hne8
        refine ordB_nil ?_
        go_wp2_with fail
        go_meet
        exact ⟨_, l, e2, big, Ab, cb, rfl, hrb, hcb, by simpa using RB, HSL9, hV0_1_2_3⟩
       ·go_simp
        refine hK.out _ _ (hV0.alloc hV0.size _) (fun hV0_1 => ?_)
        have RB := Blk.new V0 45 #[.slice none 0 0, .int .i64 0, .bool false]
        have RBb := nw (.cells #[.slice none 0 0, .int .i64 0, .bool false] 45) (Below.refl V0.heap.size V0)
        have RBg := hV0.size
        obtain ⟨V0_1, qqV0_1⟩ : ∃ W', V0.alloc (.cells #[.slice none 0 0, .int .i64 0, .bool false] 45) = W' := ⟨_, rfl⟩
        rw [qqV0_1] at hV0_1 RB RBb ⊢
        have RBlt := RB.lt
        clear qqV0_1
        refine ordB_only (opB_call rfl rfl (fun K hK => ?_))
        go_simp
        go_at_call 14
        refine (HRB.out V0_1 hV0_1).mono ?_
        rintro e V0_1_2 ⟨l, e2, big, Ab, cb, rfl, hrb, hcb, hsl, hx5⟩
        refine hK.out _ _ (hV0_1.trans (hx5.mono hV0_1.size)) (fun hV0_1_2 => ?_)
        have RB := RB.below hx5 RB.lt
        refine ordB_only (opB_call rfl rfl (fun K hK => ?_))
        have RBc0 := RB.cell 0
        have RBc1 := RB.cell 1
        have RBc2 := RB.cell 2
        have RBf0 := RB.frozen 0
        have RBf1 := RB.frozen 1
        have RBf2 := RB.frozen 2
        have RBl := RB.lt
        simp at RBc0 RBc1 RBc2
        go_simp
        have hs8 : SlR 2 RRs V0_1_2 Ab l := by first | exact hsl | exact hsl.below keeps_rs RBb
        have hne8 := rs_off hs8 RB (fun j o => by rcases j with _ | _ | _ | j <;> simp)
        have HSL9 := rs_far (rs_far (rs_far hs8 hne8 0 (.slice Ab l.length cb)) hne8 1 (.int .i64 e2)) hne8 2 (.bool big)
        refine hK.out _ _ (((hV0_1_2.setCell (p := ⟨V0.heap.size, 0, none⟩) RBg (.slice Ab l.length cb)).setCell (p := ⟨V0.heap.size, 1, none⟩) RBg (.int .i64 e2)).setCell (p := ⟨V0.heap.size, 2, none⟩) RBg (.bool big)) (fun hV0_1_2_3 => ?_)
        clear hK K
        have RB := ((RB.set_ 0 (.slice Ab l.length cb)).set_ 1 (.int .i64 e2)).set_ 2 (.bool big)
        obtain ⟨V0_1_2_3, qq⟩ : ∃ W', (((V0_1_2.setCell ⟨V0.heap.size, 0, none⟩ (.slice Ab l.length cb)).setCell ⟨V0.heap.size, 1, none⟩ (.int .i64 e2)).setCell ⟨V0.heap.size, 2, none⟩ (.bool big)) = W' := ⟨_, rfl⟩
        rw [qq] at hV0_1_2_3 RB HSL9 ⊢
        clear qq RBc0 RBc1 RBc2 RBf0 RBf1 RBf2 RBl hs8 hne8
        refine ordB_nil ?_
        go_wp2_with fail
        go_meet
        exact ⟨_, l, e2, big, Ab, cb, rfl, hrb, hcb, by simpa using RB, HSL9, hV0_1_2_3⟩
      case rest =>
       obtain ⟨X1, rfl⟩ : ∃ W, W = wc := ⟨wc, rfl⟩
       obtain ⟨gR, l, e2', big, Ab, cb, rfl, hrb, hcb, hR, hsl, hbx⟩ := hcut
       have HRP := Lib.hid hrb
       have HR := Lib.hid hR
       have HSL := Lib.hid hsl
       have HBU : Hid (Below w7.heap.size w7 X1) := HBQ.out.trans (hbx.mono HBQ.out.size)
       have d1 := (hbx.cell (p := ⟨b, off + i, none⟩) hbb).trans d0
       have hbb1 : b < X1.heap.size := Nat.lt_of_lt_of_le hbb hbx.size
       clear hrb hR hsl e0 e1 e2 el t0 t1 t2 tl d0 hbb
       obtain ⟨⟨e0, e1, e2, el⟩, t0, t1, t2, tl⟩ := HK7.out _ HBU.out
       have r0 := HR.out.cell 0
       have r2 := HR.out.cell 2
       have rl := HR.out.lt
       simp at r0 r2
       have HBX := Lib.hid hbx
       clear hbx
       cases hbig : big with
       | true =>
        rw [hbig] at r2
        go_wp2_with fail
        go_ret
        exact ⟨rfl, HW7.out _ HBU.out⟩
       | false =>
        rw [hbig] at r2
        have hst := first_step HE.out (HFL.out HOK.out (soundE_iff.1 HE.out).2) HAB.out HQ.out HU.out hlt HCK.out (by rw [HZ.out, ← hbig]; exact HRP.out)
        rw [HZ.out] at hst
        clear hbig
        rcases hst with ⟨h80, htz, x, y, hxy, hxa, hyb⟩ | ⟨hno, hl1, hps⟩
        ·have h1 : (er == 80) = true := by rw [h80]; rfl
         have h2 : (ti.toList == z.toList) = true := by rw [htz]; simp
         subst hxy
         obtain ⟨ob, off2, rfl, hbo, f0, _, f2⟩ := two_rs HSL.out
         have h3 : (x.tx.toList == ta.toList) = true := by rw [hxa]; simp
         have h4 : (y.tx.toList == tb.toList) = true := by rw [hyb]; simp
         have hc2 : ((2 : Nat) : Int) ≤ (cb : Int) := by have := hcb.1; simp at this; omega
         clear h80 htz hxa hyb
         go_upto_region 16 with fail
         go_cut [58] (fun s58 W => s58 = .bool true ∧ Below X1.heap.size X1 W)
         case first =>
          refine ordB_below (.quiet 0 (.quiet 1 (.quiet 2 (.quiet 3 (.quiet 4 (.quiet 5 (.quiet 6 (.quiet 7 (.quiet 8 (.quiet 9 (.quiet 10 .done))))))))))) (by kernel_rfl) (by kernel_rfl) (by kernel_rfl) (fun _ _ _ _ _ h => h) ?_
          intro V1 hV1
          iterate 11 ((first | refine ordB_skip rfl rfl ?_ | (refine ordB_take (v := ?_) rfl rfl ?_ ?_; rotate_left 1; (focus (intro W hW; obtain ⟨hcW, hfW⟩ := bcell hW; (go_simp <;> with_reducible rfl))))); simp only [Act.put, zA, zB, zC])
          refine ordB_nil ?_
          have hb16 := hV1
          clear hV1
          go_wp2_with fail
          go_meet
          exact ⟨rfl, hb16⟩
         case rest =>
          obtain ⟨X2, rfl⟩ : ∃ W, W = wc := ⟨wc, rfl⟩
          obtain ⟨rfl, hbz⟩ := hcut
          have HBU2 : Hid (Below w7.heap.size w7 X2) := HBU.out.trans (hbz.mono HBU.out.size)
          have hR2 := HR.out.below hbz rl
          have f0' := (hbz.cell (p := ⟨ob, off2, none⟩) hbo).trans f0
          have f2' := (hbz.cell (p := ⟨ob, off2 + 2, none⟩) hbo).trans f2
          have hbo' : ob < X2.heap.size := Nat.lt_of_lt_of_le hbo hbz.size
          clear e0 e1 e2 el t0 t1 t2 tl r0 r2 rl d1 f0 f2 hbz hbo
          obtain ⟨⟨e0, e1, e2, el⟩, t0, t1, t2, tl⟩ := HK7.out _ HBU2.out
          have r0 := hR2.cell 0
          have rl := hR2.lt
          simp at r0
          clear hR2
          have HBU := HBU2
          go_upto_region 17 with fail
          refine ordB_below (.quiet 0 (.quiet 1 (.quiet 2 (.quiet 3 (.quiet 4 (.quiet 5 (.quiet 6 (.quiet 7 (.quiet 8 (.quiet 9 (.quiet 10 (.quiet 11 (.quiet 12 (.quiet 13 (.quiet 14 (.quiet 15 (.quiet 16 (.quiet 17 (.quiet 18 (.quiet 19 (.quiet 20 (.quiet 21 (.quiet 22 (.quiet 23 (.quiet 24 (.quiet 25 (.quiet 26 (.quiet 27 .done)))))))))))))))))))))))))))) (by kernel_rfl) (by kernel_rfl) (by kernel_rfl) (fun _ _ _ _ _ h => h) ?_
          intro V1 hV1
          iterate 28 ((first | refine ordB_skip rfl rfl ?_ | (refine ordB_take (v := ?_) rfl rfl ?_ ?_; rotate_left 1; (focus (intro W hW; obtain ⟨hcW, hfW⟩ := bcell hW; (go_simp <;> with_reducible rfl))))); simp only [Act.put, zA, zB, zC])
          refine ordB_nil ?_
          go_wp2_with fail
          go_ret
          exact ⟨rfl, HW7.out _ (HBU.out.trans (hV1.mono HBU.out.size))⟩
        ·have HPS := Lib.hid hps
         have hl1i : ¬ (1 : Int) < (l.length : Int) := by omega
         clear hps
         go_upto_region 16 with fail
         go_cut [58] (fun s58 W => s58 = .bool false ∧ Below X1.heap.size X1 W)
         case first =>
          by_cases h80 : er = 80
          ·have h1 : (er == 80) = true := by rw [h80]; rfl
           have h2 : (ti.toList == z.toList) = false := by rw [beq_eq_false_iff_ne]; exact fun e => hno ⟨h80, toL_inj e⟩
           clear hno h80
           refine ordB_below (.quiet 0 (.quiet 1 (.quiet 2 (.quiet 3 (.quiet 4 (.quiet 5 (.quiet 6 (.quiet 7 (.quiet 8 (.quiet 9 (.quiet 10 .done))))))))))) (by kernel_rfl) (by kernel_rfl) (by kernel_rfl) (fun _ _ _ _ _ h => h) ?_
           intro V1 hV1
           iterate 11 ((first | refine ordB_skip rfl rfl ?_ | (refine ordB_take (v := ?_) rfl rfl ?_ ?_; rotate_left 1; (focus (intro W hW; obtain ⟨hcW, hfW⟩ := bcell hW; (go_simp <;> with_reducible rfl))))); simp only [Act.put, zA, zB, zC])
           refine ordB_nil ?_
           have hb16 := hV1
           clear hV1
           go_wp2_with fail
           go_meet
           exact ⟨rfl, hb16⟩
          ·have h1 : (er == 80) = false := by simpa using h80
           clear hno h80
           refine ordB_below (.quiet 0 (.quiet 1 (.quiet 2 (.quiet 3 (.quiet 4 (.quiet 5 (.quiet 6 (.quiet 7 (.quiet 8 (.quiet 9 (.quiet 10 .done))))))))))) (by kernel_rfl) (by kernel_rfl) (by kernel_rfl) (fun _ _ _ _ _ h => h) ?_
           intro V1 hV1
           iterate 11 ((first | refine ordB_skip rfl rfl ?_ | (refine ordB_take (v := ?_) rfl rfl ?_ ?_; rotate_left 1; (focus (intro W hW; obtain ⟨hcW, hfW⟩ := bcell hW; (go_simp <;> with_reducible rfl))))); simp only [Act.put, zA, zB, zC])
           refine ordB_nil ?_
           have hb16 := hV1
           clear hV1
           go_wp2_with fail
           go_meet
           exact ⟨rfl, hb16⟩
         case rest =>
          obtain ⟨X2, rfl⟩ : ∃ W, W = wc := ⟨wc, rfl⟩
          obtain ⟨rfl, hbz⟩ := hcut
          have HBY : Hid (Below w9.heap.size w9 X2) := (HB9Q.out.trans (HBX.out.mono HB9Q.out.size)).trans (hbz.mono (by have := HB9Q.out.size; have := HBX.out.size; omega))
          have hR2 := HR.out.below hbz rl
          clear e0 e1 e2 el t0 t1 t2 tl r0 r2 rl d1 hno
          have r0 := hR2.cell 0
          have rl := hR2.lt
          simp at r0
          clear hR2 hbz
          go_wp2_with fail
          go_roundw
          case rel => exact ⟨i + 1, by omega, by go_num, HPS.out, HBY.out⟩
          case measure => simp [intOf]; omega
     ·obtain rfl : i = L.length := by omega
      have hii : ¬ ((L.length : Nat) : Int) < (L.length : Int) := by omega
      have HPN : Hid (PassI ⟨(m : Int), 1, rs⟩ (n + 1) 0) := PassI.level (by have := HQ.out; rw [← HL.out] at this; exact this)
      clear hbq
      go_wp2_with fail
      go_roundw
      case rel => exact ⟨n + 1, by omega, by go_num, HPN.out, HBQ.out⟩
      case measure => simp [intOf]; omega
   ·obtain rfl : n = 5 := by omega
    have hni : ¬ ((5 : Nat) : Int) ≤ 4 := by decide
    have hni2 : ¬ (5 : Int) ≤ 4 := by decide
    obtain ⟨⟨e0, e1, e2, el⟩, t0, t1, t2, tl⟩ := HK7.out _ HBR.out
    rcases first_end HE.out HOK.out (HFL.out HOK.out (soundE_iff.1 HE.out).2) HAB.out HP.out HCK.out with h | h | ⟨h, h5, hpv⟩
    ·have h1 : (er == 0) = true := by rw [h]; rfl
     clear h
     go_wp2_with fail
     go_ret
     exact ⟨rfl, HW7.out _ HBR.out⟩
    ·have h1 : (er == 0) = false := by rw [h]; rfl
     have h2 : (er == 80) = false := by rw [h]; rfl
     have h3 : (er == 2) = true := by rw [h]; rfl
     clear h
     go_wp2_with fail
     go_ret
     exact ⟨rfl, HW7.out _ HBR.out⟩
    ·have h1 : (er == 0) = false := by rw [h]; rfl
     have h2 : (er == 80) = true := by rw [h]; rfl
     have h3 : (4 : Int) < (ti.size : Int) := by omega
     have HPV := Lib.hid hpv
     clear h hpv h5
     go_wp2_with (go_at_call 15; go_loud (refine (HPR.out _ HBR.out).mono ?_; rintro e w9 ⟨pb, rfl, hpb, hb9⟩; obtain rfl : pb = true := hpb.2 HPV.out; have HB9 := Lib.hid (HBR.out.trans (hb9.mono HBR.out.size)); clear hb9 hpb))
     go_ret
     exact ⟨rfl, HW7.out _ HB9.out⟩
 ·have HE := Lib.hid hE
  clear hE
  go_upto_region 4 with (go_at_call 9; go_loud (refine (HCHK.out _ (Below.refl _ _)).mono ?_; rintro e w6 ⟨ti, ta, tb, er, rfl, hck, hb6⟩; obtain ⟨rfl, rfl, rfl, rfl⟩ := chk_err HE.out hck; clear hck))
  obtain ⟨w7, hw7⟩ : ∃ W, w6.alloc (.cells #[.string ByteArray.empty, .string ByteArray.empty, .string ByteArray.empty] 33) = W := ⟨_, rfl⟩
  have hb7 : Below w5.heap.size w5 w7 := by rw [← hw7]; exact hb6.alloc hb6.size _
  rw [hw7]
  clear hw7 e0 e1 e2 el
  obtain ⟨e0, e1, e2, el⟩ := HSCH.out _ hb7
  go_wp2_with (go_at_call 16; go_loud (refine (HSND.out _ hb7).mono ?_; rintro e w8 ⟨hsn, hb8⟩; obtain rfl := hsn.no HE.out))
  go_ret
  exact ⟨rfl, HBW.out.trans ((hb7.trans (hb8.mono hb7.size)).mono HBW.out.size)⟩
end Go.Proofs.YtfpnhgahkjglgaaGreat
