/-
  AreaMatchesReference: the walk.
-/
import Derived.Test.YtpjecpefbfobdaaAreaRefAdapt
namespace Go.Proofs.Ytpjecpefbfobdaa
open Go Go.RowKit

theorem adapt_len (us : List Ar) (ts : List Tp) (key : Int) (p : Pt) : (adaptOf us ts key p).1.length ≤ ts.length + ts.length + 1 := by
  unfold adaptOf
  split
  · split
    · simp
    · exact putT_len _ _ _
  · simp
set_option maxRecDepth 100000 in
set_option maxHeartbeats 8000000 in
theorem areaMatches_any (A : Option Addr) (l : List B2) (c : Nat) (A2 : Option Addr) (l2 : List B3) (c2 : Nat) (pa pb pc : Int) (w : World) (hx : SlR 2 RB2 w A l) (hl0 : l.length ≤ maxLen) (hok : ∀ p ∈ l, B2OK p)
    (hy : SlR 3 RB3 w A2 l2) (hl2 : l2.length ≤ maxLen) (hok2 : ∀ p ∈ l2, B3OK p) (ha : -32768 ≤ pa ∧ pa ≤ 32767) (hb : -32768 ≤ pb ∧ pb ≤ 32767) (hc : -32768 ≤ pc ∧ pc ≤ 32767) :
    Calls Try.prog 3 #[.slice A l.length c, .slice A2 l2.length c2, .agg #[.int .i16 pa, .int .i16 pb, .int .i16 pc]] w fun e w' => e = .returned (.bool true) ∧ Below w.heap.size w w' := by
  have HMade : Hid (∀ W, Below w.heap.size w W → Calls Try.prog 12 #[.slice A l.length c] W fun e w' => ∃ A' c' B C, e = .returned (.agg #[.slice A' (madeA l).length c', .slice B 2 2, .slice C 2 2]) ∧ SlR 5 RAr w' A' (madeA l) ∧ (madeA l).length ≤ c' ∧ c' ≤ maxLen ∧
      SlR 2 RTm w' B madeT ∧ SlR 2 RCk w' C madeC ∧ Below W.heap.size W w') := fun W hW => made_any A l c W (hx.below keeps_b2 hW) hl0 hok
  have HTaps : Hid (∀ W, Below w.heap.size w W → Calls Try.prog 13 #[.slice A2 l2.length c2] W fun e w' => ∃ A' c', e = .returned (.slice A' (tapsL l2).length c') ∧ SlR 4 RTp w' A' (tapsL l2) ∧ Below W.heap.size W w') := fun W hW => taps_any A2 l2 c2 W (hy.below keeps_b3 hW) hl2 hok2
  have HAk := Lib.hid (madeA_ok hok)
  have HInc := Lib.hid (madeA_inc hok)
  have hn14 : (madeA l).length ≤ 14 := by rw [madeA_len hok]; omega
  have HTok := Lib.hid (tapsL_ok hok2)
  have HTinc := Lib.hid (tapsL_inc hok2)
  have ht6 := tapsL_len (l := l2)
  generalize madeA l = us at *
  generalize tapsL l2 = ts at *
  obtain ⟨w1, hw1⟩ : ∃ w1, w.alloc (.cells #[.int .i16 pa, .int .i16 pb, .int .i16 pc] 25) = w1 := ⟨_, rfl⟩
  have hb1 : Below w.heap.size w w1 := by rw [← hw1]; exact nw _ (Below.refl _ _)
  have HB1 : Hid (Blk w1 w.heap.size 25 #[.int .i16 pa, .int .i16 pb, .int .i16 pc]) := by rw [← hw1]; exact Blk.new _ _ _
  have HW1 := Lib.hid hw1
  have HSan : Hid (Calls Try.prog 11 #[] w1 fun e w' => e = .returned (.bool true) ∧ Below w1.heap.size w1 w') := sanity_any w1
  have hs1 : w1.heap.size = w.heap.size + 1 := by rw [← hw1]; simp
  have HPt : Hid (PtOK ⟨pa, pb⟩) := ⟨by unfold Small; dsimp only; omega, by unfold Small; dsimp only; omega⟩
  clear hw1 hx hok hy
  go_enter Try.func3, Try.ntmps3
  go_upto_region 3 with (first | (go_at_call 11; go_loud (rw [HW1.out]; refine HSan.out.mono ?_; rintro e w2 ⟨rfl, hb2⟩)) | (go_at_call 12; go_loud (refine (HMade.out _ (hb1.trans (hb2.mono (by omega)))).mono ?_; rintro e w3 ⟨A3, c3, B3, C3, rfl, hs3, hc3, hm3, _, _, hb3⟩)) | (go_at_call 13; go_loud (refine (HTaps.out _ ((hb1.trans (hb2.mono (by omega))).trans (hb3.mono (by have := hb2.size; omega)))).mono ?_; rintro e w4 ⟨A4, c4, rfl, hs4, hb4⟩)))
  obtain ⟨W4, hW4⟩ : ∃ W4, w4.alloc (.cells #[.slice A3 us.length c3, .slice B3 2 2, .slice C3 2 2] 31) = W4 := ⟨_, rfl⟩
  have hb4' : Below w4.heap.size w4 W4 := by rw [← hW4]; exact nw _ (Below.refl _ _)
  have hG : Blk W4 w4.heap.size 31 #[.slice A3 us.length c3, .slice B3 2 2, .slice C3 2 2] := by rw [← hW4]; exact Blk.new _ _ _
  rw [hW4]
  have hb14 := bthen (bthen (bthen hb2 hb3) hb4) hb4'
  have hbw4 := bthen hb1 hb14
  have hB4 := HB1.out.below hb14 (by omega)
  have p0 := hB4.cell 0
  have p1 := hB4.cell 1
  have p2 := hB4.cell 2
  have lp := hB4.lt
  simp at p0 p1 p2
  have HS3 := Lib.hid ((hs3.below keeps_ar hb4).below keeps_ar hb4')
  have HS4 := Lib.hid (hs4.below keeps_tp hb4')
  have hwa : IntKind.i64.wrap pa = pa := IntWalk.i64_in _ (by omega)
  have hwb : IntKind.i64.wrap pb = pb := IntWalk.i64_in _ (by omega)
  have hwc : IntKind.u8.wrap pc = pc % 256 := by rw [IntKind.wrap_u8]
  have hq0 : 0 ≤ pc % 256 ∧ pc % 256 ≤ 255 := by omega
  obtain ⟨pq, hpq⟩ : ∃ q, pc % 256 = q := ⟨_, rfl⟩
  rw [hpq] at hwc hq0
  have hwq : IntKind.i64.wrap pq = pq := IntWalk.i64_in _ (by omega)
  have htq : pq.tmod 20 = pq % 20 := Int.tmod_eq_emod_of_nonneg hq0.1
  have hr0 : 0 ≤ pq % 20 ∧ pq % 20 ≤ 19 := by omega
  obtain ⟨pr, hpr⟩ : ∃ q, pq % 20 = q := ⟨_, rfl⟩
  rw [hpr] at htq hr0
  have hwr : IntKind.i64.wrap pr = pr := IntWalk.i64_in _ (by omega)
  have hwk : IntKind.i64.wrap (97 + pr) = 97 + pr := IntWalk.i64_in _ (by omega)
  obtain ⟨key, hkey⟩ : ∃ k, 97 + pr = k := ⟨_, rfl⟩
  have hwk2 : IntKind.u8.wrap (97 + pr) = key := by rw [IntKind.wrap_u8]; omega
  obtain ⟨g, hg⟩ : ∃ g, w4.heap.size = g := ⟨_, rfl⟩
  rw [hg] at hG ⊢
  have HG := Lib.hid hG
  clear hG hW4 hb4' hb14 hs3 hs4 hc3 hm3 hb2 hb3 hb4 hg hB4 hs1 hpq hpr hkey
  go_cut [10, 11] (fun s10 s11 W => ∃ (gp : Nat), s10 = .pointer (some ⟨gp, 0, none⟩) ∧ s11 = .int .u8 key ∧ Blk W gp 36 #[.int .i64 pa, .int .i64 pb] ∧ Below W4.heap.size W4 W)
  case first =>
    refine ordB_below (.quiet 0 (.quiet 1 (.quiet 2 (.quiet 3 (.quiet 4 (.quiet 5 (.quiet 7 (.quiet 8 (.quiet 9 (.quiet 10 (.quiet 11 (.quiet 12 (.quiet 13 (.fork 6 14 (.only 14 (.only 15 (.quiet 16 .done))) (.only 6 (.only 15 (.quiet 16 .done))))))))))))))))) (by kernel_rfl) (by kernel_rfl) (by kernel_rfl) (fun _ _ _ _ _ h => h) ?_
    intro V0 hV0
    iterate 13 (first
      | (refine ordB_skip rfl rfl ?_; simp only [Act.put, List.setIfInBounds_toArray, List.set_cons_zero, List.set_cons_succ])
      | (refine ordB_take (v := ?_) rfl rfl ?_ ?_
         rotate_left 1
         focus (intro W hW; obtain ⟨hcW, hfW⟩ := bcell hW; (go_simp <;> with_reducible rfl))
         simp only [Act.put, List.setIfInBounds_toArray, List.set_cons_zero, List.set_cons_succ]))
    refine ordB_fork (opB_call rfl rfl (fun K hK => ?_)) (opB_call rfl rfl (fun K hK => ?_))
    · go_simp
      go_at_call 14
      refine (point_any _ _ _).mono ?_
      rintro e V0_1 ⟨rfl, hbp⟩
      refine hK.out _ _ (hV0.trans (hbp.mono hV0.size)) (fun hV0_1 => ?_)
      refine ordB_only (opB_call rfl rfl (fun K hK => ?_))
      go_simp
      refine hK.out _ _ (hV0_1.alloc hV0_1.size _) (fun hV0_1_2 => ?_)
      have bp := Blk.new V0_1 36 #[.int .i64 0, .int .i64 0]
      have bpb := nw (.cells #[.int .i64 0, .int .i64 0] 36) (Below.refl V0_1.heap.size V0_1)
      have bpg := hV0_1.size
      obtain ⟨V0_1_2, qqV0_1_2⟩ : ∃ W', V0_1.alloc (.cells #[.int .i64 0, .int .i64 0] 36) = W' := ⟨_, rfl⟩
      rw [qqV0_1_2] at hV0_1_2 bp bpb ⊢
      clear qqV0_1_2 bpb
      refine ordB_only (opB_call rfl rfl (fun K hK => ?_))
      have bpc0 := bp.cell 0
      have bpf0 := bp.frozen 0
      have bpc1 := bp.cell 1
      have bpf1 := bp.frozen 1
      simp at bpc0 bpc1
      go_simp
      refine hK.out _ _ ((hV0_1_2.setCell (p := ⟨V0_1.heap.size, 0, none⟩) bpg _).setCell (p := ⟨V0_1.heap.size, 1, none⟩) bpg _) (fun hV0_1_2_3 => ?_)
      have bp := ((bp.set_ 0 (.int .i64 pa)).set_ 1 (.int .i64 pb))
      obtain ⟨V0_1_2_3, qqV0_1_2_3⟩ : ∃ W', ((V0_1_2.setCell ⟨V0_1.heap.size, 0, none⟩ (.int .i64 pa)).setCell ⟨V0_1.heap.size, 1, none⟩ (.int .i64 pb)) = W' := ⟨_, rfl⟩
      rw [qqV0_1_2_3] at hV0_1_2_3 bp  ⊢
      clear qqV0_1_2_3 bpc0 bpf0 bpc1 bpf1
      iterate 1 (first
        | (refine ordB_skip rfl rfl ?_; simp only [Act.put, List.setIfInBounds_toArray, List.set_cons_zero, List.set_cons_succ])
        | (refine ordB_take (v := ?_) rfl rfl ?_ ?_
           rotate_left 1
           focus (intro W hW; obtain ⟨hcW, hfW⟩ := bcell hW; (go_simp <;> with_reducible rfl))
           simp only [Act.put, List.setIfInBounds_toArray, List.set_cons_zero, List.set_cons_succ]))
      refine ordB_nil ?_
      go_wp2_with fail
      go_meet
      exact ⟨_, rfl, rfl, bp, hV0_1_2_3⟩
    · go_simp
      refine hK.out _ _ (hV0.alloc hV0.size _) (fun hV0_1 => ?_)
      have bp := Blk.new V0 36 #[.int .i64 0, .int .i64 0]
      have bpb := nw (.cells #[.int .i64 0, .int .i64 0] 36) (Below.refl V0.heap.size V0)
      have bpg := hV0.size
      obtain ⟨V0_1, qqV0_1⟩ : ∃ W', V0.alloc (.cells #[.int .i64 0, .int .i64 0] 36) = W' := ⟨_, rfl⟩
      rw [qqV0_1] at hV0_1 bp bpb ⊢
      clear qqV0_1 bpb
      refine ordB_only (opB_call rfl rfl (fun K hK => ?_))
      go_simp
      go_at_call 14
      refine (point_any _ _ _).mono ?_
      rintro e V0_1_2 ⟨rfl, hbp⟩
      refine hK.out _ _ (hV0_1.trans (hbp.mono hV0_1.size)) (fun hV0_1_2 => ?_)
      have bp := bp.below hbp bp.lt
      refine ordB_only (opB_call rfl rfl (fun K hK => ?_))
      have bpc0 := bp.cell 0
      have bpf0 := bp.frozen 0
      have bpc1 := bp.cell 1
      have bpf1 := bp.frozen 1
      simp at bpc0 bpc1
      go_simp
      refine hK.out _ _ ((hV0_1_2.setCell (p := ⟨V0.heap.size, 0, none⟩) bpg _).setCell (p := ⟨V0.heap.size, 1, none⟩) bpg _) (fun hV0_1_2_3 => ?_)
      have bp := ((bp.set_ 0 (.int .i64 pa)).set_ 1 (.int .i64 pb))
      obtain ⟨V0_1_2_3, qqV0_1_2_3⟩ : ∃ W', ((V0_1_2.setCell ⟨V0.heap.size, 0, none⟩ (.int .i64 pa)).setCell ⟨V0.heap.size, 1, none⟩ (.int .i64 pb)) = W' := ⟨_, rfl⟩
      rw [qqV0_1_2_3] at hV0_1_2_3 bp  ⊢
      clear qqV0_1_2_3 bpc0 bpf0 bpc1 bpf1
      iterate 1 (first
        | (refine ordB_skip rfl rfl ?_; simp only [Act.put, List.setIfInBounds_toArray, List.set_cons_zero, List.set_cons_succ])
        | (refine ordB_take (v := ?_) rfl rfl ?_ ?_
           rotate_left 1
           focus (intro W hW; obtain ⟨hcW, hfW⟩ := bcell hW; (go_simp <;> with_reducible rfl))
           simp only [Act.put, List.setIfInBounds_toArray, List.set_cons_zero, List.set_cons_succ]))
      refine ordB_nil ?_
      go_wp2_with fail
      go_meet
      exact ⟨_, rfl, rfl, bp, hV0_1_2_3⟩
  case rest =>
      obtain ⟨W5, rfl⟩ : ∃ W, W = wc := ⟨wc, rfl⟩
      obtain ⟨gp, rfl, rfl, hP, hb5⟩ := hcut
      have hG := HG.out.below hb5 HG.out.lt
      have HS3 := Lib.hid (HS3.out.below keeps_ar hb5)
      have HS4 := Lib.hid (HS4.out.below keeps_tp hb5)
      have HBw := Lib.hid (bthen hbw4 hb5)
      have HKeep : Hid (∀ W, Below W5.heap.size W5 W → W.cell? ⟨g, 0, none⟩ = some (.slice A3 us.length c3) ∧ W.cell? ⟨g, 1, none⟩ = some (.slice B3 2 2) ∧ W.cell? ⟨g, 2, none⟩ = some (.slice C3 2 2) ∧ W.cell? ⟨gp, 0, none⟩ = some (.int .i64 pa) ∧ W.cell? ⟨gp, 1, none⟩ = some (.int .i64 pb) ∧ g < W.heap.size ∧ gp < W.heap.size) := fun W hW =>
        ⟨(hG.below hW hG.lt).cell 0, (hG.below hW hG.lt).cell 1, (hG.below hW hG.lt).cell 2, (hP.below hW hP.lt).cell 0, (hP.below hW hP.lt).cell 1, (hG.below hW hG.lt).lt, (hP.below hW hP.lt).lt⟩
      clear p0 p1 p2 lp hwa hwb hwc hwq htq hwr hwk hwk2 hG hP hb5 hbw4
      have HT1 : Hid (∀ W, Below W5.heap.size W5 W → Calls Try.prog 15 #[.agg #[.slice A3 us.length c3, .slice B3 2 2, .slice C3 2 2], .slice A4 ts.length c4, vPt ⟨pa, pb⟩] W fun e w' => ∃ A' c', e = .returned (.tuple #[.slice A' (touchOf us ts ⟨pa, pb⟩).1.length c', .int .i64 (touchOf us ts ⟨pa, pb⟩).2]) ∧ SlR 2 RCho w' A' (touchOf us ts ⟨pa, pb⟩).1 ∧ Below W.heap.size W w') := fun W hW => touch_any us A3 c3 (.slice B3 2 2) (.slice C3 2 2) ts A4 c4 ⟨pa, pb⟩ W (HS3.out.below keeps_ar hW) (by omega) HAk.out HInc.out (HS4.out.below keeps_tp hW) (by omega) HTok.out.1
      have HT2 : Hid (∀ W, Below W5.heap.size W5 W → Calls Try.prog 16 #[.agg #[.slice A3 us.length c3, .slice B3 2 2, .slice C3 2 2], .slice A4 ts.length c4, vPt ⟨pa, pb⟩] W fun e w' => ∃ A' c', e = .returned (.tuple #[.slice A' (touchOf us ts ⟨pa, pb⟩).1.length c', .int .i64 (touchOf us ts ⟨pa, pb⟩).2]) ∧ SlR 2 RCho w' A' (touchOf us ts ⟨pa, pb⟩).1 ∧ Below W.heap.size W w') := fun W hW => by
        refine (reftouch_any us A3 c3 (.slice B3 2 2) (.slice C3 2 2) ts A4 c4 ⟨pa, pb⟩ W (HS3.out.below keeps_ar hW) (by omega) HAk.out (HS4.out.below keeps_tp hW) (by omega) HTok.out.1).mono ?_
        rintro e w' ⟨v, he, hown, hb⟩
        obtain ⟨A5, c5, rfl, _, _, hs⟩ := own_slr (R := RCho) hown (fun _ => rfl) (fun _ => rfl) rfl
        exact ⟨A5, c5, he, hs, hb⟩
      have HD1 : Hid (∀ W, Below W5.heap.size W5 W → Calls Try.prog 17 #[.agg #[.slice A3 us.length c3, .slice B3 2 2, .slice C3 2 2], .slice A4 ts.length c4, .int .u8 key, vPt ⟨pa, pb⟩] W fun e w' => ∃ A' c', e = .returned (.tuple #[.slice A' (adaptOf us ts key ⟨pa, pb⟩).1.length c', .int .i64 (adaptOf us ts key ⟨pa, pb⟩).2]) ∧ SlR 4 RTp w' A' (adaptOf us ts key ⟨pa, pb⟩).1 ∧ Below W.heap.size W w') := fun W hW => by
        refine (adapt_any us A3 c3 (.slice B3 2 2) (.slice C3 2 2) ts A4 c4 key ⟨pa, pb⟩ W (HS3.out.below keeps_ar hW) (by omega) HAk.out (HS4.out.below keeps_tp hW) (by omega) HTok.out.1 HTok.out.2.1 HTinc.out).mono ?_
        rintro e w' ⟨v, he, hown, hb⟩
        obtain ⟨A5, c5, rfl, _, _, hs⟩ := own_slr (R := RTp) hown (fun _ => rfl) (fun _ => rfl) rfl
        exact ⟨A5, c5, he, hs, hb⟩
      have HD2 : Hid (∀ W, Below W5.heap.size W5 W → Calls Try.prog 18 #[.agg #[.slice A3 us.length c3, .slice B3 2 2, .slice C3 2 2], .slice A4 ts.length c4, .agg #[.int .u8 key, .int .i64 pa, .int .i64 pb]] W fun e w' => ∃ A' c', e = .returned (.tuple #[.slice A' (adaptOf us ts key ⟨pa, pb⟩).1.length c', .int .i64 (adaptOf us ts key ⟨pa, pb⟩).2]) ∧ SlR 4 RTp w' A' (adaptOf us ts key ⟨pa, pb⟩).1 ∧ Below W.heap.size W w') := fun W hW => refadapt_any us A3 c3 (.slice B3 2 2) (.slice C3 2 2) ts A4 c4 key ⟨pa, pb⟩ W (HS3.out.below keeps_ar hW) (by omega) HAk.out (HS4.out.below keeps_tp hW) (by omega) HTok.out.1 HTok.out.2.1 HTinc.out
      have HSh1 : Hid (∀ W, Below W5.heap.size W5 W → Calls Try.prog 21 #[.slice A4 ts.length c4, .int .u8 key] W fun e w' => e = .returned (vPt (shiftOf ts key)) ∧ Below W.heap.size W w') := fun W hW => shift_any A4 ts c4 key W (HS4.out.below keeps_tp hW) (by omega) HTok.out.1
      have HSh2 : Hid (∀ W, Below W5.heap.size W5 W → Calls Try.prog 22 #[.slice A4 ts.length c4, .int .u8 key] W fun e w' => e = .returned (vPt (shiftOf ts key)) ∧ Below W.heap.size W w') := fun W hW => refshift_any A4 ts c4 key W (HS4.out.below keeps_tp hW) (by omega) HTok.out.1
      have hr14 := touch_len_ (us := us) (ts := ts) (p := ⟨pa, pb⟩) hn14
      have hx14 := adapt_len us ts key ⟨pa, pb⟩
      generalize touchOf us ts ⟨pa, pb⟩ = r at *
      generalize adaptOf us ts key ⟨pa, pb⟩ = x at *
      have HSame : Hid (∀ W A B c d, SlR 2 RCho W A r.1 → SlR 2 RCho W B r.1 → Calls Try.prog 19 #[.slice A r.1.length c, .slice B r.1.length d] W fun e w' => e = .returned (.bool true) ∧ Below W.heap.size W w') := fun W A B c d h1 h2 => by
        have := sameSlot_any A B _ _ c d W h1 h2 (Nat.le_trans hr14 (by omega))
        rw [decide_eq_true rfl] at this
        exact this
      have HSameT : Hid (∀ W A B c d, SlR 4 RTp W A x.1 → SlR 4 RTp W B x.1 → Calls Try.prog 20 #[.slice A x.1.length c, .slice B x.1.length d] W fun e w' => e = .returned (.bool true) ∧ Below W.heap.size W w') := fun W A B c d h1 h2 => by
        have := sameTaps_any A B _ _ c d W h1 h2 (by omega)
        rw [decide_eq_true rfl] at this
        exact this
      obtain ⟨k0, k1, k2, k3, k4, k5, k6⟩ := HKeep.out _ (Below.refl _ _)
      go_wp2_with (first
        | (go_at_call 15; go_loud (refine (HT1.out _ (Below.refl _ _)).mono ?_; rintro e w6 ⟨A6, c6, rfl, hs6, hb6⟩; obtain ⟨l0, l1, l2, l3, l4, l5, l6⟩ := HKeep.out _ hb6))
        | (go_at_call 16; go_loud (refine (HT2.out _ hb6).mono ?_; rintro e w7 ⟨A7, c7, rfl, hs7, hb67⟩; have hb7 := bthen hb6 hb67; obtain ⟨m0, m1, m2, m3, m4, m5, m6⟩ := HKeep.out _ hb7))
        | (go_at_call 17; go_loud (refine (HD1.out _ hb7).mono ?_; rintro e w8 ⟨A8, c8, rfl, hs8, hb78⟩; have hb8 := bthen hb7 hb78; obtain ⟨n0, n1, n2, n3, n4, n5, n6⟩ := HKeep.out _ hb8))
        | (go_at_call 18; go_loud (refine (HD2.out _ hb8).mono ?_; rintro e w9 ⟨A9, c9, rfl, hs9, hb89⟩; have hb9 := bthen hb8 hb89; have hs69 := ((hs6.below keeps_cho hb67).below keeps_cho hb78).below keeps_cho hb89; have hs79 := (hs7.below keeps_cho hb78).below keeps_cho hb89; have hs89 := hs8.below keeps_tp hb89))
        | (go_at_call 19; go_loud (refine (HSame.out _ _ _ _ _ hs69 hs79).mono ?_; rintro e w10 ⟨rfl, hb910⟩; have hb10 := bthen hb9 hb910; have hs8A := hs89.below keeps_tp hb910; have hs9A := hs9.below keeps_tp hb910))
        | (go_at_call 20; go_loud (refine (HSameT.out _ _ _ _ _ hs8A hs9A).mono ?_; rintro e w11 ⟨rfl, hb1011⟩; have hb11 := bthen hb10 hb1011))
        | (go_at_call 21; go_loud (refine (HSh1.out _ hb11).mono ?_; rintro e w12 ⟨rfl, hb1112⟩; have hb12 := bthen hb11 hb1112))
        | (go_at_call 22; go_loud (refine (HSh2.out _ hb12).mono ?_; rintro e w13 ⟨rfl, hb1213⟩; have hb13 := bthen hb12 hb1213)))
      go_ret
      exact ⟨rfl, bthen HBw.out hb13⟩
end Go.Proofs.Ytpjecpefbfobdaa
