/-
  AreaOthers: the walk.
-/
import Derived.Test.YtpjecpefbfobdaaAreaWalkS
import Derived.Test.YtpjecpefbfobdaaAreaWalkQ
import Derived.Test.YtpjecpefbfobdaaAreaLaw6
import Derived.Test.YtpjecpefbfobdaaOrdB
import Derived.Deep.DeepCutAuto
namespace Go.Proofs.Ytpjecpefbfobdaa
open Go Go.RowKit

theorem touch_len_ {us : List Ar} {ts : List Tp} {p : Pt} {n : Nat} (h : us.length ≤ n) : (touchOf us ts p).1.length ≤ n := by
  unfold touchOf
  split
  · split
    · simp
    · exact Nat.le_trans (List.length_filter_le _ _) (Nat.le_trans chos_len h)
  · simp
theorem bthen {a b c : World} (h1 : Below a.heap.size a b) (h2 : Below b.heap.size b c) : Below a.heap.size a c := h1.trans (h2.mono h1.size)
set_option maxRecDepth 100000 in
set_option maxHeartbeats 8000000 in
theorem areaOthers_any (A : Option Addr) (l : List B2) (c : Nat) (A2 : Option Addr) (l2 : List B3) (c2 : Nat) (pa pb pc pd : Int) (w : World) (hx : SlR 2 RB2 w A l) (hl0 : l.length ≤ maxLen) (hlc : l.length ≤ c) (hcm : c ≤ maxLen) (hok : ∀ p ∈ l, B2OK p)
    (hy : SlR 3 RB3 w A2 l2) (hl2 : l2.length ≤ maxLen) (hok2 : ∀ p ∈ l2, B3OK p) (ha : 0 ≤ pa ∧ pa ≤ 255) (hb : 0 ≤ pb ∧ pb ≤ 255) (hc : 0 ≤ pc ∧ pc ≤ 255) :
    Calls Try.prog 10 #[.slice A l.length c, .slice A2 l2.length c2, .agg #[.int .u8 pa, .int .u8 pb, .int .u8 pc, .int .u8 pd]] w fun e w' => e = .returned (.bool true) ∧ Below w.heap.size w w' := by
  have hl := hl0
  unfold maxLen at hl hcm
  have hok8 : ∀ p ∈ l.take 8, B2OK p := fun p hp => hok p (List.mem_of_mem_take hp)
  have HMade : Hid (∀ W, Below w.heap.size w W → Calls Try.prog 12 #[.slice A (l.take 8).length c] W fun e w' => ∃ A' c' B C, e = .returned (.agg #[.slice A' (madeA (l.take 8)).length c', .slice B 2 2, .slice C 2 2]) ∧ SlR 5 RAr w' A' (madeA (l.take 8)) ∧ (madeA (l.take 8)).length ≤ c' ∧ c' ≤ maxLen ∧
      SlR 2 RTm w' B madeT ∧ SlR 2 RCk w' C madeC ∧ Below W.heap.size W w') := fun W hW => made_any A (l.take 8) c W (slr_take (hx.below keeps_b2 hW) 8) (by rw [List.length_take]; unfold maxLen; omega) hok8
  have HTaps : Hid (∀ W, Below w.heap.size w W → Calls Try.prog 13 #[.slice A2 l2.length c2] W fun e w' => ∃ A' c', e = .returned (.slice A' (tapsL l2).length c') ∧ SlR 4 RTp w' A' (tapsL l2) ∧ Below W.heap.size W w') := fun W hW => taps_any A2 l2 c2 W (hy.below keeps_b3 hW) hl2 hok2
  have HAr : Hid (∀ (i : Nat) (a : Ar), (madeA (l.take 8))[i]? = some a → ArM i a) := fun i a h => madeA_ar hok8 h
  have HAk := Lib.hid (madeA_ok hok8)
  have HInc := Lib.hid (madeA_inc hok8)
  have hn8 : (madeA (l.take 8)).length ≤ 8 := by rw [madeA_len hok8, List.length_take]; omega
  have HTok := Lib.hid (tapsL_ok hok2)
  have HTm : Hid (∀ t ∈ tapsL l2, ∃ j, TpM j t) := fun t ht => by obtain ⟨j, hj⟩ := List.mem_iff_getElem?.1 ht; exact ⟨j, tapsL_at hok2 hj⟩
  have HTinc := Lib.hid (tapsL_inc hok2)
  have ht6 := tapsL_len (l := l2)
  have HL8 : Hid ((l.take 8).length = min l.length 8) := by show _ = _; rw [List.length_take]; omega
  generalize madeA (l.take 8) = us at *
  generalize tapsL l2 = ts at *
  obtain ⟨w1, hw1⟩ : ∃ w1, w.alloc (.cells #[.int .u8 pa, .int .u8 pb, .int .u8 pc, .int .u8 pd] 74) = w1 := ⟨_, rfl⟩
  have hb1 : Below w.heap.size w w1 := by rw [← hw1]; exact nw _ (Below.refl _ _)
  have HB1 : Hid (Blk w1 w.heap.size 74 #[.int .u8 pa, .int .u8 pb, .int .u8 pc, .int .u8 pd]) := by rw [← hw1]; exact Blk.new _ _ _
  have HW1 := Lib.hid hw1
  have HSan : Hid (Calls Try.prog 11 #[] w1 fun e w' => e = .returned (.bool true) ∧ Below w1.heap.size w1 w') := sanity_any w1
  have hs1 : w1.heap.size = w.heap.size + 1 := by rw [← hw1]; simp
  clear hw1 hx hok hy hok8
  go_enter Try.func10, Try.ntmps10
  go_upto_region 2 with (first | (go_at_call 11; go_loud (rw [HW1.out]; refine HSan.out.mono ?_; rintro e w2 ⟨rfl, hb2⟩)))
  go_cut [8, 9] (fun s8 s9 W => ∃ (g : Nat) (A3 : Option Addr) (c3 : Nat) (B3 C3 : Option Addr) (A4 : Option Addr) (c4 : Nat), s8 = .pointer (some ⟨g, 0, none⟩) ∧ s9 = .slice A4 ts.length c4 ∧ Blk W g 31 #[.slice A3 us.length c3, .slice B3 2 2, .slice C3 2 2] ∧ SlR 5 RAr W A3 us ∧ SlR 4 RTp W A4 ts ∧ Below w1.heap.size w1 W)
  case first =>
    obtain ⟨n, hn⟩ : ∃ n, (l.take 8).length = n := ⟨_, rfl⟩
    have hnl : n = min l.length 8 := by rw [← hn]; exact HL8.out
    have hmin : (min (l.length : Int) 8) = (n : Int) := by omega
    have hnc : n ≤ c := by omega
    rw [hn] at HMade
    clear hnl hn
    go_wp2_with (first | (go_at_call 12; go_loud (refine (HMade.out _ (hb1.trans (hb2.mono (by omega)))).mono ?_; rintro e w3 ⟨A3, c3, B3, C3, rfl, hs3, hc3, hm3, _, _, hb3⟩)) | (go_at_call 13; go_loud (refine (HTaps.out _ ((hb1.trans (hb2.mono (by omega))).trans (hb3.mono (by have := hb2.size; omega)))).mono ?_; rintro e w4 ⟨A4, c4, rfl, hs4, hb4⟩)))
    go_meet
    have hs23 := hb3.size
    have hs34 := hb4.size
    have hs12 := hb2.size
    exact ⟨w4.heap.size, A3, c3, B3, C3, A4, c4, rfl, rfl, Blk.new _ _ _, (hs3.below keeps_ar hb4).below keeps_ar (nw _ (Below.refl _ _)), hs4.below keeps_tp (nw _ (Below.refl _ _)), (hb2.trans ((hb3.trans (hb4.mono hs23)).mono hs12)).trans ((nw _ (Below.refl _ _)).mono (by omega))⟩
  case rest =>
    obtain ⟨W2, rfl⟩ : ∃ W, W = wc := ⟨wc, rfl⟩
    obtain ⟨g, A3, c3, B3, C3, A4, c4, rfl, rfl, hG, hs3, hs4, hbw⟩ := hcut
    have c0 := hG.cell 0
    have c1 := hG.cell 1
    have c2' := hG.cell 2
    have lg := hG.lt
    have hB2 := HB1.out.below hbw (by omega)
    have p0 := hB2.cell 0
    have p1 := hB2.cell 1
    have p2 := hB2.cell 2
    have lp := hB2.lt
    simp at c0 c1 c2' p0 p1 p2
    by_cases h0 : us.length = 0
    · go_wp2_with fail
      go_ret
      exact ⟨rfl, hb1.trans (hbw.mono hb1.size)⟩
    · obtain ⟨q, hq⟩ : ∃ q : Nat, pa % (us.length : Int) = (q : Int) := ⟨(pa % (us.length : Int)).toNat, by have := Int.emod_nonneg pa (show (us.length : Int) ≠ 0 by omega); omega⟩
      have hqlt : q < us.length := by have := Int.emod_lt_of_pos pa (show (0 : Int) < (us.length : Int) by omega); omega
      have hpq : pa.tmod (us.length : Int) = (q : Int) := by rw [Int.tmod_eq_emod_of_nonneg ha.1]; exact hq
      have hwq : IntKind.i64.wrap (q : Int) = (q : Int) := IntWalk.i64_in _ (by omega)
      have hwa : IntKind.i64.wrap pa = pa := IntWalk.i64_in _ (by omega)
      have hwb : IntKind.i64.wrap pb = pb := IntWalk.i64_in _ (by omega)
      have hwc : IntKind.i64.wrap pc = pc := IntWalk.i64_in _ (by omega)
      have hn0 : ¬ (us.length : Int) = 0 := by omega
      have hqi : (q : Int) < (us.length : Int) := by omega
      clear hq
      obtain ⟨b, off, a, rfl, hbb, haa, d0, d1, d2, d3, d4⟩ := hs3.ar hqlt
      have hA := HAr.out q a haa
      have HMem := Lib.hid (List.mem_of_getElem? haa)
      have HS3 := Lib.hid hs3
      have HS4 := Lib.hid hs4
      have HGb := Lib.hid hG
      clear hs3 hs4 hG haa hB2
      go_upto_region 5 with fail
      go_cut [10, 11] (fun s10 s11 W => ∃ (g5 : Nat), s10 = .int .u8 a.key ∧ s11 = .pointer (some ⟨g5, 0, none⟩) ∧ Blk W g5 36 #[.int .i64 pb, .int .i64 pc] ∧ Below W2.heap.size W2 W)
      case first =>
        refine ordB_below (.quiet 0 (.quiet 1 (.quiet 2 (.quiet 3 (.quiet 4 (.quiet 5 (.quiet 6 (.quiet 7 (.quiet 8 (.quiet 9 (.quiet 10 (.quiet 11 (.quiet 12 (.quiet 13 (.quiet 14 (.quiet 15 (.quiet 16 (.quiet 17 (.fork 18 19 (.only 19 (.quiet 20 (.only 21 .done))) (.only 18 (.quiet 20 (.only 21 .done)))))))))))))))))))))) (by kernel_rfl) (by kernel_rfl) (by kernel_rfl) (fun _ _ _ _ _ h => h) ?_
        intro Wz hS0
        iterate 18 (first
          | (refine ordB_skip rfl rfl ?_; simp only [Act.put, List.setIfInBounds_toArray, List.set_cons_zero, List.set_cons_succ])
          | (refine ordB_take (v := ?_) rfl rfl ?_ ?_
             rotate_left 1
             focus (intro W hW; obtain ⟨hcW, hfW⟩ := bcell hW; (go_simp <;> with_reducible rfl))
             simp only [Act.put, List.setIfInBounds_toArray, List.set_cons_zero, List.set_cons_succ]))
        refine ordB_fork (opB_call rfl rfl (fun K hK => ?_)) (opB_call rfl rfl (fun K hK => ?_))
        · go_simp
          (go_at_call 14; refine (point_any _ _ _).mono ?_; rintro e wp ⟨rfl, hbp⟩; refine hK.out _ _ (hS0.trans (hbp.mono hS0.size)) (fun hS1 => ?_))
          refine ordB_only (opB_call rfl rfl (fun K hK => ?_))
          go_simp
          refine hK.out _ _ (hS1.alloc hS1.size _) (fun hS2 => ?_)
          refine ordB_take (v := ?_) rfl rfl ?_ ?_
          rotate_left 1
          focus (intro W hW; obtain ⟨hcW, hfW⟩ := bcell hW; (go_simp <;> with_reducible rfl))
          simp only [Act.put, List.setIfInBounds_toArray, List.set_cons_zero, List.set_cons_succ]
          refine ordB_only (opB_call rfl rfl (fun K hK => ?_))
          go_simp
          refine hK.out _ _ (hS1.alloc hS1.size _) (fun hS3 => ?_)
          refine ordB_nil ?_
          go_wp2_with fail
          go_meet
          exact ⟨_, rfl, rfl, Blk.new _ _ _, hS3⟩
        · go_simp
          refine hK.out _ _ (hS0.alloc hS0.size _) (fun hS1 => ?_)
          refine ordB_only (opB_call rfl rfl (fun K hK => ?_))
          go_simp
          (go_at_call 14; refine (point_any _ _ _).mono ?_; rintro e wp ⟨rfl, hbp⟩; refine hK.out _ _ (hS1.trans (hbp.mono hS1.size)) (fun hS2 => ?_))
          have hQ := (Blk.new Wz 36 #[.int .i64 0, .int .i64 0]).below hbp (by simp)
          have q0 := hQ.cell 0
          have q1 := hQ.cell 1
          have qf0 := hQ.frozen 0
          have qf1 := hQ.frozen 1
          simp at q0 q1
          refine ordB_take (v := ?_) rfl rfl ?_ ?_
          rotate_left 1
          focus (intro W hW; obtain ⟨hcW, hfW⟩ := bcell hW; (go_simp <;> with_reducible rfl))
          simp only [Act.put, List.setIfInBounds_toArray, List.set_cons_zero, List.set_cons_succ]
          refine ordB_only (opB_call rfl rfl (fun K hK => ?_))
          go_simp
          refine hK.out _ _ ((hS2.setCell (p := ⟨Wz.heap.size, 0, none⟩) hS0.size _).setCell (p := ⟨Wz.heap.size, 1, none⟩) hS0.size _) (fun hS3 => ?_)
          refine ordB_nil ?_
          go_wp2_with fail
          go_meet
          exact ⟨_, rfl, rfl, (hQ.set_ 0 _).set_ 1 _, hS3⟩
      case rest =>
        obtain ⟨W5, rfl⟩ : ∃ W, W = wc := ⟨wc, rfl⟩
        obtain ⟨g5, rfl, rfl, hP, hb5⟩ := hcut
        have hGb := HGb.out.below hb5 lg
        have HS3 := Lib.hid (HS3.out.below keeps_ar hb5)
        have HS4 := Lib.hid (HS4.out.below keeps_tp hb5)
        have HBw := Lib.hid (hb1.trans ((hbw.mono hb1.size).trans (hb5.mono (by have := hb1.size; have := hbw.size; omega))))
        clear c0 c1 c2' p0 p1 p2 d0 d1 d2 d3 d4 lg lp hbw hb5 hb1 hs1 hbb
        have hG0 := hGb.cell 0
        have hG1 := hGb.cell 1
        have hG2 := hGb.cell 2
        have hGl := hGb.lt
        have hP0 := hP.cell 0
        have hP1 := hP.cell 1
        have hPl := hP.lt
        simp at hG0 hG1 hG2 hP0 hP1
        obtain ⟨t', htk, had, hok', hinc'⟩ := adapt_drawn HInc.out HMem.out hA (i := q) (by omega) HTm.out HTok.out.2.2 HTinc.out (p := ⟨pb, pc⟩) (by show insideB ⟨pb, pc⟩ = true; unfold insideB coordB; simp; omega)
        have hlen' := putT_len ts a.key t'
        have HCost : Hid (∀ k, k ≠ a.key → costS (touchOf us ts ⟨pb, pc⟩).1 k = costS (touchOf us (putT ts a.key t') ⟨pb, pc⟩).1 k) := fun k hk => others_cost hn8 htk hk
        have HShift : Hid (∀ k, k ≠ a.key → shiftOf (putT ts a.key t') k = shiftOf ts k) := fun k hk => shift_put htk hk
        have HAd : Hid (∀ W, Below W5.heap.size W5 W → Calls Try.prog 17 #[.agg #[.slice (some ⟨b, off, none⟩) us.length c3, .slice B3 2 2, .slice C3 2 2], .slice A4 ts.length c4, .int .u8 a.key, vPt ⟨pb, pc⟩] W fun e w' => ∃ A5 c5, e = .returned (.tuple #[.slice A5 (putT ts a.key t').length c5, .int .i64 0]) ∧ SlR 4 RTp w' A5 (putT ts a.key t') ∧ Below W.heap.size W w') := fun W hW => by
          refine (adapt_any us (some ⟨b, off, none⟩) c3 (.slice B3 2 2) (.slice C3 2 2) ts A4 c4 a.key ⟨pb, pc⟩ W (HS3.out.below keeps_ar hW) (by omega) HAk.out (HS4.out.below keeps_tp hW) (by omega) HTok.out.1 HTok.out.2.1 HTinc.out).mono ?_
          rintro e w' ⟨v, he, hown, hb⟩
          rw [had] at he hown
          obtain ⟨A5, c5, rfl, _, _, hs⟩ := own_slr (R := RTp) hown (fun _ => rfl) (fun _ => rfl) rfl
          exact ⟨A5, c5, he, hs, hb⟩
        generalize putT ts a.key t' = nx at *
        have HVt : Hid (∀ W A c, SlR 4 RTp W A nx → Calls Try.prog 29 #[.slice A nx.length c] W fun e w' => e = .returned (.bool true) ∧ Below W.heap.size W w') := fun W A c h => validTaps_any A nx c W h (by omega) hok' hinc'
        have hTpOK : ∀ t ∈ nx, TpOK t := fun t ht => by
          obtain ⟨_, _, h1, h2⟩ := hok' t ht
          exact ⟨by unfold Small; omega, by unfold Small; omega⟩
        have HT1 : Hid (∀ W B d, Below W5.heap.size W5 W → SlR 4 RTp W B ts → Calls Try.prog 15 #[.agg #[.slice (some ⟨b, off, none⟩) us.length c3, .slice B3 2 2, .slice C3 2 2], .slice B ts.length d, vPt ⟨pb, pc⟩] W fun e w' => ∃ A' c', e = .returned (.tuple #[.slice A' (touchOf us ts ⟨pb, pc⟩).1.length c', .int .i64 (touchOf us ts ⟨pb, pc⟩).2]) ∧ SlR 2 RCho w' A' (touchOf us ts ⟨pb, pc⟩).1 ∧ Below W.heap.size W w') := fun W B d hW h =>
          touch_any us (some ⟨b, off, none⟩) c3 (.slice B3 2 2) (.slice C3 2 2) ts B d ⟨pb, pc⟩ W (HS3.out.below keeps_ar hW) (by omega) HAk.out HInc.out h (by omega) HTok.out.1
        have HT2 : Hid (∀ W B d, Below W5.heap.size W5 W → SlR 4 RTp W B nx → Calls Try.prog 15 #[.agg #[.slice (some ⟨b, off, none⟩) us.length c3, .slice B3 2 2, .slice C3 2 2], .slice B nx.length d, vPt ⟨pb, pc⟩] W fun e w' => ∃ A' c', e = .returned (.tuple #[.slice A' (touchOf us nx ⟨pb, pc⟩).1.length c', .int .i64 (touchOf us nx ⟨pb, pc⟩).2]) ∧ SlR 2 RCho w' A' (touchOf us nx ⟨pb, pc⟩).1 ∧ Below W.heap.size W w') := fun W B d hW h =>
          touch_any us (some ⟨b, off, none⟩) c3 (.slice B3 2 2) (.slice C3 2 2) nx B d ⟨pb, pc⟩ W (HS3.out.below keeps_ar hW) (by omega) HAk.out HInc.out h (by omega) hTpOK
        have hr1l := touch_len_ (us := us) (ts := ts) (p := ⟨pb, pc⟩) hn8
        have hr2l := touch_len_ (us := us) (ts := nx) (p := ⟨pb, pc⟩) hn8
        have HSh1 : Hid (∀ W A c k, SlR 4 RTp W A ts → Calls Try.prog 21 #[.slice A ts.length c, .int .u8 k] W fun e w' => e = .returned (vPt (shiftOf ts k)) ∧ Below W.heap.size W w') := fun W A c k h => shift_any A ts c k W h (by omega) HTok.out.1
        have HSh2 : Hid (∀ W A c k, k ≠ a.key → SlR 4 RTp W A nx → Calls Try.prog 21 #[.slice A nx.length c, .int .u8 k] W fun e w' => e = .returned (vPt (shiftOf ts k)) ∧ Below W.heap.size W w') := fun W A c k hk h => by
          rw [← HShift.out k hk]; exact shift_any A nx c k W h (by omega) hTpOK
        generalize touchOf us ts ⟨pb, pc⟩ = r1 at *
        generalize touchOf us nx ⟨pb, pc⟩ = r2 at *
        have HC1 : Hid (∀ W A c k, SlR 2 RCho W A r1.1 → Calls Try.prog 27 #[.slice A r1.1.length c, .int .u8 k] W fun e w' => e = .returned (.int .i64 (costS r1.1 k)) ∧ W = w') := fun W A c k h => cost_any A r1.1 c k W h (by omega)
        have HC2 : Hid (∀ W A c k, k ≠ a.key → SlR 2 RCho W A r2.1 → Calls Try.prog 27 #[.slice A r2.1.length c, .int .u8 k] W fun e w' => e = .returned (.int .i64 (costS r1.1 k)) ∧ W = w') := fun W A c k hk h => by
          rw [HCost.out k hk]; exact cost_any A r2.1 c k W h (by omega)
        have HKeep : Hid (∀ W, Below W5.heap.size W5 W → W.cell? ⟨g, 0, none⟩ = some (.slice (some ⟨b, off, none⟩) us.length c3) ∧ W.cell? ⟨g, 1, none⟩ = some (.slice B3 2 2) ∧ W.cell? ⟨g, 2, none⟩ = some (.slice C3 2 2) ∧ W.cell? ⟨g5, 0, none⟩ = some (.int .i64 pb) ∧ W.cell? ⟨g5, 1, none⟩ = some (.int .i64 pc) ∧ g < W.heap.size ∧ g5 < W.heap.size) := fun W hW =>
          ⟨(hGb.below hW hGl).cell 0, (hGb.below hW hGl).cell 1, (hGb.below hW hGl).cell 2, (hP.below hW hPl).cell 0, (hP.below hW hPl).cell 1, (hGb.below hW hGl).lt, (hP.below hW hPl).lt⟩
        clear hok' hinc' had htk hGb hP hTpOK hr1l hr2l hlen' HCost HShift
        go_wp2_with (first
          | (go_at_call 17; go_loud (refine (HAd.out _ (Below.refl _ _)).mono ?_; rintro e w6 ⟨A6, c6, rfl, hs6, hb6⟩; obtain ⟨k61, k62, k63, k64, k65, k66, k67⟩ := HKeep.out _ hb6))
          | (go_at_call 29; go_loud (refine (HVt.out _ _ _ hs6).mono ?_; rintro e w7 ⟨rfl, hb7⟩; have hb57 := bthen hb6 hb7; have hs7 := hs6.below keeps_tp hb7; obtain ⟨k71, k72, k73, k74, k75, k76, k77⟩ := HKeep.out _ hb57))
          | (go_at_call_of 15 (Value.slice A4 ts.length c4); go_loud (refine (HT1.out _ _ _ hb57 (HS4.out.below keeps_tp hb57)).mono ?_; rintro e w8 ⟨A8, c8, rfl, hs8, hb8⟩; have hb58 := bthen hb57 hb8; have hs78 := hs7.below keeps_tp hb8; obtain ⟨k81, k82, k83, k84, k85, k86, k87⟩ := HKeep.out _ hb58))
          | (go_at_call_of 15 (Value.slice A6 nx.length c6); go_loud (refine (HT2.out _ _ _ hb58 hs78).mono ?_; rintro e w9 ⟨A9, c9, rfl, hs9, hb9⟩; have hb59 := bthen hb58 hb9; have HS1n := Lib.hid (hs78.below keeps_tp hb9); have HR1 := Lib.hid (hs8.below keeps_cho hb9); have HR2 := Lib.hid hs9; obtain ⟨k91, k92, k93, k94, k95, k96, k97⟩ := HKeep.out _ hb59)))
        clear hs6 hs7 hs78 hs8 hs9 hb9 hb8 hb7
        go_loopw [18] (fun i wr => ∃ k : Nat, k ≤ us.length ∧ i = .int .i64 k ∧ Below w9.heap.size w9 wr) (fun i _ => us.length - (intOf i).toNat)
        case atStart => exact ⟨0, by omega, rfl, Below.refl _ _⟩
        case round =>
          obtain ⟨k, hk, rfl, hbr⟩ := hrel
          have hb5r := bthen hb59 hbr
          obtain ⟨r1_, r2_, r3_, r4_, r5_, r6_, r7_⟩ := HKeep.out _ hb5r
          by_cases hlt : k < us.length
          · obtain ⟨b', off', u, he, hbb', huu, d0, d1, d2, d3, d4⟩ := (HS3.out.below keeps_ar hb5r).ar hlt
            simp only [Option.some.injEq, Addr.mk.injEq, and_true] at he
            obtain ⟨rfl, rfl⟩ := he
            clear huu
            have HR1r := Lib.hid (HR1.out.below keeps_cho hbr)
            have HR2r := Lib.hid (HR2.out.below keeps_cho hbr)
            have HSr := Lib.hid (HS4.out.below keeps_tp hb5r)
            have HNr := Lib.hid (HS1n.out.below keeps_tp hbr)
            by_cases hkey : u.key = a.key
            · have e1 : (u.key == a.key) = true := by simpa using hkey
              have e2 : (u.key != a.key) = false := by simp [hkey]
              clear hkey
              go_wp2_with fail
              go_roundw
              case rel => exact ⟨k + 1, by omega, by go_num, hbr⟩
              case measure => simp [intOf]; omega
            · have HK := Lib.hid hkey
              have e1 : (u.key == a.key) = false := by simpa using hkey
              have e2 : (u.key != a.key) = true := by simpa using hkey
              clear hkey
              go_wp2_with (first
                | (go_at_call_of 27 (Value.slice A8 r1.1.length c8); go_loud (refine (HC1.out _ _ _ _ HR1r.out).mono ?_; rintro e w10 ⟨rfl, rfl⟩))
                | (go_at_call_of 27 (Value.slice A9 r2.1.length c9); go_loud (refine (HC2.out _ _ _ _ HK.out HR2r.out).mono ?_; rintro e w10 ⟨rfl, rfl⟩))
                | (go_at_call_of 21 (Value.slice A4 ts.length c4); go_loud (refine (HSh1.out _ _ _ _ HSr.out).mono ?_; rintro e w11 ⟨rfl, hb11⟩; have HNs := Lib.hid (HNr.out.below keeps_tp hb11)))
                | (go_at_call_of 21 (Value.slice A6 nx.length c6); go_loud (refine (HSh2.out _ _ _ _ HK.out HNs.out).mono ?_; rintro e w12 ⟨rfl, hb12⟩; have hbe := bthen hbr (bthen hb11 hb12))))
              go_roundw
              case rel => exact ⟨k + 1, by omega, by go_num, hbe⟩
              case measure => simp [intOf]; omega
          · go_wp2_with fail
            go_ret
            exact ⟨rfl, HBw.out.trans (hb5r.mono HBw.out.size)⟩
end Go.Proofs.Ytpjecpefbfobdaa
