/-
  AreaInside: the walk.
-/
import Derived.Test.YtpjecpefbfobdaaAreaWalkR
import Derived.Test.YtpjecpefbfobdaaOrdB
namespace Go.Proofs.Ytpjecpefbfobdaa
open Go Go.RowKit

theorem touch_len {us : List Ar} {ts : List Tp} {p : Pt} {n : Nat} (h : us.length ≤ n) : (touchOf us ts p).1.length ≤ n := by
  unfold touchOf
  split
  · split
    · simp
    · exact Nat.le_trans (List.length_filter_le _ _) (Nat.le_trans chos_len h)
  · simp
set_option maxRecDepth 100000 in
set_option maxHeartbeats 8000000 in
theorem areaInside_any (A : Option Addr) (l : List B2) (c : Nat) (pa pb pc : Int) (w : World) (hx : SlR 2 RB2 w A l) (hl0 : l.length ≤ maxLen) (hok : ∀ p ∈ l, B2OK p) (ha : 0 ≤ pa ∧ pa ≤ 255) (hb : 0 ≤ pb ∧ pb ≤ 255) (hc : 0 ≤ pc ∧ pc ≤ 255) :
    Calls Try.prog 6 #[.slice A l.length c, .agg #[.int .u8 pa, .int .u8 pb, .int .u8 pc]] w fun e w' => e = .returned (.bool true) ∧ Below w.heap.size w w' := by
  have hl := hl0
  unfold maxLen at hl
  have HMade : Hid (∀ W, Below w.heap.size w W → Calls Try.prog 12 #[.slice A l.length c] W fun e w' => ∃ A' c' B C, e = .returned (.agg #[.slice A' (madeA l).length c', .slice B 2 2, .slice C 2 2]) ∧ SlR 5 RAr w' A' (madeA l) ∧ (madeA l).length ≤ c' ∧ c' ≤ maxLen ∧
      SlR 2 RTm w' B madeT ∧ SlR 2 RCk w' C madeC ∧ Below W.heap.size W w') := fun W hW => made_any A l c W (hx.below keeps_b2 hW) hl0 hok
  have HAr : Hid (∀ (i : Nat) (a : Ar), (madeA l)[i]? = some a → ArM i a) := fun i a h => madeA_ar hok h
  have HAk := Lib.hid (madeA_ok hok)
  have HInc := Lib.hid (madeA_inc hok)
  have hn14 : (madeA l).length ≤ 14 := by rw [madeA_len hok]; omega
  generalize madeA l = us at *
  obtain ⟨w1, hw1⟩ : ∃ w1, w.alloc (.cells #[.int .u8 pa, .int .u8 pb, .int .u8 pc] 70) = w1 := ⟨_, rfl⟩
  have hb1 : Below w.heap.size w w1 := by rw [← hw1]; exact nw _ (Below.refl _ _)
  have HB1 : Hid (Blk w1 w.heap.size 70 #[.int .u8 pa, .int .u8 pb, .int .u8 pc]) := by rw [← hw1]; exact Blk.new _ _ _
  have HW1 := Lib.hid hw1
  have HSan : Hid (Calls Try.prog 11 #[] w1 fun e w' => e = .returned (.bool true) ∧ Below w1.heap.size w1 w') := sanity_any w1
  have hs1 : w1.heap.size = w.heap.size + 1 := by rw [← hw1]; simp
  clear hw1 hx hok
  by_cases h0 : us.length = 0
  · go_enter Try.func6, Try.ntmps6
    go_wp2_with (first | (go_at_call 11; go_loud (rw [HW1.out]; refine HSan.out.mono ?_; rintro e w2 ⟨rfl, hb2⟩)) | (go_at_call 12; go_loud (refine (HMade.out _ (hb1.trans (hb2.mono (by omega)))).mono ?_; rintro e w3 ⟨A3, c3, B3, C3, rfl, hs3, hc3, hm3, _, _, hb3⟩)))
    go_ret
    exact ⟨rfl, hb1.trans ((nw _ (hb2.trans (hb3.mono hb2.size))).mono hb1.size)⟩
  · obtain ⟨q, hq⟩ : ∃ q : Nat, pa % (us.length : Int) = (q : Int) := ⟨(pa % (us.length : Int)).toNat, by have := Int.emod_nonneg pa (show (us.length : Int) ≠ 0 by omega); omega⟩
    have hqlt : q < us.length := by have := Int.emod_lt_of_pos pa (show (0 : Int) < (us.length : Int) by omega); omega
    have hpq : pa.tmod (us.length : Int) = (q : Int) := by rw [Int.tmod_eq_emod_of_nonneg ha.1]; exact hq
    have hwq : IntKind.i64.wrap (q : Int) = (q : Int) := IntWalk.i64_in _ (by omega)
    have hwa : IntKind.i64.wrap pa = pa := IntWalk.i64_in _ (by omega)
    have hwb : IntKind.i64.wrap pb = pb := IntWalk.i64_in _ (by omega)
    have hwc : IntKind.i64.wrap pc = pc := IntWalk.i64_in _ (by omega)
    have hn0 : ¬ (us.length : Int) = 0 := by omega
    have hqi : (q : Int) < (us.length : Int) := by omega
    clear hq
    go_enter Try.func6, Try.ntmps6
    go_wp2_with (first | (go_at_call 11; go_loud (rw [HW1.out]; refine HSan.out.mono ?_; rintro e w2 ⟨rfl, hb2⟩)) | (go_at_call 12; go_loud (refine (HMade.out _ (hb1.trans (hb2.mono (by omega)))).mono ?_; rintro e w3 ⟨A3, c3, B3, C3, rfl, hs3, hc3, hm3, _, _, hb3⟩)))
    obtain ⟨W4, hW4⟩ : ∃ W4, w3.alloc (.cells #[.slice A3 us.length c3, .slice B3 2 2, .slice C3 2 2] 31) = W4 := ⟨_, rfl⟩
    have hb4 : Below w3.heap.size w3 W4 := by rw [← hW4]; exact nw _ (Below.refl _ _)
    have hbw4 : Below w1.heap.size w1 W4 := (hb2.trans (hb3.mono hb2.size)).trans (hb4.mono (by have := hb2.size; have := hb3.size; omega))
    have hB4 : Blk W4 w3.heap.size 31 #[.slice A3 us.length c3, .slice B3 2 2, .slice C3 2 2] := by rw [← hW4]; exact Blk.new _ _ _
    have hB1 := HB1.out.below hbw4 (by omega)
    have c0 := hB4.cell 0
    have c1 := hB4.cell 1
    have c2 := hB4.cell 2
    have p0 := hB1.cell 0
    have p1 := hB1.cell 1
    have p2 := hB1.cell 2
    have lb := hB4.lt
    have lp := hB1.lt
    simp at c0 c1 c2 p0 p1 p2
    obtain ⟨b, off, a, rfl, hbb, haa, d0, d1, d2, d3, d4⟩ := (hs3.below keeps_ar hb4).ar hqlt
    have hA := HAr.out q a haa
    have HMem := Lib.hid (List.mem_of_getElem? haa)
    have HS4 := Lib.hid (hs3.below keeps_ar hb4)
    have HBw4 := Lib.hid (hb1.trans (hbw4.mono (by omega)))
    have HB4 := Lib.hid hB4
    have HB1' := Lib.hid hB1
    rw [hW4]
    clear hW4 hb4 hbw4 hB4 hB1 haa hs3 hb2 hb3 hb1 hc3 hm3 hs1
    refine ord_below [(0, false), (1, false), (2, false), (3, false), (4, false), (5, false), (6, false), (7, false), (8, false), (9, false), (10, false), (11, true), (12, true)] (by kernel_rfl) (by kernel_rfl) (by kernel_rfl) (fun _ _ _ _ _ h => h) ?_
    intro W0 hS0
    iterate 11 (first
      | (refine ord_skip rfl rfl ?_; simp only [Act.put, List.setIfInBounds_toArray, List.set_cons_zero, List.set_cons_succ])
      | (refine ord_take (v := ?_) rfl rfl ?_ ?_
         rotate_left 1
         focus (intro W hW; obtain ⟨hcW, hfW⟩ := bcell hW; (go_simp <;> with_reducible rfl))
         simp only [Act.put, List.setIfInBounds_toArray, List.set_cons_zero, List.set_cons_succ]))
    refine ord_call rfl rfl (fun K hK => ?_)
    go_simp
    refine hK.out _ _ (hS0.alloc hS0.size _) (fun hS1 => ?_)
    refine ord_call rfl rfl (fun K hK => ?_)
    go_simp
    refine hK.out _ _ (hS0.alloc hS0.size _) (fun hS2 => ?_)
    refine ord_nil ?_
    obtain ⟨W5, hW5⟩ : ∃ W5, W0.alloc (.cells #[.int .u8 a.key, .int .i64 a.x0, .int .i64 a.y0, .int .i64 a.x1, .int .i64 a.y1] 57) = W5 := ⟨_, rfl⟩
    have hB5 : Blk W5 W0.heap.size 57 #[.int .u8 a.key, .int .i64 a.x0, .int .i64 a.y0, .int .i64 a.x1, .int .i64 a.y1] := by rw [← hW5]; exact Blk.new _ _ _
    rw [hW5] at hS2 ⊢
    have hbd := HB4.out.below hS2 lb
    have hpd := HB1'.out.below hS2 lp
    have HK6 : Hid (∀ W, Below W5.heap.size W5 W → W.cell? ⟨w3.heap.size, 0, none⟩ = some (.slice (some ⟨b, off, none⟩) us.length c3) ∧ W.cell? ⟨w3.heap.size, 1, none⟩ = some (.slice B3 2 2) ∧ W.cell? ⟨w3.heap.size, 2, none⟩ = some (.slice C3 2 2) ∧ W.cell? ⟨w.heap.size, 0, none⟩ = some (.int .u8 pa) ∧ W.cell? ⟨W0.heap.size, 0, none⟩ = some (.int .u8 a.key) ∧ w3.heap.size < W.heap.size ∧ W0.heap.size < W.heap.size) := fun W hW =>
      ⟨(hbd.below hW hbd.lt).cell 0, (hbd.below hW hbd.lt).cell 1, (hbd.below hW hbd.lt).cell 2, (hpd.below hW hpd.lt).cell 0, (hB5.below hW hB5.lt).cell 0, (hbd.below hW hbd.lt).lt, (hB5.below hW hB5.lt).lt⟩
    have e0 := hB5.cell 0
    have e1 := hB5.cell 1
    have e2 := hB5.cell 2
    have e3 := hB5.cell 3
    have e4 := hB5.cell 4
    have pp1 := hpd.cell 1
    have pp2 := hpd.cell 2
    have l5 := hB5.lt
    have lp5 := hpd.lt
    simp at e0 e1 e2 e3 e4 pp1 pp2
    have HS5 := Lib.hid (HS4.out.below keeps_ar hS2)
    have HBw5 := Lib.hid (HBw4.out.trans (hS2.mono HBw4.out.size))
    obtain ⟨hak, ⟨hx1, hx2, hx3⟩, hy1, hy2, hy3⟩ := hA
    have hdx : 0 < a.x1 - a.x0 + 1 := by omega
    have hdy : 0 < a.y1 - a.y0 + 1 := by omega
    have hnx : ¬ a.x1 - a.x0 + 1 = 0 := by omega
    have hny : ¬ a.y1 - a.y0 + 1 = 0 := by omega
    have htx : pb.tmod (a.x1 - a.x0 + 1) = pb % (a.x1 - a.x0 + 1) := Int.tmod_eq_emod_of_nonneg hb.1
    have hty : pc.tmod (a.y1 - a.y0 + 1) = pc % (a.y1 - a.y0 + 1) := Int.tmod_eq_emod_of_nonneg hc.1
    have hmx := Int.emod_nonneg pb (show a.x1 - a.x0 + 1 ≠ 0 by omega)
    have hmx2 := Int.emod_lt_of_pos pb hdx
    have hmy := Int.emod_nonneg pc (show a.y1 - a.y0 + 1 ≠ 0 by omega)
    have hmy2 := Int.emod_lt_of_pos pc hdy
    obtain ⟨mx, hmxe⟩ : ∃ m, pb % (a.x1 - a.x0 + 1) = m := ⟨_, rfl⟩
    obtain ⟨my, hmye⟩ : ∃ m, pc % (a.y1 - a.y0 + 1) = m := ⟨_, rfl⟩
    rw [hmxe] at htx hmx hmx2
    rw [hmye] at hty hmy hmy2
    have hv1 : IntKind.i64.wrap (a.x1 - a.x0) = a.x1 - a.x0 := IntWalk.i64_in _ (by omega)
    have hv2 : IntKind.i64.wrap (a.x1 - a.x0 + 1) = a.x1 - a.x0 + 1 := IntWalk.i64_in _ (by omega)
    have hv3 : IntKind.i64.wrap mx = mx := IntWalk.i64_in _ (by omega)
    have hv4 : IntKind.i64.wrap (a.x0 + mx) = a.x0 + mx := IntWalk.i64_in _ (by omega)
    have hv5 : IntKind.i64.wrap (a.y1 - a.y0) = a.y1 - a.y0 := IntWalk.i64_in _ (by omega)
    have hv6 : IntKind.i64.wrap (a.y1 - a.y0 + 1) = a.y1 - a.y0 + 1 := IntWalk.i64_in _ (by omega)
    have hv7 : IntKind.i64.wrap my = my := IntWalk.i64_in _ (by omega)
    have hv8 : IntKind.i64.wrap (a.y0 + my) = a.y0 + my := IntWalk.i64_in _ (by omega)
    obtain ⟨X, hX⟩ : ∃ X, a.x0 + mx = X := ⟨_, rfl⟩
    obtain ⟨Y, hY⟩ : ∃ Y, a.y0 + my = Y := ⟨_, rfl⟩
    rw [hX] at hv4
    rw [hY] at hv8
    clear hak
    have HXX : Hid (a.x0 ≤ (⟨X, Y⟩ : Pt).x ∧ (⟨X, Y⟩ : Pt).x ≤ a.x1) := by show a.x0 ≤ X ∧ X ≤ a.x1; omega
    have HYY : Hid (a.y0 ≤ (⟨X, Y⟩ : Pt).y ∧ (⟨X, Y⟩ : Pt).y ≤ a.y1) := by show a.y0 ≤ Y ∧ Y ≤ a.y1; omega
    have HIn : Hid (insideB ⟨X, Y⟩ = true) := by show insideB ⟨X, Y⟩ = true; unfold insideB coordB; simp; omega
    have HLen : Hid ((touchOf us [] ⟨X, Y⟩).1.length ≤ 65536) := touch_len (by omega)
    clear hmx hmx2 hmy hmy2 hdx hdy hmxe hmye hB5 hbd hpd hS0 hS1 hS2 hW5 c0 c1 c2 p0 p1 p2 lb lp d0 d1 d2 d3 d4 hK K hbb
    go_wp2_with fail
    refine ordB_below (.quiet 0 (.quiet 1 (.quiet 2 (.quiet 3 (.quiet 4 (.quiet 5 (.quiet 6 (.quiet 7 (.quiet 8 (.quiet 9 (.quiet 10 (.quiet 11 (.quiet 12 (.quiet 13 (.quiet 14 (.quiet 15 (.quiet 16 (.quiet 17 (.quiet 18 (.quiet 19 (.quiet 20 (.quiet 21 (.quiet 22 (.quiet 23 (.quiet 24 (.quiet 25 (.fork 26 27 (.only 27 (.only 28 .done)) (.only 26 (.only 28 .done))))))))))))))))))))))))))))) (by kernel_rfl) (by kernel_rfl) (by kernel_rfl) (fun _ _ _ _ _ h => h) ?_
    intro Wz hS0
    iterate 26 (first
      | (refine ordB_skip rfl rfl ?_; simp only [Act.put, List.setIfInBounds_toArray, List.set_cons_zero, List.set_cons_succ])
      | (refine ordB_take (v := ?_) rfl rfl ?_ ?_
         rotate_left 1
         focus (intro W hW; obtain ⟨hcW, hfW⟩ := bcell hW; (go_simp <;> with_reducible rfl))
         simp only [Act.put, List.setIfInBounds_toArray, List.set_cons_zero, List.set_cons_succ]))
    refine ordB_fork (opB_call rfl rfl (fun K hK => ?_)) (opB_call rfl rfl (fun K hK => ?_))
    · go_simp
      (go_at_call 14; refine (point_any _ _ _).mono ?_; rintro e wp ⟨rfl, hbp⟩; refine hK.out _ _ (hS0.trans (hbp.mono hS0.size)) (fun hS1 => ?_))
      refine ordB_only (opB_call rfl rfl (fun K hK => ?_))
      go_simp
      refine hK.out _ _ (hS1.alloc hS1.size _) (fun hS2 => ?_)
      refine ordB_only (opB_call rfl rfl (fun K hK => ?_))
      go_simp
      refine hK.out _ _ (hS1.alloc hS1.size _) (fun hS3 => ?_)
      refine ordB_nil ?_
      obtain ⟨W6, hW6⟩ : ∃ W6, wp.alloc (.cells #[.int .i64 X, .int .i64 Y] 36) = W6 := ⟨_, rfl⟩
      have hP6 : Blk W6 wp.heap.size 36 #[.int .i64 X, .int .i64 Y] := by rw [← hW6]; exact Blk.new _ _ _
      rw [hW6] at hS3 ⊢
      have hT6 := hS3
      clear hW6 hS0 hS1 hS2 hS3 hbp hK K
      obtain ⟨u0, u1, u2, u3, u4, ul0, ul1⟩ := HK6.out _ hT6
      have t0 := hP6.cell 0
      have t1 := hP6.cell 1
      have tl := hP6.lt
      simp at t0 t1
      have HBend := Lib.hid (HBw5.out.trans (hT6.mono HBw5.out.size))
      have HT := touch_any us (some ⟨b, off, none⟩) c3 (.slice B3 2 2) (.slice C3 2 2) [] none 0 ⟨X, Y⟩ W6 (HS5.out.below keeps_ar hT6) (by omega) HAk.out HInc.out SlR.nil (by decide) (by simp)
      obtain ⟨hr2, hr1⟩ := inside_law HInc.out HMem.out HIn.out HXX.out HYY.out
      rw [hr2] at HT
      have hlen2 : (touchOf us [] ⟨X, Y⟩).1.length ≤ 65536 := HLen.out
      clear hr2 hP6 hT6
      generalize touchOf us [] ⟨X, Y⟩ = r at *
      have HTc := Lib.hid HT
      clear HT
      by_cases hcz : costS r.1 a.key = 0
      · have HCo : Hid (∀ W A c, SlR 2 RCho W A r.1 → Calls Try.prog 27 #[.slice A r.1.length c, .int .u8 a.key] W fun e w' => e = .returned (.int .i64 0) ∧ W = w') := fun W A c h => by
          have := cost_any A r.1 c a.key W h hlen2
          rw [hcz] at this
          exact this
        clear hcz hr1
        go_wp2_with (first | (go_at_call 15; go_loud (refine HTc.out.mono ?_; rintro e w7 ⟨A7, c7, rfl, hs7, hb7⟩; have k7 := (hb7.cell (p := ⟨W0.heap.size, 0, none⟩) ul1).trans u4)) | (go_at_call 27; go_loud (refine (HCo.out _ _ _ hs7).mono ?_; rintro e w8 ⟨rfl, rfl⟩)))
        go_ret
        exact ⟨rfl, HBend.out.trans (hb7.mono HBend.out.size)⟩
      · have h8 : r.1.length = 8 := hr1.resolve_left hcz
        have hcz' : (costS r.1 a.key == 0) = false := by simpa using hcz
        have HCo : Hid (∀ W A c, SlR 2 RCho W A r.1 → Calls Try.prog 27 #[.slice A 8 c, .int .u8 a.key] W fun e w' => e = .returned (.int .i64 (costS r.1 a.key)) ∧ W = w') := fun W A c h => by
          have := cost_any A r.1 c a.key W h hlen2
          rw [h8] at this
          exact this
        rw [h8] at HTc
        generalize costS r.1 a.key = cz at *
        clear hr1 h8 hlen2
        go_wp2_with (first | (go_at_call 15; go_loud (refine HTc.out.mono ?_; rintro e w7 ⟨A7, c7, rfl, hs7, hb7⟩; have k7 := (hb7.cell (p := ⟨W0.heap.size, 0, none⟩) ul1).trans u4)) | (go_at_call 27; go_loud (refine (HCo.out _ _ _ hs7).mono ?_; rintro e w8 ⟨rfl, rfl⟩)))
        go_ret
        exact ⟨rfl, HBend.out.trans (hb7.mono HBend.out.size)⟩
    · go_simp
      refine hK.out _ _ (hS0.alloc hS0.size _) (fun hS1 => ?_)
      refine ordB_only (opB_call rfl rfl (fun K hK => ?_))
      go_simp
      (go_at_call 14; refine (point_any _ _ _).mono ?_; rintro e wp ⟨rfl, hbp⟩; refine hK.out _ _ (hS1.trans (hbp.mono hS1.size)) (fun hS2 => ?_))
      have hQ := (Blk.new Wz 36 #[.int .i64 0, .int .i64 0]).below hbp (by simp)
      have q0 := hQ.cell 0
      have q1 := hQ.cell 1
      have qf0 := hQ.frozen 0
      have qf1 := hQ.frozen 1
      simp at q0 q1
      refine ordB_only (opB_call rfl rfl (fun K hK => ?_))
      go_simp
      refine hK.out _ _ ((hS2.setCell (p := ⟨Wz.heap.size, 0, none⟩) hS0.size _).setCell (p := ⟨Wz.heap.size, 1, none⟩) hS0.size _) (fun hS3 => ?_)
      refine ordB_nil ?_
      obtain ⟨W6, hW6⟩ : ∃ W6, (wp.setCell ⟨Wz.heap.size, 0, none⟩ (.int .i64 X)).setCell ⟨Wz.heap.size, 1, none⟩ (.int .i64 Y) = W6 := ⟨_, rfl⟩
      have hP6 : Blk W6 Wz.heap.size 36 #[.int .i64 X, .int .i64 Y] := by rw [← hW6]; exact (hQ.set_ 0 _).set_ 1 _
      rw [hW6] at hS3 ⊢
      have hT6 := hS3
      clear hW6 hS0 hS1 hS2 hS3 hbp hK K hQ q0 q1 qf0 qf1
      obtain ⟨u0, u1, u2, u3, u4, ul0, ul1⟩ := HK6.out _ hT6
      have t0 := hP6.cell 0
      have t1 := hP6.cell 1
      have tl := hP6.lt
      simp at t0 t1
      have HBend := Lib.hid (HBw5.out.trans (hT6.mono HBw5.out.size))
      have HT := touch_any us (some ⟨b, off, none⟩) c3 (.slice B3 2 2) (.slice C3 2 2) [] none 0 ⟨X, Y⟩ W6 (HS5.out.below keeps_ar hT6) (by omega) HAk.out HInc.out SlR.nil (by decide) (by simp)
      obtain ⟨hr2, hr1⟩ := inside_law HInc.out HMem.out HIn.out HXX.out HYY.out
      rw [hr2] at HT
      have hlen2 : (touchOf us [] ⟨X, Y⟩).1.length ≤ 65536 := HLen.out
      clear hr2 hP6 hT6
      generalize touchOf us [] ⟨X, Y⟩ = r at *
      have HTc := Lib.hid HT
      clear HT
      by_cases hcz : costS r.1 a.key = 0
      · have HCo : Hid (∀ W A c, SlR 2 RCho W A r.1 → Calls Try.prog 27 #[.slice A r.1.length c, .int .u8 a.key] W fun e w' => e = .returned (.int .i64 0) ∧ W = w') := fun W A c h => by
          have := cost_any A r.1 c a.key W h hlen2
          rw [hcz] at this
          exact this
        clear hcz hr1
        go_wp2_with (first | (go_at_call 15; go_loud (refine HTc.out.mono ?_; rintro e w7 ⟨A7, c7, rfl, hs7, hb7⟩; have k7 := (hb7.cell (p := ⟨W0.heap.size, 0, none⟩) ul1).trans u4)) | (go_at_call 27; go_loud (refine (HCo.out _ _ _ hs7).mono ?_; rintro e w8 ⟨rfl, rfl⟩)))
        go_ret
        exact ⟨rfl, HBend.out.trans (hb7.mono HBend.out.size)⟩
      · have h8 : r.1.length = 8 := hr1.resolve_left hcz
        have hcz' : (costS r.1 a.key == 0) = false := by simpa using hcz
        have HCo : Hid (∀ W A c, SlR 2 RCho W A r.1 → Calls Try.prog 27 #[.slice A 8 c, .int .u8 a.key] W fun e w' => e = .returned (.int .i64 (costS r.1 a.key)) ∧ W = w') := fun W A c h => by
          have := cost_any A r.1 c a.key W h hlen2
          rw [h8] at this
          exact this
        rw [h8] at HTc
        generalize costS r.1 a.key = cz at *
        clear hr1 h8 hlen2
        go_wp2_with (first | (go_at_call 15; go_loud (refine HTc.out.mono ?_; rintro e w7 ⟨A7, c7, rfl, hs7, hb7⟩; have k7 := (hb7.cell (p := ⟨W0.heap.size, 0, none⟩) ul1).trans u4)) | (go_at_call 27; go_loud (refine (HCo.out _ _ _ hs7).mono ?_; rintro e w8 ⟨rfl, rfl⟩)))
        go_ret
        exact ⟨rfl, HBend.out.trans (hb7.mono HBend.out.size)⟩
end Go.Proofs.Ytpjecpefbfobdaa
