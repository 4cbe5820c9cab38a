/-
  AreaSlots: the walk.
-/
import Derived.Test.YtpjecpefbfobdaaAreaOthers
import Derived.Test.YtpjecpefbfobdaaAreaLaw7
namespace Go.Proofs.Ytpjecpefbfobdaa
open Go Go.RowKit

theorem inck_at {l : List Cho} (h : IncK l) {i j : Nat} {x y : Cho} (hij : i < j) (hx : l[i]? = some x) (hy : l[j]? = some y) : x.key < y.key := by
  obtain ⟨h1, rfl⟩ := List.getElem?_eq_some_iff.1 hx
  obtain ⟨h2, rfl⟩ := List.getElem?_eq_some_iff.1 hy
  exact (List.pairwise_iff_getElem.1 h) i j h1 h2 hij
def hasK (l : List Cho) (k : Int) : Bool := l.any (fun x => decide (x.key = k))
theorem hasK_snoc (xs : List Cho) (k : Nat) (x : Cho) (key : Int) (h : xs[k]? = some x) : hasK (xs.take (k + 1)) key = (hasK (xs.take k) key || decide (x.key = key)) := by
  rw [take_succ_of h]
  unfold hasK
  simp
theorem hasK_no {l : List Cho} {k : Int} (h : hasK l k = false) : ∀ x ∈ l, x.key ≠ k := by
  unfold hasK at h
  simpa using h
set_option maxRecDepth 100000 in
set_option maxHeartbeats 8000000 in
theorem areaSlots_any (A : Option Addr) (l : List B2) (c : Nat) (A2 : Option Addr) (l2 : List B3) (c2 : Nat) (pa pb : Int) (w : World) (hx : SlR 2 RB2 w A l) (hl0 : l.length ≤ maxLen) (hok : ∀ p ∈ l, B2OK p)
    (hy : SlR 3 RB3 w A2 l2) (hl2 : l2.length ≤ maxLen) (hok2 : ∀ p ∈ l2, B3OK p) (ha : 0 ≤ pa ∧ pa ≤ 255) (hb : 0 ≤ pb ∧ pb ≤ 255) :
    Calls Try.prog 5 #[.slice A l.length c, .slice A2 l2.length c2, .agg #[.int .u8 pa, .int .u8 pb]] w fun e w' => e = .returned (.bool true) ∧ Below w.heap.size w w' := by
  have HMade : Hid (∀ W, Below w.heap.size w W → Calls Try.prog 12 #[.slice A l.length c] W fun e w' => ∃ A' c' B C, e = .returned (.agg #[.slice A' (madeA l).length c', .slice B 2 2, .slice C 2 2]) ∧ SlR 5 RAr w' A' (madeA l) ∧ (madeA l).length ≤ c' ∧ c' ≤ maxLen ∧
      SlR 2 RTm w' B madeT ∧ SlR 2 RCk w' C madeC ∧ Below W.heap.size W w') := fun W hW => made_any A l c W (hx.below keeps_b2 hW) hl0 hok
  have HTaps : Hid (∀ W, Below w.heap.size w W → Calls Try.prog 13 #[.slice A2 l2.length c2] W fun e w' => ∃ A' c', e = .returned (.slice A' (tapsL l2).length c') ∧ SlR 4 RTp w' A' (tapsL l2) ∧ Below W.heap.size W w') := fun W hW => taps_any A2 l2 c2 W (hy.below keeps_b3 hW) hl2 hok2
  have HAk := Lib.hid (madeA_ok hok)
  have HInc := Lib.hid (madeA_inc hok)
  have hn14 : (madeA l).length ≤ 14 := by rw [madeA_len hok]; omega
  have HTok := Lib.hid (tapsL_ok hok2)
  have ht6 := tapsL_len (l := l2)
  generalize madeA l = us at *
  generalize tapsL l2 = ts at *
  obtain ⟨w1, hw1⟩ : ∃ w1, w.alloc (.cells #[.int .u8 pa, .int .u8 pb] 63) = w1 := ⟨_, rfl⟩
  have hb1 : Below w.heap.size w w1 := by rw [← hw1]; exact nw _ (Below.refl _ _)
  have HB1 : Hid (Blk w1 w.heap.size 63 #[.int .u8 pa, .int .u8 pb]) := by rw [← hw1]; exact Blk.new _ _ _
  have HW1 := Lib.hid hw1
  have HSan : Hid (Calls Try.prog 11 #[] w1 fun e w' => e = .returned (.bool true) ∧ Below w1.heap.size w1 w') := sanity_any w1
  have hs1 : w1.heap.size = w.heap.size + 1 := by rw [← hw1]; simp
  have hin : insideB ⟨pa, pb⟩ = true := by unfold insideB coordB; simp; omega
  have HPt := Lib.hid (inside_ok hin)
  clear hw1 hx hok hy
  go_enter Try.func5, Try.ntmps5
  go_upto_region 3 with (first | (go_at_call 11; go_loud (rw [HW1.out]; refine HSan.out.mono ?_; rintro e w2 ⟨rfl, hb2⟩)) | (go_at_call 12; go_loud (refine (HMade.out _ (hb1.trans (hb2.mono (by omega)))).mono ?_; rintro e w3 ⟨A3, c3, B3, C3, rfl, hs3, hc3, hm3, _, _, hb3⟩)) | (go_at_call 13; go_loud (refine (HTaps.out _ ((hb1.trans (hb2.mono (by omega))).trans (hb3.mono (by have := hb2.size; omega)))).mono ?_; rintro e w4 ⟨A4, c4, rfl, hs4, hb4⟩)))
  obtain ⟨W5, hW5⟩ : ∃ W5, w4.alloc (.cells #[.slice A3 us.length c3, .slice B3 2 2, .slice C3 2 2] 31) = W5 := ⟨_, rfl⟩
  have hb5 : Below w4.heap.size w4 W5 := by rw [← hW5]; exact nw _ (Below.refl _ _)
  have hG : Blk W5 w4.heap.size 31 #[.slice A3 us.length c3, .slice B3 2 2, .slice C3 2 2] := by rw [← hW5]; exact Blk.new _ _ _
  rw [hW5]
  have hb15 := bthen (bthen (bthen hb2 hb3) hb4) hb5
  have hbw5 := bthen hb1 hb15
  have hB5 := HB1.out.below hb15 (by omega)
  have p0 := hB5.cell 0
  have p1 := hB5.cell 1
  have lp := hB5.lt
  simp at p0 p1
  have HS3 := Lib.hid ((hs3.below keeps_ar hb4).below keeps_ar hb5)
  have HS4 := Lib.hid (hs4.below keeps_tp hb5)
  have hwa : IntKind.i64.wrap pa = pa := IntWalk.i64_in _ (by omega)
  have hwb : IntKind.i64.wrap pb = pb := IntWalk.i64_in _ (by omega)
  obtain ⟨g, hg⟩ : ∃ g, w4.heap.size = g := ⟨_, rfl⟩
  rw [hg] at hG ⊢
  have HG := Lib.hid hG
  clear hG hW5 hb5 hb15 hs3 hs4 hc3 hm3 hb2 hb3 hb4 hg hB5
  go_upto_region 4 with (go_at_call 14; go_loud (refine (point_any _ _ _).mono ?_; rintro e w6 ⟨rfl, hb6⟩))
  obtain ⟨W7, hW7⟩ : ∃ W7, w6.alloc (.cells #[.int .i64 pa, .int .i64 pb] 36) = W7 := ⟨_, rfl⟩
  have hb7 : Below w6.heap.size w6 W7 := by rw [← hW7]; exact nw _ (Below.refl _ _)
  have hP : Blk W7 w6.heap.size 36 #[.int .i64 pa, .int .i64 pb] := by rw [← hW7]; exact Blk.new _ _ _
  have hb57 := bthen hb6 hb7
  have hG := HG.out.below hb57 HG.out.lt
  have HS3 := Lib.hid (HS3.out.below keeps_ar hb57)
  have HS4 := Lib.hid (HS4.out.below keeps_tp hb57)
  rw [hW7]
  obtain ⟨gp, hgp⟩ : ∃ g, w6.heap.size = g := ⟨_, rfl⟩
  rw [hgp] at hP ⊢
  have hbw7 := Lib.hid (bthen hbw5 hb57)
  have HKeep : Hid (∀ W, Below W7.heap.size W7 W → W.cell? ⟨g, 0, none⟩ = some (.slice A3 us.length c3) ∧ W.cell? ⟨g, 1, none⟩ = some (.slice B3 2 2) ∧ W.cell? ⟨g, 2, none⟩ = some (.slice C3 2 2) ∧ W.cell? ⟨gp, 0, none⟩ = some (.int .i64 pa) ∧ W.cell? ⟨gp, 1, none⟩ = some (.int .i64 pb) ∧ g < W.heap.size ∧ gp < W.heap.size) := fun W hW =>
    ⟨(hG.below hW hG.lt).cell 0, (hG.below hW hG.lt).cell 1, (hG.below hW hG.lt).cell 2, (hP.below hW hP.lt).cell 0, (hP.below hW hP.lt).cell 1, (hG.below hW hG.lt).lt, (hP.below hW hP.lt).lt⟩
  obtain ⟨k1, k2, k3, k4, k5, k6, k7⟩ := HKeep.out _ (Below.refl _ _)
  have HT : Hid (Calls Try.prog 15 #[.agg #[.slice A3 us.length c3, .slice B3 2 2, .slice C3 2 2], .slice A4 ts.length c4, vPt ⟨pa, pb⟩] W7 fun e w' => ∃ A' c', e = .returned (.tuple #[.slice A' (touchOf us ts ⟨pa, pb⟩).1.length c', .int .i64 (touchOf us ts ⟨pa, pb⟩).2]) ∧ SlR 2 RCho w' A' (touchOf us ts ⟨pa, pb⟩).1 ∧ Below W7.heap.size W7 w') :=
    touch_any us A3 c3 (.slice B3 2 2) (.slice C3 2 2) ts A4 c4 ⟨pa, pb⟩ W7 HS3.out (by omega) HAk.out HInc.out HS4.out (by omega) HTok.out.1
  have HAreaA : Hid (∀ W key, Below W7.heap.size W7 W → Calls Try.prog 25 #[.agg #[.slice A3 us.length c3, .slice B3 2 2, .slice C3 2 2], .int .u8 key] W fun e w' => AreaPost (areaOf us key) e ∧ Below W.heap.size W w') := fun W key hW =>
    area_any A3 us c3 _ _ key W (HS3.out.below keeps_ar hW) (by omega)
  have HCostA : Hid (∀ W a, a ∈ us → Below W7.heap.size W7 W → Calls Try.prog 26 #[vAr a, .slice A4 ts.length c4, vPt ⟨pa, pb⟩] W fun e w' => e = .returned (.int .i64 (priceOf a (shiftOf ts a.key) ⟨pa, pb⟩)) ∧ Below W.heap.size W w') := fun W a ha hW =>
    refcost_any a A4 ts c4 ⟨pa, pb⟩ W (HS4.out.below keeps_tp hW) (by omega) HTok.out.1 (HAk.out a ha) HPt.out
  clear hW7 hb7 hb57 hb6 hP hG hgp hbw5 p0 p1 lp hwa hwb
  by_cases hch : chosOf us ts ⟨pa, pb⟩ = []
  · have ht : touchOf us ts ⟨pa, pb⟩ = ([], 210) := by unfold touchOf; rw [if_pos hin, if_pos hch]
    rw [ht] at HT
    clear ht hch
    go_wp2_with (go_at_call 15; go_loud (refine HT.out.mono ?_; rintro e w8 ⟨A8, c8, rfl, hs8, hb8⟩))
    go_ret
    exact ⟨rfl, bthen hbw7.out hb8⟩
  · have ht : touchOf us ts ⟨pa, pb⟩ = (fewOf (chosOf us ts ⟨pa, pb⟩), 0) := by unfold touchOf; rw [if_pos hin, if_neg hch]
    rw [ht] at HT
    have HMem : Hid (∀ x ∈ fewOf (chosOf us ts ⟨pa, pb⟩), ∃ a, a ∈ us ∧ areaOf us x.key = some a ∧ x.cost = priceOf a (shiftOf ts a.key) ⟨pa, pb⟩ ∧ x.cost ≤ 1000) := fun x hx => slot_mem HInc.out hx
    have HOut : Hid (∀ a ∈ us, (∀ x ∈ fewOf (chosOf us ts ⟨pa, pb⟩), x.key ≠ a.key) → priceOf a (shiftOf ts a.key) ⟨pa, pb⟩ ≤ 1000 → (fewOf (chosOf us ts ⟨pa, pb⟩)).length = 8 ∧ worstS (fewOf (chosOf us ts ⟨pa, pb⟩)) ≤ priceOf a (shiftOf ts a.key) ⟨pa, pb⟩) := fun a ha hno hc => slot_out HInc.out ha hno hc
    have HSInc := Lib.hid (few_inc (chos_inc (ts := ts) (p := ⟨pa, pb⟩) HInc.out))
    have hlen := few_len (chos_inc (ts := ts) (p := ⟨pa, pb⟩) HInc.out)
    have hpos := List.length_pos_iff.2 hch
    have hs0 : 0 < (fewOf (chosOf us ts ⟨pa, pb⟩)).length := by omega
    have hs8 : (fewOf (chosOf us ts ⟨pa, pb⟩)).length ≤ 8 := by omega
    clear ht hch hlen hpos
    generalize fewOf (chosOf us ts ⟨pa, pb⟩) = s at *
    have HWB : Hid (∀ k, 0 ≤ worstS (s.take k) ∧ worstS (s.take k) ≤ 1000) := fun k => worst_bd fun x hx => by obtain ⟨_, _, _, _, h⟩ := HMem.out x (List.mem_of_mem_take hx); exact h
    have hz : ((s.length : Int) == 0) = false := by rw [beq_eq_false_iff_ne]; omega
    have hs8i : (s.length : Int) ≤ 8 := by omega
    go_upto_region 8 with (go_at_call 15; go_loud (refine HT.out.mono ?_; rintro e w9 ⟨A9, c9, rfl, hs9, hb9⟩))
    have hb79 := Lib.hid hb9
    have HR9 := Lib.hid hs9
    clear hs9 hb9
    go_wp2_with fail
    go_loopw [13, 14] (fun m i wr => ∃ k : Nat, k ≤ s.length ∧ m = .int .i64 (worstS (s.take k)) ∧ i = .int .i64 k ∧ Below w9.heap.size w9 wr) (fun _ i _ => s.length - (intOf i).toNat)
    case atStart => exact ⟨0, by omega, rfl, rfl, Below.refl _ _⟩
    case round =>
      obtain ⟨k, hk, rfl, rfl, hbr⟩ := hrel
      have hb7r := bthen hb79.out hbr
      obtain ⟨r1_, r2_, r3_, r4_, r5_, r6_, r7_⟩ := HKeep.out _ hb7r
      by_cases hlt : k < s.length
      · obtain ⟨b, off, x, rfl, hbb, hxx, d0, d1⟩ := (HR9.out.below keeps_cho hbr).cho hlt
        obtain ⟨a, ham, hao, hxc, hx1000⟩ := HMem.out x (List.mem_of_getElem? hxx)
        have HWS := Lib.hid (worst_snoc s k x hxx)
        have HArea : ∀ W, Below W7.heap.size W7 W → Calls Try.prog 25 #[.agg #[.slice A3 us.length c3, .slice B3 2 2, .slice C3 2 2], .int .u8 x.key] W fun e w' => e = .returned (.tuple #[vAr a, .bool true]) ∧ Below W.heap.size W w' := fun W hW => by
          have := HAreaA.out W x.key hW
          rw [hao] at this
          exact this
        have HCost : ∀ W, Below W7.heap.size W7 W → Calls Try.prog 26 #[vAr a, .slice A4 ts.length c4, vPt ⟨pa, pb⟩] W fun e w' => e = .returned (.int .i64 x.cost) ∧ Below W.heap.size W w' := fun W hW => by
          rw [hxc]; exact HCostA.out W a ham hW
        have HArea := Lib.hid HArea
        have HCost := Lib.hid HCost
        have hg1 : decide (1000 < x.cost) = false := by simp; omega
        have hwk := HWB.out k
        have hwk1 := HWB.out (k + 1)
        rw [HWS.out] at hwk1
        clear ham hao hxc
        rcases k with _ | j
        · clear hxx
          simp only [Nat.zero_mul, Nat.add_zero] at d0 d1
          have hk1 : 0 + 1 ≤ s.length := by omega
          have hk0 : (0 : Int) < (s.length : Int) := by omega
          go_wp2_with fail
          refine ordB_below (.quiet 0 (.quiet 1 (.quiet 2 (.quiet 3 (.quiet 4 (.quiet 5 (.fork 6 10 (.quiet 7 (.quiet 8 (.quiet 9 (.only 10 (.only 11 (.quiet 12 .done)))))) (.only 6 (.quiet 7 (.quiet 8 (.quiet 9 (.only 11 (.quiet 12 .done))))))))))))) (by kernel_rfl) (by kernel_rfl) (by kernel_rfl) (fun _ _ _ _ _ h => h) ?_
          intro W0 hS0
          iterate 6 (first
            | (refine ordB_skip rfl rfl ?_; simp only [Act.put, List.setIfInBounds_toArray, List.set_cons_zero, List.set_cons_succ])
            | (refine ordB_take (v := ?_) rfl rfl ?_ ?_
               rotate_left 1
               focus (intro W hW; obtain ⟨hcW, hfW⟩ := bcell hW; (go_simp <;> with_reducible rfl))
               simp only [Act.put, List.setIfInBounds_toArray, List.set_cons_zero, List.set_cons_succ]))
          refine ordB_fork (opB_call rfl rfl (fun K hK => ?_)) (opB_call rfl rfl (fun K hK => ?_))
          · go_simp
            go_at_call 25
            refine (HArea.out W0 (bthen hb7r hS0)).mono ?_
            rintro e W0_1 ⟨rfl, hba⟩
            refine hK.out _ _ (hS0.trans (hba.mono hS0.size)) (fun hS0_1 => ?_)
            iterate 3 (first
              | (refine ordB_skip rfl rfl ?_; simp only [Act.put, List.setIfInBounds_toArray, List.set_cons_zero, List.set_cons_succ])
              | (refine ordB_take (v := ?_) rfl rfl ?_ ?_
                 rotate_left 1
                 focus (intro W hW; obtain ⟨hcW, hfW⟩ := bcell hW; (go_simp <;> with_reducible rfl))
                 simp only [Act.put, List.setIfInBounds_toArray, List.set_cons_zero, List.set_cons_succ]))
            refine ordB_only (opB_call rfl rfl (fun K hK => ?_))
            go_simp
            refine hK.out _ _ (hS0_1.alloc hS0_1.size _) (fun hS0_1_2 => ?_)
            have bk := Blk.new W0_1 57 #[.int .u8 0, .int .i64 0, .int .i64 0, .int .i64 0, .int .i64 0]
            have bkb := nw (.cells #[.int .u8 0, .int .i64 0, .int .i64 0, .int .i64 0, .int .i64 0] 57) (Below.refl W0_1.heap.size W0_1)
            have bkg := hS0_1.size
            obtain ⟨W0_1_2, hW0_1_2⟩ : ∃ W', W0_1.alloc (.cells #[.int .u8 0, .int .i64 0, .int .i64 0, .int .i64 0, .int .i64 0] 57) = W' := ⟨_, rfl⟩
            rw [hW0_1_2] at hS0_1_2 bk bkb ⊢
            clear hW0_1_2 bkb
            refine ordB_only (opB_call rfl rfl (fun K hK => ?_))
            have bkc0 := bk.cell 0
            have bkf0 := bk.frozen 0
            have bkc1 := bk.cell 1
            have bkf1 := bk.frozen 1
            have bkc2 := bk.cell 2
            have bkf2 := bk.frozen 2
            have bkc3 := bk.cell 3
            have bkf3 := bk.frozen 3
            have bkc4 := bk.cell 4
            have bkf4 := bk.frozen 4
            simp at bkc0 bkc1 bkc2 bkc3 bkc4
            go_simp
            refine hK.out _ _ (((((hS0_1_2.setCell (p := ⟨W0_1.heap.size, 0, none⟩) bkg _).setCell (p := ⟨W0_1.heap.size, 1, none⟩) bkg _).setCell (p := ⟨W0_1.heap.size, 2, none⟩) bkg _).setCell (p := ⟨W0_1.heap.size, 3, none⟩) bkg _).setCell (p := ⟨W0_1.heap.size, 4, none⟩) bkg _) (fun hS0_1_2_3 => ?_)
            have bk := (((((bk.set_ 0 (.int .u8 a.key)).set_ 1 (.int .i64 a.x0)).set_ 2 (.int .i64 a.y0)).set_ 3 (.int .i64 a.x1)).set_ 4 (.int .i64 a.y1))
            obtain ⟨W0_1_2_3, hW0_1_2_3⟩ : ∃ W', (((((W0_1_2.setCell ⟨W0_1.heap.size, 0, none⟩ (.int .u8 a.key)).setCell ⟨W0_1.heap.size, 1, none⟩ (.int .i64 a.x0)).setCell ⟨W0_1.heap.size, 2, none⟩ (.int .i64 a.y0)).setCell ⟨W0_1.heap.size, 3, none⟩ (.int .i64 a.x1)).setCell ⟨W0_1.heap.size, 4, none⟩ (.int .i64 a.y1)) = W' := ⟨_, rfl⟩
            rw [hW0_1_2_3] at hS0_1_2_3 bk ⊢
            clear hW0_1_2_3 bkc0 bkf0 bkc1 bkf1 bkc2 bkf2 bkc3 bkf3 bkc4 bkf4
            iterate 1 (first
              | (refine ordB_skip rfl rfl ?_; simp only [Act.put, List.setIfInBounds_toArray, List.set_cons_zero, List.set_cons_succ])
              | (refine ordB_take (v := ?_) rfl rfl ?_ ?_
                 rotate_left 1
                 focus (intro W hW; obtain ⟨hcW, hfW⟩ := bcell hW; (go_simp <;> with_reducible rfl))
                 simp only [Act.put, List.setIfInBounds_toArray, List.set_cons_zero, List.set_cons_succ]))
            refine ordB_nil ?_
            have hbk7 := bthen hb7r hS0_1_2_3
            have hbk9 := bthen hbr hS0_1_2_3
            generalize W0_1_2_3 = Wb at *
            have e0 := bk.cell 0
            have e1 := bk.cell 1
            have e2 := bk.cell 2
            have e3 := bk.cell 3
            have e4 := bk.cell 4
            have el := bk.lt
            simp at e0 e1 e2 e3 e4
            obtain ⟨q1, q2, q3, q4, q5, q6, q7⟩ := HKeep.out _ hbk7
            have z0 := (hS0_1_2_3.cell (p := ⟨b, _, none⟩) hbb).trans d0
            have z1 := (hS0_1_2_3.cell (p := ⟨b, _, none⟩) hbb).trans d1
            have hbb2 := Nat.lt_of_lt_of_le hbb hS0_1_2_3.size
            clear d0 d1 bk
            go_wp2_with fail
            refine ordB_below (.quiet 0 (.quiet 1 (.quiet 2 (.quiet 3 (.quiet 4 (.quiet 5 (.quiet 6 (.quiet 7 (.quiet 8 (.quiet 9 (.quiet 10 (.only 11 (.quiet 12 (.quiet 13 (.quiet 14 (.quiet 15 (.quiet 16 (.quiet 17 (.quiet 18 (.quiet 19 (.quiet 20 (.quiet 21 (.quiet 22 (.quiet 23 (.quiet 24 (.quiet 25 (.quiet 26 (.quiet 27 (.quiet 28 (.quiet 29 (.quiet 30 (.quiet 31 (.quiet 32 (.quiet 33 (.quiet 34 (.quiet 35 (.quiet 36 (.quiet 37 (.quiet 38 (.quiet 39 .done)))))))))))))))))))))))))))))))))))))))) (by kernel_rfl) (by kernel_rfl) (by kernel_rfl) (fun _ _ _ _ _ h => h) ?_
            intro V0 hV0
            iterate 11 (first
              | (refine ordB_skip rfl rfl ?_; simp only [Act.put, List.setIfInBounds_toArray, List.set_cons_zero, List.set_cons_succ])
              | (refine ordB_take (v := ?_) rfl rfl ?_ ?_
                 rotate_left 1
                 focus (intro W hW; obtain ⟨hcW, hfW⟩ := bcell hW; (go_simp <;> with_reducible rfl))
                 simp only [Act.put, List.setIfInBounds_toArray, List.set_cons_zero, List.set_cons_succ]))
            refine ordB_only (opB_call rfl rfl (fun K hK => ?_))
            go_simp
            go_at_call 26
            refine (HCost.out V0 (bthen hbk7 hV0)).mono ?_
            rintro e V0_1 ⟨rfl, hbc⟩
            refine hK.out _ _ (hV0.trans (hbc.mono hV0.size)) (fun hV0_1 => ?_)
            iterate 28 (first
              | (refine ordB_skip rfl rfl ?_; simp only [Act.put, List.setIfInBounds_toArray, List.set_cons_zero, List.set_cons_succ])
              | (refine ordB_take (v := ?_) rfl rfl ?_ ?_
                 rotate_left 1
                 focus (intro W hW; obtain ⟨hcW, hfW⟩ := bcell hW; (go_simp <;> with_reducible rfl))
                 simp only [Act.put, List.setIfInBounds_toArray, List.set_cons_zero, List.set_cons_succ]))
            refine ordB_nil ?_
            have y0 := (hV0_1.cell (p := ⟨b, _, none⟩) hbb2).trans z0
            have y1 := (hV0_1.cell (p := ⟨b, _, none⟩) hbb2).trans z1
            go_wp2_with fail
            go_roundw
            case rel => exact ⟨_, hk1, (by first | (rw [HWS.out]; done) | (rw [HWS.out]; rfl)), by go_num, bthen hbk9 hV0_1⟩
            case measure => simp [intOf]; omega
          · go_simp
            refine hK.out _ _ (hS0.alloc hS0.size _) (fun hS0_1 => ?_)
            have bk := Blk.new W0 57 #[.int .u8 0, .int .i64 0, .int .i64 0, .int .i64 0, .int .i64 0]
            have bkb := nw (.cells #[.int .u8 0, .int .i64 0, .int .i64 0, .int .i64 0, .int .i64 0] 57) (Below.refl W0.heap.size W0)
            have bkg := hS0.size
            obtain ⟨W0_1, hW0_1⟩ : ∃ W', W0.alloc (.cells #[.int .u8 0, .int .i64 0, .int .i64 0, .int .i64 0, .int .i64 0] 57) = W' := ⟨_, rfl⟩
            rw [hW0_1] at hS0_1 bk bkb ⊢
            clear hW0_1 bkb
            refine ordB_only (opB_call rfl rfl (fun K hK => ?_))
            go_simp
            go_at_call 25
            refine (HArea.out W0_1 (bthen hb7r hS0_1)).mono ?_
            rintro e W0_1_2 ⟨rfl, hba⟩
            refine hK.out _ _ (hS0_1.trans (hba.mono hS0_1.size)) (fun hS0_1_2 => ?_)
            have bk := bk.below hba bk.lt
            iterate 3 (first
              | (refine ordB_skip rfl rfl ?_; simp only [Act.put, List.setIfInBounds_toArray, List.set_cons_zero, List.set_cons_succ])
              | (refine ordB_take (v := ?_) rfl rfl ?_ ?_
                 rotate_left 1
                 focus (intro W hW; obtain ⟨hcW, hfW⟩ := bcell hW; (go_simp <;> with_reducible rfl))
                 simp only [Act.put, List.setIfInBounds_toArray, List.set_cons_zero, List.set_cons_succ]))
            refine ordB_only (opB_call rfl rfl (fun K hK => ?_))
            have bkc0 := bk.cell 0
            have bkf0 := bk.frozen 0
            have bkc1 := bk.cell 1
            have bkf1 := bk.frozen 1
            have bkc2 := bk.cell 2
            have bkf2 := bk.frozen 2
            have bkc3 := bk.cell 3
            have bkf3 := bk.frozen 3
            have bkc4 := bk.cell 4
            have bkf4 := bk.frozen 4
            simp at bkc0 bkc1 bkc2 bkc3 bkc4
            go_simp
            refine hK.out _ _ (((((hS0_1_2.setCell (p := ⟨W0.heap.size, 0, none⟩) bkg _).setCell (p := ⟨W0.heap.size, 1, none⟩) bkg _).setCell (p := ⟨W0.heap.size, 2, none⟩) bkg _).setCell (p := ⟨W0.heap.size, 3, none⟩) bkg _).setCell (p := ⟨W0.heap.size, 4, none⟩) bkg _) (fun hS0_1_2_3 => ?_)
            have bk := (((((bk.set_ 0 (.int .u8 a.key)).set_ 1 (.int .i64 a.x0)).set_ 2 (.int .i64 a.y0)).set_ 3 (.int .i64 a.x1)).set_ 4 (.int .i64 a.y1))
            obtain ⟨W0_1_2_3, hW0_1_2_3⟩ : ∃ W', (((((W0_1_2.setCell ⟨W0.heap.size, 0, none⟩ (.int .u8 a.key)).setCell ⟨W0.heap.size, 1, none⟩ (.int .i64 a.x0)).setCell ⟨W0.heap.size, 2, none⟩ (.int .i64 a.y0)).setCell ⟨W0.heap.size, 3, none⟩ (.int .i64 a.x1)).setCell ⟨W0.heap.size, 4, none⟩ (.int .i64 a.y1)) = W' := ⟨_, rfl⟩
            rw [hW0_1_2_3] at hS0_1_2_3 bk ⊢
            clear hW0_1_2_3 bkc0 bkf0 bkc1 bkf1 bkc2 bkf2 bkc3 bkf3 bkc4 bkf4
            iterate 1 (first
              | (refine ordB_skip rfl rfl ?_; simp only [Act.put, List.setIfInBounds_toArray, List.set_cons_zero, List.set_cons_succ])
              | (refine ordB_take (v := ?_) rfl rfl ?_ ?_
                 rotate_left 1
                 focus (intro W hW; obtain ⟨hcW, hfW⟩ := bcell hW; (go_simp <;> with_reducible rfl))
                 simp only [Act.put, List.setIfInBounds_toArray, List.set_cons_zero, List.set_cons_succ]))
            refine ordB_nil ?_
            have hbk7 := bthen hb7r hS0_1_2_3
            have hbk9 := bthen hbr hS0_1_2_3
            generalize W0_1_2_3 = Wb at *
            have e0 := bk.cell 0
            have e1 := bk.cell 1
            have e2 := bk.cell 2
            have e3 := bk.cell 3
            have e4 := bk.cell 4
            have el := bk.lt
            simp at e0 e1 e2 e3 e4
            obtain ⟨q1, q2, q3, q4, q5, q6, q7⟩ := HKeep.out _ hbk7
            have z0 := (hS0_1_2_3.cell (p := ⟨b, _, none⟩) hbb).trans d0
            have z1 := (hS0_1_2_3.cell (p := ⟨b, _, none⟩) hbb).trans d1
            have hbb2 := Nat.lt_of_lt_of_le hbb hS0_1_2_3.size
            clear d0 d1 bk
            go_wp2_with fail
            refine ordB_below (.quiet 0 (.quiet 1 (.quiet 2 (.quiet 3 (.quiet 4 (.quiet 5 (.quiet 6 (.quiet 7 (.quiet 8 (.quiet 9 (.quiet 10 (.only 11 (.quiet 12 (.quiet 13 (.quiet 14 (.quiet 15 (.quiet 16 (.quiet 17 (.quiet 18 (.quiet 19 (.quiet 20 (.quiet 21 (.quiet 22 (.quiet 23 (.quiet 24 (.quiet 25 (.quiet 26 (.quiet 27 (.quiet 28 (.quiet 29 (.quiet 30 (.quiet 31 (.quiet 32 (.quiet 33 (.quiet 34 (.quiet 35 (.quiet 36 (.quiet 37 (.quiet 38 (.quiet 39 .done)))))))))))))))))))))))))))))))))))))))) (by kernel_rfl) (by kernel_rfl) (by kernel_rfl) (fun _ _ _ _ _ h => h) ?_
            intro V0 hV0
            iterate 11 (first
              | (refine ordB_skip rfl rfl ?_; simp only [Act.put, List.setIfInBounds_toArray, List.set_cons_zero, List.set_cons_succ])
              | (refine ordB_take (v := ?_) rfl rfl ?_ ?_
                 rotate_left 1
                 focus (intro W hW; obtain ⟨hcW, hfW⟩ := bcell hW; (go_simp <;> with_reducible rfl))
                 simp only [Act.put, List.setIfInBounds_toArray, List.set_cons_zero, List.set_cons_succ]))
            refine ordB_only (opB_call rfl rfl (fun K hK => ?_))
            go_simp
            go_at_call 26
            refine (HCost.out V0 (bthen hbk7 hV0)).mono ?_
            rintro e V0_1 ⟨rfl, hbc⟩
            refine hK.out _ _ (hV0.trans (hbc.mono hV0.size)) (fun hV0_1 => ?_)
            iterate 28 (first
              | (refine ordB_skip rfl rfl ?_; simp only [Act.put, List.setIfInBounds_toArray, List.set_cons_zero, List.set_cons_succ])
              | (refine ordB_take (v := ?_) rfl rfl ?_ ?_
                 rotate_left 1
                 focus (intro W hW; obtain ⟨hcW, hfW⟩ := bcell hW; (go_simp <;> with_reducible rfl))
                 simp only [Act.put, List.setIfInBounds_toArray, List.set_cons_zero, List.set_cons_succ]))
            refine ordB_nil ?_
            have y0 := (hV0_1.cell (p := ⟨b, _, none⟩) hbb2).trans z0
            have y1 := (hV0_1.cell (p := ⟨b, _, none⟩) hbb2).trans z1
            go_wp2_with fail
            go_roundw
            case rel => exact ⟨_, hk1, (by first | (rw [HWS.out]; done) | (rw [HWS.out]; rfl)), by go_num, bthen hbk9 hV0_1⟩
            case measure => simp [intOf]; omega
        · obtain ⟨b', off', y, he, hbb', hyy, f0, f1⟩ := (HR9.out.below keeps_cho hbr).cho (k := j) (by omega)
          simp only [Option.some.injEq, Addr.mk.injEq, and_true] at he
          obtain ⟨rfl, rfl⟩ := he
          have hky : y.key < x.key := by
            have := HSInc.out
            exact inck_at this (show j < j + 1 by omega) hyy hxx
          have g0 : decide (x.key ≤ y.key) = false := by simp; omega
          have hwj : IntKind.i64.wrap (j : Int) = (j : Int) := IntWalk.i64_in _ (by omega)
          have hjl : (j : Int) < (s.length : Int) := by omega
          have hjl2 : (j : Int) + 1 < (s.length : Int) := by omega
          have hpos : (0 : Int) < (j : Int) + 1 := by omega
          have hnn : (0 : Int) ≤ (j : Int) + 1 := by omega
          have hk1 : j + 1 + 1 ≤ s.length := by omega
          clear hxx hyy hky
          go_wp2_with fail
          refine ordB_below (.quiet 0 (.quiet 1 (.quiet 2 (.quiet 3 (.quiet 4 (.quiet 5 (.fork 6 10 (.quiet 7 (.quiet 8 (.quiet 9 (.only 10 (.only 11 (.quiet 12 .done)))))) (.only 6 (.quiet 7 (.quiet 8 (.quiet 9 (.only 11 (.quiet 12 .done))))))))))))) (by kernel_rfl) (by kernel_rfl) (by kernel_rfl) (fun _ _ _ _ _ h => h) ?_
          intro W0 hS0
          iterate 6 (first
            | (refine ordB_skip rfl rfl ?_; simp only [Act.put, List.setIfInBounds_toArray, List.set_cons_zero, List.set_cons_succ])
            | (refine ordB_take (v := ?_) rfl rfl ?_ ?_
               rotate_left 1
               focus (intro W hW; obtain ⟨hcW, hfW⟩ := bcell hW; (go_simp <;> with_reducible rfl))
               simp only [Act.put, List.setIfInBounds_toArray, List.set_cons_zero, List.set_cons_succ]))
          refine ordB_fork (opB_call rfl rfl (fun K hK => ?_)) (opB_call rfl rfl (fun K hK => ?_))
          · go_simp
            go_at_call 25
            refine (HArea.out W0 (bthen hb7r hS0)).mono ?_
            rintro e W0_1 ⟨rfl, hba⟩
            refine hK.out _ _ (hS0.trans (hba.mono hS0.size)) (fun hS0_1 => ?_)
            iterate 3 (first
              | (refine ordB_skip rfl rfl ?_; simp only [Act.put, List.setIfInBounds_toArray, List.set_cons_zero, List.set_cons_succ])
              | (refine ordB_take (v := ?_) rfl rfl ?_ ?_
                 rotate_left 1
                 focus (intro W hW; obtain ⟨hcW, hfW⟩ := bcell hW; (go_simp <;> with_reducible rfl))
                 simp only [Act.put, List.setIfInBounds_toArray, List.set_cons_zero, List.set_cons_succ]))
            refine ordB_only (opB_call rfl rfl (fun K hK => ?_))
            go_simp
            refine hK.out _ _ (hS0_1.alloc hS0_1.size _) (fun hS0_1_2 => ?_)
            have bk := Blk.new W0_1 57 #[.int .u8 0, .int .i64 0, .int .i64 0, .int .i64 0, .int .i64 0]
            have bkb := nw (.cells #[.int .u8 0, .int .i64 0, .int .i64 0, .int .i64 0, .int .i64 0] 57) (Below.refl W0_1.heap.size W0_1)
            have bkg := hS0_1.size
            obtain ⟨W0_1_2, hW0_1_2⟩ : ∃ W', W0_1.alloc (.cells #[.int .u8 0, .int .i64 0, .int .i64 0, .int .i64 0, .int .i64 0] 57) = W' := ⟨_, rfl⟩
            rw [hW0_1_2] at hS0_1_2 bk bkb ⊢
            clear hW0_1_2 bkb
            refine ordB_only (opB_call rfl rfl (fun K hK => ?_))
            have bkc0 := bk.cell 0
            have bkf0 := bk.frozen 0
            have bkc1 := bk.cell 1
            have bkf1 := bk.frozen 1
            have bkc2 := bk.cell 2
            have bkf2 := bk.frozen 2
            have bkc3 := bk.cell 3
            have bkf3 := bk.frozen 3
            have bkc4 := bk.cell 4
            have bkf4 := bk.frozen 4
            simp at bkc0 bkc1 bkc2 bkc3 bkc4
            go_simp
            refine hK.out _ _ (((((hS0_1_2.setCell (p := ⟨W0_1.heap.size, 0, none⟩) bkg _).setCell (p := ⟨W0_1.heap.size, 1, none⟩) bkg _).setCell (p := ⟨W0_1.heap.size, 2, none⟩) bkg _).setCell (p := ⟨W0_1.heap.size, 3, none⟩) bkg _).setCell (p := ⟨W0_1.heap.size, 4, none⟩) bkg _) (fun hS0_1_2_3 => ?_)
            have bk := (((((bk.set_ 0 (.int .u8 a.key)).set_ 1 (.int .i64 a.x0)).set_ 2 (.int .i64 a.y0)).set_ 3 (.int .i64 a.x1)).set_ 4 (.int .i64 a.y1))
            obtain ⟨W0_1_2_3, hW0_1_2_3⟩ : ∃ W', (((((W0_1_2.setCell ⟨W0_1.heap.size, 0, none⟩ (.int .u8 a.key)).setCell ⟨W0_1.heap.size, 1, none⟩ (.int .i64 a.x0)).setCell ⟨W0_1.heap.size, 2, none⟩ (.int .i64 a.y0)).setCell ⟨W0_1.heap.size, 3, none⟩ (.int .i64 a.x1)).setCell ⟨W0_1.heap.size, 4, none⟩ (.int .i64 a.y1)) = W' := ⟨_, rfl⟩
            rw [hW0_1_2_3] at hS0_1_2_3 bk ⊢
            clear hW0_1_2_3 bkc0 bkf0 bkc1 bkf1 bkc2 bkf2 bkc3 bkf3 bkc4 bkf4
            iterate 1 (first
              | (refine ordB_skip rfl rfl ?_; simp only [Act.put, List.setIfInBounds_toArray, List.set_cons_zero, List.set_cons_succ])
              | (refine ordB_take (v := ?_) rfl rfl ?_ ?_
                 rotate_left 1
                 focus (intro W hW; obtain ⟨hcW, hfW⟩ := bcell hW; (go_simp <;> with_reducible rfl))
                 simp only [Act.put, List.setIfInBounds_toArray, List.set_cons_zero, List.set_cons_succ]))
            refine ordB_nil ?_
            have hbk7 := bthen hb7r hS0_1_2_3
            have hbk9 := bthen hbr hS0_1_2_3
            generalize W0_1_2_3 = Wb at *
            have e0 := bk.cell 0
            have e1 := bk.cell 1
            have e2 := bk.cell 2
            have e3 := bk.cell 3
            have e4 := bk.cell 4
            have el := bk.lt
            simp at e0 e1 e2 e3 e4
            obtain ⟨q1, q2, q3, q4, q5, q6, q7⟩ := HKeep.out _ hbk7
            have z0 := (hS0_1_2_3.cell (p := ⟨b, _, none⟩) hbb).trans d0
            have z1 := (hS0_1_2_3.cell (p := ⟨b, _, none⟩) hbb).trans d1
            have z2 := (hS0_1_2_3.cell (p := ⟨b, _, none⟩) hbb).trans f0
            have hbb2 := Nat.lt_of_lt_of_le hbb hS0_1_2_3.size
            clear d0 d1 bk
            go_wp2_with fail
            refine ordB_below (.quiet 0 (.quiet 1 (.quiet 2 (.quiet 3 (.quiet 4 (.quiet 5 (.quiet 6 (.quiet 7 (.quiet 8 (.quiet 9 (.quiet 10 (.only 11 (.quiet 12 (.quiet 13 (.quiet 14 (.quiet 15 (.quiet 16 (.quiet 17 (.quiet 18 (.quiet 19 (.quiet 20 (.quiet 21 (.quiet 22 (.quiet 23 (.quiet 24 (.quiet 25 (.quiet 26 (.quiet 27 (.quiet 28 (.quiet 29 (.quiet 30 (.quiet 31 (.quiet 32 (.quiet 33 (.quiet 34 (.quiet 35 (.quiet 36 (.quiet 37 (.quiet 38 (.quiet 39 .done)))))))))))))))))))))))))))))))))))))))) (by kernel_rfl) (by kernel_rfl) (by kernel_rfl) (fun _ _ _ _ _ h => h) ?_
            intro V0 hV0
            iterate 11 (first
              | (refine ordB_skip rfl rfl ?_; simp only [Act.put, List.setIfInBounds_toArray, List.set_cons_zero, List.set_cons_succ])
              | (refine ordB_take (v := ?_) rfl rfl ?_ ?_
                 rotate_left 1
                 focus (intro W hW; obtain ⟨hcW, hfW⟩ := bcell hW; (go_simp <;> with_reducible rfl))
                 simp only [Act.put, List.setIfInBounds_toArray, List.set_cons_zero, List.set_cons_succ]))
            refine ordB_only (opB_call rfl rfl (fun K hK => ?_))
            go_simp
            go_at_call 26
            refine (HCost.out V0 (bthen hbk7 hV0)).mono ?_
            rintro e V0_1 ⟨rfl, hbc⟩
            refine hK.out _ _ (hV0.trans (hbc.mono hV0.size)) (fun hV0_1 => ?_)
            iterate 28 (first
              | (refine ordB_skip rfl rfl ?_; simp only [Act.put, List.setIfInBounds_toArray, List.set_cons_zero, List.set_cons_succ])
              | (refine ordB_take (v := ?_) rfl rfl ?_ ?_
                 rotate_left 1
                 focus (intro W hW; obtain ⟨hcW, hfW⟩ := bcell hW; (go_simp <;> with_reducible rfl))
                 simp only [Act.put, List.setIfInBounds_toArray, List.set_cons_zero, List.set_cons_succ]))
            refine ordB_nil ?_
            have y0 := (hV0_1.cell (p := ⟨b, _, none⟩) hbb2).trans z0
            have y1 := (hV0_1.cell (p := ⟨b, _, none⟩) hbb2).trans z1
            go_wp2_with fail
            go_roundw
            case rel => exact ⟨_, hk1, (by first | (rw [HWS.out]; done) | (rw [HWS.out]; rfl)), by go_num, bthen hbk9 hV0_1⟩
            case measure => simp [intOf]; omega
          · go_simp
            refine hK.out _ _ (hS0.alloc hS0.size _) (fun hS0_1 => ?_)
            have bk := Blk.new W0 57 #[.int .u8 0, .int .i64 0, .int .i64 0, .int .i64 0, .int .i64 0]
            have bkb := nw (.cells #[.int .u8 0, .int .i64 0, .int .i64 0, .int .i64 0, .int .i64 0] 57) (Below.refl W0.heap.size W0)
            have bkg := hS0.size
            obtain ⟨W0_1, hW0_1⟩ : ∃ W', W0.alloc (.cells #[.int .u8 0, .int .i64 0, .int .i64 0, .int .i64 0, .int .i64 0] 57) = W' := ⟨_, rfl⟩
            rw [hW0_1] at hS0_1 bk bkb ⊢
            clear hW0_1 bkb
            refine ordB_only (opB_call rfl rfl (fun K hK => ?_))
            go_simp
            go_at_call 25
            refine (HArea.out W0_1 (bthen hb7r hS0_1)).mono ?_
            rintro e W0_1_2 ⟨rfl, hba⟩
            refine hK.out _ _ (hS0_1.trans (hba.mono hS0_1.size)) (fun hS0_1_2 => ?_)
            have bk := bk.below hba bk.lt
            iterate 3 (first
              | (refine ordB_skip rfl rfl ?_; simp only [Act.put, List.setIfInBounds_toArray, List.set_cons_zero, List.set_cons_succ])
              | (refine ordB_take (v := ?_) rfl rfl ?_ ?_
                 rotate_left 1
                 focus (intro W hW; obtain ⟨hcW, hfW⟩ := bcell hW; (go_simp <;> with_reducible rfl))
                 simp only [Act.put, List.setIfInBounds_toArray, List.set_cons_zero, List.set_cons_succ]))
            refine ordB_only (opB_call rfl rfl (fun K hK => ?_))
            have bkc0 := bk.cell 0
            have bkf0 := bk.frozen 0
            have bkc1 := bk.cell 1
            have bkf1 := bk.frozen 1
            have bkc2 := bk.cell 2
            have bkf2 := bk.frozen 2
            have bkc3 := bk.cell 3
            have bkf3 := bk.frozen 3
            have bkc4 := bk.cell 4
            have bkf4 := bk.frozen 4
            simp at bkc0 bkc1 bkc2 bkc3 bkc4
            go_simp
            refine hK.out _ _ (((((hS0_1_2.setCell (p := ⟨W0.heap.size, 0, none⟩) bkg _).setCell (p := ⟨W0.heap.size, 1, none⟩) bkg _).setCell (p := ⟨W0.heap.size, 2, none⟩) bkg _).setCell (p := ⟨W0.heap.size, 3, none⟩) bkg _).setCell (p := ⟨W0.heap.size, 4, none⟩) bkg _) (fun hS0_1_2_3 => ?_)
            have bk := (((((bk.set_ 0 (.int .u8 a.key)).set_ 1 (.int .i64 a.x0)).set_ 2 (.int .i64 a.y0)).set_ 3 (.int .i64 a.x1)).set_ 4 (.int .i64 a.y1))
            obtain ⟨W0_1_2_3, hW0_1_2_3⟩ : ∃ W', (((((W0_1_2.setCell ⟨W0.heap.size, 0, none⟩ (.int .u8 a.key)).setCell ⟨W0.heap.size, 1, none⟩ (.int .i64 a.x0)).setCell ⟨W0.heap.size, 2, none⟩ (.int .i64 a.y0)).setCell ⟨W0.heap.size, 3, none⟩ (.int .i64 a.x1)).setCell ⟨W0.heap.size, 4, none⟩ (.int .i64 a.y1)) = W' := ⟨_, rfl⟩
            rw [hW0_1_2_3] at hS0_1_2_3 bk ⊢
            clear hW0_1_2_3 bkc0 bkf0 bkc1 bkf1 bkc2 bkf2 bkc3 bkf3 bkc4 bkf4
            iterate 1 (first
              | (refine ordB_skip rfl rfl ?_; simp only [Act.put, List.setIfInBounds_toArray, List.set_cons_zero, List.set_cons_succ])
              | (refine ordB_take (v := ?_) rfl rfl ?_ ?_
                 rotate_left 1
                 focus (intro W hW; obtain ⟨hcW, hfW⟩ := bcell hW; (go_simp <;> with_reducible rfl))
                 simp only [Act.put, List.setIfInBounds_toArray, List.set_cons_zero, List.set_cons_succ]))
            refine ordB_nil ?_
            have hbk7 := bthen hb7r hS0_1_2_3
            have hbk9 := bthen hbr hS0_1_2_3
            generalize W0_1_2_3 = Wb at *
            have e0 := bk.cell 0
            have e1 := bk.cell 1
            have e2 := bk.cell 2
            have e3 := bk.cell 3
            have e4 := bk.cell 4
            have el := bk.lt
            simp at e0 e1 e2 e3 e4
            obtain ⟨q1, q2, q3, q4, q5, q6, q7⟩ := HKeep.out _ hbk7
            have z0 := (hS0_1_2_3.cell (p := ⟨b, _, none⟩) hbb).trans d0
            have z1 := (hS0_1_2_3.cell (p := ⟨b, _, none⟩) hbb).trans d1
            have z2 := (hS0_1_2_3.cell (p := ⟨b, _, none⟩) hbb).trans f0
            have hbb2 := Nat.lt_of_lt_of_le hbb hS0_1_2_3.size
            clear d0 d1 bk
            go_wp2_with fail
            refine ordB_below (.quiet 0 (.quiet 1 (.quiet 2 (.quiet 3 (.quiet 4 (.quiet 5 (.quiet 6 (.quiet 7 (.quiet 8 (.quiet 9 (.quiet 10 (.only 11 (.quiet 12 (.quiet 13 (.quiet 14 (.quiet 15 (.quiet 16 (.quiet 17 (.quiet 18 (.quiet 19 (.quiet 20 (.quiet 21 (.quiet 22 (.quiet 23 (.quiet 24 (.quiet 25 (.quiet 26 (.quiet 27 (.quiet 28 (.quiet 29 (.quiet 30 (.quiet 31 (.quiet 32 (.quiet 33 (.quiet 34 (.quiet 35 (.quiet 36 (.quiet 37 (.quiet 38 (.quiet 39 .done)))))))))))))))))))))))))))))))))))))))) (by kernel_rfl) (by kernel_rfl) (by kernel_rfl) (fun _ _ _ _ _ h => h) ?_
            intro V0 hV0
            iterate 11 (first
              | (refine ordB_skip rfl rfl ?_; simp only [Act.put, List.setIfInBounds_toArray, List.set_cons_zero, List.set_cons_succ])
              | (refine ordB_take (v := ?_) rfl rfl ?_ ?_
                 rotate_left 1
                 focus (intro W hW; obtain ⟨hcW, hfW⟩ := bcell hW; (go_simp <;> with_reducible rfl))
                 simp only [Act.put, List.setIfInBounds_toArray, List.set_cons_zero, List.set_cons_succ]))
            refine ordB_only (opB_call rfl rfl (fun K hK => ?_))
            go_simp
            go_at_call 26
            refine (HCost.out V0 (bthen hbk7 hV0)).mono ?_
            rintro e V0_1 ⟨rfl, hbc⟩
            refine hK.out _ _ (hV0.trans (hbc.mono hV0.size)) (fun hV0_1 => ?_)
            iterate 28 (first
              | (refine ordB_skip rfl rfl ?_; simp only [Act.put, List.setIfInBounds_toArray, List.set_cons_zero, List.set_cons_succ])
              | (refine ordB_take (v := ?_) rfl rfl ?_ ?_
                 rotate_left 1
                 focus (intro W hW; obtain ⟨hcW, hfW⟩ := bcell hW; (go_simp <;> with_reducible rfl))
                 simp only [Act.put, List.setIfInBounds_toArray, List.set_cons_zero, List.set_cons_succ]))
            refine ordB_nil ?_
            have y0 := (hV0_1.cell (p := ⟨b, _, none⟩) hbb2).trans z0
            have y1 := (hV0_1.cell (p := ⟨b, _, none⟩) hbb2).trans z1
            go_wp2_with fail
            go_roundw
            case rel => exact ⟨_, hk1, (by first | (rw [HWS.out]; done) | (rw [HWS.out]; rfl)), by go_num, bthen hbk9 hV0_1⟩
            case measure => simp [intOf]; omega
      · obtain rfl : k = s.length := by omega
        have HWK := Lib.hid (HWB.out s.length)
        rw [List.take_of_length_le (Nat.le_refl _)]
        have HWN := HWK
        rw [List.take_of_length_le (Nat.le_refl _)] at HWN
        generalize hws : worstS s = ws at *
        have HWS := Lib.hid hws
        clear hws hk
        go_wp2_with fail
        go_loopw [17] (fun i wq => ∃ k : Nat, k ≤ us.length ∧ i = .int .i64 k ∧ Below w9.heap.size w9 wq) (fun i _ => us.length - (intOf i).toNat)
        case atStart => exact ⟨0, by omega, rfl, hbr⟩
        case round =>
          clear hb7r r1_ r2_ r3_ r4_ r5_ r6_ r7_ hbr
          obtain ⟨k, hk, rfl, hbr⟩ := hrel
          have hb7r := bthen hb79.out hbr
          obtain ⟨r1_, r2_, r3_, r4_, r5_, r6_, r7_⟩ := HKeep.out _ hb7r
          obtain ⟨WO, rfl⟩ : ∃ W, W = wr := ⟨wr, rfl⟩
          by_cases hltu : k < us.length
          · obtain ⟨b, off, a, rfl, hbb, haa, d0, d1, d2, d3, d4⟩ := (HS3.out.below keeps_ar hb7r).ar hltu
            have ham := Lib.hid (List.mem_of_getElem? haa)
            clear haa
            go_wp2_with fail
            go_loopw [18, 19] (fun th j wv => ∃ m : Nat, m ≤ s.length ∧ th = .bool (hasK (s.take m) a.key) ∧ j = .int .i64 m ∧ Below WO.heap.size WO wv) (fun _ j _ => s.length - (intOf j).toNat)
            case atStart => exact ⟨0, by omega, rfl, rfl, Below.refl _ _⟩
            case round =>
              obtain ⟨m, hm, rfl, rfl, hbv⟩ := hrel
              have hb7v := bthen hb7r hbv
              have hb9v := bthen hbr hbv
              obtain ⟨v1_, v2_, v3_, v4_, v5_, v6_, v7_⟩ := HKeep.out _ hb7v
              have D0 := (hbv.cell (p := ⟨b, _, none⟩) hbb).trans d0
              have D1 := (hbv.cell (p := ⟨b, _, none⟩) hbb).trans d1
              have D2 := (hbv.cell (p := ⟨b, _, none⟩) hbb).trans d2
              have D3 := (hbv.cell (p := ⟨b, _, none⟩) hbb).trans d3
              have D4 := (hbv.cell (p := ⟨b, _, none⟩) hbb).trans d4
              have hbbv := Nat.lt_of_lt_of_le hbb hbv.size
              by_cases hltm : m < s.length
              · obtain ⟨b', off', x, rfl, hbb', hxx, f0, f1⟩ := (HR9.out.below keeps_cho hb9v).cho hltm
                have HSn := Lib.hid (hasK_snoc s m x a.key hxx)
                clear hxx
                generalize hth : hasK (s.take m) a.key = th at *
                clear hth
                cases th
                all_goals
                  go_wp2_with fail
                  refine ordB_below (.quiet 0 (.quiet 1 (.quiet 2 (.quiet 3 (.quiet 4 (.quiet 5 (.quiet 6 (.quiet 7 (.quiet 8 (.quiet 9 (.quiet 10 (.quiet 11 (.quiet 12 (.quiet 13 (.quiet 14 (.quiet 15 .done)))))))))))))))) (by kernel_rfl) (by kernel_rfl) (by kernel_rfl) (fun _ _ _ _ _ h => h) ?_
                  intro V0 hV0
                  iterate 16 (first
                    | (refine ordB_skip rfl rfl ?_; simp only [Act.put, List.setIfInBounds_toArray, List.set_cons_zero, List.set_cons_succ])
                    | (refine ordB_take (v := ?_) rfl rfl ?_ ?_
                       rotate_left 1
                       focus (intro W hW; obtain ⟨hcW, hfW⟩ := bcell hW; (go_simp <;> with_reducible rfl))
                       simp only [Act.put, List.setIfInBounds_toArray, List.set_cons_zero, List.set_cons_succ]))
                  refine ordB_nil ?_
                  go_wp2_with fail
                  go_roundw
                  case rel => exact ⟨m + 1, by omega, by first | (rw [HSn.out]; done) | (rw [HSn.out]; rfl) | (rw [HSn.out]; simp), by go_num, hbv.trans (hV0.mono hbv.size)⟩
                  case measure => simp [intOf]; omega
              · obtain rfl : m = s.length := by omega
                have hfin : hasK s a.key = false → priceOf a (shiftOf ts a.key) ⟨pa, pb⟩ ≤ 1000 → s.length = 8 ∧ ws ≤ priceOf a (shiftOf ts a.key) ⟨pa, pb⟩ := fun h1 h2 => by
                  have := HOut.out a ham.out (hasK_no h1) h2
                  exact this
                have HCost := Lib.hid (fun W (hW : Below W7.heap.size W7 W) => HCostA.out W a ham.out hW)
                rw [List.take_of_length_le (Nat.le_refl _)]
                generalize hasK s a.key = th at *
                generalize priceOf a (shiftOf ts a.key) ⟨pa, pb⟩ = pc at *
                have hfin' : th = true ∨ (th = false ∧ 1000 < pc) ∨ (th = false ∧ pc ≤ 1000 ∧ s.length = 8 ∧ ws ≤ pc) := by
                  cases th
                  · rcases Int.lt_or_le 1000 pc with h | h
                    · exact .inr (.inl ⟨rfl, h⟩)
                    · exact .inr (.inr ⟨rfl, h, hfin rfl h⟩)
                  · exact .inl rfl
                clear hfin
                clear k1 k2 k3 k4 k5 r1_ r2_ r3_ r4_ r5_ d0 d1 d2 d3 d4
                rcases hfin' with rfl | ⟨rfl, h2⟩ | ⟨rfl, h2, h3, h4⟩
                · go_wp2_with fail
                  refine ordB_below (.quiet 0 (.quiet 1 (.quiet 2 (.quiet 3 (.quiet 4 (.quiet 5 (.quiet 6 (.only 7 (.quiet 8 .done))))))))) (by kernel_rfl) (by kernel_rfl) (by kernel_rfl) (fun _ _ _ _ _ h => h) ?_
                  intro V0 hV0
                  iterate 7 (first
                    | (refine ordB_skip rfl rfl ?_; simp only [Act.put, List.setIfInBounds_toArray, List.set_cons_zero, List.set_cons_succ])
                    | (refine ordB_take (v := ?_) rfl rfl ?_ ?_
                       rotate_left 1
                       focus (intro W hW; obtain ⟨hcW, hfW⟩ := bcell hW; (go_simp <;> with_reducible rfl))
                       simp only [Act.put, List.setIfInBounds_toArray, List.set_cons_zero, List.set_cons_succ]))
                  refine ordB_only (opB_call rfl rfl (fun K hK => ?_))
                  go_simp
                  go_at_call 26
                  refine (HCost.out V0 (bthen hb7v hV0)).mono ?_
                  rintro e V0_1 ⟨rfl, hbc⟩
                  refine hK.out _ _ (hV0.trans (hbc.mono hV0.size)) (fun hV0_1 => ?_)
                  iterate 1 (first
                    | (refine ordB_skip rfl rfl ?_; simp only [Act.put, List.setIfInBounds_toArray, List.set_cons_zero, List.set_cons_succ])
                    | (refine ordB_take (v := ?_) rfl rfl ?_ ?_
                       rotate_left 1
                       focus (intro W hW; obtain ⟨hcW, hfW⟩ := bcell hW; (go_simp <;> with_reducible rfl))
                       simp only [Act.put, List.setIfInBounds_toArray, List.set_cons_zero, List.set_cons_succ]))
                  refine ordB_nil ?_
                  go_wp2_with fail
                  go_roundw
                  case rel => exact ⟨k + 1, by omega, by go_num, bthen hbr (bthen hbv hV0_1)⟩
                  case measure => simp [intOf]; omega
                · go_wp2_with fail
                  refine ordB_below (.quiet 0 (.quiet 1 (.quiet 2 (.quiet 3 (.quiet 4 (.quiet 5 (.quiet 6 (.only 7 (.quiet 8 .done))))))))) (by kernel_rfl) (by kernel_rfl) (by kernel_rfl) (fun _ _ _ _ _ h => h) ?_
                  intro V0 hV0
                  iterate 7 (first
                    | (refine ordB_skip rfl rfl ?_; simp only [Act.put, List.setIfInBounds_toArray, List.set_cons_zero, List.set_cons_succ])
                    | (refine ordB_take (v := ?_) rfl rfl ?_ ?_
                       rotate_left 1
                       focus (intro W hW; obtain ⟨hcW, hfW⟩ := bcell hW; (go_simp <;> with_reducible rfl))
                       simp only [Act.put, List.setIfInBounds_toArray, List.set_cons_zero, List.set_cons_succ]))
                  refine ordB_only (opB_call rfl rfl (fun K hK => ?_))
                  go_simp
                  go_at_call 26
                  refine (HCost.out V0 (bthen hb7v hV0)).mono ?_
                  rintro e V0_1 ⟨rfl, hbc⟩
                  refine hK.out _ _ (hV0.trans (hbc.mono hV0.size)) (fun hV0_1 => ?_)
                  iterate 1 (first
                    | (refine ordB_skip rfl rfl ?_; simp only [Act.put, List.setIfInBounds_toArray, List.set_cons_zero, List.set_cons_succ])
                    | (refine ordB_take (v := ?_) rfl rfl ?_ ?_
                       rotate_left 1
                       focus (intro W hW; obtain ⟨hcW, hfW⟩ := bcell hW; (go_simp <;> with_reducible rfl))
                       simp only [Act.put, List.setIfInBounds_toArray, List.set_cons_zero, List.set_cons_succ]))
                  refine ordB_nil ?_
                  go_wp2_with fail
                  go_roundw
                  case rel => exact ⟨k + 1, by omega, by go_num, bthen hbr (bthen hbv hV0_1)⟩
                  case measure => simp [intOf]; omega
                · have h5 : 8 ≤ (s.length : Int) := by omega
                  clear h3
                  go_wp2_with fail
                  refine ordB_below (.quiet 0 (.quiet 1 (.quiet 2 (.quiet 3 (.quiet 4 (.quiet 5 (.quiet 6 (.only 7 (.quiet 8 .done))))))))) (by kernel_rfl) (by kernel_rfl) (by kernel_rfl) (fun _ _ _ _ _ h => h) ?_
                  intro V0 hV0
                  iterate 7 (first
                    | (refine ordB_skip rfl rfl ?_; simp only [Act.put, List.setIfInBounds_toArray, List.set_cons_zero, List.set_cons_succ])
                    | (refine ordB_take (v := ?_) rfl rfl ?_ ?_
                       rotate_left 1
                       focus (intro W hW; obtain ⟨hcW, hfW⟩ := bcell hW; (go_simp <;> with_reducible rfl))
                       simp only [Act.put, List.setIfInBounds_toArray, List.set_cons_zero, List.set_cons_succ]))
                  refine ordB_only (opB_call rfl rfl (fun K hK => ?_))
                  go_simp
                  go_at_call 26
                  refine (HCost.out V0 (bthen hb7v hV0)).mono ?_
                  rintro e V0_1 ⟨rfl, hbc⟩
                  refine hK.out _ _ (hV0.trans (hbc.mono hV0.size)) (fun hV0_1 => ?_)
                  iterate 1 (first
                    | (refine ordB_skip rfl rfl ?_; simp only [Act.put, List.setIfInBounds_toArray, List.set_cons_zero, List.set_cons_succ])
                    | (refine ordB_take (v := ?_) rfl rfl ?_ ?_
                       rotate_left 1
                       focus (intro W hW; obtain ⟨hcW, hfW⟩ := bcell hW; (go_simp <;> with_reducible rfl))
                       simp only [Act.put, List.setIfInBounds_toArray, List.set_cons_zero, List.set_cons_succ]))
                  refine ordB_nil ?_
                  go_wp2_with fail
                  go_roundw
                  case rel => exact ⟨k + 1, by omega, by go_num, bthen hbr (bthen hbv hV0_1)⟩
                  case measure => simp [intOf]; omega
          · go_wp2_with fail
            go_ret
            exact ⟨rfl, bthen hbw7.out hb7r⟩
end Go.Proofs.Ytpjecpefbfobdaa
