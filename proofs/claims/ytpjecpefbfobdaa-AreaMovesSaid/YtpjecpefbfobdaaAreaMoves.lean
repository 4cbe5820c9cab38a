/-
  AreaMoves: the walk.
-/
import Derived.Test.YtpjecpefbfobdaaAreaOthers
import Derived.Test.YtpjecpefbfobdaaAreaLaw8
namespace Go.Proofs.Ytpjecpefbfobdaa
open Go Go.RowKit

theorem slr_dup {α : Type} {s : Nat} {R : World → α → List Value → Prop} {w : World} {A : Option Addr} {xs : List α} (h : SlR s R w A xs) : SlR s R w A xs := h
set_option maxRecDepth 100000 in
set_option maxHeartbeats 8000000 in
theorem areaMoves_any (A : Option Addr) (l : List B2) (c : Nat) (A2 : Option Addr) (l2 : List B3) (c2 : Nat) (pa pb pc pd : Int) (w : World) (hx : SlR 2 RB2 w A l) (hl0 : l.length ≤ maxLen) (hok : ∀ p ∈ l, B2OK p)
    (hy : SlR 3 RB3 w A2 l2) (hl2 : l2.length ≤ maxLen) (hok2 : ∀ p ∈ l2, B3OK p) (ha : 0 ≤ pa ∧ pa ≤ 255) (hb : 0 ≤ pb ∧ pb ≤ 255) (hc : 0 ≤ pc ∧ pc ≤ 255) (hd : 0 ≤ pd ∧ pd ≤ 255) :
    Calls Try.prog 8 #[.slice A l.length c, .slice A2 l2.length c2, .agg #[.int .u8 pa, .int .u8 pb, .int .u8 pc, .int .u8 pd]] w fun e w' => e = .returned (.bool true) ∧ Below w.heap.size w w' := by
  obtain ⟨i0, hi, hz0, hz1, hz2⟩ := info_parts area_info
  have HMade : Hid (∀ W, Below w.heap.size w W → Calls Try.prog 12 #[.slice A l.length c] W fun e w' => ∃ A' c' B C, e = .returned (.agg #[.slice A' (madeA l).length c', .slice B 2 2, .slice C 2 2]) ∧ SlR 5 RAr w' A' (madeA l) ∧ (madeA l).length ≤ c' ∧ c' ≤ maxLen ∧
      SlR 2 RTm w' B madeT ∧ SlR 2 RCk w' C madeC ∧ Below W.heap.size W w') := fun W hW => made_any A l c W (hx.below keeps_b2 hW) hl0 hok
  have HTaps : Hid (∀ W, Below w.heap.size w W → Calls Try.prog 13 #[.slice A2 l2.length c2] W fun e w' => ∃ A' c', e = .returned (.slice A' (tapsL l2).length c') ∧ SlR 4 RTp w' A' (tapsL l2) ∧ Below W.heap.size W w') := fun W hW => taps_any A2 l2 c2 W (hy.below keeps_b3 hW) hl2 hok2
  have HAr : Hid (∀ (i : Nat) (a : Ar), (madeA l)[i]? = some a → ArM i a) := fun i a h => madeA_ar hok h
  have HAk := Lib.hid (madeA_ok hok)
  have HInc := Lib.hid (madeA_inc hok)
  have HVal := Lib.hid (moved_valid hok hc hd)
  have HMk := Lib.hid (mv_ok hok hc hd)
  have hn14 : (madeA l).length ≤ 14 := by rw [madeA_len hok]; omega
  have HTok := Lib.hid (tapsL_ok hok2)
  have ht6 := tapsL_len (l := l2)
  generalize madeA l = us at *
  generalize tapsL l2 = ts at *
  obtain ⟨w1, hw1⟩ : ∃ w1, w.alloc (.cells #[.int .u8 pa, .int .u8 pb, .int .u8 pc, .int .u8 pd] 74) = w1 := ⟨_, rfl⟩
  have hb1 : Below w.heap.size w w1 := by rw [← hw1]; exact nw _ (Below.refl _ _)
  have HB1 : Hid (Blk w1 w.heap.size 74 #[.int .u8 pa, .int .u8 pb, .int .u8 pc, .int .u8 pd]) := by rw [← hw1]; exact Blk.new _ _ _
  have HW1 := Lib.hid hw1
  have HSan : Hid (Calls Try.prog 11 #[] w1 fun e w' => e = .returned (.bool true) ∧ Below w1.heap.size w1 w') := sanity_any w1
  have hs1 : w1.heap.size = w.heap.size + 1 := by rw [← hw1]; simp
  have hin : insideB ⟨pa, pb⟩ = true := by unfold insideB coordB; simp; omega
  have hin2 : insideB ⟨pa + pc, pb + pd⟩ = true := by unfold insideB coordB; simp; omega
  clear hw1 hx hok hy
  go_enter Try.func8, Try.ntmps8
  go_upto_region 3 with (first | (go_at_call 11; go_loud (rw [HW1.out]; refine HSan.out.mono ?_; rintro e w2 ⟨rfl, hb2⟩)) | (go_at_call 12; go_loud (refine (HMade.out _ (hb1.trans (hb2.mono (by omega)))).mono ?_; rintro e w3 ⟨A3, c3, B3, C3, rfl, hs3, hc3, hm3, _, _, hb3⟩)) | (go_at_call 13; go_loud (refine (HTaps.out _ ((hb1.trans (hb2.mono (by omega))).trans (hb3.mono (by have := hb2.size; omega)))).mono ?_; rintro e w4 ⟨A4, c4, rfl, hs4, hb4⟩)))
  obtain ⟨W5, hW5⟩ : ∃ W5, w4.alloc (.cells #[.slice A3 us.length c3, .slice B3 2 2, .slice C3 2 2] 31) = W5 := ⟨_, rfl⟩
  have hb5 : Below w4.heap.size w4 W5 := by rw [← hW5]; exact nw _ (Below.refl _ _)
  have hG : Blk W5 w4.heap.size 31 #[.slice A3 us.length c3, .slice B3 2 2, .slice C3 2 2] := by rw [← hW5]; exact Blk.new _ _ _
  rw [hW5]
  have hb15 := bthen (bthen (bthen hb2 hb3) hb4) hb5
  have hbw5 := Lib.hid (bthen hb1 hb15)
  have hB5 := HB1.out.below hb15 (by omega)
  have HS3 := Lib.hid ((hs3.below keeps_ar hb4).below keeps_ar hb5)
  have HS4 := Lib.hid (hs4.below keeps_tp hb5)
  have hwa : IntKind.i64.wrap pa = pa := IntWalk.i64_in _ (by omega)
  have hwb : IntKind.i64.wrap pb = pb := IntWalk.i64_in _ (by omega)
  have hwc : IntKind.i64.wrap pc = pc := IntWalk.i64_in _ (by omega)
  have hwd : IntKind.i64.wrap pd = pd := IntWalk.i64_in _ (by omega)
  have hwac : IntKind.i64.wrap (pa + pc) = pa + pc := IntWalk.i64_in _ (by omega)
  have hwbd : IntKind.i64.wrap (pb + pd) = pb + pd := IntWalk.i64_in _ (by omega)
  obtain ⟨g, hg⟩ : ∃ g, w4.heap.size = g := ⟨_, rfl⟩
  rw [hg] at hG ⊢
  have HKeep : Hid (∀ W, Below W5.heap.size W5 W → W.cell? ⟨g, 0, none⟩ = some (.slice A3 us.length c3) ∧ W.cell? ⟨g, 1, none⟩ = some (.slice B3 2 2) ∧ W.cell? ⟨g, 2, none⟩ = some (.slice C3 2 2) ∧ W.cell? ⟨w.heap.size, 0, none⟩ = some (.int .u8 pa) ∧ W.cell? ⟨w.heap.size, 1, none⟩ = some (.int .u8 pb) ∧ W.cell? ⟨w.heap.size, 2, none⟩ = some (.int .u8 pc) ∧ W.cell? ⟨w.heap.size, 3, none⟩ = some (.int .u8 pd) ∧ g < W.heap.size ∧ w.heap.size < W.heap.size) := fun W hW =>
    ⟨(hG.below hW hG.lt).cell 0, (hG.below hW hG.lt).cell 1, (hG.below hW hG.lt).cell 2, (hB5.below hW hB5.lt).cell 0, (hB5.below hW hB5.lt).cell 1, (hB5.below hW hB5.lt).cell 2, (hB5.below hW hB5.lt).cell 3, (hG.below hW hG.lt).lt, (hB5.below hW hB5.lt).lt⟩
  clear hG hW5 hb5 hb15 hs3 hs4 hc3 hm3 hb2 hb3 hb4 hg hB5 hs1
  go_upto_region 4 with fail
  obtain ⟨W6, hW6⟩ : ∃ W6, W5.alloc (.cells #[.slice none 0 0, .slice none 0 0, .slice none 0 0] 31) = W6 := ⟨_, rfl⟩
  have hb6 : Below W5.heap.size W5 W6 := by rw [← hW6]; exact nw _ (Below.refl _ _)
  have hM : Hid (Blk W6 W5.heap.size 31 #[.slice none 0 0, .slice none 0 0, .slice none 0 0]) := by rw [← hW6]; exact Blk.new _ _ _
  rw [hW6]
  clear hW6
  go_wp2_with fail
  go_loopw [11] (fun i wr => ∃ (k : Nat) (v : Value), k ≤ us.length ∧ i = .int .i64 k ∧ wr.ownsRow (W5.heap.size + 1) 57 5 v ((us.take k).map (mvA pc pd)).length (((us.take k).map (mvA pc pd)).flatMap encA) ∧ Blk wr W5.heap.size 31 #[v, .slice none 0 0, .slice none 0 0] ∧ Below W5.heap.size W5 wr) (fun i _ => us.length - (intOf i).toNat)
  case atStart => exact ⟨0, .slice none 0 0, by omega, rfl, own_nil _ _ _ _, hM.out, hb6⟩
  case round =>
    obtain ⟨k, v, hk, rfl, hown, hB, hbr⟩ := hrel
    obtain ⟨r1_, r2_, r3_, r4_, r5_, r6_, r7_, r8_, r9_⟩ := HKeep.out _ hbr
    by_cases hlt : k < us.length
    · obtain ⟨b, off, a, rfl, hbb, haa, d0, d1, d2, d3, d4⟩ := (HS3.out.below keeps_ar hbr).ar hlt
      obtain ⟨q1, ⟨q2, q3, q4⟩, q5, q6, q7⟩ := HAr.out k a haa
      have hw1' : IntKind.i64.wrap (a.x0 + pc) = a.x0 + pc := IntWalk.i64_in _ (by omega)
      have hw2' : IntKind.i64.wrap (a.x1 + pc) = a.x1 + pc := IntWalk.i64_in _ (by omega)
      have hw3' : IntKind.i64.wrap (a.y0 + pd) = a.y0 + pd := IntWalk.i64_in _ (by omega)
      have hw4' : IntKind.i64.wrap (a.y1 + pd) = a.y1 + pd := IntWalk.i64_in _ (by omega)
      have HN : Hid ((us.take (k + 1)).map (mvA pc pd) = (us.take k).map (mvA pc pd) ++ [mvA pc pd a]) := by show _ = _; rw [take_succ_of haa, List.map_append]; rfl
      have hnl : ((us.take k).map (mvA pc pd)).length ≤ 14 := by simp; omega
      have hvne : v.ownBlock ≠ some W5.heap.size := fun e => by have := own_block_le hown _ e; omega
      generalize (us.take k).map (mvA pc pd) = ms at *
      have m0 := hB.cell 0
      have m1 := hB.cell 1
      have m2 := hB.cell 2
      have ml := hB.lt
      simp at m0 m1 m2
      have HOw := Lib.hid (own_below hown (nw (.cells #[.int .u8 a.key, .int .i64 a.x0, .int .i64 a.y0, .int .i64 a.x1, .int .i64 a.y1] 57) (Below.refl _ _)))
      have HBB := Lib.hid (hB.alloc (.cells #[.int .u8 a.key, .int .i64 a.x0, .int .i64 a.y0, .int .i64 a.x1, .int .i64 a.y1] 57))
      have HBr := Lib.hid (hbr.trans ((nw (.cells #[.int .u8 a.key, .int .i64 a.x0, .int .i64 a.y0, .int .i64 a.x1, .int .i64 a.y1] 57) (Below.refl wr.heap.size wr)).mono hbr.size))
      have hsz : (wr.alloc (.cells #[.int .u8 a.key, .int .i64 a.x0, .int .i64 a.y0, .int .i64 a.x1, .int .i64 a.y1] 57)).heap.size = wr.heap.size + 1 := by simp
      have HSZ := Lib.hid hsz
      clear haa q1 hB hsz hown
      go_wp2_with (first | (at_builtin; go_loud (refine wpList_app1 rfl _ _ 27 rfl (W5.heap.size + 1) 57 i0 _ 5 40 Try.underlying27 hi hz0 hz1 hz2 rfl (by decide) v _ _ rfl _ [.int .u8 a.key, .int .i64 (a.x0 + pc), .int .i64 (a.y0 + pd), .int .i64 (a.x1 + pc), .int .i64 (a.y1 + pd)] rfl HOw.out _ rfl (by simp) rfl (by simp [Value.oneCell']) (by omega) (by decide) (by have := HSZ.out; omega) ?_; intro v4 w4_ hown4 hb4 ha4; have hown5 : w4_.ownsRow (W5.heap.size + 1) 57 5 v4 (ms ++ [mvA pc pd a]).length ((ms ++ [mvA pc pd a]).flatMap encA) := (by rw [List.length_append, enc_snoc]; exact hown4); clear hown4; obtain ⟨A9, c9, rfl, hc9, hcm9, _⟩ := own_slr (R := RAr) hown5 (fun _ => rfl) (fun _ => rfl) rfl; have hB4 := HBB.out.apps ha4 hvne; have HBr4 := Lib.hid (HBr.out.trans (hb4.mono (by omega))); have n0 := hB4.cell 0; have n0f := hB4.frozen 0; have nl := hB4.lt; simp at n0; have HB4 := Lib.hid hB4; have HO4 := Lib.hid hown5; clear hB4 hown5)))
      go_roundw
      case rel =>
        refine ⟨k + 1, .slice A9 (ms ++ [mvA pc pd a]).length c9, by omega, by go_num, ?_, ?_, ?_⟩
        · rw [HN.out]; exact own_set HO4.out (fun e => by have := own_block_le HO4.out _ e; simp at this; omega) _
        · have := HB4.out.set_ 0 (.slice A9 (ms ++ [mvA pc pd a]).length c9); simpa using this
        · exact HBr4.out.setCell (Nat.le_refl _) _
      case measure => simp [intOf]; omega
    · obtain rfl : k = us.length := by omega
      rw [List.take_of_length_le (Nat.le_refl _)] at hown
      obtain ⟨A10, c10, rfl, hc10, hcm10, hsM⟩ := own_slr (R := RAr) hown (fun _ => rfl) (fun _ => rfl) rfl
      have hml : (us.map (mvA pc pd)).length ≤ 14 := by simp; omega
      have hMi := mv_inc HInc.out pc pd
      have HBr := Lib.hid hbr
      have HT2' : ∀ W, Below wr.heap.size wr W → Calls Try.prog 15 #[.agg #[.slice A10 (us.map (mvA pc pd)).length c10, .slice none 0 0, .slice none 0 0], .slice A4 ts.length c4, vPt ⟨pa + pc, pb + pd⟩] W fun e w' => ∃ A' c', e = .returned (.tuple #[.slice A' (touchOf us ts ⟨pa, pb⟩).1.length c', .int .i64 (touchOf us ts ⟨pa, pb⟩).2]) ∧ SlR 2 RCho w' A' (touchOf us ts ⟨pa, pb⟩).1 ∧ Below W.heap.size W w' := fun W hW => by
        have := touch_any (us.map (mvA pc pd)) A10 c10 (.slice none 0 0) (.slice none 0 0) ts A4 c4 ⟨pa + pc, pb + pd⟩ W (hsM.below keeps_ar hW) (by omega) HMk.out hMi (HS4.out.below keeps_tp (HBr.out.trans (hW.mono HBr.out.size))) (by omega) HTok.out.1
        rw [moved_touch us ts (p := ⟨pa, pb⟩) hin hin2] at this
        exact this
      have HT1 : Hid (∀ W, Below wr.heap.size wr W → Calls Try.prog 15 #[.agg #[.slice A3 us.length c3, .slice B3 2 2, .slice C3 2 2], .slice A4 ts.length c4, vPt ⟨pa, pb⟩] W fun e w' => ∃ A' c', e = .returned (.tuple #[.slice A' (touchOf us ts ⟨pa, pb⟩).1.length c', .int .i64 (touchOf us ts ⟨pa, pb⟩).2]) ∧ SlR 2 RCho w' A' (touchOf us ts ⟨pa, pb⟩).1 ∧ Below W.heap.size W w') := fun W hW =>
        touch_any us A3 c3 (.slice B3 2 2) (.slice C3 2 2) ts A4 c4 ⟨pa, pb⟩ W (HS3.out.below keeps_ar (HBr.out.trans (hW.mono HBr.out.size))) (by omega) HAk.out HInc.out (HS4.out.below keeps_tp (HBr.out.trans (hW.mono HBr.out.size))) (by omega) HTok.out.1
      have HValid' : ∀ W, Below wr.heap.size wr W → Calls Try.prog 23 #[.agg #[.slice A10 (us.map (mvA pc pd)).length c10, .slice none 0 0, .slice none 0 0]] W fun e w' => e = .returned (.bool true) ∧ Below W.heap.size W w' := fun W hW => by
        have := valid_by A10 none none (us.map (mvA pc pd)) 0 0 c10 0 0 W true true (hsM.below keeps_ar hW) (by omega) hc10 hcm10 (fun W _ => templates_nil none 0 W) (fun W _ => chords_nil none 0 W)
        rw [HVal.out] at this
        exact this
      have hr14 := touch_len_ (us := us) (ts := ts) (p := ⟨pa, pb⟩) hn14
      have HSame : Hid (∀ W A B c d, SlR 2 RCho W A (touchOf us ts ⟨pa, pb⟩).1 → SlR 2 RCho W B (touchOf us ts ⟨pa, pb⟩).1 → Calls Try.prog 19 #[.slice A (touchOf us ts ⟨pa, pb⟩).1.length c, .slice B (touchOf us ts ⟨pa, pb⟩).1.length d] W fun e w' => e = .returned (.bool true) ∧ Below W.heap.size W w') := fun W A B c d h1 h2 => by
        have := sameSlot_any A B _ _ c d W h1 h2 (Nat.le_trans hr14 (by omega))
        rw [decide_eq_true rfl] at this
        exact this
      have HT2 := Lib.hid HT2'
      have HValid := Lib.hid HValid'
      have HKeepM : Hid (∀ W, Below wr.heap.size wr W → W.cell? ⟨W5.heap.size, 0, none⟩ = some (.slice A10 (us.map (mvA pc pd)).length c10) ∧ W.cell? ⟨W5.heap.size, 1, none⟩ = some (.slice none 0 0) ∧ W.cell? ⟨W5.heap.size, 2, none⟩ = some (.slice none 0 0) ∧ W5.heap.size < W.heap.size) := fun W hW =>
        ⟨(hB.below hW hB.lt).cell 0, (hB.below hW hB.lt).cell 1, (hB.below hW hB.lt).cell 2, (hB.below hW hB.lt).lt⟩
      have HKeepL : Hid (∀ W, Below wr.heap.size wr W → W.cell? ⟨g, 0, none⟩ = some (.slice A3 us.length c3) ∧ W.cell? ⟨g, 1, none⟩ = some (.slice B3 2 2) ∧ W.cell? ⟨g, 2, none⟩ = some (.slice C3 2 2) ∧ W.cell? ⟨w.heap.size, 0, none⟩ = some (.int .u8 pa) ∧ W.cell? ⟨w.heap.size, 1, none⟩ = some (.int .u8 pb) ∧ W.cell? ⟨w.heap.size, 2, none⟩ = some (.int .u8 pc) ∧ W.cell? ⟨w.heap.size, 3, none⟩ = some (.int .u8 pd) ∧ g < W.heap.size ∧ w.heap.size < W.heap.size) := fun W hW => HKeep.out W (HBr.out.trans (hW.mono HBr.out.size))
      have hbL5 := Lib.hid hbr
      clear HT2' HValid' hr14 hown hsM hB hMi hml hbr
      generalize touchOf us ts ⟨pa, pb⟩ = r at *
      generalize (us.map (mvA pc pd)).length = nm at *
      go_wp2_with fail
      refine ordB_below (.quiet 0 (.quiet 1 (.quiet 2 (.quiet 3 (.quiet 4 (.quiet 5 (.quiet 6 (.quiet 7 (.only 8 (.only 9 (.quiet 10 (.quiet 11 (.quiet 12 (.quiet 13 (.quiet 14 .done))))))))))))))) (by kernel_rfl) (by kernel_rfl) (by kernel_rfl) (fun _ _ _ _ _ h => h) ?_
      intro U0 hU0
      iterate 8 (first
        | (refine ordB_skip rfl rfl ?_; simp only [Act.put, List.setIfInBounds_toArray, List.set_cons_zero, List.set_cons_succ])
        | (refine ordB_take (v := ?_) rfl rfl ?_ ?_
           rotate_left 1
           focus (intro W hW; obtain ⟨hcW, hfW⟩ := bcell hW; (go_simp <;> with_reducible rfl))
           simp only [Act.put, List.setIfInBounds_toArray, List.set_cons_zero, List.set_cons_succ]))
      refine ordB_only (opB_call rfl rfl (fun K hK => ?_))
      go_simp
      go_at_call 14
      refine (point_any _ _ _).mono ?_
      rintro e U0_1 ⟨rfl, hbp⟩
      refine hK.out _ _ (hU0.trans (hbp.mono hU0.size)) (fun hU0_1 => ?_)
      refine ordB_only (opB_call rfl rfl (fun K hK => ?_))
      go_simp
      go_at_call 15
      refine (HT1.out _ hU0_1).mono ?_
      rintro e U0_1_2 ⟨A7, c7, rfl, hs7, hb7⟩
      refine hK.out _ _ (hU0_1.trans (hb7.mono hU0_1.size)) (fun hU0_1_2 => ?_)
      iterate 5 (first
        | (refine ordB_skip rfl rfl ?_; simp only [Act.put, List.setIfInBounds_toArray, List.set_cons_zero, List.set_cons_succ])
        | (refine ordB_take (v := ?_) rfl rfl ?_ ?_
           rotate_left 1
           focus (intro W hW; obtain ⟨hcW, hfW⟩ := bcell hW; (go_simp <;> with_reducible rfl))
           simp only [Act.put, List.setIfInBounds_toArray, List.set_cons_zero, List.set_cons_succ]))
      refine ordB_nil ?_
      have hbL9 := hU0_1_2
      have HR1 := Lib.hid (hs7.below keeps_cho (Below.refl _ _))
      generalize U0_1_2 = Wc at *
      obtain ⟨u1, u2, u3, u4, u5, u6, u7, u8, u9⟩ := HKeepL.out _ hbL9
      obtain ⟨x1, x2, x3, x4⟩ := HKeepM.out _ hbL9
      go_wp2_with fail
      refine ordB_below (.quiet 0 (.quiet 1 (.quiet 2 (.quiet 3 (.quiet 4 (.quiet 5 (.quiet 6 (.quiet 7 (.quiet 8 (.quiet 9 (.quiet 10 (.quiet 11 (.quiet 12 (.quiet 13 (.quiet 14 (.quiet 15 (.only 16 (.only 17 (.quiet 18 (.quiet 19 (.quiet 20 (.quiet 21 (.quiet 22 .done))))))))))))))))))))))) (by kernel_rfl) (by kernel_rfl) (by kernel_rfl) (fun _ _ _ _ _ h => h) ?_
      intro V0 hV0
      iterate 16 (first
        | (refine ordB_skip rfl rfl ?_; simp only [Act.put, List.setIfInBounds_toArray, List.set_cons_zero, List.set_cons_succ])
        | (refine ordB_take (v := ?_) rfl rfl ?_ ?_
           rotate_left 1
           focus (intro W hW; obtain ⟨hcW, hfW⟩ := bcell hW; (go_simp <;> with_reducible rfl))
           simp only [Act.put, List.setIfInBounds_toArray, List.set_cons_zero, List.set_cons_succ]))
      refine ordB_only (opB_call rfl rfl (fun K hK => ?_))
      go_simp
      go_at_call 14
      refine (point_any _ _ _).mono ?_
      rintro e V0_1 ⟨rfl, hbq⟩
      refine hK.out _ _ (hV0.trans (hbq.mono hV0.size)) (fun hV0_1 => ?_)
      refine ordB_only (opB_call rfl rfl (fun K hK => ?_))
      go_simp
      go_at_call 15
      refine (HT2.out _ (bthen hbL9 hV0_1)).mono ?_
      rintro e V0_1_2 ⟨A8, c8, rfl, hs8, hb8⟩
      refine hK.out _ _ (hV0_1.trans (hb8.mono hV0_1.size)) (fun hV0_1_2 => ?_)
      iterate 5 (first
        | (refine ordB_skip rfl rfl ?_; simp only [Act.put, List.setIfInBounds_toArray, List.set_cons_zero, List.set_cons_succ])
        | (refine ordB_take (v := ?_) rfl rfl ?_ ?_
           rotate_left 1
           focus (intro W hW; obtain ⟨hcW, hfW⟩ := bcell hW; (go_simp <;> with_reducible rfl))
           simp only [Act.put, List.setIfInBounds_toArray, List.set_cons_zero, List.set_cons_succ]))
      refine ordB_nil ?_
      have hbL10 := bthen hbL9 hV0_1_2
      have HR1 := Lib.hid (HR1.out.below keeps_cho hV0_1_2)
      have HR2 := Lib.hid (hs8.below keeps_cho (Below.refl _ _))
      generalize V0_1_2 = Wd at *
      clear hV0_1_2
      obtain ⟨y1, y2, y3, y4⟩ := HKeepM.out _ hbL10
      go_wp2_with (first | (go_at_call 19; go_loud (refine (HSame.out _ _ _ _ _ HR1.out HR2.out).mono ?_; rintro e w11 ⟨rfl, hb11⟩; have hbL11 := bthen hbL10 hb11; obtain ⟨x1, x2, x3, x4⟩ := HKeepM.out _ hbL11)) | (go_at_call 23; go_loud (refine (HValid.out _ hbL11).mono ?_; rintro e w12 ⟨rfl, hb12⟩)))
      go_ret
      exact ⟨rfl, bthen hbw5.out (hbL5.out.trans ((bthen hbL11 hb12).mono (by have := hbL5.out.size; omega)))⟩
end Go.Proofs.Ytpjecpefbfobdaa
