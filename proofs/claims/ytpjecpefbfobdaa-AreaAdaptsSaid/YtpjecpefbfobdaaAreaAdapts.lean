/-
  AreaAdapts: the walk.
-/
import Derived.Test.YtpjecpefbfobdaaAreaOthers
import Derived.Test.YtpjecpefbfobdaaAreaLaw9
namespace Go.Proofs.Ytpjecpefbfobdaa
open Go Go.RowKit

set_option maxRecDepth 100000 in
set_option maxHeartbeats 16000000 in
theorem areaAdapts_any (A : Option Addr) (l : List B2) (c : Nat) (pa pb pc pd pe pf : Int) (w : World) (hx : SlR 2 RB2 w A l) (hl0 : l.length ≤ maxLen) (hok : ∀ p ∈ l, B2OK p)
    (ha : 0 ≤ pa ∧ pa ≤ 255) (hb : 0 ≤ pb ∧ pb ≤ 255) (hc : 0 ≤ pc ∧ pc ≤ 255) (hd : 0 ≤ pd ∧ pd ≤ 255) (he : 0 ≤ pe ∧ pe ≤ 255) (hf : 0 ≤ pf ∧ pf ≤ 255) :
    Calls Try.prog 9 #[.slice A l.length c, .agg #[.int .u8 pa, .int .u8 pb, .int .u8 pc, .int .u8 pd, .int .u8 pe, .int .u8 pf]] w fun e w' => e = .returned (.bool true) ∧ Below w.heap.size w w' := by
  have HMade : Hid (∀ W, Below w.heap.size w W → Calls Try.prog 12 #[.slice A l.length c] W fun e w' => ∃ A' c' B C, e = .returned (.agg #[.slice A' (madeA l).length c', .slice B 2 2, .slice C 2 2]) ∧ SlR 5 RAr w' A' (madeA l) ∧ (madeA l).length ≤ c' ∧ c' ≤ maxLen ∧
      SlR 2 RTm w' B madeT ∧ SlR 2 RCk w' C madeC ∧ Below W.heap.size W w') := fun W hW => made_any A l c W (hx.below keeps_b2 hW) hl0 hok
  have HAr : Hid (∀ (i : Nat) (a : Ar), (madeA l)[i]? = some a → ArM i a) := fun i a h => madeA_ar hok h
  have hn14 : (madeA l).length ≤ 14 := by rw [madeA_len hok]; omega
  generalize madeA l = us at *
  obtain ⟨w1, hw1⟩ : ∃ w1, w.alloc (.cells #[.int .u8 pa, .int .u8 pb, .int .u8 pc, .int .u8 pd, .int .u8 pe, .int .u8 pf] 76) = w1 := ⟨_, rfl⟩
  have hb1 : Below w.heap.size w w1 := by rw [← hw1]; exact nw _ (Below.refl _ _)
  have HB1 : Hid (Blk w1 w.heap.size 76 #[.int .u8 pa, .int .u8 pb, .int .u8 pc, .int .u8 pd, .int .u8 pe, .int .u8 pf]) := by rw [← hw1]; exact Blk.new _ _ _
  have HW1 := Lib.hid hw1
  have HSan : Hid (Calls Try.prog 11 #[] w1 fun e w' => e = .returned (.bool true) ∧ Below w1.heap.size w1 w') := sanity_any w1
  have hs1 : w1.heap.size = w.heap.size + 1 := by rw [← hw1]; simp
  clear hw1 hx hok
  go_enter Try.func9, Try.ntmps9
  go_upto_region 3 with (first | (go_at_call 11; go_loud (rw [HW1.out]; refine HSan.out.mono ?_; rintro e w2 ⟨rfl, hb2⟩)) | (go_at_call 12; go_loud (refine (HMade.out _ (hb1.trans (hb2.mono (by omega)))).mono ?_; rintro e w3 ⟨A3, c3, B3, C3, rfl, hs3, hc3, hm3, _, _, hb3⟩)))
  obtain ⟨W2, hW2⟩ : ∃ W2, w3.alloc (.cells #[.slice A3 us.length c3, .slice B3 2 2, .slice C3 2 2] 31) = W2 := ⟨_, rfl⟩
  have hb3' : Below w3.heap.size w3 W2 := by rw [← hW2]; exact nw _ (Below.refl _ _)
  have hG : Blk W2 w3.heap.size 31 #[.slice A3 us.length c3, .slice B3 2 2, .slice C3 2 2] := by rw [← hW2]; exact Blk.new _ _ _
  rw [hW2]
  have hb12 := bthen (bthen hb2 hb3) hb3'
  have hbw2 := bthen hb1 hb12
  have hB2 := HB1.out.below hb12 (by omega)
  have g0 := hG.cell 0
  have gl := hG.lt
  have p0 := hB2.cell 0
  have pl := hB2.lt
  simp at g0 p0
  have hs3 := hs3.below keeps_ar hb3'
  have HB2 := Lib.hid hB2
  have hwa : IntKind.i64.wrap pa = pa := IntWalk.i64_in _ (by omega)
  have hwb : IntKind.i64.wrap pb = pb := IntWalk.i64_in _ (by omega)
  have hwc : IntKind.i64.wrap pc = pc := IntWalk.i64_in _ (by omega)
  have hwd : IntKind.i64.wrap pd = pd := IntWalk.i64_in _ (by omega)
  have hwe : IntKind.i64.wrap pe = pe := IntWalk.i64_in _ (by omega)
  have hwf : IntKind.i64.wrap pf = pf := IntWalk.i64_in _ (by omega)
  obtain ⟨g, hg⟩ : ∃ g, w3.heap.size = g := ⟨_, rfl⟩
  rw [hg] at g0 gl ⊢
  clear hG hW2 hb3' hb12 hc3 hm3 hb2 hb3 hg hB2 hs1 hb1
  by_cases h0 : us.length = 0
  · go_wp2_with fail
    go_ret
    exact ⟨rfl, hbw2⟩
  · obtain ⟨q, hq⟩ : ∃ q : Nat, pa % (us.length : Int) = (q : Int) := ⟨(pa % (us.length : Int)).toNat, by have := Int.emod_nonneg pa (show (us.length : Int) ≠ 0 by omega); omega⟩
    have hqlt : q < us.length := by have := Int.emod_lt_of_pos pa (show (0 : Int) < (us.length : Int) by omega); omega
    have hpq : pa.tmod (us.length : Int) = (q : Int) := by rw [Int.tmod_eq_emod_of_nonneg ha.1]; exact hq
    have hwq : IntKind.i64.wrap (q : Int) = (q : Int) := IntWalk.i64_in _ (by omega)
    have hn0 : ¬ (us.length : Int) = 0 := by omega
    have hqi : (q : Int) < (us.length : Int) := by omega
    clear hq
    obtain ⟨b, off, a0, rfl, hbb, haa, d0, d1, d2, d3, d4⟩ := hs3.ar hqlt
    obtain ⟨hak, ⟨hx1, hx2, hx3⟩, hy1, hy2, hy3⟩ := HAr.out q a0 haa
    have hkey : Hid (97 ≤ a0.key ∧ a0.key ≤ 122) := by show _ ∧ _; omega
    clear haa hak hs3
    have hW2s : 0 < W2.heap.size := by omega
    go_upto_region 5 with fail
    go_cut [7] (fun s7 W => ∃ (gs go : Nat), s7 = .pointer (some ⟨go, 0, none⟩) ∧ Blk W go 31 #[.slice (some ⟨gs, 0, none⟩) 1 1, .slice none 0 0, .slice none 0 0] ∧ Blk W gs 57 #[.int .u8 a0.key, .int .i64 a0.x0, .int .i64 a0.y0, .int .i64 a0.x1, .int .i64 a0.y1] ∧ gs ≠ go ∧ W2.heap.size ≤ gs ∧ Below W2.heap.size W2 W)
    case first =>
      refine ordB_below (.quiet 0 (.quiet 1 (.quiet 2 (.quiet 3 (.quiet 4 (.quiet 5 (.quiet 6 (.quiet 7 (.quiet 8 (.quiet 9 (.quiet 10 (.fork 11 13 (.quiet 12 (.only 13 (.only 14 .done))) (.only 11 (.quiet 12 (.only 14 .done))))))))))))))) (by kernel_rfl) (by kernel_rfl) (by kernel_rfl) (fun _ _ _ _ _ h => h) ?_
      intro V0 hV0
      iterate 11 (first
        | (refine ordB_skip rfl rfl ?_; simp only [Act.put, List.setIfInBounds_toArray, List.set_cons_zero, List.set_cons_succ])
        | (refine ordB_take (v := ?_) rfl rfl ?_ ?_
           rotate_left 1
           focus (intro W hW; obtain ⟨hcW, hfW⟩ := bcell hW; (go_simp <;> with_reducible rfl))
           simp only [Act.put, List.setIfInBounds_toArray, List.set_cons_zero, List.set_cons_succ]))
      refine ordB_fork (opB_call rfl rfl (fun K hK => ?_)) (opB_call rfl rfl (fun K hK => ?_))
      · go_simp
        refine hK.out _ _ (hV0.alloc hV0.size _) (fun hV0_1 => ?_)
        have bs := Blk.new V0 57 #[.int .u8 a0.key, .int .i64 a0.x0, .int .i64 a0.y0, .int .i64 a0.x1, .int .i64 a0.y1]
        have bsb := nw (.cells #[.int .u8 a0.key, .int .i64 a0.x0, .int .i64 a0.y0, .int .i64 a0.x1, .int .i64 a0.y1] 57) (Below.refl V0.heap.size V0)
        have bsg := hV0.size
        obtain ⟨V0_1, qqV0_1⟩ : ∃ W', V0.alloc (.cells #[.int .u8 a0.key, .int .i64 a0.x0, .int .i64 a0.y0, .int .i64 a0.x1, .int .i64 a0.y1] 57) = W' := ⟨_, rfl⟩
        rw [qqV0_1] at hV0_1 bs bsb ⊢
        clear qqV0_1 bsb
        iterate 1 (first
          | (refine ordB_skip rfl rfl ?_; simp only [Act.put, List.setIfInBounds_toArray, List.set_cons_zero, List.set_cons_succ])
          | (refine ordB_take (v := ?_) rfl rfl ?_ ?_
             rotate_left 1
             focus (intro W hW; obtain ⟨hcW, hfW⟩ := bcell hW; (go_simp <;> with_reducible rfl))
             simp only [Act.put, List.setIfInBounds_toArray, List.set_cons_zero, List.set_cons_succ]))
        refine ordB_only (opB_call rfl rfl (fun K hK => ?_))
        have bs_bo := Nat.ne_of_lt bs.lt
        go_simp
        refine hK.out _ _ (hV0_1.alloc hV0_1.size _) (fun hV0_1_2 => ?_)
        have bo := Blk.new V0_1 31 #[.slice none 0 0, .slice none 0 0, .slice none 0 0]
        have bob := nw (.cells #[.slice none 0 0, .slice none 0 0, .slice none 0 0] 31) (Below.refl V0_1.heap.size V0_1)
        have bog := hV0_1.size
        obtain ⟨V0_1_2, qqV0_1_2⟩ : ∃ W', V0_1.alloc (.cells #[.slice none 0 0, .slice none 0 0, .slice none 0 0] 31) = W' := ⟨_, rfl⟩
        rw [qqV0_1_2] at hV0_1_2 bo bob ⊢
        have bs := bs.below bob bs.lt
        clear qqV0_1_2 bob
        refine ordB_only (opB_call rfl rfl (fun K hK => ?_))
        have boc0 := bo.cell 0
        have bof0 := bo.frozen 0
        have boc1 := bo.cell 1
        have bof1 := bo.frozen 1
        have boc2 := bo.cell 2
        have bof2 := bo.frozen 2
        simp at boc0 boc1 boc2
        go_simp
        refine hK.out _ _ (((hV0_1_2.setCell (p := ⟨V0_1.heap.size, 0, none⟩) bog _).setCell (p := ⟨V0_1.heap.size, 1, none⟩) bog _).setCell (p := ⟨V0_1.heap.size, 2, none⟩) bog _) (fun hV0_1_2_3 => ?_)
        have bo := (((bo.set_ 0 (.slice (some ⟨V0.heap.size, 0, none⟩) 1 1)).set_ 1 (.slice none 0 0)).set_ 2 (.slice none 0 0))
        have bsne : V0.heap.size ≠ V0_1.heap.size := by first | exact bs_bo | exact bo_bs.symm
        have bs := (((bs.far (p := ⟨V0_1.heap.size, 0, none⟩) bsne (.slice (some ⟨V0.heap.size, 0, none⟩) 1 1)).far (p := ⟨V0_1.heap.size, 1, none⟩) bsne (.slice none 0 0)).far (p := ⟨V0_1.heap.size, 2, none⟩) bsne (.slice none 0 0))
        obtain ⟨V0_1_2_3, qqV0_1_2_3⟩ : ∃ W', (((V0_1_2.setCell ⟨V0_1.heap.size, 0, none⟩ (.slice (some ⟨V0.heap.size, 0, none⟩) 1 1)).setCell ⟨V0_1.heap.size, 1, none⟩ (.slice none 0 0)).setCell ⟨V0_1.heap.size, 2, none⟩ (.slice none 0 0)) = W' := ⟨_, rfl⟩
        rw [qqV0_1_2_3] at hV0_1_2_3 bo bs ⊢
        clear qqV0_1_2_3 boc0 bof0 boc1 bof1 boc2 bof2
        refine ordB_nil ?_
        go_wp2_with fail
        go_meet
        exact ⟨_, _, rfl, bo, bs, by first | exact bs_bo | exact bo_bs.symm, bsg, hV0_1_2_3⟩
      · go_simp
        refine hK.out _ _ (hV0.alloc hV0.size _) (fun hV0_1 => ?_)
        have bo := Blk.new V0 31 #[.slice none 0 0, .slice none 0 0, .slice none 0 0]
        have bob := nw (.cells #[.slice none 0 0, .slice none 0 0, .slice none 0 0] 31) (Below.refl V0.heap.size V0)
        have bog := hV0.size
        obtain ⟨V0_1, qqV0_1⟩ : ∃ W', V0.alloc (.cells #[.slice none 0 0, .slice none 0 0, .slice none 0 0] 31) = W' := ⟨_, rfl⟩
        rw [qqV0_1] at hV0_1 bo bob ⊢
        clear qqV0_1 bob
        refine ordB_only (opB_call rfl rfl (fun K hK => ?_))
        have bo_bs := Nat.ne_of_lt bo.lt
        go_simp
        refine hK.out _ _ (hV0_1.alloc hV0_1.size _) (fun hV0_1_2 => ?_)
        have bs := Blk.new V0_1 57 #[.int .u8 a0.key, .int .i64 a0.x0, .int .i64 a0.y0, .int .i64 a0.x1, .int .i64 a0.y1]
        have bsb := nw (.cells #[.int .u8 a0.key, .int .i64 a0.x0, .int .i64 a0.y0, .int .i64 a0.x1, .int .i64 a0.y1] 57) (Below.refl V0_1.heap.size V0_1)
        have bsg := hV0_1.size
        obtain ⟨V0_1_2, qqV0_1_2⟩ : ∃ W', V0_1.alloc (.cells #[.int .u8 a0.key, .int .i64 a0.x0, .int .i64 a0.y0, .int .i64 a0.x1, .int .i64 a0.y1] 57) = W' := ⟨_, rfl⟩
        rw [qqV0_1_2] at hV0_1_2 bs bsb ⊢
        have bo := bo.below bsb bo.lt
        clear qqV0_1_2 bsb
        iterate 1 (first
          | (refine ordB_skip rfl rfl ?_; simp only [Act.put, List.setIfInBounds_toArray, List.set_cons_zero, List.set_cons_succ])
          | (refine ordB_take (v := ?_) rfl rfl ?_ ?_
             rotate_left 1
             focus (intro W hW; obtain ⟨hcW, hfW⟩ := bcell hW; (go_simp <;> with_reducible rfl))
             simp only [Act.put, List.setIfInBounds_toArray, List.set_cons_zero, List.set_cons_succ]))
        refine ordB_only (opB_call rfl rfl (fun K hK => ?_))
        have boc0 := bo.cell 0
        have bof0 := bo.frozen 0
        have boc1 := bo.cell 1
        have bof1 := bo.frozen 1
        have boc2 := bo.cell 2
        have bof2 := bo.frozen 2
        simp at boc0 boc1 boc2
        go_simp
        refine hK.out _ _ (((hV0_1_2.setCell (p := ⟨V0.heap.size, 0, none⟩) bog _).setCell (p := ⟨V0.heap.size, 1, none⟩) bog _).setCell (p := ⟨V0.heap.size, 2, none⟩) bog _) (fun hV0_1_2_3 => ?_)
        have bo := (((bo.set_ 0 (.slice (some ⟨V0_1.heap.size, 0, none⟩) 1 1)).set_ 1 (.slice none 0 0)).set_ 2 (.slice none 0 0))
        have bsne : V0_1.heap.size ≠ V0.heap.size := by first | exact bs_bo | exact bo_bs.symm
        have bs := (((bs.far (p := ⟨V0.heap.size, 0, none⟩) bsne (.slice (some ⟨V0_1.heap.size, 0, none⟩) 1 1)).far (p := ⟨V0.heap.size, 1, none⟩) bsne (.slice none 0 0)).far (p := ⟨V0.heap.size, 2, none⟩) bsne (.slice none 0 0))
        obtain ⟨V0_1_2_3, qqV0_1_2_3⟩ : ∃ W', (((V0_1_2.setCell ⟨V0.heap.size, 0, none⟩ (.slice (some ⟨V0_1.heap.size, 0, none⟩) 1 1)).setCell ⟨V0.heap.size, 1, none⟩ (.slice none 0 0)).setCell ⟨V0.heap.size, 2, none⟩ (.slice none 0 0)) = W' := ⟨_, rfl⟩
        rw [qqV0_1_2_3] at hV0_1_2_3 bo bs ⊢
        clear qqV0_1_2_3 boc0 bof0 boc1 bof1 boc2 bof2
        refine ordB_nil ?_
        go_wp2_with fail
        go_meet
        exact ⟨_, _, rfl, bo, bs, by first | exact bs_bo | exact bo_bs.symm, bsg, hV0_1_2_3⟩
    case rest =>
      obtain ⟨W5, rfl⟩ : ∃ W, W = wc := ⟨wc, rfl⟩
      obtain ⟨gs, go, rfl, hO, hS, hne, hgs, hb5⟩ := hcut
      have hB5 := HB2.out.below hb5 pl
      clear g0 gl p0 d0 d1 d2 d3 d4 hbb
      have hnw : w.heap.size ≠ gs := by omega
      have hne' := hne.symm
      have hx0 : IntKind.i64.wrap (a0.x0 + 100) = a0.x0 + 100 := IntWalk.i64_in _ (by omega)
      have hx1' : IntKind.i64.wrap (a0.x1 + 100) = a0.x1 + 100 := IntWalk.i64_in _ (by omega)
      have hy0 : IntKind.i64.wrap (a0.y0 + 100) = a0.y0 + 100 := IntWalk.i64_in _ (by omega)
      have hy1' : IntKind.i64.wrap (a0.y1 + 100) = a0.y1 + 100 := IntWalk.i64_in _ (by omega)
      have o0 := hO.cell 0
      have s0 := hS.cell 1
      have s0f := hS.frozen 1
      have ol := hO.lt
      have sl := hS.lt
      simp at o0 s0
      go_upto_region 7 with fail
      obtain ⟨W6, hW6⟩ : ∃ W, W5.setCell ⟨gs, 1, none⟩ (.int .i64 (a0.x0 + 100)) = W := ⟨_, rfl⟩
      have hS := hS.set_ 1 (.int .i64 (a0.x0 + 100))
      have hO := hO.far (p := ⟨gs, 1, none⟩) hne' (.int .i64 (a0.x0 + 100))
      have hB5 := hB5.far (p := ⟨gs, 1, none⟩) hnw (.int .i64 (a0.x0 + 100))
      have hb5 := hb5.setCell (p := ⟨gs, 1, none⟩) hgs (.int .i64 (a0.x0 + 100))
      rw [hW6] at hS hO hB5 hb5 ⊢
      simp only [List.setIfInBounds_toArray, List.set_cons_zero, List.set_cons_succ] at hS
      clear hW6 o0 s0 s0f ol sl
      have o0 := hO.cell 0
      have s0 := hS.cell 3
      have s0f := hS.frozen 3
      have ol := hO.lt
      have sl := hS.lt
      simp at o0 s0
      go_upto_region 8 with fail
      obtain ⟨W7, hW7⟩ : ∃ W, W6.setCell ⟨gs, 3, none⟩ (.int .i64 (a0.x1 + 100)) = W := ⟨_, rfl⟩
      have hS := hS.set_ 3 (.int .i64 (a0.x1 + 100))
      have hO := hO.far (p := ⟨gs, 3, none⟩) hne' (.int .i64 (a0.x1 + 100))
      have hB5 := hB5.far (p := ⟨gs, 3, none⟩) hnw (.int .i64 (a0.x1 + 100))
      have hb5 := hb5.setCell (p := ⟨gs, 3, none⟩) hgs (.int .i64 (a0.x1 + 100))
      rw [hW7] at hS hO hB5 hb5 ⊢
      simp only [List.setIfInBounds_toArray, List.set_cons_zero, List.set_cons_succ] at hS
      clear hW7 o0 s0 s0f ol sl
      have o0 := hO.cell 0
      have s0 := hS.cell 2
      have s0f := hS.frozen 2
      have ol := hO.lt
      have sl := hS.lt
      simp at o0 s0
      go_upto_region 9 with fail
      obtain ⟨W8, hW8⟩ : ∃ W, W7.setCell ⟨gs, 2, none⟩ (.int .i64 (a0.y0 + 100)) = W := ⟨_, rfl⟩
      have hS := hS.set_ 2 (.int .i64 (a0.y0 + 100))
      have hO := hO.far (p := ⟨gs, 2, none⟩) hne' (.int .i64 (a0.y0 + 100))
      have hB5 := hB5.far (p := ⟨gs, 2, none⟩) hnw (.int .i64 (a0.y0 + 100))
      have hb5 := hb5.setCell (p := ⟨gs, 2, none⟩) hgs (.int .i64 (a0.y0 + 100))
      rw [hW8] at hS hO hB5 hb5 ⊢
      simp only [List.setIfInBounds_toArray, List.set_cons_zero, List.set_cons_succ] at hS
      clear hW8 o0 s0 s0f ol sl
      have o0 := hO.cell 0
      have s0 := hS.cell 4
      have s0f := hS.frozen 4
      have ol := hO.lt
      have sl := hS.lt
      simp at o0 s0
      go_upto_region 10 with fail
      obtain ⟨W9, hW9⟩ : ∃ W, W8.setCell ⟨gs, 4, none⟩ (.int .i64 (a0.y1 + 100)) = W := ⟨_, rfl⟩
      have hS := hS.set_ 4 (.int .i64 (a0.y1 + 100))
      have hO := hO.far (p := ⟨gs, 4, none⟩) hne' (.int .i64 (a0.y1 + 100))
      have hB5 := hB5.far (p := ⟨gs, 4, none⟩) hnw (.int .i64 (a0.y1 + 100))
      have hb5 := hb5.setCell (p := ⟨gs, 4, none⟩) hgs (.int .i64 (a0.y1 + 100))
      rw [hW9] at hS hO hB5 hb5 ⊢
      simp only [List.setIfInBounds_toArray, List.set_cons_zero, List.set_cons_succ] at hS
      clear hW9 o0 s0 s0f ol sl
      obtain ⟨a, hae⟩ : ∃ a, mvA 100 100 a0 = a := ⟨_, rfl⟩
      have hS : Blk W9 gs 57 #[.int .u8 a.key, .int .i64 a.x0, .int .i64 a.y0, .int .i64 a.x1, .int .i64 a.y1] := by rw [← hae]; exact hS
      have hS0 := hS.cell 0
      have hS1 := hS.cell 1
      have hS2 := hS.cell 2
      have hS3 := hS.cell 3
      have hS4 := hS.cell 4
      have hO0 := hO.cell 0
      have hOl := hO.lt
      have hSl := hS.lt
      simp at hS0 hS1 hS2 hS3 hS4 hO0
      have hk1 : a.key = a0.key := by rw [← hae]; rfl
      have hk2 : a.x0 = a0.x0 + 100 := by rw [← hae]; rfl
      have hk3 : a.x1 = a0.x1 + 100 := by rw [← hae]; rfl
      have hk4 : a.y0 = a0.y0 + 100 := by rw [← hae]; rfl
      have hk5 : a.y1 = a0.y1 + 100 := by rw [← hae]; rfl
      have hkk : Hid (97 ≤ a.key ∧ a.key ≤ 122) := by show _ ∧ _; rw [hk1]; exact hkey.out
      have ax : 100 ≤ a.x0 ∧ a.x0 ≤ a.x1 ∧ a.x1 ≤ 236 := by omega
      have ay : 100 ≤ a.y0 ∧ a.y0 ≤ a.y1 ∧ a.y1 ≤ 164 := by omega
      clear hk1 hk2 hk3 hk4 hk5 hae hkey hx1 hx2 hx3 hy1 hy2 hy3 hx0 hx1' hy0 hy1'
      go_upto_region 11 with fail
      obtain ⟨W10, hW10⟩ : ∃ W, W9.alloc (.cells #[.int .u8 a.key, .int .i64 a.x0, .int .i64 a.y0, .int .i64 a.x1, .int .i64 a.y1] 57) = W := ⟨_, rfl⟩
      have h8 : Blk W10 W9.heap.size 57 #[.int .u8 a.key, .int .i64 a.x0, .int .i64 a.y0, .int .i64 a.x1, .int .i64 a.y1] := by rw [← hW10]; exact Blk.new _ _ _
      have hb10 : Below W9.heap.size W9 W10 := by rw [← hW10]; exact nw _ (Below.refl _ _)
      rw [hW10]
      clear hW10
      have hO := hO.below hb10 hO.lt
      have hS := hS.below hb10 hS.lt
      have hB5 := hB5.below hb10 hB5.lt
      have hb5 := hb5.trans (hb10.mono hb5.size)
      have HaOK : Hid (ArOK a) := ⟨by unfold Small; omega, by unfold Small; omega, by unfold Small; omega, by unfold Small; omega⟩
      have k0 := h8.cell 0
      have k1 := h8.cell 1
      have k2 := h8.cell 2
      have k3 := h8.cell 3
      have k4 := h8.cell 4
      have kl := h8.lt
      have b1 := hB5.cell 1
      have b2 := hB5.cell 2
      have bl := hB5.lt
      simp at k0 k1 k2 k3 k4 b1 b2
      obtain ⟨g8, hg8⟩ : ∃ g, W9.heap.size = g := ⟨_, rfl⟩
      rw [hg8] at h8 k0 k1 k2 k3 k4 kl ⊢
      have htb : pb.tmod 81 = pb % 81 := Int.tmod_eq_emod_of_nonneg hb.1
      have htc : pc.tmod 81 = pc % 81 := Int.tmod_eq_emod_of_nonneg hc.1
      have hrb : 0 ≤ pb % 81 ∧ pb % 81 ≤ 80 := by omega
      have hrc : 0 ≤ pc % 81 ∧ pc % 81 ≤ 80 := by omega
      obtain ⟨rb, hrbe⟩ : ∃ r, pb % 81 = r := ⟨_, rfl⟩
      obtain ⟨rc, hrce⟩ : ∃ r, pc % 81 = r := ⟨_, rfl⟩
      rw [hrbe] at htb hrb
      rw [hrce] at htc hrc
      obtain ⟨dx, hdx⟩ : ∃ d, rb - 40 = d := ⟨_, rfl⟩
      obtain ⟨dy, hdy⟩ : ∃ d, rc - 40 = d := ⟨_, rfl⟩
      have hwrb : IntKind.i64.wrap rb = rb := IntWalk.i64_in _ (by omega)
      have hwrc : IntKind.i64.wrap rc = rc := IntWalk.i64_in _ (by omega)
      have hdxb : -40 ≤ dx ∧ dx ≤ 40 := by omega
      have hdyb : -40 ≤ dy ∧ dy ≤ 40 := by omega
      have hwdx : IntKind.i64.wrap (rb - 40) = dx := by rw [← hdx]; exact IntWalk.i64_in _ (by omega)
      have hwdy : IntKind.i64.wrap (rc - 40) = dy := by rw [← hdy]; exact IntWalk.i64_in _ (by omega)
      clear hg8 hrbe hrce hdx hdy hS0 hS1 hS2 hS3 hS4 hO0 hOl hSl hb10
      go_cut [9, 10, 11] (fun s9 s10 s11 W => ∃ (gc : Nat), s9 = .int .i64 dx ∧ s10 = .int .i64 dy ∧ s11 = .pointer (some ⟨gc, 0, none⟩) ∧ Blk W gc 36 #[.int .i64 (midOf a).x, .int .i64 (midOf a).y] ∧ Below W10.heap.size W10 W)
      case first =>
        refine ordB_below (.quiet 0 (.quiet 1 (.quiet 2 (.quiet 3 (.quiet 4 (.quiet 5 (.quiet 6 (.quiet 7 (.quiet 8 (.quiet 9 (.quiet 10 (.fork 11 12 (.only 12 (.quiet 13 (.quiet 14 (.only 15 .done)))) (.only 11 (.quiet 13 (.quiet 14 (.only 15 .done)))))))))))))))) (by kernel_rfl) (by kernel_rfl) (by kernel_rfl) (fun _ _ _ _ _ h => h) ?_
        intro V0 hV0
        iterate 11 (first
          | (refine ordB_skip rfl rfl ?_; simp only [Act.put, List.setIfInBounds_toArray, List.set_cons_zero, List.set_cons_succ])
          | (refine ordB_take (v := ?_) rfl rfl ?_ ?_
             rotate_left 1
             focus (intro W hW; obtain ⟨hcW, hfW⟩ := bcell hW; (go_simp <;> with_reducible rfl))
             simp only [Act.put, List.setIfInBounds_toArray, List.set_cons_zero, List.set_cons_succ]))
        refine ordB_fork (opB_call rfl rfl (fun K hK => ?_)) (opB_call rfl rfl (fun K hK => ?_))
        · go_simp
          go_at_call 28
          refine (refmiddle_any a _ HaOK.out).mono ?_
          rintro e V0_1 ⟨rfl, hbm⟩
          refine hK.out _ _ (hV0.trans (hbm.mono hV0.size)) (fun hV0_1 => ?_)
          refine ordB_only (opB_call rfl rfl (fun K hK => ?_))
          go_simp
          refine hK.out _ _ (hV0_1.alloc hV0_1.size _) (fun hV0_1_2 => ?_)
          have bc := Blk.new V0_1 36 #[.int .i64 0, .int .i64 0]
          have bcb := nw (.cells #[.int .i64 0, .int .i64 0] 36) (Below.refl V0_1.heap.size V0_1)
          have bcg := hV0_1.size
          obtain ⟨V0_1_2, qqV0_1_2⟩ : ∃ W', V0_1.alloc (.cells #[.int .i64 0, .int .i64 0] 36) = W' := ⟨_, rfl⟩
          rw [qqV0_1_2] at hV0_1_2 bc bcb ⊢
          clear qqV0_1_2 bcb
          iterate 2 (first
            | (refine ordB_skip rfl rfl ?_; simp only [Act.put, List.setIfInBounds_toArray, List.set_cons_zero, List.set_cons_succ])
            | (refine ordB_take (v := ?_) rfl rfl ?_ ?_
               rotate_left 1
               focus (intro W hW; obtain ⟨hcW, hfW⟩ := bcell hW; (go_simp <;> with_reducible rfl))
               simp only [Act.put, List.setIfInBounds_toArray, List.set_cons_zero, List.set_cons_succ]))
          refine ordB_only (opB_call rfl rfl (fun K hK => ?_))
          have bcc0 := bc.cell 0
          have bcf0 := bc.frozen 0
          have bcc1 := bc.cell 1
          have bcf1 := bc.frozen 1
          simp at bcc0 bcc1
          go_simp
          refine hK.out _ _ ((hV0_1_2.setCell (p := ⟨V0_1.heap.size, 0, none⟩) bcg _).setCell (p := ⟨V0_1.heap.size, 1, none⟩) bcg _) (fun hV0_1_2_3 => ?_)
          have bc := ((bc.set_ 0 (.int .i64 (midOf a).x)).set_ 1 (.int .i64 (midOf a).y))
          obtain ⟨V0_1_2_3, qqV0_1_2_3⟩ : ∃ W', ((V0_1_2.setCell ⟨V0_1.heap.size, 0, none⟩ (.int .i64 (midOf a).x)).setCell ⟨V0_1.heap.size, 1, none⟩ (.int .i64 (midOf a).y)) = W' := ⟨_, rfl⟩
          rw [qqV0_1_2_3] at hV0_1_2_3 bc  ⊢
          clear qqV0_1_2_3 bcc0 bcf0 bcc1 bcf1
          refine ordB_nil ?_
          go_wp2_with fail
          go_meet
          exact ⟨_, rfl, rfl, rfl, bc, hV0_1_2_3⟩
        · go_simp
          refine hK.out _ _ (hV0.alloc hV0.size _) (fun hV0_1 => ?_)
          have bc := Blk.new V0 36 #[.int .i64 0, .int .i64 0]
          have bcb := nw (.cells #[.int .i64 0, .int .i64 0] 36) (Below.refl V0.heap.size V0)
          have bcg := hV0.size
          obtain ⟨V0_1, qqV0_1⟩ : ∃ W', V0.alloc (.cells #[.int .i64 0, .int .i64 0] 36) = W' := ⟨_, rfl⟩
          rw [qqV0_1] at hV0_1 bc bcb ⊢
          clear qqV0_1 bcb
          refine ordB_only (opB_call rfl rfl (fun K hK => ?_))
          go_simp
          go_at_call 28
          refine (refmiddle_any a _ HaOK.out).mono ?_
          rintro e V0_1_2 ⟨rfl, hbm⟩
          refine hK.out _ _ (hV0_1.trans (hbm.mono hV0_1.size)) (fun hV0_1_2 => ?_)
          have bc := bc.below hbm bc.lt
          iterate 2 (first
            | (refine ordB_skip rfl rfl ?_; simp only [Act.put, List.setIfInBounds_toArray, List.set_cons_zero, List.set_cons_succ])
            | (refine ordB_take (v := ?_) rfl rfl ?_ ?_
               rotate_left 1
               focus (intro W hW; obtain ⟨hcW, hfW⟩ := bcell hW; (go_simp <;> with_reducible rfl))
               simp only [Act.put, List.setIfInBounds_toArray, List.set_cons_zero, List.set_cons_succ]))
          refine ordB_only (opB_call rfl rfl (fun K hK => ?_))
          have bcc0 := bc.cell 0
          have bcf0 := bc.frozen 0
          have bcc1 := bc.cell 1
          have bcf1 := bc.frozen 1
          simp at bcc0 bcc1
          go_simp
          refine hK.out _ _ ((hV0_1_2.setCell (p := ⟨V0.heap.size, 0, none⟩) bcg _).setCell (p := ⟨V0.heap.size, 1, none⟩) bcg _) (fun hV0_1_2_3 => ?_)
          have bc := ((bc.set_ 0 (.int .i64 (midOf a).x)).set_ 1 (.int .i64 (midOf a).y))
          obtain ⟨V0_1_2_3, qqV0_1_2_3⟩ : ∃ W', ((V0_1_2.setCell ⟨V0.heap.size, 0, none⟩ (.int .i64 (midOf a).x)).setCell ⟨V0.heap.size, 1, none⟩ (.int .i64 (midOf a).y)) = W' := ⟨_, rfl⟩
          rw [qqV0_1_2_3] at hV0_1_2_3 bc  ⊢
          clear qqV0_1_2_3 bcc0 bcf0 bcc1 bcf1
          refine ordB_nil ?_
          go_wp2_with fail
          go_meet
          exact ⟨_, rfl, rfl, rfl, bc, hV0_1_2_3⟩
      case rest =>
        obtain ⟨W11, rfl⟩ : ∃ W, W = wc := ⟨wc, rfl⟩
        obtain ⟨gc, rfl, rfl, rfl, hC, hb11⟩ := hcut
        have hO := hO.below hb11 hO.lt
        have hS := hS.below hb11 hS.lt
        have hB5 := hB5.below hb11 hB5.lt
        have h8 := h8.below hb11 h8.lt
        have hb5 := hb5.trans (hb11.mono hb5.size)
        clear k0 k1 k2 k3 k4 kl b1 b2 bl htb htc hrb hrc hwrb hwrc hwdx hwdy hb11
        go_upto_region 13 with fail
        obtain ⟨W12, hW12⟩ : ∃ W, W11.alloc (.cells #[] 82) = W := ⟨_, rfl⟩
        have hb12 : Below W11.heap.size W11 W12 := by rw [← hW12]; exact nw _ (Below.refl _ _)
        rw [hW12]
        clear hW12
        have hO := hO.below hb12 hO.lt
        have hS := hS.below hb12 hS.lt
        have hB5 := hB5.below hb12 hB5.lt
        have h8 := h8.below hb12 h8.lt
        have hC := hC.below hb12 hC.lt
        have hb5 := hb5.trans (hb12.mono hb5.size)
        have HBw := Lib.hid (hbw2.trans (hb5.mono hbw2.size))
        have hSl : SlR 5 RAr W12 (some ⟨gs, 0, none⟩) [a] := slr_blk (enc := encA) hS (fun _ => rfl) (fun _ => rfl)
        have HKeep : Hid (∀ W, Below W12.heap.size W12 W → W.cell? ⟨go, 0, none⟩ = some (.slice (some ⟨gs, 0, none⟩) 1 1) ∧ W.cell? ⟨go, 1, none⟩ = some (.slice none 0 0) ∧ W.cell? ⟨go, 2, none⟩ = some (.slice none 0 0) ∧ W.cell? ⟨g8, 0, none⟩ = some (.int .u8 a.key) ∧ W.cell? ⟨g8, 1, none⟩ = some (.int .i64 a.x0) ∧ W.cell? ⟨g8, 2, none⟩ = some (.int .i64 a.y0) ∧ W.cell? ⟨g8, 3, none⟩ = some (.int .i64 a.x1) ∧ W.cell? ⟨g8, 4, none⟩ = some (.int .i64 a.y1) ∧ W.cell? ⟨gc, 0, none⟩ = some (.int .i64 (midOf a).x) ∧ W.cell? ⟨gc, 1, none⟩ = some (.int .i64 (midOf a).y) ∧ W.cell? ⟨w.heap.size, 0, none⟩ = some (.int .u8 pa) ∧ W.cell? ⟨w.heap.size, 1, none⟩ = some (.int .u8 pb) ∧ W.cell? ⟨w.heap.size, 2, none⟩ = some (.int .u8 pc) ∧ W.cell? ⟨w.heap.size, 3, none⟩ = some (.int .u8 pd) ∧ W.cell? ⟨w.heap.size, 4, none⟩ = some (.int .u8 pe) ∧ W.cell? ⟨w.heap.size, 5, none⟩ = some (.int .u8 pf) ∧ go < W.heap.size ∧ g8 < W.heap.size ∧ gc < W.heap.size ∧ w.heap.size < W.heap.size) := fun W hW =>
          ⟨(hO.below hW hO.lt).cell 0, (hO.below hW hO.lt).cell 1, (hO.below hW hO.lt).cell 2, (h8.below hW h8.lt).cell 0, (h8.below hW h8.lt).cell 1, (h8.below hW h8.lt).cell 2, (h8.below hW h8.lt).cell 3, (h8.below hW h8.lt).cell 4, (hC.below hW hC.lt).cell 0, (hC.below hW hC.lt).cell 1, (hB5.below hW hB5.lt).cell 0, (hB5.below hW hB5.lt).cell 1, (hB5.below hW hB5.lt).cell 2, (hB5.below hW hB5.lt).cell 3, (hB5.below hW hB5.lt).cell 4, (hB5.below hW hB5.lt).cell 5, (hO.below hW hO.lt).lt, (h8.below hW h8.lt).lt, (hC.below hW hC.lt).lt, (hB5.below hW hB5.lt).lt⟩
        have hmid : 100 ≤ (midOf a).x ∧ (midOf a).x ≤ 236 ∧ 100 ≤ (midOf a).y ∧ (midOf a).y ≤ 164 := by
          unfold midOf
          rw [Int.tdiv_eq_ediv_of_nonneg (by omega), Int.tdiv_eq_ediv_of_nonneg (by omega)]
          dsimp only
          omega
        have hinm : insideB ⟨(midOf a).x + dx, (midOf a).y + dy⟩ = true := by unfold insideB coordB; simp; omega
        have HStep : Hid (∀ k, adaptOf [a] (tsI a.key dx dy k) a.key ⟨(midOf a).x + dx, (midOf a).y + dy⟩ = (tsI a.key dx dy (k + 1), 0)) := fun k => adapt_step a dx dy k hinm
        have HTs : Hid (∀ k, (∀ t ∈ tsI a.key dx dy k, TapOK t) ∧ (∀ t ∈ tsI a.key dx dy k, TpOK t) ∧ (∀ t ∈ tsI a.key dx dy k, Small t.n) ∧ IncT (tsI a.key dx dy k)) := fun k => tsI_ok hkk.out hdxb hdyb k
        have HAd : Hid (∀ k W B d, Below W12.heap.size W12 W → SlR 4 RTp W B (tsI a.key dx dy k) → Calls Try.prog 17 #[.agg #[.slice (some ⟨gs, 0, none⟩) 1 1, .slice none 0 0, .slice none 0 0], .slice B (tsI a.key dx dy k).length d, .int .u8 a.key, vPt ⟨(midOf a).x + dx, (midOf a).y + dy⟩] W fun e w' => ∃ A c, e = .returned (.tuple #[.slice A 1 c, .int .i64 0]) ∧ SlR 4 RTp w' A (tsI a.key dx dy (k + 1)) ∧ Below W.heap.size W w') := fun k W B d hW hs => by
          refine (adapt_any [a] (some ⟨gs, 0, none⟩) 1 (.slice none 0 0) (.slice none 0 0) (tsI a.key dx dy k) B d a.key ⟨(midOf a).x + dx, (midOf a).y + dy⟩ W (hSl.below keeps_ar hW) (by simp) (fun u hu => by obtain rfl := List.mem_singleton.1 hu; exact HaOK.out) hs (by have := tsI_len a.key dx dy k; omega) (HTs.out k).2.1 (HTs.out k).2.2.1 (HTs.out k).2.2.2).mono ?_
          rintro e w' ⟨v, he, hown, hb⟩
          rw [HStep.out k] at he hown
          obtain ⟨A5, c5, rfl, _, _, hs⟩ := own_slr (R := RTp) hown (fun _ => rfl) (fun _ => rfl) rfl
          exact ⟨A5, c5, he, hs, hb⟩
        have HVt : Hid (∀ k W A c, SlR 4 RTp W A (tsI a.key dx dy (k + 1)) → Calls Try.prog 29 #[.slice A 1 c] W fun e w' => e = .returned (.bool true) ∧ Below W.heap.size W w') := fun k W A c h => validTaps_any A (tsI a.key dx dy (k + 1)) c W h (by have := tsI_len a.key dx dy (k + 1); omega) (HTs.out (k + 1)).1 (HTs.out (k + 1)).2.2.2
        have HTo : Hid (∀ k X Y W B d, 4 ≤ k → insideB ⟨X, Y⟩ = true → (a.x0 ≤ X - dx ∧ X - dx ≤ a.x1) → (a.y0 ≤ Y - dy ∧ Y - dy ≤ a.y1) → Below W12.heap.size W12 W → SlR 4 RTp W B (tsI a.key dx dy k) → Calls Try.prog 15 #[.agg #[.slice (some ⟨gs, 0, none⟩) 1 1, .slice none 0 0, .slice none 0 0], .slice B (tsI a.key dx dy k).length d, vPt ⟨X, Y⟩] W fun e w' => ∃ A c, e = .returned (.tuple #[.slice A 1 c, .int .i64 0]) ∧ SlR 2 RCho w' A [⟨a.key, 0⟩] ∧ Below W.heap.size W w') := fun k X Y W B d hk hin hx hy hW hs => by
          have := touch_any [a] (some ⟨gs, 0, none⟩) 1 (.slice none 0 0) (.slice none 0 0) (tsI a.key dx dy k) B d ⟨X, Y⟩ W (hSl.below keeps_ar hW) (by simp) (fun u hu => by obtain rfl := List.mem_singleton.1 hu; exact HaOK.out) (List.pairwise_singleton _ _) hs (by have := tsI_len a.key dx dy k; omega) (HTs.out k).2.1
          rw [adapted_touch hk hin hx hy] at this
          exact this
        have HCo : Hid (∀ W A c, SlR 2 RCho W A [⟨a.key, 0⟩] → Calls Try.prog 27 #[.slice A 1 c, .int .u8 a.key] W fun e w' => e = .returned (.int .i64 0) ∧ W = w') := fun W A c h => by
          have := cost_any A [⟨a.key, 0⟩] c a.key W h (by simp)
          rw [show costS [⟨a.key, 0⟩] a.key = 0 by simp [costS]] at this
          exact this
        have HSh : Hid (∀ k W A c, 4 ≤ k → SlR 4 RTp W A (tsI a.key dx dy k) → Calls Try.prog 21 #[.slice A (tsI a.key dx dy k).length c, .int .u8 a.key] W fun e w' => e = .returned (vPt ⟨dx, dy⟩) ∧ Below W.heap.size W w') := fun k W A c hk h => by
          have := shift_any A (tsI a.key dx dy k) c a.key W h (by have := tsI_len a.key dx dy k; omega) (HTs.out k).2.1
          rw [tsI_shift _ _ _ hk] at this
          exact this
        clear hO hS hB5 h8 hC hb5 hSl hinm hne hne' hnw hgs hb12
        have htd : pd.tmod 77 = pd % 77 := Int.tmod_eq_emod_of_nonneg hd.1
        have hrd : 0 ≤ pd % 77 ∧ pd % 77 ≤ 76 := by omega
        obtain ⟨rd, hrde⟩ : ∃ r, pd % 77 = r := ⟨_, rfl⟩
        rw [hrde] at htd hrd
        have hwrd : IntKind.i64.wrap rd = rd := IntWalk.i64_in _ (by omega)
        obtain ⟨lim, hlim⟩ : ∃ lim : Nat, 4 + rd = (lim : Int) := ⟨(4 + rd).toNat, by omega⟩
        have hwlim : IntKind.i64.wrap (4 + rd) = (lim : Int) := by rw [hlim]; exact IntWalk.i64_in _ (by omega)
        have h4 : 4 ≤ lim := by omega
        have hlimb : lim ≤ 80 := by omega
        clear hrde hlim hrd
        have hwmx : IntKind.i64.wrap ((midOf a).x + dx) = (midOf a).x + dx := IntWalk.i64_in _ (by omega)
        have hwmy : IntKind.i64.wrap ((midOf a).y + dy) = (midOf a).y + dy := IntWalk.i64_in _ (by omega)
        go_wp2_with fail
        go_loopw [12, 13] (fun tp i wr => ∃ (k : Nat) (B : Option Addr) (d : Nat), k ≤ lim ∧ i = .int .i64 k ∧ tp = .slice B (tsI a.key dx dy k).length d ∧ SlR 4 RTp wr B (tsI a.key dx dy k) ∧ Below W12.heap.size W12 wr) (fun _ i _ => lim - (intOf i).toNat)
        case atStart => exact ⟨0, _, _, by omega, rfl, rfl, SlR.nil, Below.refl _ _⟩
        case round =>
          obtain ⟨k, B, d, hk, rfl, rfl, hsr, hbr⟩ := hrel
          obtain ⟨r0, r1, r2, r3, r4, r5, r6, r7, r8, r9, r10, r11, r12, r13, r14, r15, r16, r17, r18, r19⟩ := HKeep.out _ hbr
          by_cases hlt : k < lim
          · go_wp2_with fail
            refine ordB_below (.quiet 0 (.quiet 1 (.quiet 2 (.quiet 3 (.quiet 4 (.quiet 5 (.quiet 6 (.quiet 7 (.quiet 8 (.quiet 9 (.quiet 10 (.quiet 11 (.only 12 (.only 13 (.quiet 14 (.quiet 15 (.quiet 16 (.quiet 17 (.quiet 18 .done))))))))))))))))))) (by kernel_rfl) (by kernel_rfl) (by kernel_rfl) (fun _ _ _ _ _ h => h) ?_
            intro V0 hV0
            iterate 12 (first
              | (refine ordB_skip rfl rfl ?_; simp only [Act.put, List.setIfInBounds_toArray, List.set_cons_zero, List.set_cons_succ])
              | (refine ordB_take (v := ?_) rfl rfl ?_ ?_
                 rotate_left 1
                 focus (intro W hW; obtain ⟨hcW, hfW⟩ := bcell hW; (go_simp <;> with_reducible rfl))
                 simp only [Act.put, List.setIfInBounds_toArray, List.set_cons_zero, List.set_cons_succ]))
            refine ordB_only (opB_call rfl rfl (fun K hK => ?_))
            go_simp
            go_at_call 14
            refine (point_any _ _ _).mono ?_
            rintro e V0_1 ⟨rfl, hbp⟩
            refine hK.out _ _ (hV0.trans (hbp.mono hV0.size)) (fun hV0_1 => ?_)
            refine ordB_only (opB_call rfl rfl (fun K hK => ?_))
            go_simp
            go_at_call 17
            refine (HAd.out _ _ _ _ (bthen hbr hV0_1) (hsr.below keeps_tp hV0_1)).mono ?_
            rintro e V0_1_2 ⟨A7, c7, rfl, hs7, hb7⟩
            refine hK.out _ _ (hV0_1.trans (hb7.mono hV0_1.size)) (fun hV0_1_2 => ?_)
            iterate 5 (first
              | (refine ordB_skip rfl rfl ?_; simp only [Act.put, List.setIfInBounds_toArray, List.set_cons_zero, List.set_cons_succ])
              | (refine ordB_take (v := ?_) rfl rfl ?_ ?_
                 rotate_left 1
                 focus (intro W hW; obtain ⟨hcW, hfW⟩ := bcell hW; (go_simp <;> with_reducible rfl))
                 simp only [Act.put, List.setIfInBounds_toArray, List.set_cons_zero, List.set_cons_succ]))
            refine ordB_nil ?_
            have hbr16 := bthen hbr hV0_1_2
            have HR1 := Lib.hid (hs7.below keeps_tp (Below.refl _ _))
            generalize V0_1_2 = Wd at *
            go_wp2_with (first | (go_at_call 29; go_loud (refine (HVt.out _ _ _ _ HR1.out).mono ?_; rintro e w8 ⟨rfl, hb8⟩)))
            go_roundw
            case rel => exact ⟨k + 1, A7, c7, by omega, by go_num, rfl, HR1.out.below keeps_tp hb8, bthen hbr16 hb8⟩
            case measure => simp [intOf]; omega
          · obtain rfl : k = lim := by omega
            clear hk hlt
            go_upto_region 20 with fail
            have hdx1 : 0 < a.x1 - a.x0 + 1 := by omega
            have hdy1 : 0 < a.y1 - a.y0 + 1 := by omega
            have hnx : ¬ a.x1 - a.x0 + 1 = 0 := by omega
            have hny : ¬ a.y1 - a.y0 + 1 = 0 := by omega
            have htx : pe.tmod (a.x1 - a.x0 + 1) = pe % (a.x1 - a.x0 + 1) := Int.tmod_eq_emod_of_nonneg he.1
            have hty : pf.tmod (a.y1 - a.y0 + 1) = pf % (a.y1 - a.y0 + 1) := Int.tmod_eq_emod_of_nonneg hf.1
            have hmx := Int.emod_nonneg pe (show a.x1 - a.x0 + 1 ≠ 0 by omega)
            have hmx2 := Int.emod_lt_of_pos pe hdx1
            have hmy := Int.emod_nonneg pf (show a.y1 - a.y0 + 1 ≠ 0 by omega)
            have hmy2 := Int.emod_lt_of_pos pf hdy1
            obtain ⟨mx, hmxe⟩ : ∃ m, pe % (a.x1 - a.x0 + 1) = m := ⟨_, rfl⟩
            obtain ⟨my, hmye⟩ : ∃ m, pf % (a.y1 - a.y0 + 1) = m := ⟨_, rfl⟩
            rw [hmxe] at htx hmx hmx2
            rw [hmye] at hty hmy hmy2
            have hv1 : IntKind.i64.wrap (a.x1 - a.x0) = a.x1 - a.x0 := IntWalk.i64_in _ (by omega)
            have hv2 : IntKind.i64.wrap (a.x1 - a.x0 + 1) = a.x1 - a.x0 + 1 := IntWalk.i64_in _ (by omega)
            have hv3 : IntKind.i64.wrap mx = mx := IntWalk.i64_in _ (by omega)
            have hv4 : IntKind.i64.wrap (a.x0 + mx) = a.x0 + mx := IntWalk.i64_in _ (by omega)
            have hv5 : IntKind.i64.wrap (a.y1 - a.y0) = a.y1 - a.y0 := IntWalk.i64_in _ (by omega)
            have hv6 : IntKind.i64.wrap (a.y1 - a.y0 + 1) = a.y1 - a.y0 + 1 := IntWalk.i64_in _ (by omega)
            have hv7 : IntKind.i64.wrap my = my := IntWalk.i64_in _ (by omega)
            have hv8 : IntKind.i64.wrap (a.y0 + my) = a.y0 + my := IntWalk.i64_in _ (by omega)
            obtain ⟨X, hX⟩ : ∃ X, a.x0 + mx + dx = X := ⟨_, rfl⟩
            obtain ⟨Y, hY⟩ : ∃ Y, a.y0 + my + dy = Y := ⟨_, rfl⟩
            have hv4' : IntKind.i64.wrap (a.x0 + mx + dx) = X := by rw [hX]; exact IntWalk.i64_in _ (by omega)
            have hv8' : IntKind.i64.wrap (a.y0 + my + dy) = Y := by rw [hY]; exact IntWalk.i64_in _ (by omega)
            have hXX : a.x0 ≤ X - dx ∧ X - dx ≤ a.x1 := by omega
            have hYY : a.y0 ≤ Y - dy ∧ Y - dy ≤ a.y1 := by omega
            have hin : insideB ⟨X, Y⟩ = true := by unfold insideB coordB; simp; omega
            have HTo := Lib.hid (fun W B d => HTo.out k X Y W B d h4 hin hXX hYY)
            have HSh := Lib.hid (fun W A c => HSh.out k W A c h4)
            clear hin hXX hYY hX hY hmx hmx2 hmy hmy2 hmxe hmye hdx1 hdy1
            go_cut [16] (fun s16 W => ∃ (gp : Nat), s16 = .pointer (some ⟨gp, 0, none⟩) ∧ Blk W gp 36 #[.int .i64 X, .int .i64 Y] ∧ Below wr.heap.size wr W)
            case first =>
              refine ordB_below (.quiet 0 (.quiet 1 (.quiet 2 (.quiet 3 (.quiet 4 (.quiet 5 (.quiet 6 (.quiet 7 (.quiet 8 (.quiet 9 (.quiet 10 (.quiet 11 (.quiet 12 (.quiet 13 (.quiet 14 (.quiet 15 (.quiet 16 (.quiet 17 (.quiet 18 (.quiet 19 (.quiet 20 (.quiet 21 (.quiet 22 (.quiet 23 (.quiet 24 (.quiet 25 (.quiet 26 (.quiet 27 (.quiet 28 (.quiet 29 (.fork 30 31 (.only 31 (.only 32 .done)) (.only 30 (.only 32 .done))))))))))))))))))))))))))))))))) (by kernel_rfl) (by kernel_rfl) (by kernel_rfl) (fun _ _ _ _ _ h => h) ?_
              intro V0 hV0
              iterate 30 (first
                | (refine ordB_skip rfl rfl ?_; simp only [Act.put, List.setIfInBounds_toArray, List.set_cons_zero, List.set_cons_succ])
                | (refine ordB_take (v := ?_) rfl rfl ?_ ?_
                   rotate_left 1
                   focus (intro W hW; obtain ⟨hcW, hfW⟩ := bcell hW; (go_simp <;> with_reducible rfl))
                   simp only [Act.put, List.setIfInBounds_toArray, List.set_cons_zero, List.set_cons_succ]))
              refine ordB_fork (opB_call rfl rfl (fun K hK => ?_)) (opB_call rfl rfl (fun K hK => ?_))
              · go_simp
                go_at_call 14
                refine (point_any _ _ _).mono ?_
                rintro e V0_1 ⟨rfl, hbp⟩
                refine hK.out _ _ (hV0.trans (hbp.mono hV0.size)) (fun hV0_1 => ?_)
                refine ordB_only (opB_call rfl rfl (fun K hK => ?_))
                go_simp
                refine hK.out _ _ (hV0_1.alloc hV0_1.size _) (fun hV0_1_2 => ?_)
                have bp := Blk.new V0_1 36 #[.int .i64 0, .int .i64 0]
                have bpb := nw (.cells #[.int .i64 0, .int .i64 0] 36) (Below.refl V0_1.heap.size V0_1)
                have bpg := hV0_1.size
                obtain ⟨V0_1_2, qqV0_1_2⟩ : ∃ W', V0_1.alloc (.cells #[.int .i64 0, .int .i64 0] 36) = W' := ⟨_, rfl⟩
                rw [qqV0_1_2] at hV0_1_2 bp bpb ⊢
                clear qqV0_1_2 bpb
                refine ordB_only (opB_call rfl rfl (fun K hK => ?_))
                have bpc0 := bp.cell 0
                have bpf0 := bp.frozen 0
                have bpc1 := bp.cell 1
                have bpf1 := bp.frozen 1
                simp at bpc0 bpc1
                go_simp
                refine hK.out _ _ ((hV0_1_2.setCell (p := ⟨V0_1.heap.size, 0, none⟩) bpg _).setCell (p := ⟨V0_1.heap.size, 1, none⟩) bpg _) (fun hV0_1_2_3 => ?_)
                have bp := ((bp.set_ 0 (.int .i64 X)).set_ 1 (.int .i64 Y))
                obtain ⟨V0_1_2_3, qqV0_1_2_3⟩ : ∃ W', ((V0_1_2.setCell ⟨V0_1.heap.size, 0, none⟩ (.int .i64 X)).setCell ⟨V0_1.heap.size, 1, none⟩ (.int .i64 Y)) = W' := ⟨_, rfl⟩
                rw [qqV0_1_2_3] at hV0_1_2_3 bp  ⊢
                clear qqV0_1_2_3 bpc0 bpf0 bpc1 bpf1
                refine ordB_nil ?_
                go_wp2_with fail
                go_meet
                exact ⟨_, rfl, bp, hV0_1_2_3⟩
              · go_simp
                refine hK.out _ _ (hV0.alloc hV0.size _) (fun hV0_1 => ?_)
                have bp := Blk.new V0 36 #[.int .i64 0, .int .i64 0]
                have bpb := nw (.cells #[.int .i64 0, .int .i64 0] 36) (Below.refl V0.heap.size V0)
                have bpg := hV0.size
                obtain ⟨V0_1, qqV0_1⟩ : ∃ W', V0.alloc (.cells #[.int .i64 0, .int .i64 0] 36) = W' := ⟨_, rfl⟩
                rw [qqV0_1] at hV0_1 bp bpb ⊢
                clear qqV0_1 bpb
                refine ordB_only (opB_call rfl rfl (fun K hK => ?_))
                go_simp
                go_at_call 14
                refine (point_any _ _ _).mono ?_
                rintro e V0_1_2 ⟨rfl, hbp⟩
                refine hK.out _ _ (hV0_1.trans (hbp.mono hV0_1.size)) (fun hV0_1_2 => ?_)
                have bp := bp.below hbp bp.lt
                refine ordB_only (opB_call rfl rfl (fun K hK => ?_))
                have bpc0 := bp.cell 0
                have bpf0 := bp.frozen 0
                have bpc1 := bp.cell 1
                have bpf1 := bp.frozen 1
                simp at bpc0 bpc1
                go_simp
                refine hK.out _ _ ((hV0_1_2.setCell (p := ⟨V0.heap.size, 0, none⟩) bpg _).setCell (p := ⟨V0.heap.size, 1, none⟩) bpg _) (fun hV0_1_2_3 => ?_)
                have bp := ((bp.set_ 0 (.int .i64 X)).set_ 1 (.int .i64 Y))
                obtain ⟨V0_1_2_3, qqV0_1_2_3⟩ : ∃ W', ((V0_1_2.setCell ⟨V0.heap.size, 0, none⟩ (.int .i64 X)).setCell ⟨V0.heap.size, 1, none⟩ (.int .i64 Y)) = W' := ⟨_, rfl⟩
                rw [qqV0_1_2_3] at hV0_1_2_3 bp  ⊢
                clear qqV0_1_2_3 bpc0 bpf0 bpc1 bpf1
                refine ordB_nil ?_
                go_wp2_with fail
                go_meet
                exact ⟨_, rfl, bp, hV0_1_2_3⟩
            case rest =>
              obtain ⟨W20, rfl⟩ : ∃ W, W = wc := ⟨wc, rfl⟩
              obtain ⟨gp, rfl, hP, hb20⟩ := hcut
              have hbr20 := bthen hbr hb20
              have hsr20 := hsr.below keeps_tp hb20
              have x0 := hP.cell 0
              have x1 := hP.cell 1
              simp at x0 x1
              clear r0 r1 r2 r3 r4 r5 r6 r7 r8 r9 r10 r11 r12 r13 r14 r15 r16 r17 r18 r19 hv1 hv2 hv3 hv4 hv4' hv5 hv6 hv7 hv8 hv8' htx hty hnx hny hwlim hwrd htd hwmx hwmy hP
              obtain ⟨y0, y1, y2, y3, y4, y5, y6, y7, y8, y9, y10, y11, y12, y13, y14, y15, y16, y17, y18, y19⟩ := HKeep.out _ hbr20
              go_wp2_with (first
                | (go_at_call 15; go_loud (refine (HTo.out _ _ _ hbr20 hsr20).mono ?_; rintro e w21 ⟨A21, c21, rfl, hs21, hb21⟩; have hbr21 := bthen hbr20 hb21; have hsr21 := hsr20.below keeps_tp hb21; obtain ⟨z0, z1, z2, z3, z4, z5, z6, z7, z8, z9, z10, z11, z12, z13, z14, z15, z16, z17, z18, z19⟩ := HKeep.out _ hbr21))
                | (go_at_call 27; go_loud (refine (HCo.out _ _ _ hs21).mono ?_; rintro e w22 ⟨rfl, rfl⟩))
                | (go_at_call 21; go_loud (refine (HSh.out _ _ _ hsr21).mono ?_; rintro e w23 ⟨rfl, hb23⟩; have hbr23 := bthen hbr21 hb23))
                | (go_at_call 14; go_loud (refine (point_any _ _ _).mono ?_; rintro e w24 ⟨rfl, hb24⟩; have hbr24 := bthen hbr23 hb24)))
              go_ret
              exact ⟨rfl, bthen HBw.out hbr24⟩
end Go.Proofs.Ytpjecpefbfobdaa
