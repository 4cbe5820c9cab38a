/-
  BsWalkF, BsSpl, joined. No conditions.
-/
import Derived.Test.YtfjkmgjjifhdkaaGreatR15
import Derived.Test.YtfjkmgjjifhdkaaGreatR09
/-
  The walks of layer 15: a group put into the heap.
-/
namespace Go.Proofs.YtfjkmgjjifhdkaaGreat
open Go Go.RowKit

theorem grp_inf : (Tryz.prog.info? 100).map (fun i => (i.zero, i.size, i.bytes)) = some (some (.agg #[.slice none 0 0, .int .i64 0, .int .i64 0, .int .i64 0]), 4, 48) := by kernel_rfl
set_option maxRecDepth 100000 in
set_option maxHeartbeats 8000000 in
theorem push_any (bh B : Nat) (vH : Value) (H : List MG) (m : MG) (w : World) (hB : B ≤ w.heap.size) (hbh : bh < B) (hw : HeapW bh B w vH H) (hm : GMOK w m) (hlen : H.length ≤ 900000) :
    Calls Tryz.prog 75 #[.pointer (some ⟨bh, 0, none⟩), aggMg m] w fun e w' => e = .returned (.tuple #[]) ∧ (∃ v', HeapW bh B w' v' (pushM ltG H m) ∧ HKp bh w vH w' v') ∧ HFr bh B w w' := by
  obtain ⟨i0, hi, hz0, hz1, hz2⟩ := info_parts grp_inf
  obtain ⟨R, hRR⟩ : ∃ R, pushM ltG H m = R := ⟨_, rfl⟩
  rw [hRR]
  have HRR := Lib.hid hRR
  clear hRR
  obtain ⟨w1, hw1⟩ : ∃ w1, w.alloc (.cells #[(Value.slice m.A m.G.head.length m.G.head.length), .int .i64 (m.G.rank : Int), .int .i64 m.G.link, .int .i64 m.G.cost] 100) = w1 := ⟨_, rfl⟩
  have hb1 : Below w.heap.size w w1 := by rw [← hw1]; exact nw _ (Below.refl _ _)
  have hM1 : Blk w1 w.heap.size 100 #[(Value.slice m.A m.G.head.length m.G.head.length), .int .i64 (m.G.rank : Int), .int .i64 m.G.link, .int .i64 m.G.cost] := by rw [← hw1]; exact Blk.new _ _ _
  have HW1 := Lib.hid hw1
  have HH1 := Lib.hid (hw.below hb1)
  have HB1 := Lib.hid hb1
  have HM1 := Lib.hid (hm.below hb1)
  have HO1 := Lib.hid HH1.out.own
  have hH1 := HH1.out.h
  have HF1 := Lib.hid (HFr.of_below (bh := bh) hB hb1)
  have hvb : vH.ownBlock ≠ some w.heap.size := own_lt hw.own (Nat.le_refl _)
  have hvh : vH.ownBlock ≠ some bh := own_blk_ne HO1.out hH1 (by decide)
  have hB1 : B ≤ w1.heap.size := Nat.le_trans hB hb1.size
  have m0 := hM1.cell 0
  have m1 := hM1.cell 1
  have m2 := hM1.cell 2
  have m3 := hM1.cell 3
  have ml := hM1.lt
  have h1 := hH1.cell 1
  have hl := hH1.lt
  simp at m0 m1 m2 m3 h1
  clear hw1 hw hm hb1
  unfold aggMg
  go_enter Tryz.func75, Tryz.ntmps75
  go_upto_region 1 with fail
  rw [HW1.out]
  obtain ⟨bm, hbm⟩ : ∃ b, w.heap.size = b := ⟨_, rfl⟩
  rw [hbm] at hvb m0 m1 m2 m3 ml ⊢
  clear hM1
  refine ordV_start (ButOwn (vH) w1) (fun _ => True) [10] [(0, some false), (1, some false), (2, some false), (3, some false), (4, some false), (5, some false), (6, some true), (7, some true), (8, none), (9, none), (10, some true)] (by kernel_rfl) (by kernel_rfl) (by kernel_rfl) (fun _ _ _ _ _ h => h) trivial ?_
  have HD : RowKit.Below w1.heap.size w1 w1.drew := (Below.refl _ _).drew
  obtain ⟨Wd, hWd⟩ : ∃ Wd, w1.drew = Wd := ⟨_, rfl⟩
  rw [hWd] at HD ⊢
  clear hWd
  have HS0 := ButOwn.of_below (v := vH) HD
  iterate 6 (refine ordV_takeS (v := ?_) rfl rfl HS0 ?_ ?_; rotate_left 1; (focus (intro W hW; have hcW := hW.cell; (go_simp <;> (try with_reducible rfl)))); simp only [Act.put, List.setIfInBounds_toArray, List.set_cons_zero, List.set_cons_succ])
  refine ordV_call rfl rfl (fun K hK => ?_)
  go_simp
  have HD2 := HD.alloc HD.size (.cells #[(Value.slice m.A m.G.head.length m.G.head.length), .int .i64 (m.G.rank : Int), .int .i64 m.G.link, .int .i64 m.G.cost] 100)
  have HS1 := ButOwn.of_below (v := vH) HD2
  refine hK.out _ _ trivial (fun _ _ => HS1) ?_
  clear hK K
  try simp only [Act.put, List.setIfInBounds_toArray, List.set_cons_zero, List.set_cons_succ]
  refine ordV_call rfl rfl (fun K hK => ?_)
  refine wp_appS (enc := encMg) (R := RMg) _ _ 96 rfl (B) 100 i0 _ 4 48 Tryz.underlying96 hi hz0 hz1 hz2 rfl (by decide) (vH) _ _ rfl ((own_below HO1.out HD).alloc _) (some ⟨Wd.heap.size, 0, none⟩) 1 [m] rfl (slr_blk (enc := encMg) (Blk.new_ rfl) (fun _ => rfl) (fun _ => rfl)) (fun _ _ _ h => h) (fun _ => rfl) (fun u hu => by simp [encMg] at hu; rcases hu with rfl | rfl | rfl | rfl <;> rfl) (by simp; omega) (by decide) (by have := HD2.size; omega) ?_
  intro v4 w4 hown4 hb4 ha4
  have HS2 := HS1.apps hb4.size ha4
  refine hK.out _ _ trivial (fun _ _ => HS2) ?_
  clear hK K
  have hO5 : w4.ownsRow B 100 4 v4 (H ++ [m]).length ((H ++ [m]).flatMap encMg) := by rw [List.length_append, List.flatMap_append]; exact hown4
  obtain ⟨gb, cap, cur, rfl, hgB, hgb, hnc, hcm, hcs, htk, _⟩ := ownG hO5 rfl (by simp)
  have hH4 := ((hH1.below HD hH1.lt).alloc (.cells #[(Value.slice m.A m.G.head.length m.G.head.length), .int .i64 (m.G.rank : Int), .int .i64 m.G.link, .int .i64 m.G.cost] 100)).apps ha4 hvh
  have s1 := hH4.cell 1
  have sf := hH4.frozen 1
  have sl := hH4.lt
  simp at s1
  try simp only [Act.put, List.setIfInBounds_toArray, List.set_cons_zero, List.set_cons_succ]
  iterate 2 (refine ordV_takeR (v := ?_) rfl rfl ?_ ?_; rotate_left 1; (focus (intro W hW; (go_simp <;> (try with_reducible rfl)))); simp only [Act.put, List.setIfInBounds_toArray, List.set_cons_zero, List.set_cons_succ])
  refine ordV_call rfl rfl (fun K hK => ?_)
  go_simp
  refine hK.out _ _ trivial (fun _ h => by cases h) ?_
  clear hK K
  refine ordV_nil ?_
  have hH5 := hH4.set_ 1 (.slice (some ⟨gb, 0, none⟩) (H ++ [m]).length cap)
  have hO5s := own_set hO5 (a := ⟨bh, 1, none⟩) (fun e => by have := own_block_le hO5 _ e; simp at this; omega) (.slice (some ⟨gb, 0, none⟩) (H ++ [m]).length cap)
  have hF5 : HFr bh B w (w4.setCell ⟨bh, 1, none⟩ (.slice (some ⟨gb, 0, none⟩) (H ++ [m]).length cap)) := (((HF1.out.trans (HFr.of_below hB1 HD)).trans (HFr.of_below (Nat.le_trans hB1 HD.size) (nw (.cells #[(Value.slice m.A m.G.head.length m.G.head.length), .int .i64 (m.G.rank : Int), .int .i64 m.G.link, .int .i64 m.G.cost] 100) (Below.refl Wd.heap.size Wd)))).trans (HFr.apps ((own_below HO1.out HD).alloc (.cells #[(Value.slice m.A m.G.head.length m.G.head.length), .int .i64 (m.G.rank : Int), .int .i64 m.G.link, .int .i64 m.G.cost] 100)) hb4 ha4)).trans (HFr.setH 1 (.slice (some ⟨gb, 0, none⟩) (H ++ [m]).length cap))
  have hok5 : MGsOK (w4.setCell ⟨bh, 1, none⟩ (.slice (some ⟨gb, 0, none⟩) (H ++ [m]).length cap)) (H ++ [m]) := by
    have h1 : HFr bh B w1 (w4.setCell ⟨bh, 1, none⟩ (.slice (some ⟨gb, 0, none⟩) (H ++ [m]).length cap)) := (((HFr.of_below hB1 HD).trans (HFr.of_below (Nat.le_trans hB1 HD.size) (nw (.cells #[(Value.slice m.A m.G.head.length m.G.head.length), .int .i64 (m.G.rank : Int), .int .i64 m.G.link, .int .i64 m.G.cost] 100) (Below.refl Wd.heap.size Wd)))).trans (HFr.apps ((own_below HO1.out HD).alloc (.cells #[(Value.slice m.A m.G.head.length m.G.head.length), .int .i64 (m.G.rank : Int), .int .i64 m.G.link, .int .i64 m.G.cost] 100)) hb4 ha4)).trans (HFr.setH 1 (.slice (some ⟨gb, 0, none⟩) (H ++ [m]).length cap))
    intro x hx
    rcases List.mem_append.1 hx with hx | hx
    · exact h1.gm HH1.out.typ (HH1.out.ok x hx)
    · rw [List.mem_singleton.1 hx]; exact h1.gm HH1.out.typ HM1.out
  have hW5 : HeapW bh B (w4.setCell ⟨bh, 1, none⟩ (.slice (some ⟨gb, 0, none⟩) (H ++ [m]).length cap)) (.slice (some ⟨gb, 0, none⟩) (H ++ [m]).length cap) (H ++ [m]) := ⟨hH5, hO5s, hok5⟩
  have HW5 := Lib.hid hW5
  have HK5 : Hid (HKp bh w vH (w4.setCell ⟨bh, 1, none⟩ (.slice (some ⟨gb, 0, none⟩) (H ++ [m]).length cap)) (.slice (some ⟨gb, 0, none⟩) (H ++ [m]).length cap)) := fun b t cs h1 h2 h3 => by
    have h4 := ((h3.below HB1.out h3.lt).below HD (h3.below HB1.out h3.lt).lt).alloc (.cells #[(Value.slice m.A m.G.head.length m.G.head.length), .int .i64 (m.G.rank : Int), .int .i64 m.G.link, .int .i64 m.G.cost] 100)
    exact ⟨(h4.apps ha4 h2).far (p := ⟨bh, 1, none⟩) h1 _, ha4.ne h4.lt h2⟩
  have HF5 := Lib.hid hF5
  have s1 := hH5.cell 1
  simp at s1
  have HR : Hid (pushM ltG H m = upM ltG (H.length + 1) (H ++ [m]) H.length) := rfl
  obtain ⟨L0, hL0⟩ : ∃ L, H ++ [m] = L := ⟨_, rfl⟩
  have hnl : (H ++ [m]).length = H.length + 1 := by simp
  rw [hL0] at HW5 HF5 HR hnl
  rw [hL0] at HK5
  obtain ⟨n0, hn0⟩ : ∃ n, H.length + 1 = n := ⟨_, rfl⟩
  rw [hnl] at HW5 HF5
  rw [hnl] at HK5
  have hHn : H.length = n0 - 1 := by omega
  rw [hHn] at HR
  rw [hn0] at hnl HW5 HF5 s1 ⊢
  rw [hn0] at HK5
  obtain ⟨w5, hw5⟩ : ∃ W, w4.setCell ⟨bh, 1, none⟩ (.slice (some ⟨gb, 0, none⟩) n0 cap) = W := ⟨_, rfl⟩
  rw [hw5] at HW5 HF5 s1 ⊢
  rw [hw5] at HK5
  have HNL := Lib.hid hnl
  have hn1 : 1 ≤ n0 := by omega
  have hn2 : n0 ≤ 900001 := by omega
  have HRS : Hid (upM ltG (n0 - 1 + 1) L0 (n0 - 1) = R) := HR.out.symm.trans HRR.out
  have hwn : IntKind.i64.wrap ((n0 : Int) - 1) = (n0 : Int) - 1 := IntWalk.i64_in _ (by omega)
  have hnI : (n0 : Int) - 1 = ((n0 - 1 : Nat) : Int) := by omega
  have HNI := Lib.hid hnI
  have hB0 : B ≤ w.heap.size := hB
  clear HR hnl hn0 hHn hw5 hL0 hH4 hH5 hO5 hO5s hF5 hok5 hW5 hown4 hb4 ha4 HS0 HS1 HS2 HD HD2 sf sl hnI hwn
  have hwn : IntKind.i64.wrap ((n0 : Int) - 1) = (n0 : Int) - 1 := IntWalk.i64_in _ (by omega)
  clear hgb htk hcs m0 m1 m2 m3 ml h1 hl hvb hvh hH1 hB1
  go_wp2_with fail
  go_loopw [4] (fun iv wr => ∃ (k f : Nat) (L : List MG) (vv : Value), iv = .int .i64 (k : Int) ∧ Hid (HeapW bh B wr vv L) ∧ Hid (L.length = n0) ∧ k < n0 ∧ k ≤ f ∧ Hid (upM ltG (f + 1) L k = R) ∧ Hid (HFr bh B w wr) ∧ Hid (HKp bh w vH wr vv)) (fun iv _ => (intOf iv).toNat)
  case atStart => exact ⟨n0 - 1, n0 - 1, L0, _, by rw [HNI.out], HW5, HNL, by omega, Nat.le_refl _, HRS, HF5, HK5⟩
  case round =>
    obtain ⟨k, f, L, vv, rfl, HW, HL, hk, hkf, HU, HF, HK⟩ := hrel
    obtain ⟨gb, cap, cur, hvv, hgB2, hgb, hnc2, hcm2, hcs, htk, hcells⟩ := ownG HW.out.own rfl (by have := HL.out; omega)
    by_cases hk0 : k = 0
    · subst hk0
      have HRL : Hid (L = R) := by show _ = _; rw [← HU.out]; unfold upM; rw [if_pos rfl]
      clear hvv hgb hcs htk hcells
      go_wp2_with fail
      go_end0
      exact ⟨rfl, ⟨vv, by rw [← HRL.out]; exact HW.out, HK.out⟩, HF.out⟩
    · obtain ⟨p, hp⟩ : ∃ p, (k - 1) / 2 = p := ⟨_, rfl⟩
      have hpk : p < k := by omega
      have hkx : k < L.length := by have := HL.out; omega
      have hpx : p < L.length := by have := HL.out; omega
      obtain ⟨xk, hxk⟩ : ∃ x, L[k]? = some x := ⟨_, List.getElem?_eq_getElem hkx⟩
      obtain ⟨xp, hxp⟩ : ∃ x, L[p]? = some x := ⟨_, List.getElem?_eq_getElem hpx⟩
      obtain ⟨k0, k1, k2, k3⟩ := hcells k xk hxk
      obtain ⟨p0, p1, p2, p3⟩ := hcells p xp hxp
      rw [← hgb.cell] at k0 k1 k2 k3 p0 p1 p2 p3
      have kf0 := hgb.frozen (k * 4)
      have gl := hgb.lt
      have h0 := HW.out.h.cell 0
      have h1 := HW.out.h.cell 1
      have hl := HW.out.h.lt
      simp at h0 h1
      rw [hvv] at h1
      unfold earlV at h0
      have gk : L.getD k default = xk := by rw [List.getD_eq_getElem?_getD, hxk]; rfl
      have gp : L.getD p default = xp := by rw [List.getD_eq_getElem?_getD, hxp]; rfl
      have HSW : Hid (swp L k p = (L.set k xp).set p xk) := by show _ = _; unfold swp; rw [gk, gp]
      have HUS : Hid (upM ltG (f + 1) L k = if ltG xk xp = true then upM ltG f (swp L k p) p else L) := by
        show _ = _
        conv => lhs; unfold upM
        rw [if_neg hk0, hp, gk, gp]
      have hmk := HW.out.ok xk (List.mem_of_getElem? hxk)
      have hmp := HW.out.ok xp (List.mem_of_getElem? hxp)
      have HE : Hid (∀ W, Below wr.heap.size wr W → Calls Tryz.prog 35 #[aggMg xk, aggMg xp] W fun e w' => e = .returned (.bool (ltG xk xp)) ∧ Below W.heap.size W w') := fun W hW => earlier_any xk xp W (hmk.below hW) (hmp.below hW)
      have HLL : Hid (vv = .slice (some ⟨gb, 0, none⟩) L.length cap) := hvv
      have hlk : (k : Int) < (L.length : Int) := by omega
      have hlp : (p : Int) < (L.length : Int) := by omega
      have hkp : (0 : Int) ≤ (p : Int) := by omega
      have hkk : (0 : Int) < (k : Int) := by omega
      have hpq : ((k : Int) - 1) / 2 = (p : Int) := by omega
      have HPQ := Lib.hid hpq
      have HXK := Lib.hid hxk
      have HXP := Lib.hid hxp
      have HCE := Lib.hid hcells
      clear hvv hp hxk hxp gk gp hcells hpq hk0 hmk hmp
      go_upto_region 5 with fail
      rw [HPQ.out]
      have hBr : B ≤ wr.heap.size := Nat.le_trans hB HF.out.size
      cases hlt : ltG xk xp with
      | false =>
        rw [hlt] at HE
        have HRL : Hid (L = R) := by show _ = _; rw [← HU.out, HUS.out, hlt]; rfl
        clear hlt
        refine ordB_below (.quiet 0 (.quiet 1 (.quiet 2 (.quiet 3 (.quiet 4 (.quiet 5 (.quiet 6 (.quiet 7 (.quiet 8 (.quiet 9 (.quiet 10 (.quiet 11 (.quiet 12 (.quiet 13 (.quiet 14 (.quiet 15 (.quiet 16 (.quiet 17 (.only 18 (.quiet 19 .done)))))))))))))))))))) (by kernel_rfl) (by kernel_rfl) (by kernel_rfl) (fun _ _ _ _ _ h => h) ?_
        intro V0 hV0
        iterate 18 (first
          | (refine ordB_skip rfl rfl ?_; simp only [Act.put, List.setIfInBounds_toArray, List.set_cons_zero, List.set_cons_succ])
          | (refine ordB_take (v := ?_) rfl rfl ?_ ?_
             rotate_left 1
             focus (intro W hW; obtain ⟨hcW, hfW⟩ := bcell hW; (go_simp <;> with_reducible rfl))
             simp only [Act.put, List.setIfInBounds_toArray, List.set_cons_zero, List.set_cons_succ]))
        refine ordB_only (opB_call rfl rfl (fun K hK => ?_))
        go_simp
        go_at_call 35
        refine (HE.out _ hV0).mono ?_
        rintro e V0_1 ⟨rfl, hx⟩
        refine hK.out _ _ (hV0.trans (hx.mono hV0.size)) (fun hV0_1 => ?_)
        iterate 1 (first
          | (refine ordB_skip rfl rfl ?_; simp only [Act.put, List.setIfInBounds_toArray, List.set_cons_zero, List.set_cons_succ])
          | (refine ordB_take (v := ?_) rfl rfl ?_ ?_
             rotate_left 1
             focus (intro W hW; obtain ⟨hcW, hfW⟩ := bcell hW; (go_simp <;> with_reducible rfl))
             simp only [Act.put, List.setIfInBounds_toArray, List.set_cons_zero, List.set_cons_succ]))
        refine ordB_nil ?_
        go_wp2_with fail
        refine bodyPost_ret (results_none rfl _ _ _) rfl ?_
        exact ⟨rfl, ⟨vv, by rw [← HRL.out]; exact HW.out.below hV0_1, HK.out.trans (HKp.of_below hV0_1)⟩, HF.out.trans (HFr.of_below hBr hV0_1)⟩
      | true =>
        rw [hlt] at HE
        have HRL : Hid (upM ltG f (swp L k p) p = R) := by show _ = _; rw [← HU.out, HUS.out, hlt]; rfl
        clear hlt
        refine ordB_below (.quiet 0 (.quiet 1 (.quiet 2 (.quiet 3 (.quiet 4 (.quiet 5 (.quiet 6 (.quiet 7 (.quiet 8 (.quiet 9 (.quiet 10 (.quiet 11 (.quiet 12 (.quiet 13 (.quiet 14 (.quiet 15 (.quiet 16 (.quiet 17 (.only 18 (.quiet 19 .done)))))))))))))))))))) (by kernel_rfl) (by kernel_rfl) (by kernel_rfl) (fun _ _ _ _ _ h => h) ?_
        intro V0 hV0
        iterate 18 (first
          | (refine ordB_skip rfl rfl ?_; simp only [Act.put, List.setIfInBounds_toArray, List.set_cons_zero, List.set_cons_succ])
          | (refine ordB_take (v := ?_) rfl rfl ?_ ?_
             rotate_left 1
             focus (intro W hW; obtain ⟨hcW, hfW⟩ := bcell hW; (go_simp <;> with_reducible rfl))
             simp only [Act.put, List.setIfInBounds_toArray, List.set_cons_zero, List.set_cons_succ]))
        refine ordB_only (opB_call rfl rfl (fun K hK => ?_))
        go_simp
        go_at_call 35
        refine (HE.out _ hV0).mono ?_
        rintro e V0_1 ⟨rfl, hx⟩
        refine hK.out _ _ (hV0.trans (hx.mono hV0.size)) (fun hV0_1 => ?_)
        iterate 1 (first
          | (refine ordB_skip rfl rfl ?_; simp only [Act.put, List.setIfInBounds_toArray, List.set_cons_zero, List.set_cons_succ])
          | (refine ordB_take (v := ?_) rfl rfl ?_ ?_
             rotate_left 1
             focus (intro W hW; obtain ⟨hcW, hfW⟩ := bcell hW; (go_simp <;> with_reducible rfl))
             simp only [Act.put, List.setIfInBounds_toArray, List.set_cons_zero, List.set_cons_succ]))
        refine ordB_nil ?_
        have HW := Lib.hid (HW.out.below hV0_1)
        have HF := Lib.hid (HF.out.trans (HFr.of_below hBr hV0_1))
        have HK := Lib.hid (HK.out.trans (HKp.of_below hV0_1))
        have hgb := hgb.below hV0_1 gl
        have hBr := Nat.le_trans hBr hV0_1.size
        clear k0 k1 k2 k3 p0 p1 p2 p3 kf0 gl h0 h1 hl hV0_1 HE
        generalize V0_1 = w6 at *
        obtain ⟨_, _, _, hvv2, _, hgb2, _, _, _, _, hcells⟩ := ownG HW.out.own rfl (by have := HL.out; omega)
        have hcells : ∀ k x, L[k]? = some x → cur[k * 4]? = some ((Value.slice x.A x.G.head.length x.G.head.length)) ∧ cur[k * 4 + 1]? = some (.int .i64 (x.G.rank : Int)) ∧ cur[k * 4 + 2]? = some (.int .i64 x.G.link) ∧ cur[k * 4 + 3]? = some (.int .i64 x.G.cost) := HCE.out
        obtain ⟨k0, k1, k2, k3⟩ := hcells k xk HXK.out
        obtain ⟨p0, p1, p2, p3⟩ := hcells p xp HXP.out
        rw [← hgb.cell] at k0 k1 k2 k3 p0 p1 p2 p3
        have kf0 := hgb.frozen (k * 4)
        have kf1 := hgb.frozen (k * 4 + 1)
        have kf2 := hgb.frozen (k * 4 + 2)
        have kf3 := hgb.frozen (k * 4 + 3)
        have gl := hgb.lt
        have h1 := HW.out.h.cell 1
        have hl := HW.out.h.lt
        simp at h1
        rw [HLL.out] at h1
        clear hvv2 hgb2 hcells
        go_upto_region 6 with fail
        refine ordV_start (Below w6.heap.size w6) (Far gb w6) [25, 27] [(0, none), (1, none), (2, none), (3, some false), (4, none), (5, none), (6, none), (7, none), (8, some false), (9, none), (10, none), (11, none), (12, none), (13, some false), (14, none), (15, none), (16, some false), (17, none), (18, none), (19, none), (20, some false), (21, none), (22, none), (23, some false), (24, none), (25, some true), (26, none), (27, some true)] (by kernel_rfl) (by kernel_rfl) (by kernel_rfl) (fun _ _ _ _ _ h => h) (fun _ _ => rfl) ?_
        have HD : Below w6.heap.size w6 w6.drew := (Below.refl _ _).drew
        have hR0 : Far gb w6 w6.drew := fun _ _ => rfl
        obtain ⟨hcD, hfD⟩ := bcell HD
        obtain ⟨Wd, hWd⟩ : ∃ Wd, w6.drew = Wd := ⟨_, rfl⟩
        rw [hWd] at HD hcD hfD hR0 ⊢
        clear hWd
        iterate 1 (refine ordV_takeR (v := ?_) rfl rfl ?_ ?_; rotate_left 1; (focus (intro W hW; (go_simp <;> (try with_reducible rfl)))); simp only [Act.put, List.setIfInBounds_toArray, List.set_cons_zero, List.set_cons_succ])
        iterate 1 (refine ordV_takeR (v := ?_) rfl rfl ?_ ?_; rotate_left 1; (focus (intro W hW; (go_simp <;> (try with_reducible rfl)))); simp only [Act.put, List.setIfInBounds_toArray, List.set_cons_zero, List.set_cons_succ])
        iterate 1 (refine ordV_takeR (v := ?_) rfl rfl ?_ ?_; rotate_left 1; (focus (intro W hW; (go_simp <;> (try with_reducible rfl)))); simp only [Act.put, List.setIfInBounds_toArray, List.set_cons_zero, List.set_cons_succ])
        iterate 1 (refine ordV_takeS (v := ?_) rfl rfl HD ?_ ?_; rotate_left 1; (focus (intro W hW; obtain ⟨hcW, hfW⟩ := bcell hW; (go_simp <;> (try with_reducible rfl)))); simp only [Act.put, List.setIfInBounds_toArray, List.set_cons_zero, List.set_cons_succ])
        iterate 1 (refine ordV_takeR (v := ?_) rfl rfl ?_ ?_; rotate_left 1; (focus (intro W hW; (go_simp <;> (try with_reducible rfl)))); simp only [Act.put, List.setIfInBounds_toArray, List.set_cons_zero, List.set_cons_succ])
        iterate 1 (refine ordV_takeR (v := ?_) rfl rfl ?_ ?_; rotate_left 1; (focus (intro W hW; (go_simp <;> (try with_reducible rfl)))); simp only [Act.put, List.setIfInBounds_toArray, List.set_cons_zero, List.set_cons_succ])
        iterate 1 (refine ordV_takeR (v := ?_) rfl rfl ?_ ?_; rotate_left 1; (focus (intro W hW; (go_simp <;> (try with_reducible rfl)))); simp only [Act.put, List.setIfInBounds_toArray, List.set_cons_zero, List.set_cons_succ])
        iterate 1 (refine ordV_takeR (v := ?_) rfl rfl ?_ ?_; rotate_left 1; (focus (intro W hW; (go_simp <;> (try with_reducible rfl)))); simp only [Act.put, List.setIfInBounds_toArray, List.set_cons_zero, List.set_cons_succ])
        iterate 1 (refine ordV_takeS (v := ?_) rfl rfl HD ?_ ?_; rotate_left 1; (focus (intro W hW; obtain ⟨hcW, hfW⟩ := bcell hW; (go_simp <;> (try with_reducible rfl)))); simp only [Act.put, List.setIfInBounds_toArray, List.set_cons_zero, List.set_cons_succ])
        iterate 1 (refine ordV_takeR (v := ?_) rfl rfl ?_ ?_; rotate_left 1; (focus (intro W hW; (go_simp <;> (try with_reducible rfl)))); simp only [Act.put, List.setIfInBounds_toArray, List.set_cons_zero, List.set_cons_succ])
        iterate 1 (refine ordV_takeR (v := ?_) rfl rfl ?_ ?_; rotate_left 1; (focus (intro W hW; (go_simp <;> (try with_reducible rfl)))); simp only [Act.put, List.setIfInBounds_toArray, List.set_cons_zero, List.set_cons_succ])
        iterate 1 (refine ordV_takeR (v := ?_) rfl rfl ?_ ?_; rotate_left 1; (focus (intro W hW; (go_simp <;> (try with_reducible rfl)))); simp only [Act.put, List.setIfInBounds_toArray, List.set_cons_zero, List.set_cons_succ])
        iterate 1 (refine ordV_takeR (v := ?_) rfl rfl ?_ ?_; rotate_left 1; (focus (intro W hW; (go_simp <;> (try with_reducible rfl)))); simp only [Act.put, List.setIfInBounds_toArray, List.set_cons_zero, List.set_cons_succ])
        iterate 1 (refine ordV_takeS (v := ?_) rfl rfl HD ?_ ?_; rotate_left 1; (focus (intro W hW; obtain ⟨hcW, hfW⟩ := bcell hW; (go_simp <;> (try with_reducible rfl)))); simp only [Act.put, List.setIfInBounds_toArray, List.set_cons_zero, List.set_cons_succ])
        iterate 1 (refine ordV_takeR (v := ?_) rfl rfl ?_ ?_; rotate_left 1; (focus (intro W hW; (go_simp <;> (try with_reducible rfl)))); simp only [Act.put, List.setIfInBounds_toArray, List.set_cons_zero, List.set_cons_succ])
        iterate 1 (refine ordV_takeR (v := ?_) rfl rfl ?_ ?_; rotate_left 1; (focus (intro W hW; (go_simp <;> (try with_reducible rfl)))); simp only [Act.put, List.setIfInBounds_toArray, List.set_cons_zero, List.set_cons_succ])
        iterate 1 (refine ordV_takeS (v := ?_) rfl rfl HD ?_ ?_; rotate_left 1; (focus (intro W hW; obtain ⟨hcW, hfW⟩ := bcell hW; (go_simp <;> (try with_reducible rfl)))); simp only [Act.put, List.setIfInBounds_toArray, List.set_cons_zero, List.set_cons_succ])
        iterate 1 (refine ordV_takeR (v := ?_) rfl rfl ?_ ?_; rotate_left 1; (focus (intro W hW; (go_simp <;> (try with_reducible rfl)))); simp only [Act.put, List.setIfInBounds_toArray, List.set_cons_zero, List.set_cons_succ])
        iterate 1 (refine ordV_takeR (v := ?_) rfl rfl ?_ ?_; rotate_left 1; (focus (intro W hW; (go_simp <;> (try with_reducible rfl)))); simp only [Act.put, List.setIfInBounds_toArray, List.set_cons_zero, List.set_cons_succ])
        iterate 1 (refine ordV_takeR (v := ?_) rfl rfl ?_ ?_; rotate_left 1; (focus (intro W hW; (go_simp <;> (try with_reducible rfl)))); simp only [Act.put, List.setIfInBounds_toArray, List.set_cons_zero, List.set_cons_succ])
        iterate 1 (refine ordV_takeS (v := ?_) rfl rfl HD ?_ ?_; rotate_left 1; (focus (intro W hW; obtain ⟨hcW, hfW⟩ := bcell hW; (go_simp <;> (try with_reducible rfl)))); simp only [Act.put, List.setIfInBounds_toArray, List.set_cons_zero, List.set_cons_succ])
        iterate 1 (refine ordV_takeR (v := ?_) rfl rfl ?_ ?_; rotate_left 1; (focus (intro W hW; (go_simp <;> (try with_reducible rfl)))); simp only [Act.put, List.setIfInBounds_toArray, List.set_cons_zero, List.set_cons_succ])
        iterate 1 (refine ordV_takeR (v := ?_) rfl rfl ?_ ?_; rotate_left 1; (focus (intro W hW; (go_simp <;> (try with_reducible rfl)))); simp only [Act.put, List.setIfInBounds_toArray, List.set_cons_zero, List.set_cons_succ])
        iterate 1 (refine ordV_takeS (v := ?_) rfl rfl HD ?_ ?_; rotate_left 1; (focus (intro W hW; obtain ⟨hcW, hfW⟩ := bcell hW; (go_simp <;> (try with_reducible rfl)))); simp only [Act.put, List.setIfInBounds_toArray, List.set_cons_zero, List.set_cons_succ])
        iterate 1 (refine ordV_takeR (v := ?_) rfl rfl ?_ ?_; rotate_left 1; (focus (intro W hW; (go_simp <;> (try with_reducible rfl)))); simp only [Act.put, List.setIfInBounds_toArray, List.set_cons_zero, List.set_cons_succ])
        refine ordV_call rfl rfl (fun K hK => ?_)
        go_simp
        refine hK.out _ _ ((((hR0.set _ _).set _ _).set _ _).set _ _) (fun _ h => by cases h) ?_
        clear hK K
        have hgbE := (hgb.below HD hgb.lt).set4 (k * 4) xp
        have hRE : Far gb w6 (setW4 Wd gb (k * 4) xp) := (((hR0.set _ _).set _ _).set _ _).set _ _
        have hszE : (setW4 Wd gb (k * 4) xp).heap.size = Wd.heap.size := by unfold setW4; simp
        obtain ⟨We, hWe⟩ : ∃ W, setW4 Wd gb (k * 4) xp = W := ⟨_, rfl⟩
        have hWe2 : ((((Wd.setCell ⟨gb, k * 4, none⟩ ((Value.slice xp.A xp.G.head.length xp.G.head.length))).setCell ⟨gb, k * 4 + 1, none⟩ (.int .i64 (xp.G.rank : Int))).setCell ⟨gb, k * 4 + 2, none⟩ (.int .i64 xp.G.link)).setCell ⟨gb, k * 4 + 3, none⟩ (.int .i64 xp.G.cost)) = We := hWe
        rw [hWe] at hgbE hRE hszE
        rw [hWe2]
        have HWE := Lib.hid hWe
        clear hWe hWe2
        obtain ⟨y0, hy0⟩ : ∃ u, We.cell? ⟨gb, p * 4, none⟩ = some u := by rw [hgbE.cell]; exact ⟨_, Array.getElem?_eq_getElem (by rw [set4_size, hcs]; omega)⟩
        have yf0 := hgbE.frozen (p * 4)
        obtain ⟨y1, hy1⟩ : ∃ u, We.cell? ⟨gb, p * 4 + 1, none⟩ = some u := by rw [hgbE.cell]; exact ⟨_, Array.getElem?_eq_getElem (by rw [set4_size, hcs]; omega)⟩
        have yf1 := hgbE.frozen (p * 4 + 1)
        obtain ⟨y2, hy2⟩ : ∃ u, We.cell? ⟨gb, p * 4 + 2, none⟩ = some u := by rw [hgbE.cell]; exact ⟨_, Array.getElem?_eq_getElem (by rw [set4_size, hcs]; omega)⟩
        have yf2 := hgbE.frozen (p * 4 + 2)
        obtain ⟨y3, hy3⟩ : ∃ u, We.cell? ⟨gb, p * 4 + 3, none⟩ = some u := by rw [hgbE.cell]; exact ⟨_, Array.getElem?_eq_getElem (by rw [set4_size, hcs]; omega)⟩
        have yf3 := hgbE.frozen (p * 4 + 3)
        try simp only [Act.put, List.setIfInBounds_toArray, List.set_cons_zero, List.set_cons_succ]
        iterate 1 (refine ordV_takeR (v := ?_) rfl rfl ?_ ?_; rotate_left 1; (focus (intro W hW; (go_simp <;> (try with_reducible rfl)))); simp only [Act.put, List.setIfInBounds_toArray, List.set_cons_zero, List.set_cons_succ])
        refine ordV_call rfl rfl (fun K hK => ?_)
        go_simp
        refine hK.out _ _ ((((hRE.set _ _).set _ _).set _ _).set _ _) (fun _ h => by cases h) ?_
        clear hK K
        refine ordV_nil ?_
        clear hy0 hy1 hy2 hy3 yf0 yf1 yf2 yf3
        have hgbF := hgbE.set4 (p * 4) xk
        obtain ⟨Wf, hWf⟩ : ∃ W, setW4 We gb (p * 4) xk = W := ⟨_, rfl⟩
        have hWf2 : ((((We.setCell ⟨gb, p * 4, none⟩ ((Value.slice xk.A xk.G.head.length xk.G.head.length))).setCell ⟨gb, p * 4 + 1, none⟩ (.int .i64 (xk.G.rank : Int))).setCell ⟨gb, p * 4 + 2, none⟩ (.int .i64 xk.G.link)).setCell ⟨gb, p * 4 + 3, none⟩ (.int .i64 xk.G.cost)) = Wf := hWf
        rw [hWf] at hgbF
        rw [hWf2]
        have HWF := Lib.hid hWf
        clear hWf hWf2
        obtain ⟨f', rfl⟩ : ∃ f', f = f' + 1 := ⟨f - 1, by omega⟩
        have hown9 : Wf.ownsRow B 100 4 vv ((L.set k xp).set p xk).length (((L.set k xp).set p xk).flatMap encMg) := by
          rw [HLL.out, List.length_set, List.length_set]
          exact ownG_mk hgB2 hgbF (by simp) hnc2 hcm2 (by rw [set4_size, set4_size]; exact hcs) (set4_take (by simp) hpx (set4_take rfl hkx htk))
        have hfr9 : HFr bh B w6 Wf := by
          have h1 := HFr.of_below (bh := bh) hBr HD
          have h2 := HFr.setG4 (bh := bh) hgB2 (hgb.below HD gl) (k * 4) xp
          rw [HWE.out] at h2
          have h3 := HFr.setG4 (bh := bh) hgB2 hgbE (p * 4) xk
          rw [HWF.out] at h3
          exact (h1.trans h2).trans h3
        have hbt : ∀ t cs, Blk w6 bh t cs → t = 98 := HW.out.typ
        have hfar : ∀ (b : Nat) (t : TypeId) (cs : Array Value), b ≠ gb → Blk w6 b t cs → Blk Wf b t cs := fun b t cs ne h1 => by
          have h2 := ((((h1.below HD h1.lt).far (p := ⟨gb, k * 4, none⟩) ne ((Value.slice xp.A xp.G.head.length xp.G.head.length))).far (p := ⟨gb, k * 4 + 1, none⟩) ne (.int .i64 (xp.G.rank : Int))).far (p := ⟨gb, k * 4 + 2, none⟩) ne (.int .i64 xp.G.link)).far (p := ⟨gb, k * 4 + 3, none⟩) ne (.int .i64 xp.G.cost)
          have h2 : Blk We b t cs := by rw [← HWE.out]; exact h2
          have h3 := (((h2.far (p := ⟨gb, p * 4, none⟩) ne ((Value.slice xk.A xk.G.head.length xk.G.head.length))).far (p := ⟨gb, p * 4 + 1, none⟩) ne (.int .i64 (xk.G.rank : Int))).far (p := ⟨gb, p * 4 + 2, none⟩) ne (.int .i64 xk.G.link)).far (p := ⟨gb, p * 4 + 3, none⟩) ne (.int .i64 xk.G.cost)
          rw [← HWF.out]; exact h3
        have hH9 : Blk Wf bh 98 #[earlV, vv] := hfar _ _ _ (by omega) HW.out.h
        have HK9 : Hid (HKp bh w vH Wf vv) := fun b t cs h1 h2 h3 => by
          obtain ⟨h4, h5⟩ := HK.out b t cs h1 h2 h3
          exact ⟨hfar b t cs (fun e => h5 (by rw [HLL.out, e]; rfl)) h4, h5⟩
        have HW9 : Hid (HeapW bh B Wf vv ((L.set k xp).set p xk)) := ⟨hH9, hown9, fun x hx => by
          refine hfr9.gm hbt ?_
          rcases List.mem_or_eq_of_mem_set hx with hx | rfl
          · rcases List.mem_or_eq_of_mem_set hx with hx | rfl
            · exact HW.out.ok x hx
            · exact HW.out.ok _ (List.mem_of_getElem? HXP.out)
          · exact HW.out.ok _ (List.mem_of_getElem? HXK.out)⟩
        have HF9 := Lib.hid (HF.out.trans hfr9)
        have HL9 : Hid (((L.set k xp).set p xk).length = n0) := by show _ = _; rw [List.length_set, List.length_set]; exact HL.out
        have HU9 : Hid (upM ltG (f' + 1) ((L.set k xp).set p xk) p = R) := by show _ = _; rw [← HSW.out]; exact HRL.out
        clear hgb hgbE hgbF hRE hszE hown9 hfr9 hH9 hbt hfar HD hcD hfD hR0
        go_wp2_with fail
        go_roundw
        case rel => exact ⟨p, f', _, vv, rfl, HW9, HL9, by omega, by omega, HU9, HF9, HK9⟩
        case measure => simp [intOf]; omega
end Go.Proofs.YtfjkmgjjifhdkaaGreat

/-
  The plain law of layer 15: split's loop over a way.
-/
namespace Go.Proofs.YtfjkmgjjifhdkaaGreat
open List

theorem way_at {g : Gr} (hg : GrOK g) {W : List Int} (hW : wayB g 0 W = true) {j : Nat} {i : Int} (hj : W[j]? = some i) :
    i ∈ frL g (endP g 0 (W.take j)) ∧ endP g 0 (W.take (j + 1)) = (lkAt g i).to ∧ sumC g (W.take (j + 1)) = sumC g (W.take j) + (lkAt g i).cost ∧ 0 ≤ endP g 0 (W.take j) ∧ endP g 0 (W.take j) < g.n ∧
      0 ≤ sumC g (W.take j) ∧ sumC g (W.take j) ≤ 1000000 * g.n ∧ pathB g 0 (W.take j) = true ∧ W.drop j = i :: W.drop (j + 1) ∧ W.take (j + 1) = W.take j ++ [i] := by
  obtain ⟨hl, rfl⟩ := List.getElem?_eq_some_iff.1 hj
  have hd : W.drop j = W[j] :: W.drop (j + 1) := drop_eq_getElem_cons hl
  have ht : W.take (j + 1) = W.take j ++ [W[j]] := take_succ_eq_append_getElem hl
  have hw : wayB g 0 (W.take j ++ W[j] :: W.drop (j + 1)) = true := by rw [← hd, take_append_drop]; exact hW
  rw [way_app, Bool.and_eq_true] at hw
  have hb := end_bd hg hw.1
  refine ⟨(way_frL hg hb.1 hb.2.1 hw.2).1, ?_, ?_, hb.1, hb.2.1, hb.2.2.1, hb.2.2.2.1, hw.1, hd, ht⟩
  · rw [ht, endP_app]; rfl
  · rw [ht, sumC_app]; simp [sumC]
/-- The rank at the place j of the way. -/
def rkAt (hl r j : Nat) : Nat := if j = hl then r else 0
def SpInv (g : Gr) (W : List Int) (hl r : Nat) (L0 R : List Gp) (j : Nat) (L : List Gp) : Prop :=
  if j < hl then L = L0 else pushAll L (spl g (W.take j) (endP g 0 (W.take j)) (sumC g (W.take j)) (rkAt hl r j) (W.drop j)) = R
theorem SpInv.start {g : Gr} {hd t : List Int} {r : Nat} {L0 R : List Gp} (hR : pushAll L0 (spl g hd (endP g 0 hd) (sumC g hd) r t) = R) : ∀ j, j = hd.length → SpInv g (hd ++ t) hd.length r L0 R j L0 := by
  rintro j rfl
  unfold SpInv
  rw [if_neg (by omega), take_left, drop_left]
  unfold rkAt
  rw [if_pos rfl]
  exact hR
theorem SpInv.zero {g : Gr} {hd t : List Int} {r : Nat} {L0 R : List Gp} (hR : pushAll L0 (spl g hd (endP g 0 hd) (sumC g hd) r t) = R) : SpInv g (hd ++ t) hd.length r L0 R 0 L0 := by
  by_cases h : 0 < hd.length
  · unfold SpInv; rw [if_pos h]
  · exact SpInv.start hR 0 (by omega)
theorem SpInv.skip {g : Gr} {hd t : List Int} {r : Nat} {L0 R L : List Gp} {j : Nat} (hR : pushAll L0 (spl g hd (endP g 0 hd) (sumC g hd) r t) = R) (h : SpInv g (hd ++ t) hd.length r L0 R j L) (hj : j < hd.length) : SpInv g (hd ++ t) hd.length r L0 R (j + 1) L := by
  unfold SpInv at h
  rw [if_pos hj] at h
  subst h
  by_cases h2 : j + 1 < hd.length
  · unfold SpInv; rw [if_pos h2]
  · exact SpInv.start hR (j + 1) (by omega)
theorem SpInv.step {g : Gr} (hg : GrOK g) {W : List Int} (hW : wayB g 0 W = true) {hl r : Nat} {L0 R L : List Gp} {j : Nat} {i : Int} (hi : W[j]? = some i) (h : SpInv g W hl r L0 R j L) (hj : ¬ j < hl) :
    SpInv g W hl r L0 R (j + 1) (match (frL g (endP g 0 (W.take j)))[rkAt hl r j + 1]? with | some l => pushM earlierM L ⟨W.take j, rkAt hl r j + 1, l, sumC g (W.take j) + viaOf g l⟩ | none => L) := by
  obtain ⟨_, h2, h3, _, _, _, _, _, h4, h5⟩ := way_at hg hW hi
  unfold SpInv at h ⊢
  rw [if_neg hj, h4] at h
  rw [if_neg (by omega), ← h, h2, h3, h5]
  have hr : rkAt hl r (j + 1) = 0 := by unfold rkAt; rw [if_neg (by omega)]
  rw [hr]
  show _ = pushAll L ((match (frL g (endP g 0 (W.take j)))[rkAt hl r j + 1]? with | some l => _ | none => _) ++ _)
  cases (frL g (endP g 0 (W.take j)))[rkAt hl r j + 1]? with
  | none => rfl
  | some l => rfl
theorem SpInv.fin {g : Gr} {W : List Int} {hl r : Nat} {L0 R L : List Gp} (h : SpInv g W hl r L0 R W.length L) (hj : hl ≤ W.length) : L = R := by
  unfold SpInv at h
  rw [if_neg (by omega), drop_length] at h
  exact h
theorem dnM_len {α : Type} [Inhabited α] {lt : α → α → Bool} : ∀ (f : Nat) (l : List α) (i : Nat), (dnM lt f l i).length = l.length := by
  intro f
  induction f with
  | zero => intros; rfl
  | succ f ih =>
    intro l i
    unfold dnM
    split
    · rfl
    · rw [ih, swp_len]
theorem popM_len {α : Type} [Inhabited α] {lt : α → α → Bool} (l : List α) : (popM lt l).length = l.length - 1 := by
  unfold popM
  rw [dnM_len, length_take, length_set]
  omega
theorem potL_at {g : Gr} (_hg : GrOK g) {v : Int} (h0 : 0 ≤ v) (h1 : v < g.n) : (potL g)[v.toNat]? = some (hAt g v) := by
  have hl : (potL g).length = g.n.toNat := potS_len g _
  unfold hAt
  rw [List.getD_eq_getElem?_getD, List.getElem?_eq_getElem (by omega)]
  rfl
end Go.Proofs.YtfjkmgjjifhdkaaGreat
