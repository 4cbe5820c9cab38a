/-
  The walks of layer 19: spoilt.
-/
import Derived.Test.YtpajajffkbkeaaaPgSp
import Derived.Test.YtpajajffkbkeaaaBase
import Derived.Deep.DeepCutAuto
namespace Go.Proofs.Ytpajajffkbkeaaa
open Go Go.RowKit

set_option maxRecDepth 100000 in
set_option maxHeartbeats 16000000 in
theorem spoilt_mc (C : Option Addr) (ms0 : List MC) (e : Nat) (wh : Bool) (pa pb pc : Int) (w : World) (hC : SlR 2 RMc w C ms0) (hM : MsW w ms0) (hl : ms0.length ≤ 1000) (hpa : 0 ≤ pa ∧ pa ≤ 255) (hpb : 0 ≤ pb ∧ pb ≤ 255) (hpc : 0 ≤ pc ∧ pc ≤ 255) :
    Calls Try.prog 20 #[.agg #[.slice C ms0.length e, .bool wh], .agg #[.int .u8 pa, .int .u8 pb, .int .u8 pc]] w (IsSpt ms0.length w) := by
  obtain ⟨i0, hi, hz0, hz1, hz2⟩ := info_parts can_info
  obtain ⟨w2, hw2⟩ : ∃ w2, ((w.alloc (.cells #[.slice C ms0.length e, .bool wh] 33)).alloc (.cells #[.int .u8 pa, .int .u8 pb, .int .u8 pc] 47)).alloc (.cells #[.slice none 0 0, .bool false] 33) = w2 := ⟨_, rfl⟩
  have hb2 : Below w.heap.size w w2 := by rw [← hw2]; exact nw _ (nw _ (nw _ (Below.refl _ _)))
  have hP : Blk w2 w.heap.size 33 #[.slice C ms0.length e, .bool wh] := by rw [← hw2]; exact ((Blk.new _ _ _).alloc _).alloc _
  have hX : Blk w2 (w.heap.size + 1) 47 #[.int .u8 pa, .int .u8 pb, .int .u8 pc] := by rw [← hw2]; exact (Blk.new_ (by simp)).alloc _
  have hR : Blk w2 (w.heap.size + 2) 33 #[.slice none 0 0, .bool false] := by rw [← hw2]; exact Blk.new_ (by simp)
  have HW2 := Lib.hid hw2
  obtain ⟨bX, hbX⟩ : ∃ b, w.heap.size + 1 = b := ⟨_, rfl⟩
  obtain ⟨bP, hbP⟩ : ∃ b, bX + 1 = b := ⟨_, rfl⟩
  rw [hbX] at hX
  rw [show w.heap.size + 2 = bP by omega] at hR
  have HBX_ := Lib.hid hbX
  have HBP_ := Lib.hid hbP
  have hwP : w.heap.size ≤ bP := by omega
  have HBX : Hid (∀ W', Below w2.heap.size w2 W' → W'.cell? ⟨w.heap.size, 0, none⟩ = some (.slice C ms0.length e) ∧ W'.cell? ⟨w.heap.size, 1, none⟩ = some (.bool wh) ∧ W'.cell? ⟨bX, 0, none⟩ = some (.int .u8 pa) ∧ W'.cell? ⟨bX, 1, none⟩ = some (.int .u8 pb) ∧ W'.cell? ⟨bX, 2, none⟩ = some (.int .u8 pc) ∧ (w.heap.size < W'.heap.size ∧ bX < W'.heap.size) ∧ Blk W' bP 33 #[.slice none 0 0, .bool false]) := fun W' hW' => by
    have h1 := hP.below hW' hP.lt
    have h2 := hX.below hW' hX.lt
    exact ⟨by rw [h1.cell]; rfl, by rw [h1.cell]; rfl, by rw [h2.cell]; rfl, by rw [h2.cell]; rfl, by rw [h2.cell]; rfl, ⟨h1.lt, h2.lt⟩, hR.below hW' hR.lt⟩
  have HC2 : Hid (SlR 2 RMc w2 C ms0) := hC.below keeps_mc hb2
  have HM0 := Lib.hid hM
  have HB2 := Lib.hid hb2
  obtain ⟨q0, q1, v0, v1, v2, ⟨ql, vl⟩, _⟩ := HBX.out _ (Below.refl _ _)
  obtain ⟨t, ht⟩ : ∃ q : Nat, pa % 5 = (q : Int) := ⟨(pa % 5).toNat, by omega⟩
  have ht5 : t < 5 := by omega
  have htt : pa.tmod 5 = (t : Int) := by rw [Int.tmod_eq_emod_of_nonneg hpa.1]; exact ht
  have htw : IntKind.u8.wrap (t : Int) = (t : Int) := by simp [IntKind.wrap, IntKind.bits, IntKind.signed]; omega
  have hwb : IntKind.i64.wrap pb = pb := IntWalk.i64_in _ (by omega)
  have hwc : IntKind.i64.wrap pc = pc := IntWalk.i64_in _ (by omega)
  clear hw2 hbX hbP hC hM hb2 hP hX hR ht
  go_enter Try.func20, Try.ntmps20
  go_upto_region 1 with fail
  rw [HW2.out, HBX_.out, HBP_.out]
  go_cut [5] (fun bo wr => ∃ (bO : Nat) (A9 : Option Addr) (c9 : Nat), bo = ptr bO ∧ w2.heap.size ≤ bO ∧ Blk wr bO 33 #[.slice A9 ms0.length c9, .bool wh] ∧ wr.ownsRow w2.heap.size 61 2 (.slice A9 ms0.length c9) ms0.length (ms0.flatMap encMc) ∧ ms0.length ≤ c9 ∧ c9 ≤ maxLen ∧ Below w2.heap.size w2 wr)
  case first =>
    refine ordB_below (.quiet 1 (.quiet 2 (.quiet 4 (.quiet 5 (.fork 0 7 (.fork 3 7 (.quiet 6 (.only 7 (.only 8 .done))) (.only 3 (.quiet 6 (.only 8 .done)))) (.only 0 (.only 3 (.quiet 6 (.only 8 .done))))))))) (by kernel_rfl) (by kernel_rfl) (by kernel_rfl) (fun _ _ _ _ _ h => h) ?_
    intro Wd hSd
    iterate 4 (first
      | (refine ordB_skip rfl rfl ?_; simp only [Act.put, List.setIfInBounds_toArray, List.set_cons_zero, List.set_cons_succ])
      | (refine ordB_take (v := ?_) rfl rfl ?_ ?_
         rotate_left 1
         focus (intro W hW; obtain ⟨hcW, hfW⟩ := bcell hW; (go_simp <;> with_reducible rfl))
         simp only [Act.put, List.setIfInBounds_toArray, List.set_cons_zero, List.set_cons_succ]))
    refine ordB_fork (opB_call rfl rfl (fun K hK => ?_)) (opB_call rfl rfl (fun K hK => ?_))
    · go_simp
      refine hK.out _ _ (hSd.alloc hSd.size _) (fun hSd1 => ?_)
      clear hK K
      have ho := own_empty Wd 61 2 w2.heap.size hSd.size
      obtain ⟨vb, hvb⟩ : ∃ b, Wd.heap.size = b := ⟨_, rfl⟩
      rw [hvb] at ho ⊢
      clear hvb
      obtain ⟨Wd1, qq⟩ : ∃ W', Wd.alloc (.cells #[] 61) = W' := ⟨_, rfl⟩
      rw [qq] at hSd1 ho ⊢
      clear qq
      try simp only [Act.put, List.setIfInBounds_toArray, List.set_cons_zero, List.set_cons_succ]
      refine ordB_fork (opB_call rfl rfl (fun K hK => ?_)) (opB_call rfl rfl (fun K hK => ?_))
      · refine wp_appS (enc := encMc) (R := RMc) _ _ 31 rfl w2.heap.size 61 i0 _ 2 32 Try.underlying31 hi hz0 hz1 hz2 rfl (by decide) (.slice (some ⟨vb, 0, none⟩) 0 0) _ _ rfl ho C e ms0 rfl ((HC2.out).below keeps_mc hSd1) (fun _ _ _ h => h) (fun _ => rfl) (fun u hu => one_mc hu) (by omega) (by decide) hSd1.size ?_
        intro v9 Wd2 h91 h92 h93
        refine hK.out _ _ (hSd1.trans h92) (fun hSd2 => ?_)
        clear hK K
        have ho : Wd2.ownsRow w2.heap.size 61 2 v9 ms0.length (ms0.flatMap encMc) := by simpa using h91
        obtain ⟨A9, c9, rfl, hc9, hcm9, _⟩ := own_slr (R := RMc) ho (fun _ => rfl) (fun _ => rfl) rfl
        clear h91 h92 h93
        try simp only [Act.put, List.setIfInBounds_toArray, List.set_cons_zero, List.set_cons_succ]
        iterate 1 (first
          | (refine ordB_skip rfl rfl ?_; simp only [Act.put, List.setIfInBounds_toArray, List.set_cons_zero, List.set_cons_succ])
          | (refine ordB_take (v := ?_) rfl rfl ?_ ?_
             rotate_left 1
             focus (intro W hW; obtain ⟨hcW, hfW⟩ := bcell hW; (go_simp <;> with_reducible rfl))
             simp only [Act.put, List.setIfInBounds_toArray, List.set_cons_zero, List.set_cons_succ]))
        refine ordB_only (opB_call rfl rfl (fun K hK => ?_))
        go_simp
        refine hK.out _ _ (hSd2.alloc hSd2.size _) (fun hSd3 => ?_)
        clear hK K
        have nG := Blk.new Wd2 33 #[.slice none 0 0, .bool false]
        have ho := ho.alloc (.cells #[.slice none 0 0, .bool false] 33)
        obtain ⟨bO, hbO⟩ : ∃ b, Wd2.heap.size = b := ⟨_, rfl⟩
        have nOB : w2.heap.size ≤ bO := by rw [← hbO]; exact hSd2.size
        rw [hbO] at nG ⊢
        clear hbO
        obtain ⟨Wd3, qq⟩ : ∃ W', Wd2.alloc (.cells #[.slice none 0 0, .bool false] 33) = W' := ⟨_, rfl⟩
        rw [qq] at hSd3 ho nG ⊢
        clear qq
        try simp only [Act.put, List.setIfInBounds_toArray, List.set_cons_zero, List.set_cons_succ]
        refine ordB_only (opB_call rfl rfl (fun K hK => ?_))
        have nGc0 := nG.cell 0
        have nGc1 := nG.cell 1
        have nGf0 := nG.frozen 0
        have nGf1 := nG.frozen 1
        have nGl := nG.lt
        simp at nGc0 nGc1
        go_simp
        refine hK.out _ _ ((hSd3.setCell (p := ⟨bO, 0, none⟩) nOB _).setCell (p := ⟨bO, 1, none⟩) nOB _) (fun hSd4 => ?_)
        clear hK K
        have hne := own_blk_ne ho nG (by decide)
        have ho2 := own_set (own_set ho (a := ⟨bO, 0, none⟩) hne (.slice A9 ms0.length c9)) (a := ⟨bO, 1, none⟩) hne (.bool wh)
        have nG2 := (nG.set_ 0 (.slice A9 ms0.length c9)).set_ 1 (.bool wh)
        obtain ⟨Wd4, qq⟩ : ∃ W', (Wd3.setCell ⟨bO, 0, none⟩ (.slice A9 ms0.length c9)).setCell ⟨bO, 1, none⟩ (.bool wh) = W' := ⟨_, rfl⟩
        rw [qq] at ho2 nG2 hSd4 ⊢
        refine ordB_nil ?_
        go_wp2_with fail
        go_meet
        exact ⟨bO, A9, c9, rfl, nOB, by simpa using nG2, ho2, hc9, hcm9, hSd4⟩
      · go_simp
        refine hK.out _ _ (hSd1.alloc hSd1.size _) (fun hSd5 => ?_)
        clear hK K
        have nG := Blk.new Wd1 33 #[.slice none 0 0, .bool false]
        have ho := ho.alloc (.cells #[.slice none 0 0, .bool false] 33)
        obtain ⟨bO, hbO⟩ : ∃ b, Wd1.heap.size = b := ⟨_, rfl⟩
        have nOB : w2.heap.size ≤ bO := by rw [← hbO]; exact hSd1.size
        rw [hbO] at nG ⊢
        clear hbO
        obtain ⟨Wd5, qq⟩ : ∃ W', Wd1.alloc (.cells #[.slice none 0 0, .bool false] 33) = W' := ⟨_, rfl⟩
        rw [qq] at hSd5 ho nG ⊢
        clear qq
        try simp only [Act.put, List.setIfInBounds_toArray, List.set_cons_zero, List.set_cons_succ]
        refine ordB_only (opB_call rfl rfl (fun K hK => ?_))
        refine wp_appS (enc := encMc) (R := RMc) _ _ 31 rfl w2.heap.size 61 i0 _ 2 32 Try.underlying31 hi hz0 hz1 hz2 rfl (by decide) (.slice (some ⟨vb, 0, none⟩) 0 0) _ _ rfl ho C e ms0 rfl ((HC2.out).below keeps_mc hSd5) (fun _ _ _ h => h) (fun _ => rfl) (fun u hu => one_mc hu) (by omega) (by decide) hSd5.size ?_
        intro v9 Wd6 h91 h92 h93
        refine hK.out _ _ (hSd5.trans h92) (fun hSd6 => ?_)
        clear hK K
        have nG := nG.apps h93 (own_blk_ne ho nG (by decide))
        have ho : Wd6.ownsRow w2.heap.size 61 2 v9 ms0.length (ms0.flatMap encMc) := by simpa using h91
        obtain ⟨A9, c9, rfl, hc9, hcm9, _⟩ := own_slr (R := RMc) ho (fun _ => rfl) (fun _ => rfl) rfl
        clear h91 h92 h93
        try simp only [Act.put, List.setIfInBounds_toArray, List.set_cons_zero, List.set_cons_succ]
        iterate 1 (first
          | (refine ordB_skip rfl rfl ?_; simp only [Act.put, List.setIfInBounds_toArray, List.set_cons_zero, List.set_cons_succ])
          | (refine ordB_take (v := ?_) rfl rfl ?_ ?_
             rotate_left 1
             focus (intro W hW; obtain ⟨hcW, hfW⟩ := bcell hW; (go_simp <;> with_reducible rfl))
             simp only [Act.put, List.setIfInBounds_toArray, List.set_cons_zero, List.set_cons_succ]))
        refine ordB_only (opB_call rfl rfl (fun K hK => ?_))
        have nGc0 := nG.cell 0
        have nGc1 := nG.cell 1
        have nGf0 := nG.frozen 0
        have nGf1 := nG.frozen 1
        have nGl := nG.lt
        simp at nGc0 nGc1
        go_simp
        refine hK.out _ _ ((hSd6.setCell (p := ⟨bO, 0, none⟩) nOB _).setCell (p := ⟨bO, 1, none⟩) nOB _) (fun hSd7 => ?_)
        clear hK K
        have hne := own_blk_ne ho nG (by decide)
        have ho2 := own_set (own_set ho (a := ⟨bO, 0, none⟩) hne (.slice A9 ms0.length c9)) (a := ⟨bO, 1, none⟩) hne (.bool wh)
        have nG2 := (nG.set_ 0 (.slice A9 ms0.length c9)).set_ 1 (.bool wh)
        obtain ⟨Wd7, qq⟩ : ∃ W', (Wd6.setCell ⟨bO, 0, none⟩ (.slice A9 ms0.length c9)).setCell ⟨bO, 1, none⟩ (.bool wh) = W' := ⟨_, rfl⟩
        rw [qq] at ho2 nG2 hSd7 ⊢
        refine ordB_nil ?_
        go_wp2_with fail
        go_meet
        exact ⟨bO, A9, c9, rfl, nOB, by simpa using nG2, ho2, hc9, hcm9, hSd7⟩
    · go_simp
      refine hK.out _ _ (hSd.alloc hSd.size _) (fun hSd8 => ?_)
      clear hK K
      have nG := Blk.new Wd 33 #[.slice none 0 0, .bool false]
      obtain ⟨bO, hbO⟩ : ∃ b, Wd.heap.size = b := ⟨_, rfl⟩
      have nOB : w2.heap.size ≤ bO := by rw [← hbO]; exact hSd.size
      rw [hbO] at nG ⊢
      clear hbO
      obtain ⟨Wd8, qq⟩ : ∃ W', Wd.alloc (.cells #[.slice none 0 0, .bool false] 33) = W' := ⟨_, rfl⟩
      rw [qq] at hSd8 nG ⊢
      clear qq
      try simp only [Act.put, List.setIfInBounds_toArray, List.set_cons_zero, List.set_cons_succ]
      refine ordB_only (opB_call rfl rfl (fun K hK => ?_))
      go_simp
      refine hK.out _ _ (hSd8.alloc hSd8.size _) (fun hSd9 => ?_)
      clear hK K
      have nG := nG.alloc (.cells #[] 61)
      have ho := own_empty Wd8 61 2 w2.heap.size hSd8.size
      obtain ⟨vb, hvb⟩ : ∃ b, Wd8.heap.size = b := ⟨_, rfl⟩
      rw [hvb] at ho ⊢
      clear hvb
      obtain ⟨Wd9, qq⟩ : ∃ W', Wd8.alloc (.cells #[] 61) = W' := ⟨_, rfl⟩
      rw [qq] at hSd9 nG ho ⊢
      clear qq
      try simp only [Act.put, List.setIfInBounds_toArray, List.set_cons_zero, List.set_cons_succ]
      refine ordB_only (opB_call rfl rfl (fun K hK => ?_))
      refine wp_appS (enc := encMc) (R := RMc) _ _ 31 rfl w2.heap.size 61 i0 _ 2 32 Try.underlying31 hi hz0 hz1 hz2 rfl (by decide) (.slice (some ⟨vb, 0, none⟩) 0 0) _ _ rfl ho C e ms0 rfl ((HC2.out).below keeps_mc hSd9) (fun _ _ _ h => h) (fun _ => rfl) (fun u hu => one_mc hu) (by omega) (by decide) hSd9.size ?_
      intro v9 Wd10 h91 h92 h93
      refine hK.out _ _ (hSd9.trans h92) (fun hSd10 => ?_)
      clear hK K
      have nG := nG.apps h93 (own_blk_ne ho nG (by decide))
      have ho : Wd10.ownsRow w2.heap.size 61 2 v9 ms0.length (ms0.flatMap encMc) := by simpa using h91
      obtain ⟨A9, c9, rfl, hc9, hcm9, _⟩ := own_slr (R := RMc) ho (fun _ => rfl) (fun _ => rfl) rfl
      clear h91 h92 h93
      try simp only [Act.put, List.setIfInBounds_toArray, List.set_cons_zero, List.set_cons_succ]
      iterate 1 (first
        | (refine ordB_skip rfl rfl ?_; simp only [Act.put, List.setIfInBounds_toArray, List.set_cons_zero, List.set_cons_succ])
        | (refine ordB_take (v := ?_) rfl rfl ?_ ?_
           rotate_left 1
           focus (intro W hW; obtain ⟨hcW, hfW⟩ := bcell hW; (go_simp <;> with_reducible rfl))
           simp only [Act.put, List.setIfInBounds_toArray, List.set_cons_zero, List.set_cons_succ]))
      refine ordB_only (opB_call rfl rfl (fun K hK => ?_))
      have nGc0 := nG.cell 0
      have nGc1 := nG.cell 1
      have nGf0 := nG.frozen 0
      have nGf1 := nG.frozen 1
      have nGl := nG.lt
      simp at nGc0 nGc1
      go_simp
      refine hK.out _ _ ((hSd10.setCell (p := ⟨bO, 0, none⟩) nOB _).setCell (p := ⟨bO, 1, none⟩) nOB _) (fun hSd11 => ?_)
      clear hK K
      have hne := own_blk_ne ho nG (by decide)
      have ho2 := own_set (own_set ho (a := ⟨bO, 0, none⟩) hne (.slice A9 ms0.length c9)) (a := ⟨bO, 1, none⟩) hne (.bool wh)
      have nG2 := (nG.set_ 0 (.slice A9 ms0.length c9)).set_ 1 (.bool wh)
      obtain ⟨Wd11, qq⟩ : ∃ W', (Wd10.setCell ⟨bO, 0, none⟩ (.slice A9 ms0.length c9)).setCell ⟨bO, 1, none⟩ (.bool wh) = W' := ⟨_, rfl⟩
      rw [qq] at ho2 nG2 hSd11 ⊢
      refine ordB_nil ?_
      go_wp2_with fail
      go_meet
      exact ⟨bO, A9, c9, rfl, nOB, by simpa using nG2, ho2, hc9, hcm9, hSd11⟩
  case rest =>
    obtain ⟨w5, rfl⟩ : ∃ V, V = wc := ⟨wc, rfl⟩
    obtain ⟨bO, A9, c9, rfl, hwO, hO, hown, hc9, hcm9, hb5⟩ := hcut
    clear q0 q1 v0 v1 v2 ql vl
    have htc : t = 0 ∨ t = 1 ∨ t = 2 ∨ t = 3 ∨ t = 4 := by omega
    rcases htc with rfl | rfl | rfl | rfl | rfl
    · have htt0 : pa.tmod 5 = 0 := by rw [htt]; rfl
      have htw0 : IntKind.u8.wrap 0 = 0 := by decide
      clear htt htw
      have o0 := hO.cell 0
      have o1 := hO.cell 1
      have of1 := hO.frozen 1
      have ol := hO.lt
      simp at o0 o1
      obtain ⟨q0, q1, v0, v1, v2, ⟨ql, vl⟩, _⟩ := HBX.out _ hb5
      go_upto_region 17 with fail
      have hne0 := own_blk_ne hown hO (by decide)
      have hownA := own_set hown (a := ⟨bO, 1, none⟩) hne0 (.bool (!wh))
      have hOA := hO.set_ 1 (.bool (!wh))
      have hbA := hb5.setCell (p := ⟨bO, 1, none⟩) hwO (.bool (!wh))
      obtain ⟨wA, hwA⟩ : ∃ V, w5.setCell ⟨bO, 1, none⟩ (.bool (!wh)) = V := ⟨_, rfl⟩
      rw [hwA] at hownA hOA hbA ⊢
      clear hwA o0 o1 of1 ol q0 q1 v0 v1 v2 ql vl hne0
      obtain ⟨hP0, hP1, hW0, hW1, hW2_, ⟨hWq, hWl⟩, hR⟩ := HBX.out _ hbA
      have hOt := (show Blk wA bO 33 #[.slice A9 ms0.length c9, .bool (!wh)] by simpa using hOA)
      have o0 := hOt.cell 0
      have o1 := hOt.cell 1
      have ol := hOt.lt
      have p0 := hR.cell 0
      have p1 := hR.cell 1
      have pf0 := hR.frozen 0
      have pf1 := hR.frozen 1
      have pl := hR.lt
      simp at o0 o1 p0 p1
      have HRt := Lib.hid hR
      have HOWN := Lib.hid hownA
      have HMSt := Lib.hid HM0.out
      have HBt := Lib.hid hbA
      clear hR hOt
      go_wp2_with fail
      refine ret_cell (t := 33) (cs := #[.slice A9 ms0.length c9, .bool (!wh)]) (by have := (HRt.out.set_ 0 (.slice A9 ms0.length c9)).set_ 1 (.bool (!wh)); simpa using this) rfl rfl Try.underlying33 rfl (by kernel_rfl) rfl ?_
      have hne := own_blk_ne HOWN.out HRt.out (by decide)
      have hO5 := own_set (own_set HOWN.out (a := ⟨bP, 0, none⟩) hne (.slice A9 ms0.length c9)) (a := ⟨bP, 1, none⟩) hne (.bool (!wh))
      have hE : Below w.heap.size w ((wA.setCell ⟨bP, 0, none⟩ (.slice A9 ms0.length c9)).setCell ⟨bP, 1, none⟩ (.bool (!wh))) := ((bthen HB2.out HBt.out).setCell (p := ⟨bP, 0, none⟩) hwP _).setCell (p := ⟨bP, 1, none⟩) hwP _
      obtain ⟨A8, c8, he8, hn8, hm8, hs8⟩ := own_slr (xs := ms0) (R := RMc) hO5 (fun _ => rfl) (fun _ => rfl) (rfl)
      injection he8 with h1 h2 h3
      subst h1 h3
      exact ⟨_, _, (ms0).map (·.x), (!wh), by rw [List.length_map, ← (rfl : ms0.length = (ms0).length)], ⟨msw_can hs8 HMSt.out hE, by rw [List.length_map, ← (rfl : ms0.length = (ms0).length)]; exact hn8, hm8⟩, by rw [List.length_map, ← (rfl : ms0.length = (ms0).length)]; omega, hE⟩
    · have htt1 : pa.tmod 5 = 1 := by rw [htt]; rfl
      have htw1 : IntKind.u8.wrap 1 = 1 := by decide
      clear htt htw
      by_cases hn : 0 < ms0.length
      · have hnd : decide (0 < ms0.length) = true := decide_eq_true hn
        have hn0 : ¬ (ms0.length : Int) = 0 := by omega
        have hn0n : ¬ ms0.length = 0 := by omega
        have hnil : ¬ ms0 = [] := fun e => by rw [e] at hn; exact absurd hn (by decide)
        have hnI : (0 : Int) < (ms0.length : Int) := by omega
        obtain ⟨i, hi_⟩ : ∃ q : Nat, pb % (ms0.length : Int) = (q : Int) := ⟨(pb % (ms0.length : Int)).toNat, by have := Int.emod_nonneg pb (show (ms0.length : Int) ≠ 0 by omega); omega⟩
        have hil : i < ms0.length := by have := Int.emod_lt_of_pos pb (show (0 : Int) < (ms0.length : Int) by omega); omega
        have hit : pb.tmod (ms0.length : Int) = (i : Int) := by rw [Int.tmod_eq_emod_of_nonneg hpb.1]; exact hi_
        have hiw : IntKind.i64.wrap (i : Int) = (i : Int) := IntWalk.i64_in _ (by omega)
        have hwc1 : IntKind.i64.wrap (1 + pc) = 1 + pc := IntWalk.i64_in _ (by omega)
        obtain ⟨A8, c8, he8, _, _, hs8⟩ := own_slr (R := RMc) hown (fun _ => rfl) (fun _ => rfl) rfl
        injection he8 with h1 _ h3
        subst h1 h3
        obtain ⟨g, rfl⟩ := own_form hown (by omega)
        obtain ⟨g', og, x, hAe, hgl, hxx, x0, x1⟩ := hs8.mc hil
        obtain ⟨rfl, rfl⟩ : g = g' ∧ 0 = og := by simpa using hAe
        rw [Nat.zero_add] at x0 x1
        have hxf := fun i => own_frz hown i
        have xf1 := hxf (i * 2 + 1)
        obtain ⟨xc, hxc⟩ : ∃ z, x.x.cost = z := ⟨_, rfl⟩
        rw [hxc] at x1
        have hgO : g ≠ bO := fun e => own_blk_ne hown hO (by decide) (by rw [e]; rfl)
        have hgb : w2.heap.size ≤ g := own_block_le hown g rfl
        have o0 := hO.cell 0
        have o1 := hO.cell 1
        have ol := hO.lt
        simp at o0 o1
        obtain ⟨q0, q1, v0, v1, v2, ⟨ql, vl⟩, _⟩ := HBX.out _ hb5
        have hiI : (i : Int) < (ms0.length : Int) := by omega
        have hi00 : (0 : Int) ≤ (i : Int) := by omega
        have HXX := Lib.hid hxx
        have HOW := Lib.hid hown
        have HOO := Lib.hid hO
        have HB5 := Lib.hid hb5
        clear hi_ hs8 hxc hxx hown hO hb5 hxf
        go_upto_region 9 with fail
        refine ordV_start (Below w5.heap.size w5) (fun _ => True) [17] [(0, some false), (1, some false), (2, some false), (3, some false), (4, some false), (5, some false), (6, some false), (7, some false), (8, some false), (9, some false), (10, some false), (11, some false), (12, some false), (13, some false), (14, some false), (15, none), (16, some false), (17, some true)] (by kernel_rfl) (by kernel_rfl) (by kernel_rfl) (fun _ _ _ _ _ h => h) trivial ?_
        have hS0 : Below w5.heap.size w5 w5.drew := (Below.refl _ _).drew
        obtain ⟨W0, hWd⟩ : ∃ W0, w5.drew = W0 := ⟨_, rfl⟩
        rw [hWd] at hS0 ⊢
        clear hWd
        (refine ordV_takeS (v := ?_) rfl rfl hS0 ?_ ?_; rotate_left 1; (focus (intro W hW; obtain ⟨hcW, hfW⟩ := bcell hW; (go_simp <;> (try with_reducible rfl)))); try simp only [Act.put, List.setIfInBounds_toArray, List.set_cons_zero, List.set_cons_succ])
        (refine ordV_takeS (v := ?_) rfl rfl hS0 ?_ ?_; rotate_left 1; (focus (intro W hW; obtain ⟨hcW, hfW⟩ := bcell hW; (go_simp <;> (try with_reducible rfl)))); try simp only [Act.put, List.setIfInBounds_toArray, List.set_cons_zero, List.set_cons_succ])
        (refine ordV_takeS (v := ?_) rfl rfl hS0 ?_ ?_; rotate_left 1; (focus (intro W hW; obtain ⟨hcW, hfW⟩ := bcell hW; (go_simp <;> (try with_reducible rfl)))); try simp only [Act.put, List.setIfInBounds_toArray, List.set_cons_zero, List.set_cons_succ])
        (refine ordV_takeS (v := ?_) rfl rfl hS0 ?_ ?_; rotate_left 1; (focus (intro W hW; obtain ⟨hcW, hfW⟩ := bcell hW; (go_simp <;> (try with_reducible rfl)))); try simp only [Act.put, List.setIfInBounds_toArray, List.set_cons_zero, List.set_cons_succ])
        (refine ordV_takeS (v := ?_) rfl rfl hS0 ?_ ?_; rotate_left 1; (focus (intro W hW; obtain ⟨hcW, hfW⟩ := bcell hW; (go_simp <;> (try with_reducible rfl)))); try simp only [Act.put, List.setIfInBounds_toArray, List.set_cons_zero, List.set_cons_succ])
        (refine ordV_takeS (v := ?_) rfl rfl hS0 ?_ ?_; rotate_left 1; (focus (intro W hW; obtain ⟨hcW, hfW⟩ := bcell hW; (go_simp <;> (try with_reducible rfl)))); try simp only [Act.put, List.setIfInBounds_toArray, List.set_cons_zero, List.set_cons_succ])
        (refine ordV_takeS (v := ?_) rfl rfl hS0 ?_ ?_; rotate_left 1; (focus (intro W hW; obtain ⟨hcW, hfW⟩ := bcell hW; (go_simp <;> (try with_reducible rfl)))); try simp only [Act.put, List.setIfInBounds_toArray, List.set_cons_zero, List.set_cons_succ])
        (refine ordV_takeS (v := ?_) rfl rfl hS0 ?_ ?_; rotate_left 1; (focus (intro W hW; obtain ⟨hcW, hfW⟩ := bcell hW; (go_simp <;> (try with_reducible rfl)))); try simp only [Act.put, List.setIfInBounds_toArray, List.set_cons_zero, List.set_cons_succ])
        (refine ordV_takeS (v := ?_) rfl rfl hS0 ?_ ?_; rotate_left 1; (focus (intro W hW; obtain ⟨hcW, hfW⟩ := bcell hW; (go_simp <;> (try with_reducible rfl)))); try simp only [Act.put, List.setIfInBounds_toArray, List.set_cons_zero, List.set_cons_succ])
        (refine ordV_takeS (v := ?_) rfl rfl hS0 ?_ ?_; rotate_left 1; (focus (intro W hW; obtain ⟨hcW, hfW⟩ := bcell hW; (go_simp <;> (try with_reducible rfl)))); try simp only [Act.put, List.setIfInBounds_toArray, List.set_cons_zero, List.set_cons_succ])
        (refine ordV_takeS (v := ?_) rfl rfl hS0 ?_ ?_; rotate_left 1; (focus (intro W hW; obtain ⟨hcW, hfW⟩ := bcell hW; (go_simp <;> (try with_reducible rfl)))); try simp only [Act.put, List.setIfInBounds_toArray, List.set_cons_zero, List.set_cons_succ])
        (refine ordV_takeS (v := ?_) rfl rfl hS0 ?_ ?_; rotate_left 1; (focus (intro W hW; obtain ⟨hcW, hfW⟩ := bcell hW; (go_simp <;> (try with_reducible rfl)))); try simp only [Act.put, List.setIfInBounds_toArray, List.set_cons_zero, List.set_cons_succ])
        (refine ordV_takeS (v := ?_) rfl rfl hS0 ?_ ?_; rotate_left 1; (focus (intro W hW; obtain ⟨hcW, hfW⟩ := bcell hW; (go_simp <;> (try with_reducible rfl)))); try simp only [Act.put, List.setIfInBounds_toArray, List.set_cons_zero, List.set_cons_succ])
        (refine ordV_takeS (v := ?_) rfl rfl hS0 ?_ ?_; rotate_left 1; (focus (intro W hW; obtain ⟨hcW, hfW⟩ := bcell hW; (go_simp <;> (try with_reducible rfl)))); try simp only [Act.put, List.setIfInBounds_toArray, List.set_cons_zero, List.set_cons_succ])
        (refine ordV_takeS (v := ?_) rfl rfl hS0 ?_ ?_; rotate_left 1; (focus (intro W hW; obtain ⟨hcW, hfW⟩ := bcell hW; (go_simp <;> (try with_reducible rfl)))); try simp only [Act.put, List.setIfInBounds_toArray, List.set_cons_zero, List.set_cons_succ])
        (refine ordV_takeR (v := ?_) rfl rfl ?_ ?_; rotate_left 1; (focus (intro W hW; (go_simp <;> (try with_reducible rfl)))); try simp only [Act.put, List.setIfInBounds_toArray, List.set_cons_zero, List.set_cons_succ])
        (refine ordV_takeS (v := ?_) rfl rfl hS0 ?_ ?_; rotate_left 1; (focus (intro W hW; obtain ⟨hcW, hfW⟩ := bcell hW; (go_simp <;> (try with_reducible rfl)))); try simp only [Act.put, List.setIfInBounds_toArray, List.set_cons_zero, List.set_cons_succ])
        refine ordV_call rfl rfl (fun K hK => ?_)
        obtain ⟨hcS, hfS⟩ := bcell hS0
        go_simp
        refine hK.out _ _ trivial (fun _ h => by cases h) ?_
        clear hK K
        refine ordV_nil ?_
        obtain ⟨z, hz⟩ : ∃ z, IntKind.i64.wrap (xc + (1 + pc)) = z := ⟨_, rfl⟩
        rw [hz]
        have hownA := own_setC (own_below HOW.out hS0) HXX.out z
        have hOA := (HOO.out.below hS0 HOO.out.lt).far (p := ⟨g, i * 2 + 1, none⟩) (fun e => hgO e.symm) (.int .i64 z)
        have hbA := (bthen HB5.out hS0).setCell (p := ⟨g, i * 2 + 1, none⟩) hgb (.int .i64 z)
        obtain ⟨wA, hwA⟩ : ∃ V, W0.setCell ⟨g, i * 2 + 1, none⟩ (.int .i64 z) = V := ⟨_, rfl⟩
        rw [hwA] at hownA hOA hbA ⊢
        have hmsA : MsW w (ms0.set i ⟨x.A, x.c, ⟨x.x.links, z⟩⟩) := HM0.out.set i (HM0.out x (List.mem_of_getElem? HXX.out))
        clear hwA hz o0 o1 ol q0 q1 v0 v1 v2 ql vl x0 x1 xf1 hcS hfS hS0
        obtain ⟨hP0, hP1, hW0, hW1, hW2_, ⟨hWq, hWl⟩, hR⟩ := HBX.out _ hbA
        have hOt := hOA
        have o0 := hOt.cell 0
        have o1 := hOt.cell 1
        have ol := hOt.lt
        have p0 := hR.cell 0
        have p1 := hR.cell 1
        have pf0 := hR.frozen 0
        have pf1 := hR.frozen 1
        have pl := hR.lt
        simp at o0 o1 p0 p1
        have HRt := Lib.hid hR
        have HOWN := Lib.hid hownA
        have HMSt := Lib.hid hmsA
        have HBt := Lib.hid hbA
        clear hR hOt
        go_wp2_with fail
        refine ret_cell (t := 33) (cs := #[.slice (some ⟨g, 0, none⟩) ms0.length c9, .bool wh]) (by have := (HRt.out.set_ 0 (.slice (some ⟨g, 0, none⟩) ms0.length c9)).set_ 1 (.bool wh); simpa using this) rfl rfl Try.underlying33 rfl (by kernel_rfl) rfl ?_
        have hne := own_blk_ne HOWN.out HRt.out (by decide)
        have hO5 := own_set (own_set HOWN.out (a := ⟨bP, 0, none⟩) hne (.slice (some ⟨g, 0, none⟩) ms0.length c9)) (a := ⟨bP, 1, none⟩) hne (.bool wh)
        have hE : Below w.heap.size w ((wA.setCell ⟨bP, 0, none⟩ (.slice (some ⟨g, 0, none⟩) ms0.length c9)).setCell ⟨bP, 1, none⟩ (.bool wh)) := ((bthen HB2.out HBt.out).setCell (p := ⟨bP, 0, none⟩) hwP _).setCell (p := ⟨bP, 1, none⟩) hwP _
        obtain ⟨A8, c8, he8, hn8, hm8, hs8⟩ := own_slr (xs := (ms0.set i ⟨x.A, x.c, ⟨x.x.links, z⟩⟩)) (R := RMc) hO5 (fun _ => rfl) (fun _ => rfl) (by rw [List.length_set])
        injection he8 with h1 h2 h3
        subst h1 h3
        exact ⟨_, _, ((ms0.set i ⟨x.A, x.c, ⟨x.x.links, z⟩⟩)).map (·.x), wh, by rw [List.length_map, ← (by rw [List.length_set] : ms0.length = ((ms0.set i ⟨x.A, x.c, ⟨x.x.links, z⟩⟩)).length)], ⟨msw_can hs8 HMSt.out hE, by rw [List.length_map, ← (by rw [List.length_set] : ms0.length = ((ms0.set i ⟨x.A, x.c, ⟨x.x.links, z⟩⟩)).length)]; exact hn8, hm8⟩, by rw [List.length_map, ← (by rw [List.length_set] : ms0.length = ((ms0.set i ⟨x.A, x.c, ⟨x.x.links, z⟩⟩)).length)]; omega, hE⟩
      · have hnd : decide (0 < ms0.length) = false := decide_eq_false hn
        have o0 := hO.cell 0
        have o1 := hO.cell 1
        have ol := hO.lt
        simp at o0 o1
        obtain ⟨q0, q1, v0, v1, v2, ⟨ql, vl⟩, _⟩ := HBX.out _ hb5
        go_upto_region 17 with fail
        clear o0 o1 ol q0 q1 v0 v1 v2 ql vl
        obtain ⟨hP0, hP1, hW0, hW1, hW2_, ⟨hWq, hWl⟩, hR⟩ := HBX.out _ hb5
        have hOt := hO
        have o0 := hOt.cell 0
        have o1 := hOt.cell 1
        have ol := hOt.lt
        have p0 := hR.cell 0
        have p1 := hR.cell 1
        have pf0 := hR.frozen 0
        have pf1 := hR.frozen 1
        have pl := hR.lt
        simp at o0 o1 p0 p1
        have HRt := Lib.hid hR
        have HOWN := Lib.hid hown
        have HMSt := Lib.hid HM0.out
        have HBt := Lib.hid hb5
        clear hR hOt
        go_wp2_with fail
        refine ret_cell (t := 33) (cs := #[.slice A9 ms0.length c9, .bool wh]) (by have := (HRt.out.set_ 0 (.slice A9 ms0.length c9)).set_ 1 (.bool wh); simpa using this) rfl rfl Try.underlying33 rfl (by kernel_rfl) rfl ?_
        have hne := own_blk_ne HOWN.out HRt.out (by decide)
        have hO5 := own_set (own_set HOWN.out (a := ⟨bP, 0, none⟩) hne (.slice A9 ms0.length c9)) (a := ⟨bP, 1, none⟩) hne (.bool wh)
        have hE : Below w.heap.size w ((w5.setCell ⟨bP, 0, none⟩ (.slice A9 ms0.length c9)).setCell ⟨bP, 1, none⟩ (.bool wh)) := ((bthen HB2.out HBt.out).setCell (p := ⟨bP, 0, none⟩) hwP _).setCell (p := ⟨bP, 1, none⟩) hwP _
        obtain ⟨A8, c8, he8, hn8, hm8, hs8⟩ := own_slr (xs := ms0) (R := RMc) hO5 (fun _ => rfl) (fun _ => rfl) (rfl)
        injection he8 with h1 h2 h3
        subst h1 h3
        exact ⟨_, _, (ms0).map (·.x), wh, by rw [List.length_map, ← (rfl : ms0.length = (ms0).length)], ⟨msw_can hs8 HMSt.out hE, by rw [List.length_map, ← (rfl : ms0.length = (ms0).length)]; exact hn8, hm8⟩, by rw [List.length_map, ← (rfl : ms0.length = (ms0).length)]; omega, hE⟩
    · have htt2 : pa.tmod 5 = 2 := by rw [htt]; rfl
      have htw2 : IntKind.u8.wrap 2 = 2 := by decide
      clear htt htw
      have hE2 : ∃ V, w5.alloc (.cells #[.slice none 0 0, .int .i64 pc] 61) = V := ⟨_, rfl⟩
      obtain ⟨wO, hwO⟩ := hE2
      have hownO : wO.ownsRow w2.heap.size 61 2 (.slice A9 ms0.length c9) ms0.length (ms0.flatMap encMc) := by rw [← hwO]; exact hown.alloc _
      have hOO : Blk wO bO 33 #[.slice A9 ms0.length c9, .bool wh] := by rw [← hwO]; exact hO.alloc _
      have hbO : Below w2.heap.size w2 wO := by rw [← hwO]; exact hb5.alloc hb5.size _
      have hsO : SlR 2 RMc wO (some ⟨w5.heap.size, 0, none⟩) [MC.mk none 0 (Can.mk [] pc)] := by rw [← hwO]; exact slr_blk (enc := encMc) (Blk.new_ rfl) (fun _ => rfl) (fun _ => rfl)
      have hszO : w2.heap.size ≤ wO.heap.size := hbO.size
      have hneO := own_blk_ne hownO hOO (by decide)
      have HOWNO := Lib.hid hownO
      have HOO := Lib.hid hOO
      have HBO := Lib.hid hbO
      have HSO := Lib.hid hsO
      have HWO := Lib.hid hwO
      have o0 := hO.cell 0
      have o1 := hO.cell 1
      have ol := hO.lt
      simp at o0 o1
      obtain ⟨q0, q1, v0, v1, v2, ⟨ql, vl⟩, _⟩ := HBX.out _ hb5
      clear hwO hownO hOO hbO hsO hown hO hb5
      go_upto_region 17 with (at_builtin; go_loud (rw [HWO.out]; refine wpList_appS (enc := encMc) (R := RMc) rfl _ _ 31 rfl w2.heap.size 61 i0 _ 2 32 Try.underlying31 hi hz0 hz1 hz2 rfl (by decide) (.slice A9 ms0.length c9) _ _ rfl HOWNO.out (some ⟨w5.heap.size, 0, none⟩) 1 [MC.mk none 0 (Can.mk [] pc)] rfl HSO.out (fun _ _ _ h => h) (fun _ => rfl) (fun u hu => one_mc hu) (by simp; omega) (by decide) hszO ?_; intro v9 w9 h91 h92 h93; have hownP : w9.ownsRow w2.heap.size 61 2 v9 (ms0.length + 1) ((ms0 ++ [MC.mk none 0 (Can.mk [] pc)]).flatMap encMc) := (by rw [List.flatMap_append]; exact h91); obtain ⟨A10, c10, rfl, hc10, hcm10, _⟩ := own_slr (R := RMc) hownP (fun _ => rfl) (fun _ => rfl) (by simp); have hOP := HOO.out.apps h93 hneO; have o0 := hOP.cell 0; have of0 := hOP.frozen 0; have o1 := hOP.cell 1; have ol := hOP.lt; simp at o0 o1; clear h91 h93))
      have hne2 := own_blk_ne hownP hOP (by decide)
      have hownA := own_set hownP (a := ⟨bO, 0, none⟩) hne2 (.slice A10 (ms0.length + 1) c10)
      have hOA := hOP.set_ 0 (.slice A10 (ms0.length + 1) c10)
      have hbA := (HBO.out.trans h92).setCell (p := ⟨bO, 0, none⟩) hwO (.slice A10 (ms0.length + 1) c10)
      obtain ⟨wA, hwA⟩ : ∃ V, w9.setCell ⟨bO, 0, none⟩ (.slice A10 (ms0.length + 1) c10) = V := ⟨_, rfl⟩
      rw [hwA] at hownA hOA hbA ⊢
      have hmsA : MsW w (ms0 ++ [MC.mk none 0 (Can.mk [] pc)]) := fun m hm => (List.mem_append.1 hm).elim (HM0.out m) (fun h => by rw [List.mem_singleton.1 h]; exact ⟨SlR.nil, Nat.le_refl _, Nat.zero_le _⟩)
      clear hwA hownP hOP hne2 h92 o0 o1 ol of0 q0 q1 v0 v1 v2 ql vl
      obtain ⟨hP0, hP1, hW0, hW1, hW2_, ⟨hWq, hWl⟩, hR⟩ := HBX.out _ hbA
      have hOt := (show Blk wA bO 33 #[.slice A10 (ms0.length + 1) c10, .bool wh] by simpa using hOA)
      have o0 := hOt.cell 0
      have o1 := hOt.cell 1
      have ol := hOt.lt
      have p0 := hR.cell 0
      have p1 := hR.cell 1
      have pf0 := hR.frozen 0
      have pf1 := hR.frozen 1
      have pl := hR.lt
      simp at o0 o1 p0 p1
      have HRt := Lib.hid hR
      have HOWN := Lib.hid hownA
      have HMSt := Lib.hid hmsA
      have HBt := Lib.hid hbA
      clear hR hOt
      go_wp2_with fail
      refine ret_cell (t := 33) (cs := #[.slice A10 (ms0.length + 1) c10, .bool wh]) (by have := (HRt.out.set_ 0 (.slice A10 (ms0.length + 1) c10)).set_ 1 (.bool wh); simpa using this) rfl rfl Try.underlying33 rfl (by kernel_rfl) rfl ?_
      have hne := own_blk_ne HOWN.out HRt.out (by decide)
      have hO5 := own_set (own_set HOWN.out (a := ⟨bP, 0, none⟩) hne (.slice A10 (ms0.length + 1) c10)) (a := ⟨bP, 1, none⟩) hne (.bool wh)
      have hE : Below w.heap.size w ((wA.setCell ⟨bP, 0, none⟩ (.slice A10 (ms0.length + 1) c10)).setCell ⟨bP, 1, none⟩ (.bool wh)) := ((bthen HB2.out HBt.out).setCell (p := ⟨bP, 0, none⟩) hwP _).setCell (p := ⟨bP, 1, none⟩) hwP _
      obtain ⟨A8, c8, he8, hn8, hm8, hs8⟩ := own_slr (xs := (ms0 ++ [MC.mk none 0 (Can.mk [] pc)])) (R := RMc) hO5 (fun _ => rfl) (fun _ => rfl) (by simp)
      injection he8 with h1 h2 h3
      subst h1 h3
      exact ⟨_, _, ((ms0 ++ [MC.mk none 0 (Can.mk [] pc)])).map (·.x), wh, by rw [List.length_map, ← (by simp : (ms0.length + 1) = ((ms0 ++ [MC.mk none 0 (Can.mk [] pc)])).length)], ⟨msw_can hs8 HMSt.out hE, by rw [List.length_map, ← (by simp : (ms0.length + 1) = ((ms0 ++ [MC.mk none 0 (Can.mk [] pc)])).length)]; exact hn8, hm8⟩, by rw [List.length_map, ← (by simp : (ms0.length + 1) = ((ms0 ++ [MC.mk none 0 (Can.mk [] pc)])).length)]; omega, hE⟩
    · have htt3 : pa.tmod 5 = 3 := by rw [htt]; rfl
      have htw3 : IntKind.u8.wrap 3 = 3 := by decide
      clear htt htw
      by_cases hn : 1 < ms0.length
      · have hnd : decide (1 < ms0.length) = true := decide_eq_true hn
        have hwn1 : IntKind.i64.wrap ((ms0.length : Int) - 1) = (ms0.length : Int) - 1 := IntWalk.i64_in _ (by omega)
        have hn0 : ¬ (ms0.length : Int) - 1 = 0 := by omega
        have hnI : (1 : Int) < (ms0.length : Int) := by omega
        obtain ⟨i, hi_⟩ : ∃ q : Nat, pb % ((ms0.length : Int) - 1) = (q : Int) := ⟨(pb % ((ms0.length : Int) - 1)).toNat, by have := Int.emod_nonneg pb (show (ms0.length : Int) - 1 ≠ 0 by omega); omega⟩
        have hil : i + 1 < ms0.length := by have := Int.emod_lt_of_pos pb (show (0 : Int) < (ms0.length : Int) - 1 by omega); omega
        have hit : pb.tmod ((ms0.length : Int) - 1) = (i : Int) := by rw [Int.tmod_eq_emod_of_nonneg hpb.1]; exact hi_
        have hiw : IntKind.i64.wrap (i : Int) = (i : Int) := IntWalk.i64_in _ (by omega)
        have hiw1 : IntKind.i64.wrap ((i : Int) + 1) = (i : Int) + 1 := IntWalk.i64_in _ (by omega)
        have hn1n : ¬ ms0.length = 1 := by omega
        have hn1i : ¬ (ms0.length : Int) = 1 := by omega
        have hnil : ¬ ms0 = [] := fun e => by rw [e] at hn; exact absurd hn (by decide)
        have hiI : (i : Int) < (ms0.length : Int) := by omega
        have hiI1 : (i : Int) + 1 < (ms0.length : Int) := by omega
        have hi00 : (0 : Int) ≤ (i : Int) := by omega
        have hi01 : (0 : Int) ≤ (i : Int) + 1 := by omega
        obtain ⟨A8, c8, he8, _, _, hs8⟩ := own_slr (R := RMc) hown (fun _ => rfl) (fun _ => rfl) rfl
        injection he8 with h1 _ h3
        subst h1 h3
        obtain ⟨g, rfl⟩ := own_form hown (by omega)
        obtain ⟨g', og, x, hAe, hgl, hxx, x0, x1⟩ := hs8.mc (k := i) (by omega)
        obtain ⟨rfl, rfl⟩ : g = g' ∧ 0 = og := by simpa using hAe
        obtain ⟨gC, oC, y, rfl, hgC, hyy, y0, y1⟩ := (HC2.out.below keeps_mc hb5).mc (k := i + 1) hil
        obtain ⟨gC', oC', x', hCe, _, hxx', u0, u1⟩ := (HC2.out.below keeps_mc hb5).mc (k := i) (by omega)
        obtain ⟨rfl, rfl⟩ : gC = gC' ∧ oC = oC' := by simpa using hCe
        rw [hxx] at hxx'
        obtain rfl := Option.some.inj hxx'
        rw [Nat.zero_add] at x0 x1
        have xf0 := own_frz hown (i * 2)
        have xf1 := own_frz hown (i * 2 + 1)
        have hgO : g ≠ bO := fun e => own_blk_ne hown hO (by decide) (by rw [e]; rfl)
        have hgb : w2.heap.size ≤ g := own_block_le hown g rfl
        have hCg : gC ≠ g := fun e => by obtain ⟨_, _, _, hCe2, hgC2, _⟩ := HC2.out.mc (k := i) (by omega); injection hCe2 with hCe2; injection hCe2 with h1 _ _; omega
        have o0 := hO.cell 0
        have o1 := hO.cell 1
        have ol := hO.lt
        simp at o0 o1
        obtain ⟨q0, q1, v0, v1, v2, ⟨ql, vl⟩, _⟩ := HBX.out _ hb5
        have HXX := Lib.hid hxx
        have HYY := Lib.hid hyy
        have HOW := Lib.hid hown
        have HOO := Lib.hid hO
        have HB5 := Lib.hid hb5
        have hmx := HM0.out x (List.mem_of_getElem? hxx)
        have hmy := HM0.out y (List.mem_of_getElem? hyy)
        have HMX := Lib.hid hmx
        have HMY := Lib.hid hmy
        obtain ⟨Ax, cx, ⟨lx, kx⟩⟩ := x
        obtain ⟨Ay, cy, ⟨ly, ky⟩⟩ := y
        simp only at x0 x1 y0 y1 u0 u1
        clear hi_ hs8 hxx hyy hown hO hb5 hCe hmx hmy
        go_upto_region 15 with fail
        refine ordV_start (Below w5.heap.size w5) (fun _ => True) [10] [(0, some false), (1, some false), (2, some false), (3, some false), (4, some false), (5, some false), (6, some false), (7, some false), (8, some false), (9, some false), (10, some true)] (by kernel_rfl) (by kernel_rfl) (by kernel_rfl) (fun _ _ _ _ _ h => h) trivial ?_
        have hS0 : Below w5.heap.size w5 w5.drew := (Below.refl _ _).drew
        obtain ⟨W0, hWd⟩ : ∃ W0, w5.drew = W0 := ⟨_, rfl⟩
        rw [hWd] at hS0 ⊢
        clear hWd
        (refine ordV_takeS (v := ?_) rfl rfl hS0 ?_ ?_; rotate_left 1; (focus (intro W hW; obtain ⟨hcW, hfW⟩ := bcell hW; (go_simp <;> (try with_reducible rfl)))); try simp only [Act.put, List.setIfInBounds_toArray, List.set_cons_zero, List.set_cons_succ])
        (refine ordV_takeS (v := ?_) rfl rfl hS0 ?_ ?_; rotate_left 1; (focus (intro W hW; obtain ⟨hcW, hfW⟩ := bcell hW; (go_simp <;> (try with_reducible rfl)))); try simp only [Act.put, List.setIfInBounds_toArray, List.set_cons_zero, List.set_cons_succ])
        (refine ordV_takeS (v := ?_) rfl rfl hS0 ?_ ?_; rotate_left 1; (focus (intro W hW; obtain ⟨hcW, hfW⟩ := bcell hW; (go_simp <;> (try with_reducible rfl)))); try simp only [Act.put, List.setIfInBounds_toArray, List.set_cons_zero, List.set_cons_succ])
        (refine ordV_takeS (v := ?_) rfl rfl hS0 ?_ ?_; rotate_left 1; (focus (intro W hW; obtain ⟨hcW, hfW⟩ := bcell hW; (go_simp <;> (try with_reducible rfl)))); try simp only [Act.put, List.setIfInBounds_toArray, List.set_cons_zero, List.set_cons_succ])
        (refine ordV_takeS (v := ?_) rfl rfl hS0 ?_ ?_; rotate_left 1; (focus (intro W hW; obtain ⟨hcW, hfW⟩ := bcell hW; (go_simp <;> (try with_reducible rfl)))); try simp only [Act.put, List.setIfInBounds_toArray, List.set_cons_zero, List.set_cons_succ])
        (refine ordV_takeS (v := ?_) rfl rfl hS0 ?_ ?_; rotate_left 1; (focus (intro W hW; obtain ⟨hcW, hfW⟩ := bcell hW; (go_simp <;> (try with_reducible rfl)))); try simp only [Act.put, List.setIfInBounds_toArray, List.set_cons_zero, List.set_cons_succ])
        (refine ordV_takeS (v := ?_) rfl rfl hS0 ?_ ?_; rotate_left 1; (focus (intro W hW; obtain ⟨hcW, hfW⟩ := bcell hW; (go_simp <;> (try with_reducible rfl)))); try simp only [Act.put, List.setIfInBounds_toArray, List.set_cons_zero, List.set_cons_succ])
        (refine ordV_takeS (v := ?_) rfl rfl hS0 ?_ ?_; rotate_left 1; (focus (intro W hW; obtain ⟨hcW, hfW⟩ := bcell hW; (go_simp <;> (try with_reducible rfl)))); try simp only [Act.put, List.setIfInBounds_toArray, List.set_cons_zero, List.set_cons_succ])
        (refine ordV_takeS (v := ?_) rfl rfl hS0 ?_ ?_; rotate_left 1; (focus (intro W hW; obtain ⟨hcW, hfW⟩ := bcell hW; (go_simp <;> (try with_reducible rfl)))); try simp only [Act.put, List.setIfInBounds_toArray, List.set_cons_zero, List.set_cons_succ])
        (refine ordV_takeS (v := ?_) rfl rfl hS0 ?_ ?_; rotate_left 1; (focus (intro W hW; obtain ⟨hcW, hfW⟩ := bcell hW; (go_simp <;> (try with_reducible rfl)))); try simp only [Act.put, List.setIfInBounds_toArray, List.set_cons_zero, List.set_cons_succ])
        refine ordV_call rfl rfl (fun K hK => ?_)
        obtain ⟨hcS, hfS⟩ := bcell hS0
        go_simp
        refine hK.out _ _ trivial (fun _ h => by cases h) ?_
        clear hK K
        refine ordV_nil ?_
        have hownB := own_setM (own_below HOW.out hS0) HXX.out ⟨Ay, cy, ⟨ly, ky⟩⟩
        have hOB := ((HOO.out.below hS0 HOO.out.lt).far (p := ⟨g, i * 2, none⟩) (fun e => hgO e.symm) (.slice Ay ly.length cy)).far (p := ⟨g, i * 2 + 1, none⟩) (fun e => hgO e.symm) (.int .i64 ky)
        have hbB := ((bthen HB5.out hS0).setCell (p := ⟨g, i * 2, none⟩) hgb (.slice Ay ly.length cy)).setCell (p := ⟨g, i * 2 + 1, none⟩) hgb (.int .i64 ky)
        simp only at hownB
        obtain ⟨wB, hwB⟩ : ∃ V, (W0.setCell ⟨g, i * 2, none⟩ (.slice Ay ly.length cy)).setCell ⟨g, i * 2 + 1, none⟩ (.int .i64 ky) = V := ⟨_, rfl⟩
        rw [hwB] at hownB hOB hbB ⊢
        clear hwB o0 o1 ol q0 q1 v0 v1 v2 ql vl hcS hfS hS0 x0 x1 y0 y1 u0 u1 xf0 xf1
        have hyy1 : (ms0.set i ⟨Ay, cy, ⟨ly, ky⟩⟩)[i + 1]? = some ⟨Ay, cy, ⟨ly, ky⟩⟩ := by rw [List.getElem?_set_ne (by omega)]; exact HYY.out
        have HY1 := Lib.hid hyy1
        have HL1 : Hid ((ms0.set i ⟨Ay, cy, ⟨ly, ky⟩⟩).length = ms0.length) := List.length_set
        have hms1 : MsW w (ms0.set i ⟨Ay, cy, ⟨ly, ky⟩⟩) := HM0.out.set i HMY.out
        have HMS1 := Lib.hid hms1
        obtain ⟨A8, c8, he8, _, _, hs9⟩ := own_slr (R := RMc) hownB (fun _ => rfl) (fun _ => rfl) HL1.out.symm
        injection he8 with h1 _ h3
        subst h1 h3
        obtain ⟨g', og', z, hAe, hgl2, hzz, z0, z1⟩ := hs9.mc (k := i + 1) (by rw [HL1.out]; exact hil)
        obtain ⟨rfl, rfl⟩ : g = g' ∧ 0 = og' := by simpa using hAe
        rw [hyy1] at hzz
        obtain rfl := Option.some.inj hzz
        simp only at z0 z1
        rw [Nat.zero_add] at z0 z1
        have zf0 := own_frz hownB ((i + 1) * 2)
        have zf1 := own_frz hownB ((i + 1) * 2 + 1)
        obtain ⟨gD, oD, x', hCe, hgD, hxx', u0, u1⟩ := (HC2.out.below keeps_mc hbB).mc (k := i) (by omega)
        obtain ⟨rfl, rfl⟩ : gC = gD ∧ oC = oD := by simpa using hCe
        rw [HXX.out] at hxx'
        obtain rfl := Option.some.inj hxx'
        simp only at u0 u1
        have o0 := hOB.cell 0
        have o1 := hOB.cell 1
        have ol := hOB.lt
        simp at o0 o1
        obtain ⟨q0, q1, v0, v1, v2, ⟨ql, vl⟩, _⟩ := HBX.out _ hbB
        have HOWB := Lib.hid hownB
        have HOOB := Lib.hid hOB
        have HBB := Lib.hid hbB
        clear hs9 hyy1 hownB hOB hbB hAe hCe hms1
        generalize ms0.set i ⟨Ay, cy, ⟨ly, ky⟩⟩ = ms1 at *
        go_upto_region 16 with fail
        refine ordV_start (Below wB.heap.size wB) (fun _ => True) [10] [(0, some false), (1, some false), (2, some false), (3, some false), (4, some false), (5, some false), (6, some false), (7, some false), (8, some false), (9, some false), (10, some true)] (by kernel_rfl) (by kernel_rfl) (by kernel_rfl) (fun _ _ _ _ _ h => h) trivial ?_
        have hS0 : Below wB.heap.size wB wB.drew := (Below.refl _ _).drew
        obtain ⟨W0, hWd⟩ : ∃ W0, wB.drew = W0 := ⟨_, rfl⟩
        rw [hWd] at hS0 ⊢
        clear hWd
        (refine ordV_takeS (v := ?_) rfl rfl hS0 ?_ ?_; rotate_left 1; (focus (intro W hW; obtain ⟨hcW, hfW⟩ := bcell hW; (go_simp <;> (try with_reducible rfl)))); try simp only [Act.put, List.setIfInBounds_toArray, List.set_cons_zero, List.set_cons_succ])
        (refine ordV_takeS (v := ?_) rfl rfl hS0 ?_ ?_; rotate_left 1; (focus (intro W hW; obtain ⟨hcW, hfW⟩ := bcell hW; (go_simp <;> (try with_reducible rfl)))); try simp only [Act.put, List.setIfInBounds_toArray, List.set_cons_zero, List.set_cons_succ])
        (refine ordV_takeS (v := ?_) rfl rfl hS0 ?_ ?_; rotate_left 1; (focus (intro W hW; obtain ⟨hcW, hfW⟩ := bcell hW; (go_simp <;> (try with_reducible rfl)))); try simp only [Act.put, List.setIfInBounds_toArray, List.set_cons_zero, List.set_cons_succ])
        (refine ordV_takeS (v := ?_) rfl rfl hS0 ?_ ?_; rotate_left 1; (focus (intro W hW; obtain ⟨hcW, hfW⟩ := bcell hW; (go_simp <;> (try with_reducible rfl)))); try simp only [Act.put, List.setIfInBounds_toArray, List.set_cons_zero, List.set_cons_succ])
        (refine ordV_takeS (v := ?_) rfl rfl hS0 ?_ ?_; rotate_left 1; (focus (intro W hW; obtain ⟨hcW, hfW⟩ := bcell hW; (go_simp <;> (try with_reducible rfl)))); try simp only [Act.put, List.setIfInBounds_toArray, List.set_cons_zero, List.set_cons_succ])
        (refine ordV_takeS (v := ?_) rfl rfl hS0 ?_ ?_; rotate_left 1; (focus (intro W hW; obtain ⟨hcW, hfW⟩ := bcell hW; (go_simp <;> (try with_reducible rfl)))); try simp only [Act.put, List.setIfInBounds_toArray, List.set_cons_zero, List.set_cons_succ])
        (refine ordV_takeS (v := ?_) rfl rfl hS0 ?_ ?_; rotate_left 1; (focus (intro W hW; obtain ⟨hcW, hfW⟩ := bcell hW; (go_simp <;> (try with_reducible rfl)))); try simp only [Act.put, List.setIfInBounds_toArray, List.set_cons_zero, List.set_cons_succ])
        (refine ordV_takeS (v := ?_) rfl rfl hS0 ?_ ?_; rotate_left 1; (focus (intro W hW; obtain ⟨hcW, hfW⟩ := bcell hW; (go_simp <;> (try with_reducible rfl)))); try simp only [Act.put, List.setIfInBounds_toArray, List.set_cons_zero, List.set_cons_succ])
        (refine ordV_takeS (v := ?_) rfl rfl hS0 ?_ ?_; rotate_left 1; (focus (intro W hW; obtain ⟨hcW, hfW⟩ := bcell hW; (go_simp <;> (try with_reducible rfl)))); try simp only [Act.put, List.setIfInBounds_toArray, List.set_cons_zero, List.set_cons_succ])
        (refine ordV_takeS (v := ?_) rfl rfl hS0 ?_ ?_; rotate_left 1; (focus (intro W hW; obtain ⟨hcW, hfW⟩ := bcell hW; (go_simp <;> (try with_reducible rfl)))); try simp only [Act.put, List.setIfInBounds_toArray, List.set_cons_zero, List.set_cons_succ])
        refine ordV_call rfl rfl (fun K hK => ?_)
        obtain ⟨hcS, hfS⟩ := bcell hS0
        go_simp
        refine hK.out _ _ trivial (fun _ h => by cases h) ?_
        clear hK K
        refine ordV_nil ?_
        have hownA := own_setM (own_below HOWB.out hS0) HY1.out ⟨Ax, cx, ⟨lx, kx⟩⟩
        have hOA := ((HOOB.out.below hS0 HOOB.out.lt).far (p := ⟨g, (i + 1) * 2, none⟩) (fun e => hgO e.symm) (.slice Ax lx.length cx)).far (p := ⟨g, (i + 1) * 2 + 1, none⟩) (fun e => hgO e.symm) (.int .i64 kx)
        have hbA := ((bthen HBB.out hS0).setCell (p := ⟨g, (i + 1) * 2, none⟩) hgb (.slice Ax lx.length cx)).setCell (p := ⟨g, (i + 1) * 2 + 1, none⟩) hgb (.int .i64 kx)
        simp only at hownA
        obtain ⟨wA, hwA⟩ : ∃ V, (W0.setCell ⟨g, (i + 1) * 2, none⟩ (.slice Ax lx.length cx)).setCell ⟨g, (i + 1) * 2 + 1, none⟩ (.int .i64 kx) = V := ⟨_, rfl⟩
        rw [hwA] at hownA hOA hbA ⊢
        have hmsA : MsW w (ms1.set (i + 1) ⟨Ax, cx, ⟨lx, kx⟩⟩) := HMS1.out.set (i + 1) HMX.out
        have hlm : ms0.length = (ms1.set (i + 1) ⟨Ax, cx, ⟨lx, kx⟩⟩).length := by rw [List.length_set]; exact HL1.out.symm
        have HLM := Lib.hid hlm
        clear hwA o0 o1 ol q0 q1 v0 v1 v2 ql vl hcS hfS hS0 z0 z1 u0 u1 zf0 zf1 hlm
        obtain ⟨hP0, hP1, hW0, hW1, hW2_, ⟨hWq, hWl⟩, hR⟩ := HBX.out _ hbA
        have hOt := hOA
        have o0 := hOt.cell 0
        have o1 := hOt.cell 1
        have ol := hOt.lt
        have p0 := hR.cell 0
        have p1 := hR.cell 1
        have pf0 := hR.frozen 0
        have pf1 := hR.frozen 1
        have pl := hR.lt
        simp at o0 o1 p0 p1
        have HRt := Lib.hid hR
        have HOWN := Lib.hid hownA
        have HMSt := Lib.hid hmsA
        have HBt := Lib.hid hbA
        clear hR hOt
        go_wp2_with fail
        refine ret_cell (t := 33) (cs := #[.slice (some ⟨g, 0, none⟩) ms0.length c9, .bool wh]) (by have := (HRt.out.set_ 0 (.slice (some ⟨g, 0, none⟩) ms0.length c9)).set_ 1 (.bool wh); simpa using this) rfl rfl Try.underlying33 rfl (by kernel_rfl) rfl ?_
        have hne := own_blk_ne HOWN.out HRt.out (by decide)
        have hO5 := own_set (own_set HOWN.out (a := ⟨bP, 0, none⟩) hne (.slice (some ⟨g, 0, none⟩) ms0.length c9)) (a := ⟨bP, 1, none⟩) hne (.bool wh)
        have hE : Below w.heap.size w ((wA.setCell ⟨bP, 0, none⟩ (.slice (some ⟨g, 0, none⟩) ms0.length c9)).setCell ⟨bP, 1, none⟩ (.bool wh)) := ((bthen HB2.out HBt.out).setCell (p := ⟨bP, 0, none⟩) hwP _).setCell (p := ⟨bP, 1, none⟩) hwP _
        obtain ⟨A8, c8, he8, hn8, hm8, hs8⟩ := own_slr (xs := (ms1.set (i + 1) ⟨Ax, cx, ⟨lx, kx⟩⟩)) (R := RMc) hO5 (fun _ => rfl) (fun _ => rfl) (HLM.out)
        injection he8 with h1 h2 h3
        subst h1 h3
        exact ⟨_, _, ((ms1.set (i + 1) ⟨Ax, cx, ⟨lx, kx⟩⟩)).map (·.x), wh, by rw [List.length_map, ← (HLM.out : ms0.length = ((ms1.set (i + 1) ⟨Ax, cx, ⟨lx, kx⟩⟩)).length)], ⟨msw_can hs8 HMSt.out hE, by rw [List.length_map, ← (HLM.out : ms0.length = ((ms1.set (i + 1) ⟨Ax, cx, ⟨lx, kx⟩⟩)).length)]; exact hn8, hm8⟩, by rw [List.length_map, ← (HLM.out : ms0.length = ((ms1.set (i + 1) ⟨Ax, cx, ⟨lx, kx⟩⟩)).length)]; omega, hE⟩
      · have hnd : decide (1 < ms0.length) = false := decide_eq_false hn
        have o0 := hO.cell 0
        have o1 := hO.cell 1
        have ol := hO.lt
        simp at o0 o1
        obtain ⟨q0, q1, v0, v1, v2, ⟨ql, vl⟩, _⟩ := HBX.out _ hb5
        go_upto_region 17 with fail
        clear o0 o1 ol q0 q1 v0 v1 v2 ql vl
        obtain ⟨hP0, hP1, hW0, hW1, hW2_, ⟨hWq, hWl⟩, hR⟩ := HBX.out _ hb5
        have hOt := hO
        have o0 := hOt.cell 0
        have o1 := hOt.cell 1
        have ol := hOt.lt
        have p0 := hR.cell 0
        have p1 := hR.cell 1
        have pf0 := hR.frozen 0
        have pf1 := hR.frozen 1
        have pl := hR.lt
        simp at o0 o1 p0 p1
        have HRt := Lib.hid hR
        have HOWN := Lib.hid hown
        have HMSt := Lib.hid HM0.out
        have HBt := Lib.hid hb5
        clear hR hOt
        go_wp2_with fail
        refine ret_cell (t := 33) (cs := #[.slice A9 ms0.length c9, .bool wh]) (by have := (HRt.out.set_ 0 (.slice A9 ms0.length c9)).set_ 1 (.bool wh); simpa using this) rfl rfl Try.underlying33 rfl (by kernel_rfl) rfl ?_
        have hne := own_blk_ne HOWN.out HRt.out (by decide)
        have hO5 := own_set (own_set HOWN.out (a := ⟨bP, 0, none⟩) hne (.slice A9 ms0.length c9)) (a := ⟨bP, 1, none⟩) hne (.bool wh)
        have hE : Below w.heap.size w ((w5.setCell ⟨bP, 0, none⟩ (.slice A9 ms0.length c9)).setCell ⟨bP, 1, none⟩ (.bool wh)) := ((bthen HB2.out HBt.out).setCell (p := ⟨bP, 0, none⟩) hwP _).setCell (p := ⟨bP, 1, none⟩) hwP _
        obtain ⟨A8, c8, he8, hn8, hm8, hs8⟩ := own_slr (xs := ms0) (R := RMc) hO5 (fun _ => rfl) (fun _ => rfl) (rfl)
        injection he8 with h1 h2 h3
        subst h1 h3
        exact ⟨_, _, (ms0).map (·.x), wh, by rw [List.length_map, ← (rfl : ms0.length = (ms0).length)], ⟨msw_can hs8 HMSt.out hE, by rw [List.length_map, ← (rfl : ms0.length = (ms0).length)]; exact hn8, hm8⟩, by rw [List.length_map, ← (rfl : ms0.length = (ms0).length)]; omega, hE⟩
    · have htt4 : pa.tmod 5 = 4 := by rw [htt]; rfl
      have htw4 : IntKind.u8.wrap 4 = 4 := by decide
      clear htt htw
      have hwn1 : IntKind.i64.wrap ((ms0.length : Int) + 1) = (ms0.length : Int) + 1 := IntWalk.i64_in _ (by omega)
      have hn0 : ¬ (ms0.length : Int) + 1 = 0 := by omega
      obtain ⟨k, hk_⟩ : ∃ q : Nat, pb % ((ms0.length : Int) + 1) = (q : Int) := ⟨(pb % ((ms0.length : Int) + 1)).toNat, by have := Int.emod_nonneg pb (show (ms0.length : Int) + 1 ≠ 0 by omega); omega⟩
      have hkl : k ≤ ms0.length := by have := Int.emod_lt_of_pos pb (show (0 : Int) < (ms0.length : Int) + 1 by omega); omega
      have hkt : pb.tmod ((ms0.length : Int) + 1) = (k : Int) := by rw [Int.tmod_eq_emod_of_nonneg hpb.1]; exact hk_
      have hkw : IntKind.i64.wrap (k : Int) = (k : Int) := IntWalk.i64_in _ (by omega)
      have hkc : k ≤ c9 := by omega
      have hkcI : (k : Int) ≤ (c9 : Int) := by omega
      have o0 := hO.cell 0
      have o1 := hO.cell 1
      have of0 := hO.frozen 0
      have ol := hO.lt
      simp at o0 o1
      obtain ⟨q0, q1, v0, v1, v2, ⟨ql, vl⟩, _⟩ := HBX.out _ hb5
      have HOW := Lib.hid hown
      have HOO := Lib.hid hO
      have HB5 := Lib.hid hb5
      clear hk_ hown hO hb5
      go_upto_region 4 with fail
      refine ordV_start (Below w5.heap.size w5) (fun _ => True) [10] [(0, some false), (1, some false), (2, some false), (3, some false), (4, some false), (5, some false), (6, some false), (7, some false), (8, some false), (9, some false), (10, some true)] (by kernel_rfl) (by kernel_rfl) (by kernel_rfl) (fun _ _ _ _ _ h => h) trivial ?_
      have hS0 : Below w5.heap.size w5 w5.drew := (Below.refl _ _).drew
      obtain ⟨W0, hWd⟩ : ∃ W0, w5.drew = W0 := ⟨_, rfl⟩
      rw [hWd] at hS0 ⊢
      clear hWd
      (refine ordV_takeS (v := ?_) rfl rfl hS0 ?_ ?_; rotate_left 1; (focus (intro W hW; obtain ⟨hcW, hfW⟩ := bcell hW; (go_simp <;> (try with_reducible rfl)))); try simp only [Act.put, List.setIfInBounds_toArray, List.set_cons_zero, List.set_cons_succ])
      (refine ordV_takeS (v := ?_) rfl rfl hS0 ?_ ?_; rotate_left 1; (focus (intro W hW; obtain ⟨hcW, hfW⟩ := bcell hW; (go_simp <;> (try with_reducible rfl)))); try simp only [Act.put, List.setIfInBounds_toArray, List.set_cons_zero, List.set_cons_succ])
      (refine ordV_takeS (v := ?_) rfl rfl hS0 ?_ ?_; rotate_left 1; (focus (intro W hW; obtain ⟨hcW, hfW⟩ := bcell hW; (go_simp <;> (try with_reducible rfl)))); try simp only [Act.put, List.setIfInBounds_toArray, List.set_cons_zero, List.set_cons_succ])
      (refine ordV_takeS (v := ?_) rfl rfl hS0 ?_ ?_; rotate_left 1; (focus (intro W hW; obtain ⟨hcW, hfW⟩ := bcell hW; (go_simp <;> (try with_reducible rfl)))); try simp only [Act.put, List.setIfInBounds_toArray, List.set_cons_zero, List.set_cons_succ])
      (refine ordV_takeS (v := ?_) rfl rfl hS0 ?_ ?_; rotate_left 1; (focus (intro W hW; obtain ⟨hcW, hfW⟩ := bcell hW; (go_simp <;> (try with_reducible rfl)))); try simp only [Act.put, List.setIfInBounds_toArray, List.set_cons_zero, List.set_cons_succ])
      (refine ordV_takeS (v := ?_) rfl rfl hS0 ?_ ?_; rotate_left 1; (focus (intro W hW; obtain ⟨hcW, hfW⟩ := bcell hW; (go_simp <;> (try with_reducible rfl)))); try simp only [Act.put, List.setIfInBounds_toArray, List.set_cons_zero, List.set_cons_succ])
      (refine ordV_takeS (v := ?_) rfl rfl hS0 ?_ ?_; rotate_left 1; (focus (intro W hW; obtain ⟨hcW, hfW⟩ := bcell hW; (go_simp <;> (try with_reducible rfl)))); try simp only [Act.put, List.setIfInBounds_toArray, List.set_cons_zero, List.set_cons_succ])
      (refine ordV_takeS (v := ?_) rfl rfl hS0 ?_ ?_; rotate_left 1; (focus (intro W hW; obtain ⟨hcW, hfW⟩ := bcell hW; (go_simp <;> (try with_reducible rfl)))); try simp only [Act.put, List.setIfInBounds_toArray, List.set_cons_zero, List.set_cons_succ])
      (refine ordV_takeS (v := ?_) rfl rfl hS0 ?_ ?_; rotate_left 1; (focus (intro W hW; obtain ⟨hcW, hfW⟩ := bcell hW; (go_simp <;> (try with_reducible rfl)))); try simp only [Act.put, List.setIfInBounds_toArray, List.set_cons_zero, List.set_cons_succ])
      (refine ordV_takeS (v := ?_) rfl rfl hS0 ?_ ?_; rotate_left 1; (focus (intro W hW; obtain ⟨hcW, hfW⟩ := bcell hW; (go_simp <;> (try with_reducible rfl)))); try simp only [Act.put, List.setIfInBounds_toArray, List.set_cons_zero, List.set_cons_succ])
      refine ordV_call rfl rfl (fun K hK => ?_)
      obtain ⟨hcS, hfS⟩ := bcell hS0
      go_simp
      refine hK.out _ _ trivial (fun _ h => by cases h) ?_
      clear hK K
      refine ordV_nil ?_
      have hneA := own_blk_ne (own_below HOW.out hS0) (HOO.out.below hS0 HOO.out.lt) (by decide)
      have hownA := own_cut (own_set (own_below HOW.out hS0) (a := ⟨bO, 0, none⟩) hneA (.slice A9 k c9)) hkl
      rw [take_mc] at hownA
      have hOA := (HOO.out.below hS0 HOO.out.lt).set_ 0 (.slice A9 k c9)
      have hbA := (bthen HB5.out hS0).setCell (p := ⟨bO, 0, none⟩) hwO (.slice A9 k c9)
      obtain ⟨wA, hwA⟩ : ∃ V, W0.setCell ⟨bO, 0, none⟩ (.slice A9 k c9) = V := ⟨_, rfl⟩
      rw [hwA] at hownA hOA hbA ⊢
      have hmsA : MsW w (ms0.take k) := fun m hm => HM0.out m (List.mem_of_mem_take hm)
      have HLK : Hid (k = (ms0.take k).length) := by show k = _; rw [List.length_take]; omega
      clear hwA o0 o1 of0 ol q0 q1 v0 v1 v2 ql vl hcS hfS hS0 hneA
      obtain ⟨hP0, hP1, hW0, hW1, hW2_, ⟨hWq, hWl⟩, hR⟩ := HBX.out _ hbA
      have hOt := (show Blk wA bO 33 #[.slice A9 k c9, .bool wh] by simpa using hOA)
      have o0 := hOt.cell 0
      have o1 := hOt.cell 1
      have ol := hOt.lt
      have p0 := hR.cell 0
      have p1 := hR.cell 1
      have pf0 := hR.frozen 0
      have pf1 := hR.frozen 1
      have pl := hR.lt
      simp at o0 o1 p0 p1
      have HRt := Lib.hid hR
      have HOWN := Lib.hid hownA
      have HMSt := Lib.hid hmsA
      have HBt := Lib.hid hbA
      clear hR hOt
      go_wp2_with fail
      refine ret_cell (t := 33) (cs := #[.slice A9 k c9, .bool wh]) (by have := (HRt.out.set_ 0 (.slice A9 k c9)).set_ 1 (.bool wh); simpa using this) rfl rfl Try.underlying33 rfl (by kernel_rfl) rfl ?_
      have hne := own_blk_ne HOWN.out HRt.out (by decide)
      have hO5 := own_set (own_set HOWN.out (a := ⟨bP, 0, none⟩) hne (.slice A9 k c9)) (a := ⟨bP, 1, none⟩) hne (.bool wh)
      have hE : Below w.heap.size w ((wA.setCell ⟨bP, 0, none⟩ (.slice A9 k c9)).setCell ⟨bP, 1, none⟩ (.bool wh)) := ((bthen HB2.out HBt.out).setCell (p := ⟨bP, 0, none⟩) hwP _).setCell (p := ⟨bP, 1, none⟩) hwP _
      obtain ⟨A8, c8, he8, hn8, hm8, hs8⟩ := own_slr (xs := (ms0.take k)) (R := RMc) hO5 (fun _ => rfl) (fun _ => rfl) (HLK.out)
      injection he8 with h1 h2 h3
      subst h1 h3
      exact ⟨_, _, ((ms0.take k)).map (·.x), wh, by rw [List.length_map, ← (HLK.out : k = ((ms0.take k)).length)], ⟨msw_can hs8 HMSt.out hE, by rw [List.length_map, ← (HLK.out : k = ((ms0.take k)).length)]; exact hn8, hm8⟩, by rw [List.length_map, ← (HLK.out : k = ((ms0.take k)).length)]; omega, hE⟩
theorem spoilt_any (C : Option Addr) (l : List Can) (e : Nat) (wh : Bool) (pa pb pc : Int) (w : World) (hC : SlR 2 RCan w C l) (hl : l.length ≤ 1000) (hpa : 0 ≤ pa ∧ pa ≤ 255) (hpb : 0 ≤ pb ∧ pb ≤ 255) (hpc : 0 ≤ pc ∧ pc ≤ 255) :
    Calls Try.prog 20 #[.agg #[.slice C l.length e, .bool wh], .agg #[.int .u8 pa, .int .u8 pb, .int .u8 pc]] w (IsSpt l.length w) := by
  obtain ⟨ms, rfl, h1, h2⟩ := can_mc_ex hC
  rw [List.length_map] at hl ⊢
  exact spoilt_mc C ms e wh pa pb pc w h1 h2 hl hpa hpb hpc
end Go.Proofs.Ytpajajffkbkeaaa
