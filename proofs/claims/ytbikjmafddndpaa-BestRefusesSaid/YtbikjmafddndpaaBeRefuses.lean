/-
  The law BestRefuses: for all inputs it returns true.
-/
import Derived.Test.YtbikjmafddndpaaBeChain
import Derived.Test.YtbikjmafddndpaaBsLaw
import Derived.Test.YtbikjmafddndpaaBsWalkM
import Derived.Test.YtbikjmafddndpaaGrWaysB
import Derived.Deep.DeepCutAuto
namespace Go.Proofs.Ytbikjmafddndpaa
open Go Go.RowKit

theorem one_lkC {ls : List Lk} {u : Value} (hu : u ∈ ls.flatMap encLk) : u.oneCell' = true := by
  obtain ⟨y, _, hy⟩ := List.mem_flatMap.1 hu
  simp [encLk] at hy
  rcases hy with rfl | rfl | rfl | rfl <;> rfl
set_option maxRecDepth 100000 in
set_option maxHeartbeats 16000000 in
theorem bestRefuses_any (A : Option Addr) (g : Gr) (c : Nat) (pn pk : Int) (w : World) (hs : SlR 4 RLk w A g.ls) (hl : g.ls.length ≤ maxLen) (hpn : 0 ≤ pn ∧ pn ≤ 255) (hpk : -128 ≤ pk ∧ pk ≤ 127) :
    Calls Try.prog 10 #[.agg #[.int .i64 g.n, .slice A g.ls.length c], .int .u8 pn, .int .i8 pk] w fun e w' => e = .returned (.bool true) ∧ Below w.heap.size w w' := by
  obtain ⟨i0, hi, hz0, hz1, hz2⟩ := info_parts link_info
  obtain ⟨w1, hw1⟩ : ∃ w1, w.alloc (.cells #[.int .i64 g.n, .slice A g.ls.length c] 30) = w1 := ⟨_, rfl⟩
  have hb1 : Below w.heap.size w w1 := by rw [← hw1]; exact nw _ (Below.refl _ _)
  have hX0 : Blk w1 w.heap.size 30 #[.int .i64 g.n, .slice A g.ls.length c] := by rw [← hw1]; exact Blk.new _ _ _
  have HW1 := Lib.hid hw1
  have HS := Lib.hid hs
  have HLM := Lib.hid hl
  unfold maxLen at hl
  clear hw1 hs
  go_enter Try.func10, Try.ntmps10
  go_upto_region 1 with fail
  rw [HW1.out]
  go_upto_region 2 with (go_at_call 14; go_loud (refine (sanity15_any _).mono ?_; rintro e w2 ⟨rfl, hb2⟩))
  have hX0 := hX0.below hb2 hX0.lt
  have hbw := bthen hb1 hb2
  have hbx0 := hX0.cell 0
  have hbx1 := hX0.cell 1
  have hlt1 := hX0.lt
  simp at hbx0 hbx1
  have HB2 := Lib.hid hbw
  clear hb1 hb2 HW1
  by_cases h10 : 10 < g.ls.length
  · have z21 : decide (10 < g.ls.length) = true := decide_eq_true h10
    go_wp2_with fail
    go_ret
    exact ⟨rfl, hbw⟩
  have z21 : decide (10 < g.ls.length) = false := decide_eq_false h10
  have HL0 : Hid (Calls Try.prog 16 #[(.agg #[.int .i64 g.n, .slice A g.ls.length c]), .int .i64 0] w2 (IsBest g 0 w2)) := list_any A c g 0 w2 (HS.out.below keeps_lk hbw) HLM.out
  clear hbw
  go_upto_region 5 with (go_at_call 16; go_loud (refine HL0.out.mono ?_; rintro e W3 ⟨ms, Am, cm, rfl, _, _, _, _, _, _, hb3⟩))
  have hX3 := hX0.below hb3 hX0.lt
  have hbx0 := hX3.cell 0
  have hbx1 := hX3.cell 1
  have hlt1 := hX3.lt
  simp at hbx0 hbx1
  have HB3 := Lib.hid (bthen HB2.out hb3)
  obtain ⟨er, her⟩ : ∃ er, bestErr g 0 = er := ⟨_, rfl⟩
  rw [her]
  obtain ⟨vb, hvb⟩ : ∃ b, grB g = b := ⟨_, rfl⟩
  have hev : er = if vb then 0 else 150 := by
    rw [← her, ← hvb]
    unfold bestErr
    cases grB g <;> simp
  have HV : Hid (∀ W', Below W3.heap.size W3 W' → Calls Try.prog 28 #[(.agg #[.int .i64 g.n, .slice A g.ls.length c])] W' fun e w' => e = .returned (.bool vb) ∧ Below W'.heap.size W' w') := fun W' hW' => by
    have h := valid_any A c g W' (HS.out.below keeps_lk (bthen HB3.out hW')) HLM.out
    rw [hvb] at h
    exact h
  have HRV : Hid (∀ W', Below W3.heap.size W3 W' → Calls Try.prog 29 #[(.agg #[.int .i64 g.n, .slice A g.ls.length c])] W' fun e w' => e = .returned (.bool vb) ∧ Below W'.heap.size W' w') := fun W' hW' => by
    have h := refvalid_any A c g W' (HS.out.below keeps_lk (bthen HB3.out hW')) HLM.out
    rw [hvb] at h
    exact h
  clear hX0 hX3 hb3 her hvb h10 z21 HL0
  go_cut [48] (fun tv wr => tv = .bool false ∧ Below W3.heap.size W3 wr)
  case first =>
    cases vb with
    | true =>
      rw [if_pos rfl] at hev
      subst hev
      refine ordB_below (.quiet 0 (.quiet 2 (.only 1 (.only 3 (.quiet 4 (.quiet 5 (.quiet 6 (.quiet 7 (.quiet 8 (.only 9 (.quiet 10 (.quiet 11 (.quiet 12 (.quiet 13 (.only 14 (.quiet 15 (.quiet 16 (.quiet 17 (.quiet 18 (.quiet 19 (.quiet 20 .done))))))))))))))))))))) (by kernel_rfl) (by kernel_rfl) (by kernel_rfl) (fun _ _ _ _ _ h => h) ?_
      intro Wf hWf
      iterate 2 (first
        | (refine ordB_skip rfl rfl ?_; simp only [Act.put, List.setIfInBounds_toArray, List.set_cons_zero, List.set_cons_succ])
        | (refine ordB_take (v := ?_) rfl rfl ?_ ?_
           rotate_left 1
           focus (intro W hW; obtain ⟨hcW, hfW⟩ := bcell hW; (go_simp <;> with_reducible rfl))
           simp only [Act.put, List.setIfInBounds_toArray, List.set_cons_zero, List.set_cons_succ]))
      refine ordB_only (opB_call rfl rfl (fun K hK => ?_))
      go_simp
      go_at_call 28
      refine (HV.out _ hWf).mono ?_
      rintro e Wf_1 ⟨rfl, hx1⟩
      refine hK.out _ _ (hWf.trans (hx1.mono hWf.size)) (fun hWf_1 => ?_)
      refine ordB_only (opB_call rfl rfl (fun K hK => ?_))
      go_simp
      go_at_call 29
      refine (HRV.out _ hWf_1).mono ?_
      rintro e Wf_1_2 ⟨rfl, hx3⟩
      refine hK.out _ _ (hWf_1.trans (hx3.mono hWf_1.size)) (fun hWf_1_2 => ?_)
      iterate 5 (first
        | (refine ordB_skip rfl rfl ?_; simp only [Act.put, List.setIfInBounds_toArray, List.set_cons_zero, List.set_cons_succ])
        | (refine ordB_take (v := ?_) rfl rfl ?_ ?_
           rotate_left 1
           focus (intro W hW; obtain ⟨hcW, hfW⟩ := bcell hW; (go_simp <;> with_reducible rfl))
           simp only [Act.put, List.setIfInBounds_toArray, List.set_cons_zero, List.set_cons_succ]))
      refine ordB_only (opB_call rfl rfl (fun K hK => ?_))
      go_simp
      go_at_call 29
      refine (HRV.out _ hWf_1_2).mono ?_
      rintro e Wf_1_2_3 ⟨rfl, hx9⟩
      refine hK.out _ _ (hWf_1_2.trans (hx9.mono hWf_1_2.size)) (fun hWf_1_2_3 => ?_)
      iterate 4 (first
        | (refine ordB_skip rfl rfl ?_; simp only [Act.put, List.setIfInBounds_toArray, List.set_cons_zero, List.set_cons_succ])
        | (refine ordB_take (v := ?_) rfl rfl ?_ ?_
           rotate_left 1
           focus (intro W hW; obtain ⟨hcW, hfW⟩ := bcell hW; (go_simp <;> with_reducible rfl))
           simp only [Act.put, List.setIfInBounds_toArray, List.set_cons_zero, List.set_cons_succ]))
      refine ordB_only (opB_call rfl rfl (fun K hK => ?_))
      go_simp
      go_at_call 29
      refine (HRV.out _ hWf_1_2_3).mono ?_
      rintro e Wf_1_2_3_4 ⟨rfl, hx14⟩
      refine hK.out _ _ (hWf_1_2_3.trans (hx14.mono hWf_1_2_3.size)) (fun hWf_1_2_3_4 => ?_)
      iterate 6 (first
        | (refine ordB_skip rfl rfl ?_; simp only [Act.put, List.setIfInBounds_toArray, List.set_cons_zero, List.set_cons_succ])
        | (refine ordB_take (v := ?_) rfl rfl ?_ ?_
           rotate_left 1
           focus (intro W hW; obtain ⟨hcW, hfW⟩ := bcell hW; (go_simp <;> with_reducible rfl))
           simp only [Act.put, List.setIfInBounds_toArray, List.set_cons_zero, List.set_cons_succ]))
      refine ordB_nil ?_
      go_wp2_with fail
      go_meet
      exact ⟨rfl, hWf_1_2_3_4⟩
    | false =>
      rw [if_neg (by decide)] at hev
      subst hev
      refine ordB_below (.quiet 0 (.quiet 2 (.only 1 (.only 3 (.quiet 4 (.quiet 5 (.quiet 6 (.quiet 7 (.quiet 8 (.only 9 (.quiet 10 (.quiet 11 (.quiet 12 (.quiet 13 (.only 14 (.quiet 15 (.quiet 16 (.quiet 17 (.quiet 18 (.quiet 19 (.quiet 20 .done))))))))))))))))))))) (by kernel_rfl) (by kernel_rfl) (by kernel_rfl) (fun _ _ _ _ _ h => h) ?_
      intro Wf hWf
      iterate 2 (first
        | (refine ordB_skip rfl rfl ?_; simp only [Act.put, List.setIfInBounds_toArray, List.set_cons_zero, List.set_cons_succ])
        | (refine ordB_take (v := ?_) rfl rfl ?_ ?_
           rotate_left 1
           focus (intro W hW; obtain ⟨hcW, hfW⟩ := bcell hW; (go_simp <;> with_reducible rfl))
           simp only [Act.put, List.setIfInBounds_toArray, List.set_cons_zero, List.set_cons_succ]))
      refine ordB_only (opB_call rfl rfl (fun K hK => ?_))
      go_simp
      go_at_call 28
      refine (HV.out _ hWf).mono ?_
      rintro e Wf_1 ⟨rfl, hx1⟩
      refine hK.out _ _ (hWf.trans (hx1.mono hWf.size)) (fun hWf_1 => ?_)
      refine ordB_only (opB_call rfl rfl (fun K hK => ?_))
      go_simp
      go_at_call 29
      refine (HRV.out _ hWf_1).mono ?_
      rintro e Wf_1_2 ⟨rfl, hx3⟩
      refine hK.out _ _ (hWf_1.trans (hx3.mono hWf_1.size)) (fun hWf_1_2 => ?_)
      iterate 5 (first
        | (refine ordB_skip rfl rfl ?_; simp only [Act.put, List.setIfInBounds_toArray, List.set_cons_zero, List.set_cons_succ])
        | (refine ordB_take (v := ?_) rfl rfl ?_ ?_
           rotate_left 1
           focus (intro W hW; obtain ⟨hcW, hfW⟩ := bcell hW; (go_simp <;> with_reducible rfl))
           simp only [Act.put, List.setIfInBounds_toArray, List.set_cons_zero, List.set_cons_succ]))
      refine ordB_only (opB_call rfl rfl (fun K hK => ?_))
      go_simp
      go_at_call 29
      refine (HRV.out _ hWf_1_2).mono ?_
      rintro e Wf_1_2_3 ⟨rfl, hx9⟩
      refine hK.out _ _ (hWf_1_2.trans (hx9.mono hWf_1_2.size)) (fun hWf_1_2_3 => ?_)
      iterate 4 (first
        | (refine ordB_skip rfl rfl ?_; simp only [Act.put, List.setIfInBounds_toArray, List.set_cons_zero, List.set_cons_succ])
        | (refine ordB_take (v := ?_) rfl rfl ?_ ?_
           rotate_left 1
           focus (intro W hW; obtain ⟨hcW, hfW⟩ := bcell hW; (go_simp <;> with_reducible rfl))
           simp only [Act.put, List.setIfInBounds_toArray, List.set_cons_zero, List.set_cons_succ]))
      refine ordB_only (opB_call rfl rfl (fun K hK => ?_))
      go_simp
      go_at_call 29
      refine (HRV.out _ hWf_1_2_3).mono ?_
      rintro e Wf_1_2_3_4 ⟨rfl, hx14⟩
      refine hK.out _ _ (hWf_1_2_3.trans (hx14.mono hWf_1_2_3.size)) (fun hWf_1_2_3_4 => ?_)
      iterate 6 (first
        | (refine ordB_skip rfl rfl ?_; simp only [Act.put, List.setIfInBounds_toArray, List.set_cons_zero, List.set_cons_succ])
        | (refine ordB_take (v := ?_) rfl rfl ?_ ?_
           rotate_left 1
           focus (intro W hW; obtain ⟨hcW, hfW⟩ := bcell hW; (go_simp <;> with_reducible rfl))
           simp only [Act.put, List.setIfInBounds_toArray, List.set_cons_zero, List.set_cons_succ]))
      refine ordB_nil ?_
      go_wp2_with fail
      go_meet
      exact ⟨rfl, hWf_1_2_3_4⟩
  case rest =>
    obtain ⟨rfl, hb4⟩ := hcut
    obtain ⟨W4, rfl⟩ : ∃ V, V = wc := ⟨wc, rfl⟩
    have HB4 := Lib.hid (bthen HB3.out hb4)
    clear hb4 hev hbx0 hbx1 hlt1 HV HRV HB3 HS HB2
    obtain ⟨q, hq⟩ : ∃ q : Nat, pn % 39 = (q : Int) := ⟨(pn % 39).toNat, by omega⟩
    have hq39 : q < 39 := by omega
    have htq : pn.tmod 39 = (q : Int) := by rw [Int.tmod_eq_emod_of_nonneg hpn.1]; exact hq
    have hwpn : IntKind.i64.wrap pn = pn := IntWalk.i64_in _ (by omega)
    have hwq : IntKind.i64.wrap (q : Int) = (q : Int) := IntWalk.i64_in _ (by omega)
    obtain ⟨N, hN⟩ : ∃ N, 2 + q = N := ⟨_, rfl⟩
    have hw2q : IntKind.i64.wrap (2 + (q : Int)) = (N : Int) := by rw [IntWalk.i64_in _ (by omega)]; omega
    have hN2 : 2 ≤ N := by omega
    have hN40 : N ≤ 40 := by omega
    have hwpk : IntKind.i64.wrap pk = pk := IntWalk.i64_in _ (by omega)
    clear hq hN
    go_upto_region 8 with fail
    obtain ⟨D, hD⟩ : ∃ D, W4.heap.size = D := ⟨_, rfl⟩
    obtain ⟨W5, hW5⟩ : ∃ V, W4.alloc (.cells #[.int .i64 (N : Int), .slice none 0 0] 30) = V := ⟨_, rfl⟩
    have hb45 : Below D W4 W5 := by rw [← hW5, ← hD]; exact nw _ (Below.refl _ _)
    have hC0 : Blk W5 D 30 #[.int .i64 (N : Int), .slice none 0 0] := by rw [← hW5, ← hD]; exact Blk.new _ _ _
    rw [hW5, hD]
    have HD := Lib.hid hD
    clear hW5 hD htq hwpn hwq hw2q hq39
    go_wp2_with fail
    go_loopw [11] (fun iv wr => ∃ (i : Nat) (v : Value) (ks : List Lk), i ≤ N - 1 ∧ iv = .int .i64 (i : Int) ∧ Hid (ks = chTo i) ∧ Hid (ks.length = 2 * i) ∧ wr.ownsRow D 54 4 v ks.length (ks.flatMap encLk) ∧ Blk wr D 30 #[.int .i64 (N : Int), v] ∧ Below D W4 wr) (fun iv _ => N - (intOf iv).toNat)
    case atStart => exact ⟨0, .slice none 0 0, [], by omega, rfl, rfl, rfl, own_nil _ _ _ _, hC0, hb45⟩
    case round =>
      obtain ⟨wv, rfl⟩ : ∃ V, V = wr := ⟨wr, rfl⟩
      obtain ⟨i, v, ks, hil, rfl, HK, HKL, hown, hB, hbv⟩ := hrel
      have hk78 : ks.length ≤ 78 := by have := HKL.out; omega
      clear hC0 hb45
      have s0 := hB.cell 0
      have s1' := hB.cell 1
      have bl0 := hB.lt
      simp at s0 s1'
      have hDv := hbv.size
      by_cases hlt : i + 1 < N
      · have hltI : (i : Int) + 1 < (N : Int) := by omega
        have hwi : IntKind.i64.wrap ((i : Int) + 1) = (i : Int) + 1 := IntWalk.i64_in _ (by omega)
        obtain ⟨CE, hCE⟩ : ∃ C, (Obj.cells #[.int .i64 (i : Int), .int .i64 ((i : Int) + 1), .int .i64 0, .int .i64 1, .int .i64 (i : Int), .int .i64 ((i : Int) + 1), .int .i64 0, .int .i64 3] 54) = C := ⟨_, rfl⟩
        have hDs : D ≤ wv.heap.size := by omega
        have hown1 := hown.alloc CE
        have hB1 := hB.alloc CE
        have hb1 : Below D W4 (wv.alloc CE) := hbv.alloc hDs CE
        have hne1 := own_blk_ne hown1 hB1 (by decide)
        have hs1 : SlR 4 RLk (wv.alloc CE) (some ⟨wv.heap.size, 0, none⟩) [Lk.mk (i : Int) ((i : Int) + 1) 0 1, Lk.mk (i : Int) ((i : Int) + 1) 0 3] := by rw [← hCE]; exact slr_blk (enc := encLk) (Blk.new_ rfl) (fun _ => rfl) (fun _ => rfl)
        have hsz1 : D ≤ (wv.alloc CE).heap.size := by simp; omega
        rw [← hCE] at hown1 hB1 hb1 hs1 hsz1
        have HB1 := Lib.hid hb1
        have HO1 := Lib.hid hown1
        have HBB1 := Lib.hid hB1
        have HS1 := Lib.hid hs1
        clear hb1 hB1 hown hown1 hB hbv hCE hs1 hDv
        go_upto_region 10 with (at_builtin; go_loud (refine wpList_appS (enc := encLk) (R := RLk) rfl _ _ 28 rfl D 54 i0 _ 4 32 Try.underlying28 hi hz0 hz1 hz2 rfl (by decide) v _ _ rfl HO1.out (some ⟨wv.heap.size, 0, none⟩) 2 [Lk.mk (i : Int) ((i : Int) + 1) 0 1, Lk.mk (i : Int) ((i : Int) + 1) 0 3] rfl HS1.out (fun _ _ _ h => h) (fun _ => rfl) (fun u hu => one_lkC hu) (by simp; omega) (by decide) hsz1 ?_; intro v9 w9 h91 h92 h93; have hown2 : w9.ownsRow D 54 4 v9 (ks ++ [Lk.mk (i : Int) ((i : Int) + 1) 0 1, Lk.mk (i : Int) ((i : Int) + 1) 0 3]).length ((ks ++ [Lk.mk (i : Int) ((i : Int) + 1) 0 1, Lk.mk (i : Int) ((i : Int) + 1) 0 3]).flatMap encLk) := (by rw [List.length_append, List.flatMap_append]; exact h91); obtain ⟨A10, c10, rfl, hc10, hcm10, _⟩ := own_slr (R := RLk) hown2 (fun _ => rfl) (fun _ => rfl) rfl; have hB2 := HBB1.out.apps h93 hne1; have o1 := hB2.cell 1; have of1 := hB2.frozen 1; have ol := hB2.lt; have o0 := hB2.cell 0; simp at o0 o1; clear h91 h93))
        have hlen : (ks ++ [Lk.mk (i : Int) ((i : Int) + 1) 0 1, Lk.mk (i : Int) ((i : Int) + 1) 0 3]).length = ks.length + 2 := by simp
        rw [hlen] at hown2
        have hne2 := own_blk_ne hown2 hB2 (by decide)
        have hown3 := own_set hown2 (a := ⟨D, 1, none⟩) hne2 (.slice A10 (ks.length + 2) c10)
        have hB3 := hB2.set_ 1 (.slice A10 (ks.length + 2) c10)
        have hb10 : Below D W4 (w9.setCell ⟨D, 1, none⟩ (.slice A10 (ks.length + 2) c10)) := (HB1.out.trans h92).setCell (p := ⟨D, 1, none⟩) (Nat.le_refl _) _
        obtain ⟨W10, hW10⟩ : ∃ V, w9.setCell ⟨D, 1, none⟩ (.slice A10 (ks.length + 2) c10) = V := ⟨_, rfl⟩
        rw [hW10] at hown3 hB3 hb10 ⊢
        have HK2 : Hid (ks ++ [Lk.mk (i : Int) ((i : Int) + 1) 0 1, Lk.mk (i : Int) ((i : Int) + 1) 0 3] = chTo (i + 1)) := by show _ = _; rw [HK.out]; rfl
        clear hW10 hown2 hB2 hne1 hne2 h92 o0 o1 of1 ol s0 s1' bl0 hc10 hcm10
        go_wp2_with fail
        go_roundw
        case rel => exact ⟨i + 1, .slice A10 (ks.length + 2) c10, ks ++ [Lk.mk (i : Int) ((i : Int) + 1) 0 1, Lk.mk (i : Int) ((i : Int) + 1) 0 3], by omega, by go_num, HK2.out, by show _ = _; rw [hlen, HKL.out]; omega, by rw [hlen]; exact hown3, by simpa using hB3, hb10⟩
        case measure => simp [intOf]; omega
      · obtain rfl : i = N - 1 := by omega
        have hltI : ¬ ((N - 1 : Nat) : Int) + 1 < (N : Int) := by omega
        have hwi : IntKind.i64.wrap (((N - 1 : Nat) : Int) + 1) = (N : Int) := by rw [IntWalk.i64_in _ (by omega)]; omega
        obtain ⟨A9, c9, rfl, hc9, hcm9, hs9⟩ := own_slr (R := RLk) hown (fun _ => rfl) (fun _ => rfl) rfl
        have hGR : GrOK (chG N) := chG_ok ⟨by omega, hN40⟩
        have hkm : ks.length ≤ maxLen := by unfold maxLen; omega
        have hls : (chG N).ls = ks := HK.out.symm
        have HC5 : Hid (∀ W', Below wv.heap.size wv W' → W'.cell? ⟨D, 0, none⟩ = some (.int .i64 (N : Int)) ∧ W'.cell? ⟨D, 1, none⟩ = some (.slice A9 ks.length c9) ∧ D < W'.heap.size) := fun W' hW' => by
          have h1 := hB.below hW' hB.lt
          have e0 := h1.cell 0
          have e1 := h1.cell 1
          simp at e0 e1
          exact ⟨e0, e1, h1.lt⟩
        have HL2 : Hid (Calls Try.prog 16 #[(.agg #[.int .i64 (N : Int), .slice A9 ks.length c9]), .int .i64 pk] wv (IsBest (chG N) pk wv)) := by
          have h := list_any A9 c9 (chG N) pk wv (by rw [hls]; exact hs9) (by rw [hls]; exact hkm)
          rw [hls] at h
          exact h
        have HS9 := Lib.hid hs9
        have HGR := Lib.hid hGR
        have HLS := Lib.hid hls
        have hb4v : Below W4.heap.size W4 wv := by rw [HD.out]; exact hbv
        have HBV := Lib.hid (bthen HB4.out hb4v)
        clear hown hB hbv hs9 hGR hls hil hlt hc9 hcm9 hb4v hDv
        go_upto_region 13 with (go_at_call 16; go_loud (refine HL2.out.mono ?_; rintro e W6 ⟨ms, Ab, cb, rfl, hms, hmo, hml, hmm, hL, hno, hb6⟩))
        have HB6 := Lib.hid hb6
        have hbe : bestErr (chG N) pk = if pk < 0 ∨ 50 < pk then 1 else 0 := by unfold bestErr; rw [if_neg (by rw [grB_iff.2 HGR.out]; simp)]
        clear HL2 s0 s1' bl0 hltI hwi
        by_cases hkb : pk < 0 ∨ 50 < pk
        · rw [if_pos hkb] at hbe
          obtain rfl := hno (by rw [hbe]; decide)
          rw [hbe]
          have hE := bthen HBV.out hb6
          clear hL hno hbe hms hmo hb6 hml
          by_cases hk0 : pk < 0
          · have z82 : decide (pk < 0) = true := decide_eq_true hk0
            go_wp2_with fail
            go_ret
            exact ⟨rfl, hE⟩
          · have z82 : decide (pk < 0) = false := decide_eq_false hk0
            have hk50 : 50 < pk := by omega
            have z85 : decide (50 < pk) = true := decide_eq_true hk50
            go_wp2_with fail
            go_ret
            exact ⟨rfl, hE⟩
        · rw [if_neg hkb] at hbe
          have hIL := hL hbe
          rw [hbe]
          have hcan := mc_can hms hmo
          obtain ⟨L, hLe⟩ : ∃ L, ms.map (·.x) = L := ⟨_, rfl⟩
          rw [hLe] at hIL hcan
          have hlen : ms.length = L.length := by rw [← hLe, List.length_map]
          rw [hlen] at hml ⊢
          have HIL := Lib.hid hIL
          have HCAN := Lib.hid hcan
          have hLk := hIL.len
          have hsome : 0 < pk → 0 < L.length := fun h => ch_some (by omega) (by omega) HIL.out
          have hL50 : L.length ≤ 50 := by omega
          obtain ⟨p, hp⟩ : ∃ p : Nat, 2 ^ (N - 1) = p := ⟨_, rfl⟩
          have hp39 : p ≤ 2 ^ 39 := by rw [← hp]; exact Nat.pow_le_pow_right (by decide) (by omega)
          have HNUM : Hid (∀ W', Below W6.heap.size W6 W' → Calls Try.prog 21 #[(.agg #[.int .i64 (N : Int), .slice A9 ks.length c9])] W' fun e w' => e = .returned (.int .i64 (min (p : Int) 1000000000)) ∧ Below W'.heap.size W' w') := fun W' hW' => by
            have h := number_any A9 c9 (chG N) W' (by rw [HLS.out]; exact HS9.out.below keeps_lk (bthen HB6.out hW')) (by rw [HLS.out]; exact hkm)
            rw [ch_num ⟨by omega, hN40⟩, hp, HLS.out] at h
            exact h
          obtain ⟨M, hM⟩ : ∃ M, N - 1 = M := ⟨_, rfl⟩
          have hwNM : IntKind.i64.wrap ((N : Int) - 1) = (M : Int) := by rw [IntWalk.i64_in _ (by omega)]; omega
          have hpM : ((2 : Int) ^ M) = (p : Int) := by rw [← hp, ← hM]; simp
          have hsh : IntKind.i64.wrap ((2 : Int) ^ M) = (p : Int) := by rw [hpM]; exact IntWalk.i64_in _ (by omega)
          have hM0 : (0 : Int) ≤ (M : Int) := by omega
          have hM64 : (M : Int) ≤ 64 := by omega
          obtain ⟨c0, c1, cl⟩ := HC5.out _ hb6
          have z82 : decide (pk < 0) = false := decide_eq_false (by omega)
          have z85 : decide (50 < pk) = false := decide_eq_false (by omega)
          clear hL hno hbe hms hmo hb6 hIL hcan hLe hlen hp hkm hpM hM
          go_upto_region 15 with fail
          go_cut [117] (fun tv wr => tv = .bool false ∧ Below W6.heap.size W6 wr)
          case first =>
            by_cases hk1 : 0 < pk
            · have z101 : decide (0 < pk) = true := decide_eq_true hk1
              have hl0 := hsome hk1
              have z105 : ((L.length : Int) == 0) = false := by simp; exact fun e => by rw [e] at hl0; exact absurd hl0 (by decide)
              clear hsome
              refine ordB_below (.quiet 0 (.quiet 1 (.quiet 2 (.quiet 3 (.quiet 4 (.quiet 5 (.quiet 6 (.quiet 7 (.quiet 8 (.quiet 9 (.quiet 10 (.quiet 11 (.quiet 12 (.quiet 14 (.quiet 15 (.quiet 16 (.quiet 17 (.quiet 18 (.only 13 (.quiet 19 (.quiet 20 .done))))))))))))))))))))) (by kernel_rfl) (by kernel_rfl) (by kernel_rfl) (fun _ _ _ _ _ h => h) ?_
              intro Wf hWf
              iterate 18 (first
                | (refine ordB_skip rfl rfl ?_; simp only [Act.put, List.setIfInBounds_toArray, List.set_cons_zero, List.set_cons_succ])
                | (refine ordB_take (v := ?_) rfl rfl ?_ ?_
                   rotate_left 1
                   focus (intro W hW; obtain ⟨hcW, hfW⟩ := bcell hW; (go_simp <;> with_reducible rfl))
                   simp only [Act.put, List.setIfInBounds_toArray, List.set_cons_zero, List.set_cons_succ]))
              refine ordB_only (opB_call rfl rfl (fun K hK => ?_))
              go_simp
              go_at_call 21
              refine (HNUM.out _ hWf).mono ?_
              rintro e Wf_1 ⟨rfl, hx13⟩
              refine hK.out _ _ (hWf.trans (hx13.mono hWf.size)) (fun hWf_1 => ?_)
              iterate 2 (first
                | (refine ordB_skip rfl rfl ?_; simp only [Act.put, List.setIfInBounds_toArray, List.set_cons_zero, List.set_cons_succ])
                | (refine ordB_take (v := ?_) rfl rfl ?_ ?_
                   rotate_left 1
                   focus (intro W hW; obtain ⟨hcW, hfW⟩ := bcell hW; (go_simp <;> with_reducible rfl))
                   simp only [Act.put, List.setIfInBounds_toArray, List.set_cons_zero, List.set_cons_succ]))
              refine ordB_nil ?_
              go_wp2_with fail
              go_meet
              exact ⟨rfl, hWf_1⟩
            · have z101 : decide (0 < pk) = false := decide_eq_false hk1
              clear hsome
              refine ordB_below (.quiet 0 (.quiet 1 (.quiet 2 (.quiet 3 (.quiet 4 (.quiet 5 (.quiet 6 (.quiet 7 (.quiet 8 (.quiet 9 (.quiet 10 (.quiet 11 (.quiet 12 (.quiet 14 (.quiet 15 (.quiet 16 (.quiet 17 (.quiet 18 (.only 13 (.quiet 19 (.quiet 20 .done))))))))))))))))))))) (by kernel_rfl) (by kernel_rfl) (by kernel_rfl) (fun _ _ _ _ _ h => h) ?_
              intro Wf hWf
              iterate 18 (first
                | (refine ordB_skip rfl rfl ?_; simp only [Act.put, List.setIfInBounds_toArray, List.set_cons_zero, List.set_cons_succ])
                | (refine ordB_take (v := ?_) rfl rfl ?_ ?_
                   rotate_left 1
                   focus (intro W hW; obtain ⟨hcW, hfW⟩ := bcell hW; (go_simp <;> with_reducible rfl))
                   simp only [Act.put, List.setIfInBounds_toArray, List.set_cons_zero, List.set_cons_succ]))
              refine ordB_only (opB_call rfl rfl (fun K hK => ?_))
              go_simp
              go_at_call 21
              refine (HNUM.out _ hWf).mono ?_
              rintro e Wf_1 ⟨rfl, hx13⟩
              refine hK.out _ _ (hWf.trans (hx13.mono hWf.size)) (fun hWf_1 => ?_)
              iterate 2 (first
                | (refine ordB_skip rfl rfl ?_; simp only [Act.put, List.setIfInBounds_toArray, List.set_cons_zero, List.set_cons_succ])
                | (refine ordB_take (v := ?_) rfl rfl ?_ ?_
                   rotate_left 1
                   focus (intro W hW; obtain ⟨hcW, hfW⟩ := bcell hW; (go_simp <;> with_reducible rfl))
                   simp only [Act.put, List.setIfInBounds_toArray, List.set_cons_zero, List.set_cons_succ]))
              refine ordB_nil ?_
              go_wp2_with fail
              go_meet
              exact ⟨rfl, hWf_1⟩
          case rest =>
            obtain ⟨rfl, hb7⟩ := hcut
            obtain ⟨W7, rfl⟩ : ∃ V, V = wc := ⟨wc, rfl⟩
            have HB7 := Lib.hid (bthen HB6.out hb7)
            have HCAN7 := Lib.hid (HCAN.out.below keeps_can hb7)
            clear hb7 hsome HNUM hsh c0 c1 cl hwNM
            go_wp2_with fail
            go_loopw [14] (fun iv wr => ∃ i : Nat, i ≤ L.length ∧ iv = .int .i64 (i : Int) ∧ Below W7.heap.size W7 wr) (fun iv _ => L.length - (intOf iv).toNat)
            case atStart => exact ⟨0, by omega, rfl, Below.refl _ _⟩
            case round =>
              obtain ⟨w8, rfl⟩ : ∃ V, V = wr := ⟨wr, rfl⟩
              obtain ⟨i, hil, rfl, hbi⟩ := hrel
              have hb78 := bthen HB7.out hbi
              by_cases hlt : i < L.length
              · obtain ⟨b, off, y, A1, d1, rfl, hbb, hyy, y0, y1, hys, hyl, hym⟩ := (HCAN7.out.below keeps_can hbi).can hlt
                obtain ⟨c0, c1, cl⟩ := HC5.out _ hb78
                have hyc := HIL.out.can y (List.mem_of_getElem? hyy)
                have HRC : Hid (∀ W', Below w8.heap.size w8 W' → Calls Try.prog 19 #[(.agg #[.int .i64 (N : Int), .slice A9 ks.length c9]), .slice A1 y.links.length d1] W' fun e w' => e = .returned (.tuple #[.int .i64 y.cost, .bool true]) ∧ Below W'.heap.size W' w') := fun W' hW' => by
                  have h := refcost_any A9 c9 (chG N) A1 y.links d1 W' (by rw [HLS.out]; exact HS9.out.below keeps_lk (bthen hb78 hW')) (by rw [HLS.out]; unfold maxLen; omega) HGR.out (hys.below keeps_int hW') (by omega)
                  have e : costM (chG N) y.links = (y.cost, true) := by unfold costM; rw [if_pos hyc.1, hyc.2]
                  rw [e, HLS.out] at h
                  exact h
                have hiI : (i : Int) < (L.length : Int) := by omega
                have hi0 : (0 : Int) ≤ (i : Int) := by omega
                have hwN1 : IntKind.i64.wrap ((N : Int) - 1) = ((N - 1 : Nat) : Int) := by rw [IntWalk.i64_in _ (by omega)]; omega
                have hwN2 : IntKind.i64.wrap ((N : Int) + 1) = (N : Int) + 1 := IntWalk.i64_in _ (by omega)
                have hfirst : i = 0 → y.cost = ((N - 1 : Nat) : Int) := fun e => by subst e; rw [ch_first (by omega) HIL.out hyy]; exact firstC_cost
                have hnext : 0 < i → i < N → y.cost = (N : Int) + 1 := fun h1 h2 => ch_next (by omega) HIL.out h1 h2 hyy
                have HBI := Lib.hid hbi
                obtain ⟨yc, hycc⟩ : ∃ x, y.cost = x := ⟨_, rfl⟩
                rw [hycc] at hfirst hnext y1 HRC
                clear hyy hyc hys hb78 hbi hycc
                rcases Nat.eq_zero_or_pos i with h0 | h0
                · have hyc0 := hfirst h0
                  clear hfirst hnext
                  subst h0
                  subst hyc0
                  rw [Nat.zero_mul, Nat.add_zero] at y0 y1
                  go_upto_region 20 with fail
                  refine ordB_below (.quiet 0 (.quiet 1 (.quiet 2 (.quiet 3 (.quiet 4 (.quiet 5 (.only 6 (.quiet 7 (.quiet 8 (.quiet 9 (.quiet 10 (.quiet 11 .done)))))))))))) (by kernel_rfl) (by kernel_rfl) (by kernel_rfl) (fun _ _ _ _ _ h => h) ?_
                  intro Wk hWk
                  iterate 6 (first
                    | (refine ordB_skip rfl rfl ?_; simp only [Act.put, List.setIfInBounds_toArray, List.set_cons_zero, List.set_cons_succ])
                    | (refine ordB_take (v := ?_) rfl rfl ?_ ?_
                       rotate_left 1
                       focus (intro W hW; obtain ⟨hcW, hfW⟩ := bcell hW; (go_simp <;> with_reducible rfl))
                       simp only [Act.put, List.setIfInBounds_toArray, List.set_cons_zero, List.set_cons_succ]))
                  refine ordB_only (opB_call rfl rfl (fun K hK => ?_))
                  go_simp
                  go_at_call 19
                  refine (HRC.out _ hWk).mono ?_
                  rintro e Wk_1 ⟨rfl, hx6⟩
                  refine hK.out _ _ (hWk.trans (hx6.mono hWk.size)) (fun hWk_1 => ?_)
                  iterate 5 (first
                    | (refine ordB_skip rfl rfl ?_; simp only [Act.put, List.setIfInBounds_toArray, List.set_cons_zero, List.set_cons_succ])
                    | (refine ordB_take (v := ?_) rfl rfl ?_ ?_
                       rotate_left 1
                       focus (intro W hW; obtain ⟨hcW, hfW⟩ := bcell hW; (go_simp <;> with_reducible rfl))
                       simp only [Act.put, List.setIfInBounds_toArray, List.set_cons_zero, List.set_cons_succ]))
                  refine ordB_nil ?_
                  have HBI2 := Lib.hid (bthen HBI.out hWk_1)
                  have c0 := ((bcell hWk_1).1 _ _ cl).trans c0
                  have y1 := ((bcell hWk_1).1 _ _ hbb).trans y1
                  have cl := Nat.lt_of_lt_of_le cl hWk_1.size
                  have hbb := Nat.lt_of_lt_of_le hbb hWk_1.size
                  clear hWk_1 c1 y0
                  generalize Wk_1 = w11 at *
                  go_wp2_with fail
                  go_roundw
                  case rel => exact ⟨1, by omega, by go_num, HBI2.out⟩
                  case measure => simp [intOf]; omega
                · have hib : ((i : Int) == 0) = false := by simp; omega
                  have hi0' : decide (0 < i) = true := decide_eq_true h0
                  by_cases hiN : i < N
                  · have hyc0 := hnext h0 hiN
                    clear hfirst hnext
                    subst hyc0
                    have hiNI : (i : Int) < (N : Int) := by omega
                    go_upto_region 20 with fail
                    refine ordB_below (.quiet 0 (.quiet 1 (.quiet 2 (.quiet 3 (.quiet 4 (.quiet 5 (.only 6 (.quiet 7 (.quiet 8 (.quiet 9 (.quiet 10 (.quiet 11 .done)))))))))))) (by kernel_rfl) (by kernel_rfl) (by kernel_rfl) (fun _ _ _ _ _ h => h) ?_
                    intro Wk hWk
                    iterate 6 (first
                      | (refine ordB_skip rfl rfl ?_; simp only [Act.put, List.setIfInBounds_toArray, List.set_cons_zero, List.set_cons_succ])
                      | (refine ordB_take (v := ?_) rfl rfl ?_ ?_
                         rotate_left 1
                         focus (intro W hW; obtain ⟨hcW, hfW⟩ := bcell hW; (go_simp <;> with_reducible rfl))
                         simp only [Act.put, List.setIfInBounds_toArray, List.set_cons_zero, List.set_cons_succ]))
                    refine ordB_only (opB_call rfl rfl (fun K hK => ?_))
                    go_simp
                    go_at_call 19
                    refine (HRC.out _ hWk).mono ?_
                    rintro e Wk_1 ⟨rfl, hx6⟩
                    refine hK.out _ _ (hWk.trans (hx6.mono hWk.size)) (fun hWk_1 => ?_)
                    iterate 5 (first
                      | (refine ordB_skip rfl rfl ?_; simp only [Act.put, List.setIfInBounds_toArray, List.set_cons_zero, List.set_cons_succ])
                      | (refine ordB_take (v := ?_) rfl rfl ?_ ?_
                         rotate_left 1
                         focus (intro W hW; obtain ⟨hcW, hfW⟩ := bcell hW; (go_simp <;> with_reducible rfl))
                         simp only [Act.put, List.setIfInBounds_toArray, List.set_cons_zero, List.set_cons_succ]))
                    refine ordB_nil ?_
                    have HBI2 := Lib.hid (bthen HBI.out hWk_1)
                    have c0 := ((bcell hWk_1).1 _ _ cl).trans c0
                    have y1 := ((bcell hWk_1).1 _ _ hbb).trans y1
                    have cl := Nat.lt_of_lt_of_le cl hWk_1.size
                    have hbb := Nat.lt_of_lt_of_le hbb hWk_1.size
                    clear hWk_1 c1 y0
                    generalize Wk_1 = w11 at *
                    go_wp2_with fail
                    go_roundw
                    case rel => exact ⟨i + 1, by omega, by go_num, HBI2.out⟩
                    case measure => simp [intOf]; omega
                  · have hiNd : decide (i < N) = false := decide_eq_false hiN
                    clear hfirst hnext
                    go_upto_region 20 with fail
                    refine ordB_below (.quiet 0 (.quiet 1 (.quiet 2 (.quiet 3 (.quiet 4 (.quiet 5 (.only 6 (.quiet 7 (.quiet 8 (.quiet 9 (.quiet 10 (.quiet 11 .done)))))))))))) (by kernel_rfl) (by kernel_rfl) (by kernel_rfl) (fun _ _ _ _ _ h => h) ?_
                    intro Wk hWk
                    iterate 6 (first
                      | (refine ordB_skip rfl rfl ?_; simp only [Act.put, List.setIfInBounds_toArray, List.set_cons_zero, List.set_cons_succ])
                      | (refine ordB_take (v := ?_) rfl rfl ?_ ?_
                         rotate_left 1
                         focus (intro W hW; obtain ⟨hcW, hfW⟩ := bcell hW; (go_simp <;> with_reducible rfl))
                         simp only [Act.put, List.setIfInBounds_toArray, List.set_cons_zero, List.set_cons_succ]))
                    refine ordB_only (opB_call rfl rfl (fun K hK => ?_))
                    go_simp
                    go_at_call 19
                    refine (HRC.out _ hWk).mono ?_
                    rintro e Wk_1 ⟨rfl, hx6⟩
                    refine hK.out _ _ (hWk.trans (hx6.mono hWk.size)) (fun hWk_1 => ?_)
                    iterate 5 (first
                      | (refine ordB_skip rfl rfl ?_; simp only [Act.put, List.setIfInBounds_toArray, List.set_cons_zero, List.set_cons_succ])
                      | (refine ordB_take (v := ?_) rfl rfl ?_ ?_
                         rotate_left 1
                         focus (intro W hW; obtain ⟨hcW, hfW⟩ := bcell hW; (go_simp <;> with_reducible rfl))
                         simp only [Act.put, List.setIfInBounds_toArray, List.set_cons_zero, List.set_cons_succ]))
                    refine ordB_nil ?_
                    have HBI2 := Lib.hid (bthen HBI.out hWk_1)
                    have c0 := ((bcell hWk_1).1 _ _ cl).trans c0
                    have y1 := ((bcell hWk_1).1 _ _ hbb).trans y1
                    have cl := Nat.lt_of_lt_of_le cl hWk_1.size
                    have hbb := Nat.lt_of_lt_of_le hbb hWk_1.size
                    clear hWk_1 c1 y0
                    generalize Wk_1 = w11 at *
                    go_wp2_with fail
                    go_roundw
                    case rel => exact ⟨i + 1, by omega, by go_num, HBI2.out⟩
                    case measure => simp [intOf]; omega
              · obtain rfl : i = L.length := by omega
                have hE := bthen HBV.out hb78
                go_wp2_with fail
                go_ret
                exact ⟨rfl, hE⟩
end Go.Proofs.Ytbikjmafddndpaa
