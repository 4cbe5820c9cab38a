/-
  The law ProofLinks: for all inputs it returns true.
-/
import Derived.Test.YtaohbicjdmogkaaPrMatches
import Derived.Test.YtaohbicjdmogkaaGrLinks
import Derived.Deep.DeepCutAuto
namespace Go.Proofs.Ytaohbicjdmogkaa
open Go Go.RowKit

theorem take_same {p q : List Int} {k : Nat} {a b : Int} (hp : p[k]? = some a) (hq : q[k]? = some b) : decide (p.take (k + 1) = q.take (k + 1)) = (decide (p.take k = q.take k) && decide (a = b)) := by
  rw [take_succ_of hp, take_succ_of hq, Bool.eq_iff_iff, Bool.and_eq_true, decide_eq_true_iff, decide_eq_true_iff, decide_eq_true_iff]
  constructor
  · intro h
    obtain ⟨h1, h2⟩ := List.append_inj' h rfl
    exact ⟨h1, by injection h2⟩
  · rintro ⟨h1, rfl⟩
    rw [h1]

set_option maxRecDepth 100000 in
set_option maxHeartbeats 16000000 in
theorem proofLinks_any (A : Option Addr) (l : List T3) (c : Nat) (x : Int) (pa pb pc : Int) (w : World) (hs : SlR 3 RT3 w A l) (hl : l.length ≤ maxLen) (hok : ∀ p ∈ l, T3OK p) (hx : 0 ≤ x ∧ x ≤ 255)
    (hpa : 0 ≤ pa ∧ pa ≤ 255) (hpb : 0 ≤ pb ∧ pb ≤ 255) (hpc : 0 ≤ pc ∧ pc ≤ 255) :
    Calls Try.prog 7 #[.agg #[.int .u8 x, .slice A l.length c], .agg #[.int .u8 pa, .int .u8 pb, .int .u8 pc]] w fun e w' => e = .returned (.bool true) ∧ Below w.heap.size w w' := by
  obtain ⟨i0, hi, hz0, hz1, hz2⟩ := info_parts link_info
  obtain ⟨w1, hw1⟩ : ∃ w1, ((w.alloc (.cells #[.int .u8 x, .slice A l.length c] 24)).alloc (.cells #[.int .u8 pa, .int .u8 pb, .int .u8 pc] 56)) = w1 := ⟨_, rfl⟩
  have hb1 : Below w.heap.size w w1 := by rw [← hw1]; exact nw _ (nw _ (Below.refl _ _))
  have hX0 : Blk w1 (w.heap.size) 24 #[.int .u8 x, .slice A l.length c] := by rw [← hw1]; exact (Blk.new _ _ _).alloc _
  have hX1 : Blk w1 (w.heap.size + 1) 56 #[.int .u8 pa, .int .u8 pb, .int .u8 pc] := by rw [← hw1]; exact Blk.new_ (by simp)
  have HW1 := Lib.hid hw1
  have HMD : Hid (∀ W, Below w.heap.size w W → Calls Try.prog 9 #[.agg #[.int .u8 x, .slice A l.length c]] W fun e w' => ∃ A' c', e = .returned (.agg #[.int .i64 (madeG x l).n, .slice A' (madeG x l).ls.length c']) ∧ (madeG x l).ls.length ≤ c' ∧ c' ≤ maxLen ∧ SlR 4 RLk w' A' (madeG x l).ls ∧ Below W.heap.size W w') :=
    fun W hW => made_any A l c x W (hs.below keeps_t3 hW) hl hx hok
  have hg : GrOK (madeG x l) := madeG_ok hok
  have h14 : (madeG x l).ls.length ≤ 14 := madeG_len x l
  have hn7 : 1 ≤ (madeG x l).n ∧ (madeG x l).n ≤ 7 := madeG_n x l
  generalize madeG x l = g at *
  obtain ⟨N, hN⟩ : ∃ N : Nat, g.n = (N : Int) := ⟨g.n.toNat, by omega⟩
  rw [hN] at HMD
  have HN := Lib.hid hN
  have HG := Lib.hid hg
  have hN1 : 1 ≤ N := by omega
  have hN7 : N ≤ 7 := by omega
  have hlt1 := hX0.lt
  clear hw1 hs hok hN hg hn7
  have hbx0 := hX0.cell 0
  have hbx1 := hX0.cell 1
  simp at hbx0 hbx1
  go_enter Try.func7, Try.ntmps7
  go_upto_region 1 with fail
  rw [HW1.out]
  go_upto_region 2 with (go_at_call 8; go_loud (refine (sanity_any _).mono ?_; rintro e w2 ⟨rfl, hb2⟩))
  have hX0 := hX0.below hb2 hX0.lt
  have hX1 := hX1.below hb2 hX1.lt
  have hbx0 := hX0.cell 0
  have hbx1 := hX0.cell 1
  simp at hbx0 hbx1
  have hbw2 := bthen hb1 hb2
  go_upto_region 3 with (go_at_call 9; go_loud (refine (HMD.out _ hbw2).mono ?_; rintro e w3 ⟨A3, c3, rfl, hc3, hcm3, hs3, hb3⟩))
  obtain ⟨W, hW⟩ : ∃ W, w3.alloc (.cells #[.int .i64 (N : Int), .slice A3 g.ls.length c3] 31) = W := ⟨_, rfl⟩
  have hb4 : Below w3.heap.size w3 W := by rw [← hW]; exact nw _ (Below.refl _ _)
  have hGB : Blk W w3.heap.size 31 #[.int .i64 (N : Int), .slice A3 g.ls.length c3] := by rw [← hW]; exact Blk.new _ _ _
  rw [hW]
  obtain ⟨bG, hbG⟩ : ∃ b, w3.heap.size = b := ⟨_, rfl⟩
  have hb34 := bthen hb3 hb4
  have hX0 := hX0.below hb34 hX0.lt
  have hX1 := hX1.below hb34 hX1.lt
  have hbw := bthen hbw2 hb34
  have hls := hs3.below keeps_lk hb4
  have hwG : w.heap.size ≤ bG := by have := hbw2.size; have := hb3.size; omega
  rw [hbG] at hGB ⊢
  have hlm : g.ls.length ≤ maxLen := by unfold maxLen; omega
  clear hbx0 hbx1 hW hbG hb4 hb34 hbw2 hb2 hb3 hs3 hb1 HMD HW1

  have hgn : g.n = (N : Int) := HN.out
  have HG4 : Hid (∀ W', Below W.heap.size W W' → W'.cell? ⟨bG, 0, none⟩ = some (.int .i64 (N : Int)) ∧ W'.cell? ⟨bG, 1, none⟩ = some (.slice A3 g.ls.length c3) ∧ bG < W'.heap.size) := fun W' hW' => by
    have h1 := hGB.below hW' hGB.lt
    have e0 := h1.cell 0
    have e1 := h1.cell 1
    simp at e0 e1
    exact ⟨e0, e1, h1.lt⟩
  have HA4 : Hid (∀ W', Below W.heap.size W W' → W'.cell? ⟨w.heap.size + 1, 0, none⟩ = some (.int .u8 pa) ∧ W'.cell? ⟨w.heap.size + 1, 1, none⟩ = some (.int .u8 pb) ∧ W'.cell? ⟨w.heap.size + 1, 2, none⟩ = some (.int .u8 pc) ∧ w.heap.size + 1 < W'.heap.size) := fun W' hW' => by
    have h1 := hX1.below hW' hX1.lt
    have e0 := h1.cell 0
    have e1 := h1.cell 1
    have e2 := h1.cell 2
    simp at e0 e1 e2
    exact ⟨e0, e1, e2, h1.lt⟩
  obtain ⟨g0, g1, gl⟩ := HG4.out _ (Below.refl _ _)
  obtain ⟨x0, x1, x2, xl⟩ := HA4.out _ (Below.refl _ _)
  clear hGB hX0 hX1 hgn
  by_cases hN2 : (N : Int) < 2
  · go_wp2_with fail
    go_ret
    exact ⟨rfl, hbw⟩
  obtain ⟨fr, hfr⟩ : ∃ k : Nat, pa % ((N : Int) - 1) = (k : Int) := ⟨(pa % ((N : Int) - 1)).toNat, by have := Int.emod_nonneg pa (show (N : Int) - 1 ≠ 0 by omega); omega⟩
  have hfN : fr + 1 < N := by have := Int.emod_lt_of_pos pa (show (0 : Int) < (N : Int) - 1 by omega); omega
  have htf : pa.tmod ((N : Int) - 1) = (fr : Int) := by rw [Int.tmod_eq_emod_of_nonneg hpa.1]; exact hfr
  obtain ⟨q, hq⟩ : ∃ k : Nat, pb % ((N : Int) - 1 - (fr : Int)) = (k : Int) := ⟨(pb % ((N : Int) - 1 - (fr : Int))).toNat, by have := Int.emod_nonneg pb (show (N : Int) - 1 - (fr : Int) ≠ 0 by omega); omega⟩
  have hqN : fr + 1 + q < N := by have := Int.emod_lt_of_pos pb (show (0 : Int) < (N : Int) - 1 - (fr : Int) by omega); omega
  have htq : pb.tmod ((N : Int) - 1 - (fr : Int)) = (q : Int) := by rw [Int.tmod_eq_emod_of_nonneg hpb.1]; exact hq
  obtain ⟨tt, htt⟩ : ∃ t : Nat, fr + 1 + q = t := ⟨_, rfl⟩
  obtain ⟨ci, hci⟩ : ∃ k : Nat, pc % 12 = (k : Int) := ⟨(pc % 12).toNat, by omega⟩
  have hc11 : ci ≤ 11 := by omega
  have htc : pc.tmod 12 = (ci : Int) := by rw [Int.tmod_eq_emod_of_nonneg hpc.1]; exact hci
  have hwa : IntKind.i64.wrap pa = pa := IntWalk.i64_in _ (by omega)
  have hwb : IntKind.i64.wrap pb = pb := IntWalk.i64_in _ (by omega)
  have hwN : IntKind.i64.wrap ((N : Int) - 1) = (N : Int) - 1 := IntWalk.i64_in _ (by omega)
  have hwNf : IntKind.i64.wrap ((N : Int) - 1 - (fr : Int)) = (N : Int) - 1 - (fr : Int) := IntWalk.i64_in _ (by omega)
  have hwf : IntKind.i64.wrap ((fr : Int) + 1) = (fr : Int) + 1 := IntWalk.i64_in _ (by omega)
  have hwf0 : IntKind.i64.wrap (fr : Int) = (fr : Int) := IntWalk.i64_in _ (by omega)
  have hwq0 : IntKind.i64.wrap (q : Int) = (q : Int) := IntWalk.i64_in _ (by omega)
  have hwt : IntKind.i64.wrap ((fr : Int) + 1 + (q : Int)) = (tt : Int) := by rw [IntWalk.i64_in _ (by omega)]; omega
  have hwc : IntKind.i64.wrap (ci : Int) = (ci : Int) := IntWalk.i64_in _ (by omega)
  have hwcu : IntKind.u8.wrap (ci : Int) = (ci : Int) := by rw [IntKind.wrap_u8]; omega
  have hNz : ¬ (N : Int) - 1 = 0 := by omega
  have hNfz : ¬ (N : Int) - 1 - (fr : Int) = 0 := by omega
  have hftt : fr < tt := by omega
  have htN : tt < N := by omega
  clear hfr hq hci htt
  go_upto_region 6 with fail
  refine ordB_below (.quiet 0 (.quiet 1 (.quiet 2 (.quiet 3 (.quiet 4 (.quiet 5 (.quiet 6 (.quiet 7 (.quiet 8 (.quiet 9 (.quiet 10 (.quiet 11 (.quiet 12 (.quiet 13 (.quiet 14 (.quiet 15 (.quiet 16 (.quiet 17 (.only 18 (.only 19 .done)))))))))))))))))))) (by kernel_rfl) (by kernel_rfl) (by kernel_rfl) (fun _ _ _ _ _ h => h) ?_
  intro V0 hV0
  iterate 18 (first
    | (refine ordB_skip rfl rfl ?_; simp only [Act.put, List.setIfInBounds_toArray, List.set_cons_zero, List.set_cons_succ])
    | (refine ordB_take (v := ?_) rfl rfl ?_ ?_
       rotate_left 1
       focus (intro W hW; obtain ⟨hcW, hfW⟩ := bcell hW; (go_simp <;> with_reducible rfl))
       simp only [Act.put, List.setIfInBounds_toArray, List.set_cons_zero, List.set_cons_succ]))
  refine ordB_only (opB_call rfl rfl (fun K hK => ?_))
  go_simp
  refine hK.out _ _ (hV0.alloc hV0.size _) (fun hV0_1 => ?_)
  have lk := Blk.new V0 34 #[.int .i64 0, .int .i64 0, .int .i64 0, .int .i64 0]
  have lkb := nw (.cells #[.int .i64 0, .int .i64 0, .int .i64 0, .int .i64 0] 34) (Below.refl V0.heap.size V0)
  have lkg := hV0.size
  obtain ⟨V0_1, qqV0_1⟩ : ∃ W', V0.alloc (.cells #[.int .i64 0, .int .i64 0, .int .i64 0, .int .i64 0] 34) = W' := ⟨_, rfl⟩
  rw [qqV0_1] at hV0_1 lk lkb ⊢
  clear qqV0_1 lkb
  refine ordB_only (opB_call rfl rfl (fun K hK => ?_))
  have lkc0 := lk.cell 0
  have lkf0 := lk.frozen 0
  have lkc1 := lk.cell 1
  have lkf1 := lk.frozen 1
  have lkc2 := lk.cell 2
  have lkf2 := lk.frozen 2
  have lkc3 := lk.cell 3
  have lkf3 := lk.frozen 3
  simp at lkc0 lkc1 lkc2 lkc3
  go_simp
  refine hK.out _ _ ((((hV0_1.setCell (p := ⟨V0.heap.size, 0, none⟩) lkg _).setCell (p := ⟨V0.heap.size, 1, none⟩) lkg _).setCell (p := ⟨V0.heap.size, 2, none⟩) lkg _).setCell (p := ⟨V0.heap.size, 3, none⟩) lkg _) (fun hV0_1_2 => ?_)
  have lk := ((((lk.set_ 0 (.int .i64 (fr : Int))).set_ 1 (.int .i64 (tt : Int))).set_ 2 (.int .i64 0)).set_ 3 (.int .i64 (ci : Int)))
  obtain ⟨V0_1_2, qqV0_1_2⟩ : ∃ W', ((((V0_1.setCell ⟨V0.heap.size, 0, none⟩ (.int .i64 (fr : Int))).setCell ⟨V0.heap.size, 1, none⟩ (.int .i64 (tt : Int))).setCell ⟨V0.heap.size, 2, none⟩ (.int .i64 0)).setCell ⟨V0.heap.size, 3, none⟩ (.int .i64 (ci : Int))) = W' := ⟨_, rfl⟩
  rw [qqV0_1_2] at hV0_1_2 lk  ⊢
  clear qqV0_1_2 lkc0 lkf0 lkc1 lkf1 lkc2 lkf2 lkc3 lkf3
  refine ordB_nil ?_
  have hb6 := hV0_1_2
  simp at lk
  generalize V0_1_2 = W6 at *
  obtain ⟨bK, hbK⟩ : ∃ b, V0.heap.size = b := ⟨_, rfl⟩
  rw [hbK] at lk ⊢
  have hls6 := hls.below keeps_lk hb6
  have hbw6 : Below w.heap.size w W6 := hbw.trans (hb6.mono hbw.size)
  have HG6 : Hid (∀ W', Below W6.heap.size W6 W' → W'.cell? ⟨bG, 0, none⟩ = some (.int .i64 (N : Int)) ∧ W'.cell? ⟨bG, 1, none⟩ = some (.slice A3 g.ls.length c3) ∧ bG < W'.heap.size) := fun W' hW' => HG4.out W' (bthen hb6 hW')
  have HK6 : Hid (∀ W', Below W6.heap.size W6 W' → W'.cell? ⟨bK, 0, none⟩ = some (.int .i64 (fr : Int)) ∧ W'.cell? ⟨bK, 1, none⟩ = some (.int .i64 (tt : Int)) ∧ W'.cell? ⟨bK, 2, none⟩ = some (.int .i64 0) ∧ W'.cell? ⟨bK, 3, none⟩ = some (.int .i64 (ci : Int)) ∧ bK < W'.heap.size) := fun W' hW' => by
    have h1 := lk.below hW' lk.lt
    have e0 := h1.cell 0
    have e1 := h1.cell 1
    have e2 := h1.cell 2
    have e3 := h1.cell 3
    simp at e0 e1 e2 e3
    exact ⟨e0, e1, e2, e3, h1.lt⟩
  have HBW6 := Lib.hid hbw6
  clear htf htq htc hwa hwb hwN hwNf hwf hwf0 hwq0 hwt hwcu hNz hNfz hqN x0 x1 x2 xl g0 g1 gl HA4 hbw hbw6 hb6
  go_upto_region 7 with fail
  go_cut [9] (fun bo wr => ∃ (bO : Nat) (A9 : Option Addr) (c9 : Nat), bo = ptr bO ∧ W6.heap.size ≤ bO ∧ Blk wr bO 31 #[.int .i64 (N : Int), .slice A9 g.ls.length c9] ∧ wr.ownsRow W6.heap.size 34 4 (.slice A9 g.ls.length c9) g.ls.length (g.ls.flatMap encLk) ∧ g.ls.length ≤ c9 ∧ c9 ≤ maxLen ∧ Below W6.heap.size W6 wr)
  case first =>
    refine ordB_below (.quiet 0 (.quiet 1 (.quiet 3 (.quiet 4 (.fork 2 7 (.fork 5 7 (.quiet 6 (.only 7 (.only 8 .done))) (.only 5 (.quiet 6 (.only 8 .done)))) (.only 2 (.only 5 (.quiet 6 (.only 8 .done))))))))) (by kernel_rfl) (by kernel_rfl) (by kernel_rfl) (fun _ _ _ _ _ h => h) ?_
    intro Wd hSd
    obtain ⟨g0, g1, gl⟩ := HG6.out _ (Below.refl _ _)
    iterate 4 (first
      | (refine ordB_skip rfl rfl ?_; simp only [Act.put, List.setIfInBounds_toArray, List.set_cons_zero, List.set_cons_succ])
      | (refine ordB_take (v := ?_) rfl rfl ?_ ?_
         rotate_left 1
         focus (intro W hW; obtain ⟨hcW, hfW⟩ := bcell hW; (go_simp <;> with_reducible rfl))
         simp only [Act.put, List.setIfInBounds_toArray, List.set_cons_zero, List.set_cons_succ]))
    refine ordB_fork (opB_call rfl rfl (fun K hK => ?_)) (opB_call rfl rfl (fun K hK => ?_))
    · go_simp
      refine hK.out _ _ (hSd.alloc hSd.size _) (fun hSd1 => ?_)
      clear hK K
      have ho := own_empty Wd 34 4 W6.heap.size hSd.size
      have vlt := hSd.size
      obtain ⟨vb, hvb⟩ : ∃ b, Wd.heap.size = b := ⟨_, rfl⟩
      obtain ⟨Wd1, qq⟩ : ∃ W', Wd.alloc (.cells #[] 34) = W' := ⟨_, rfl⟩
      rw [hvb] at ho ⊢
      rw [qq] at hSd1 ho ⊢
      clear qq
      try simp only [Act.put, List.setIfInBounds_toArray, List.set_cons_zero, List.set_cons_succ]
      refine ordB_fork (opB_call rfl rfl (fun K hK => ?_)) (opB_call rfl rfl (fun K hK => ?_))
      · refine wp_appS (enc := encLk) (R := RLk) _ _ 29 rfl W6.heap.size 34 i0 _ 4 32 Try.underlying29 hi hz0 hz1 hz2 rfl (by decide) (.slice (some ⟨vb, 0, none⟩) 0 0) _ _ rfl ho A3 c3 g.ls rfl (hls6.below keeps_lk hSd1) (fun _ _ _ h => h) (fun _ => rfl) (fun u hu => one_lk hu) (by omega) (by decide) hSd1.size ?_
        intro v9 Wd2 h91 h92 h93
        refine hK.out _ _ (hSd1.trans h92) (fun hSd2 => ?_)
        clear hK K
        have ho : Wd2.ownsRow W6.heap.size 34 4 v9 g.ls.length (g.ls.flatMap encLk) := by simpa using h91
        obtain ⟨A9, c9, rfl, hc9, hcm9, hs9⟩ := own_slr (R := RLk) ho (fun _ => rfl) (fun _ => rfl) rfl
        clear h91 h92 h93
        try simp only [Act.put, List.setIfInBounds_toArray, List.set_cons_zero, List.set_cons_succ]
        iterate 1 (first
          | (refine ordB_skip rfl rfl ?_; simp only [Act.put, List.setIfInBounds_toArray, List.set_cons_zero, List.set_cons_succ])
          | (refine ordB_take (v := ?_) rfl rfl ?_ ?_
             rotate_left 1
             focus (intro W hW; obtain ⟨hcW, hfW⟩ := bcell hW; (go_simp <;> with_reducible rfl))
             simp only [Act.put, List.setIfInBounds_toArray, List.set_cons_zero, List.set_cons_succ]))
        refine ordB_only (opB_call rfl rfl (fun K hK => ?_))
        go_simp
        refine hK.out _ _ (hSd2.alloc hSd2.size _) (fun hSd3 => ?_)
        clear hK K
        have nG := Blk.new Wd2 31 #[.int .i64 0, .slice none 0 0]
        have ho := ho.alloc (.cells #[.int .i64 0, .slice none 0 0] 31)
        obtain ⟨bO, hbO⟩ : ∃ b, Wd2.heap.size = b := ⟨_, rfl⟩
        obtain ⟨Wd3, qq⟩ : ∃ W', Wd2.alloc (.cells #[.int .i64 0, .slice none 0 0] 31) = W' := ⟨_, rfl⟩
        have nOB : W6.heap.size ≤ bO := by rw [← hbO]; exact hSd2.size
        rw [hbO] at nG ⊢
        rw [qq] at hSd3 nG ho ⊢
        clear qq
        try simp only [Act.put, List.setIfInBounds_toArray, List.set_cons_zero, List.set_cons_succ]
        refine ordB_only (opB_call rfl rfl (fun K hK => ?_))
        have nGc0 := nG.cell 0
        have nGc1 := nG.cell 1
        have nGf0 := nG.frozen 0
        have nGf1 := nG.frozen 1
        have nGl := nG.lt
        simp at nGc0 nGc1
        go_simp
        refine hK.out _ _ ((hSd3.setCell (p := ⟨bO, 0, none⟩) nOB _).setCell (p := ⟨bO, 1, none⟩) nOB _) (fun hSd4 => ?_)
        clear hK K
        have ho2 := own_keep ho (w' := (Wd3.setCell ⟨bO, 0, none⟩ (.int .i64 (N : Int))).setCell ⟨bO, 1, none⟩ (.slice A9 g.ls.length c9)) (fun gg hgg _ => (Below.heap_setCell _ _ _ gg (fun e => own_blk_ne ho nG (by decide) (by rw [hgg, e]))).trans (Below.heap_setCell _ _ _ gg (fun e => own_blk_ne ho nG (by decide) (by rw [hgg, e]))))
        have nG2 := (nG.set_ 0 (.int .i64 (N : Int))).set_ 1 (.slice A9 g.ls.length c9)
        obtain ⟨Wd4, qq⟩ : ∃ W', (Wd3.setCell ⟨bO, 0, none⟩ (.int .i64 (N : Int))).setCell ⟨bO, 1, none⟩ (.slice A9 g.ls.length c9) = W' := ⟨_, rfl⟩
        rw [qq] at ho2 nG2 hSd4 ⊢
        refine ordB_nil ?_
        go_wp2_with fail
        go_meet
        exact ⟨bO, A9, c9, rfl, nOB, nG2, ho2, hc9, hcm9, hSd4⟩
      · go_simp
        refine hK.out _ _ (hSd1.alloc hSd1.size _) (fun hSd5 => ?_)
        clear hK K
        have nG := Blk.new Wd1 31 #[.int .i64 0, .slice none 0 0]
        have ho := ho.alloc (.cells #[.int .i64 0, .slice none 0 0] 31)
        obtain ⟨bO, hbO⟩ : ∃ b, Wd1.heap.size = b := ⟨_, rfl⟩
        obtain ⟨Wd5, qq⟩ : ∃ W', Wd1.alloc (.cells #[.int .i64 0, .slice none 0 0] 31) = W' := ⟨_, rfl⟩
        have nOB : W6.heap.size ≤ bO := by rw [← hbO]; exact hSd1.size
        rw [hbO] at nG ⊢
        rw [qq] at hSd5 nG ho ⊢
        clear qq
        try simp only [Act.put, List.setIfInBounds_toArray, List.set_cons_zero, List.set_cons_succ]
        refine ordB_only (opB_call rfl rfl (fun K hK => ?_))
        refine wp_appS (enc := encLk) (R := RLk) _ _ 29 rfl W6.heap.size 34 i0 _ 4 32 Try.underlying29 hi hz0 hz1 hz2 rfl (by decide) (.slice (some ⟨vb, 0, none⟩) 0 0) _ _ rfl ho A3 c3 g.ls rfl (hls6.below keeps_lk hSd5) (fun _ _ _ h => h) (fun _ => rfl) (fun u hu => one_lk hu) (by omega) (by decide) hSd5.size ?_
        intro v9 Wd6 h91 h92 h93
        refine hK.out _ _ (hSd5.trans h92) (fun hSd6 => ?_)
        clear hK K
        have nG := nG.apps h93 (own_blk_ne ho nG (by decide))
        have ho : Wd6.ownsRow W6.heap.size 34 4 v9 g.ls.length (g.ls.flatMap encLk) := by simpa using h91
        obtain ⟨A9, c9, rfl, hc9, hcm9, hs9⟩ := own_slr (R := RLk) ho (fun _ => rfl) (fun _ => rfl) rfl
        clear h91 h92 h93
        try simp only [Act.put, List.setIfInBounds_toArray, List.set_cons_zero, List.set_cons_succ]
        iterate 1 (first
          | (refine ordB_skip rfl rfl ?_; simp only [Act.put, List.setIfInBounds_toArray, List.set_cons_zero, List.set_cons_succ])
          | (refine ordB_take (v := ?_) rfl rfl ?_ ?_
             rotate_left 1
             focus (intro W hW; obtain ⟨hcW, hfW⟩ := bcell hW; (go_simp <;> with_reducible rfl))
             simp only [Act.put, List.setIfInBounds_toArray, List.set_cons_zero, List.set_cons_succ]))
        refine ordB_only (opB_call rfl rfl (fun K hK => ?_))
        have nGc0 := nG.cell 0
        have nGc1 := nG.cell 1
        have nGf0 := nG.frozen 0
        have nGf1 := nG.frozen 1
        have nGl := nG.lt
        simp at nGc0 nGc1
        go_simp
        refine hK.out _ _ ((hSd6.setCell (p := ⟨bO, 0, none⟩) nOB _).setCell (p := ⟨bO, 1, none⟩) nOB _) (fun hSd7 => ?_)
        clear hK K
        have ho2 := own_keep ho (w' := (Wd6.setCell ⟨bO, 0, none⟩ (.int .i64 (N : Int))).setCell ⟨bO, 1, none⟩ (.slice A9 g.ls.length c9)) (fun gg hgg _ => (Below.heap_setCell _ _ _ gg (fun e => own_blk_ne ho nG (by decide) (by rw [hgg, e]))).trans (Below.heap_setCell _ _ _ gg (fun e => own_blk_ne ho nG (by decide) (by rw [hgg, e]))))
        have nG2 := (nG.set_ 0 (.int .i64 (N : Int))).set_ 1 (.slice A9 g.ls.length c9)
        obtain ⟨Wd7, qq⟩ : ∃ W', (Wd6.setCell ⟨bO, 0, none⟩ (.int .i64 (N : Int))).setCell ⟨bO, 1, none⟩ (.slice A9 g.ls.length c9) = W' := ⟨_, rfl⟩
        rw [qq] at ho2 nG2 hSd7 ⊢
        refine ordB_nil ?_
        go_wp2_with fail
        go_meet
        exact ⟨bO, A9, c9, rfl, nOB, nG2, ho2, hc9, hcm9, hSd7⟩
    · go_simp
      refine hK.out _ _ (hSd.alloc hSd.size _) (fun hSd8 => ?_)
      clear hK K
      have nG := Blk.new Wd 31 #[.int .i64 0, .slice none 0 0]
      obtain ⟨bO, hbO⟩ : ∃ b, Wd.heap.size = b := ⟨_, rfl⟩
      obtain ⟨Wd8, qq⟩ : ∃ W', Wd.alloc (.cells #[.int .i64 0, .slice none 0 0] 31) = W' := ⟨_, rfl⟩
      have nOB : W6.heap.size ≤ bO := by rw [← hbO]; exact hSd.size
      rw [hbO] at nG ⊢
      rw [qq] at hSd8 nG ⊢
      clear qq
      try simp only [Act.put, List.setIfInBounds_toArray, List.set_cons_zero, List.set_cons_succ]
      refine ordB_only (opB_call rfl rfl (fun K hK => ?_))
      go_simp
      refine hK.out _ _ (hSd8.alloc hSd8.size _) (fun hSd9 => ?_)
      clear hK K
      have ho := own_empty Wd8 34 4 W6.heap.size hSd8.size
      have nG := nG.alloc (.cells #[] 34)
      have vlt := hSd8.size
      obtain ⟨vb, hvb⟩ : ∃ b, Wd8.heap.size = b := ⟨_, rfl⟩
      obtain ⟨Wd9, qq⟩ : ∃ W', Wd8.alloc (.cells #[] 34) = W' := ⟨_, rfl⟩
      rw [hvb] at ho ⊢
      rw [qq] at hSd9 nG ho ⊢
      clear qq
      try simp only [Act.put, List.setIfInBounds_toArray, List.set_cons_zero, List.set_cons_succ]
      refine ordB_only (opB_call rfl rfl (fun K hK => ?_))
      refine wp_appS (enc := encLk) (R := RLk) _ _ 29 rfl W6.heap.size 34 i0 _ 4 32 Try.underlying29 hi hz0 hz1 hz2 rfl (by decide) (.slice (some ⟨vb, 0, none⟩) 0 0) _ _ rfl ho A3 c3 g.ls rfl (hls6.below keeps_lk hSd9) (fun _ _ _ h => h) (fun _ => rfl) (fun u hu => one_lk hu) (by omega) (by decide) hSd9.size ?_
      intro v9 Wd10 h91 h92 h93
      refine hK.out _ _ (hSd9.trans h92) (fun hSd10 => ?_)
      clear hK K
      have nG := nG.apps h93 (own_blk_ne ho nG (by decide))
      have ho : Wd10.ownsRow W6.heap.size 34 4 v9 g.ls.length (g.ls.flatMap encLk) := by simpa using h91
      obtain ⟨A9, c9, rfl, hc9, hcm9, hs9⟩ := own_slr (R := RLk) ho (fun _ => rfl) (fun _ => rfl) rfl
      clear h91 h92 h93
      try simp only [Act.put, List.setIfInBounds_toArray, List.set_cons_zero, List.set_cons_succ]
      iterate 1 (first
        | (refine ordB_skip rfl rfl ?_; simp only [Act.put, List.setIfInBounds_toArray, List.set_cons_zero, List.set_cons_succ])
        | (refine ordB_take (v := ?_) rfl rfl ?_ ?_
           rotate_left 1
           focus (intro W hW; obtain ⟨hcW, hfW⟩ := bcell hW; (go_simp <;> with_reducible rfl))
           simp only [Act.put, List.setIfInBounds_toArray, List.set_cons_zero, List.set_cons_succ]))
      refine ordB_only (opB_call rfl rfl (fun K hK => ?_))
      have nGc0 := nG.cell 0
      have nGc1 := nG.cell 1
      have nGf0 := nG.frozen 0
      have nGf1 := nG.frozen 1
      have nGl := nG.lt
      simp at nGc0 nGc1
      go_simp
      refine hK.out _ _ ((hSd10.setCell (p := ⟨bO, 0, none⟩) nOB _).setCell (p := ⟨bO, 1, none⟩) nOB _) (fun hSd11 => ?_)
      clear hK K
      have ho2 := own_keep ho (w' := (Wd10.setCell ⟨bO, 0, none⟩ (.int .i64 (N : Int))).setCell ⟨bO, 1, none⟩ (.slice A9 g.ls.length c9)) (fun gg hgg _ => (Below.heap_setCell _ _ _ gg (fun e => own_blk_ne ho nG (by decide) (by rw [hgg, e]))).trans (Below.heap_setCell _ _ _ gg (fun e => own_blk_ne ho nG (by decide) (by rw [hgg, e]))))
      have nG2 := (nG.set_ 0 (.int .i64 (N : Int))).set_ 1 (.slice A9 g.ls.length c9)
      obtain ⟨Wd11, qq⟩ : ∃ W', (Wd10.setCell ⟨bO, 0, none⟩ (.int .i64 (N : Int))).setCell ⟨bO, 1, none⟩ (.slice A9 g.ls.length c9) = W' := ⟨_, rfl⟩
      rw [qq] at ho2 nG2 hSd11 ⊢
      refine ordB_nil ?_
      go_wp2_with fail
      go_meet
      exact ⟨bO, A9, c9, rfl, nOB, nG2, ho2, hc9, hcm9, hSd11⟩
  case rest =>
    obtain ⟨wO, rfl⟩ : ∃ W', W' = wc := ⟨wc, rfl⟩
    obtain ⟨bO, A9, c9, rfl, hOB, hO, hown, hc9, hcm9, hbO⟩ := hcut
    obtain ⟨k0, k1, k2, k3, kl⟩ := HK6.out _ hbO
    have o0 := hO.cell 0
    have o1 := hO.cell 1
    have ol := hO.lt
    simp at o0 o1
    obtain ⟨CE, hCE⟩ : ∃ C, (Obj.cells #[.int .i64 (fr : Int), .int .i64 (tt : Int), .int .i64 0, .int .i64 (ci : Int)] 34) = C := ⟨_, rfl⟩
    have hown1 := hown.alloc CE
    have hO1 := hO.alloc CE
    have hb1 : Below W6.heap.size W6 (wO.alloc CE) := hbO.alloc hbO.size CE
    have hne1 := own_blk_ne hown1 hO1 (by decide)
    have hs1 : SlR 4 RLk (wO.alloc CE) (some ⟨wO.heap.size, 0, none⟩) [Lk.mk fr tt 0 ci] := by rw [← hCE]; exact slr_blk (enc := encLk) (Blk.new_ rfl) (fun _ => rfl) (fun _ => rfl)
    have hsz1 := hb1.size
    rw [← hCE] at hown1 hO1 hb1 hs1 hsz1
    have HB1 := Lib.hid hb1
    have HO1 := Lib.hid hO1
    clear hb1 hO1 hown hO hbO hc9 hcm9 hCE
    obtain ⟨g2, hg2⟩ : ∃ g2, addL g (Lk.mk fr tt 0 ci) = g2 := ⟨_, rfl⟩
    have hg2l : g2.ls = g.ls ++ [Lk.mk fr tt 0 ci] := by rw [← hg2]; rfl
    have HG2 := Lib.hid hg2
    clear hg2
    go_upto_region 9 with (at_builtin; go_loud (refine wpList_appS (enc := encLk) (R := RLk) rfl _ _ 29 rfl W6.heap.size 34 i0 _ 4 32 Try.underlying29 hi hz0 hz1 hz2 rfl (by decide) (.slice A9 g.ls.length c9) _ _ rfl hown1 (some ⟨wO.heap.size, 0, none⟩) 1 [Lk.mk fr tt 0 ci] rfl hs1 (fun _ _ _ h => h) (fun _ => rfl) (fun u hu => one_lk hu) (by simp; omega) (by decide) hsz1 ?_; intro v9 w9 h91 h92 h93; have hown2 : w9.ownsRow W6.heap.size 34 4 v9 g2.ls.length (g2.ls.flatMap encLk) := (by rw [hg2l, List.length_append, List.flatMap_append]; exact h91); obtain ⟨A10, c10, rfl, hc10, hcm10, hs10⟩ := own_slr (R := RLk) hown2 (fun _ => rfl) (fun _ => rfl) rfl; have hO2 := HO1.out.apps h93 hne1; have o1 := hO2.cell 1; have of1 := hO2.frozen 1; have ol := hO2.lt; have o0 := hO2.cell 0; simp at o0 o1; clear h91 h93))
    have hne2 := own_blk_ne hown2 hO2 (by decide)
    have hown3 := own_keep hown2 (w' := w9.setCell ⟨bO, 1, none⟩ (.slice A10 (g.ls.length + 1) c10)) (fun gg hgg _ => Below.heap_setCell _ _ _ gg (fun e => hne2 (by rw [hgg, e])))
    have hO3 := hO2.set_ 1 (.slice A10 (g.ls.length + 1) c10)
    have hb10 : Below W6.heap.size W6 (w9.setCell ⟨bO, 1, none⟩ (.slice A10 (g.ls.length + 1) c10)) := (HB1.out.trans h92).setCell (p := ⟨bO, 1, none⟩) hOB _
    obtain ⟨W10, hW10⟩ : ∃ V, w9.setCell ⟨bO, 1, none⟩ (.slice A10 (g.ls.length + 1) c10) = V := ⟨_, rfl⟩
    rw [hW10] at hown3 hO3 hb10 ⊢
    obtain ⟨A', c', he, _, _, hs11⟩ := own_slr (R := RLk) hown3 (fun _ => rfl) (fun _ => rfl) rfl
    injection he with e1 e2 e3
    subst e1
    subst e3
    have hl2 : g2.ls.length = g.ls.length + 1 := by rw [hg2l, List.length_append]; rfl
    have hok2 : GrOK g2 := by rw [← HG2.out]; exact addL_ok HG.out h14 ⟨by show (0 : Int) ≤ (fr : Int); omega, by show (fr : Int) < (tt : Int); omega, by show (tt : Int) < g.n; rw [HN.out]; omega, by show (0 : Int) ≤ 0 ∧ (0 : Int) ≤ 1000000; omega, by show (0 : Int) ≤ (ci : Int) ∧ (ci : Int) ≤ 1000000; omega⟩
    have hn2 : g2.n = (N : Int) := by rw [← HG2.out]; exact HN.out
    have hlaw := links_law HG.out HN.out hftt htN (lb := 0) (c := (ci : Int)) (by omega)
    rw [HG2.out] at hlaw
    obtain ⟨hbet, Fv, tv, hF, ht, hiff⟩ := hlaw
    have hpl : (potL g).length = N := by have := potL_len HG.out; have := HN.out; omega
    have hql : (potL g2).length = N := by have := potL_len hok2; omega
    have hFb := potL_bd HG.out Fv (List.mem_of_getElem? hF)
    have htb := potL_bd HG.out tv (List.mem_of_getElem? ht)
    have HP1 : Hid (∀ W', Below W6.heap.size W6 W' → Calls Try.prog 10 #[.agg #[.int .i64 (N : Int), .slice A3 g.ls.length c3]] W' fun e w' => ∃ A' c', e = .returned (.tuple #[.slice A' N c', .int .i64 0]) ∧ SlR 1 RInt w' A' (potL g) ∧ Below W'.heap.size W' w') := fun W' hW' => by
      have h := pot_any A3 c3 g W' (hls6.below keeps_lk hW') hlm
      rw [show potsOf g = (potL g, 0) by unfold potsOf; rw [grB_iff.2 HG.out]; rfl, HN.out] at h
      dsimp only at h
      rw [hpl] at h
      exact h.mono fun e w' => fun ⟨A', c', h1, h2, h3, _⟩ => ⟨A', c', h1, h2, h3⟩
    have HP2 : Hid (∀ W', Below W10.heap.size W10 W' → Calls Try.prog 10 #[.agg #[.int .i64 (N : Int), .slice A10 (g.ls.length + 1) c10]] W' fun e w' => ∃ A' c', e = .returned (.tuple #[.slice A' N c', .int .i64 0]) ∧ SlR 1 RInt w' A' (potL g2) ∧ Below W'.heap.size W' w') := fun W' hW' => by
      have h := pot_any A10 c10 g2 W' (hs11.below keeps_lk hW') (by unfold maxLen; omega)
      rw [show potsOf g2 = (potL g2, 0) by unfold potsOf; rw [grB_iff.2 hok2]; rfl, hn2, hl2] at h
      dsimp only at h
      rw [hql] at h
      exact h.mono fun e w' => fun ⟨A', c', h1, h2, h3, _⟩ => ⟨A', c', h1, h2, h3⟩
    have HBET := Lib.hid hbet
    have HIFF := Lib.hid hiff
    have HF := Lib.hid hF
    have HT := Lib.hid ht
    have HPL := Lib.hid hpl
    have HQL := Lib.hid hql
    have HB10 := Lib.hid hb10
    have HO3 : Hid (∀ W', Below W10.heap.size W10 W' → W'.cell? ⟨bO, 0, none⟩ = some (.int .i64 (N : Int)) ∧ W'.cell? ⟨bO, 1, none⟩ = some (.slice A10 (g.ls.length + 1) c10) ∧ bO < W'.heap.size) := fun W' hW' => by
      have h1 := hO3.below hW' hO3.lt
      have e0 := h1.cell 0
      have e1 := h1.cell 1
      simp at e0 e1
      exact ⟨e0, e1, h1.lt⟩
    obtain ⟨g0, g1, gl⟩ := HG6.out _ hb10
    clear hown1 hown2 hown3 hO2 hO3 hs1 hs10 hs11 hne1 hne2 hW10 hg2l hbet hiff hF ht hpl hql hb10 h92 o0 o1 of1 ol hsz1 k0 k1 k2 k3 kl lk
    generalize potL g = p at *
    generalize potL g2 = q at *
    go_upto_region 10 with (go_at_call 10; go_loud (refine (HP1.out _ HB10.out).mono ?_; rintro e w11 ⟨Ap, cp, rfl, hp11, hb11⟩))
    obtain ⟨o0, o1, ol⟩ := HO3.out _ hb11
    have HB11 := Lib.hid hb11
    have HP11 := Lib.hid hp11
    clear hb11 hp11
    go_upto_region 11 with (go_at_call 10; go_loud (refine (HP2.out _ HB11.out).mono ?_; rintro e w12 ⟨Aq, cq, rfl, hq12, hb12⟩))
    have hp12 := HP11.out.below keeps_int hb12
    have HB12 := Lib.hid (bthen HB10.out (bthen HB11.out hb12))
    have HQ12 := Lib.hid hq12
    have HP12 := Lib.hid hp12
    obtain ⟨g0, g1, gl⟩ := HG6.out _ HB12.out
    have HBE : Hid (∀ W', Below w12.heap.size w12 W' → Below w.heap.size w W') := fun W' hW' => HBW6.out.trans ((bthen HB12.out hW').mono HBW6.out.size)
    clear hb12 hq12 hp12 HP1 HP2 HO3 HP11 HB11 HB10 o0 o1 ol
    go_wp2_with fail
    clear g0 g1 gl
    go_loopw [14, 15] (fun s i wr => ∃ k : Nat, k ≤ N ∧ i = .int .i64 k ∧ s = .bool (decide (p.take k = q.take k)) ∧ Below w12.heap.size w12 wr) (fun _ i _ => N - (intOf i).toNat)
    case atStart => exact ⟨0, by omega, rfl, by simp, Below.refl _ _⟩
    case round =>
      obtain ⟨k, hk, rfl, rfl, hb⟩ := hrel
      obtain ⟨g0, g1, gl⟩ := HG6.out _ (bthen HB12.out hb)
      by_cases hlt : k < N
      · obtain ⟨bp, op, a, rfl, hbp, hxa, hc0⟩ := (HP12.out.below keeps_int hb).int (k := k) (by have := HPL.out; omega)
        obtain ⟨bq, oq, b, rfl, hbq, hxb, hd0⟩ := (HQ12.out.below keeps_int hb).int (k := k) (by have := HQL.out; omega)
        have hbt : bet b a := by have := HBET.out k; rw [List.getD_eq_getElem?_getD, List.getD_eq_getElem?_getD, hxa, hxb] at this; exact this
        unfold bet at hbt
        have HS := Lib.hid (take_same hxa hxb)
        obtain ⟨ss, hss⟩ : ∃ s, decide (p.take k = q.take k) = s := ⟨_, rfl⟩
        rw [hss]
        rw [hss] at HS
        clear hss hxa hxb
        have hlt' : (k : Int) < (N : Int) := by omega
        have hwk : IntKind.i64.wrap ((k : Int) + 1) = (k : Int) + 1 := IntWalk.i64_in _ (by omega)
        have HB := Lib.hid hb
        clear hb
        by_cases ha : a < 0
        · have h1 : ¬ (0 : Int) ≤ a := by omega
          cases ss with
          | true =>
            go_upto_region 17 with fail
            refine ordB_below (.quiet 0 (.quiet 1 (.quiet 2 (.quiet 3 (.quiet 4 (.quiet 5 (.quiet 6 (.quiet 7 (.quiet 8 (.quiet 9 (.quiet 10 (.quiet 11 (.quiet 12 (.quiet 13 (.quiet 14 (.quiet 15 (.quiet 16 (.quiet 17 (.quiet 18 (.quiet 19 (.quiet 20 (.quiet 21 (.quiet 22 .done))))))))))))))))))))))) (by kernel_rfl) (by kernel_rfl) (by kernel_rfl) (fun _ _ _ _ _ h => h) ?_
            intro V0 hV0
            iterate 23 (first
              | (refine ordB_skip rfl rfl ?_; simp only [Act.put, List.setIfInBounds_toArray, List.set_cons_zero, List.set_cons_succ])
              | (refine ordB_take (v := ?_) rfl rfl ?_ ?_
                 rotate_left 1
                 focus (intro W hW; obtain ⟨hcW, hfW⟩ := bcell hW; (go_simp <;> with_reducible rfl))
                 simp only [Act.put, List.setIfInBounds_toArray, List.set_cons_zero, List.set_cons_succ]))
            refine ordB_nil ?_
            have HB := Lib.hid (bthen HB.out hV0)
            have hc0 := ((bcell hV0).1 _ _ hbp).trans hc0
            have hd0 := ((bcell hV0).1 _ _ hbq).trans hd0
            have hbp := Nat.lt_of_lt_of_le hbp hV0.size
            have hbq := Nat.lt_of_lt_of_le hbq hV0.size
            clear hV0
            go_wp2_with fail
            go_quiet (fail)
            go_wp2_with fail
            go_roundw
            case rel => exact ⟨k + 1, by omega, by go_num, by rw [HS.out, Bool.true_and]; by_cases h : a = b <;> simp [h], below_drewN HB.out _⟩
            case measure => simp [intOf]; omega
          | false =>
            go_upto_region 17 with fail
            refine ordB_below (.quiet 0 (.quiet 1 (.quiet 2 (.quiet 3 (.quiet 4 (.quiet 5 (.quiet 6 (.quiet 7 (.quiet 8 (.quiet 9 (.quiet 10 (.quiet 11 (.quiet 12 (.quiet 13 (.quiet 14 (.quiet 15 (.quiet 16 (.quiet 17 (.quiet 18 (.quiet 19 (.quiet 20 (.quiet 21 (.quiet 22 .done))))))))))))))))))))))) (by kernel_rfl) (by kernel_rfl) (by kernel_rfl) (fun _ _ _ _ _ h => h) ?_
            intro V0 hV0
            iterate 23 (first
              | (refine ordB_skip rfl rfl ?_; simp only [Act.put, List.setIfInBounds_toArray, List.set_cons_zero, List.set_cons_succ])
              | (refine ordB_take (v := ?_) rfl rfl ?_ ?_
                 rotate_left 1
                 focus (intro W hW; obtain ⟨hcW, hfW⟩ := bcell hW; (go_simp <;> with_reducible rfl))
                 simp only [Act.put, List.setIfInBounds_toArray, List.set_cons_zero, List.set_cons_succ]))
            refine ordB_nil ?_
            have HB := Lib.hid (bthen HB.out hV0)
            have hc0 := ((bcell hV0).1 _ _ hbp).trans hc0
            have hd0 := ((bcell hV0).1 _ _ hbq).trans hd0
            have hbp := Nat.lt_of_lt_of_le hbp hV0.size
            have hbq := Nat.lt_of_lt_of_le hbq hV0.size
            clear hV0
            go_wp2_with fail
            go_quiet (fail)
            go_wp2_with fail
            go_roundw
            case rel => exact ⟨k + 1, by omega, by go_num, by rw [HS.out]; rfl, below_drewN HB.out _⟩
            case measure => simp [intOf]; omega
        · have h1 : (0 : Int) ≤ a := by omega
          have h2 : ¬ b < 0 := by omega
          have h3 : ¬ a < b := by omega
          cases ss with
          | true =>
            go_wp2_with fail
            go_quiet (fail)
            go_wp2_with fail
            go_quiet (fail)
            go_wp2_with fail
            go_roundw
            case rel => exact ⟨k + 1, by omega, by go_num, by rw [HS.out, Bool.true_and]; by_cases h : a = b <;> simp [h], below_drewN HB.out _⟩
            case measure => simp [intOf]; omega
          | false =>
            go_wp2_with fail
            go_quiet (fail)
            go_wp2_with fail
            go_quiet (fail)
            go_wp2_with fail
            go_roundw
            case rel => exact ⟨k + 1, by omega, by go_num, by rw [HS.out]; rfl, below_drewN HB.out _⟩
            case measure => simp [intOf]; omega
      · have hkN : k = N := by omega
        rw [hkN]
        have HD : decide (p.take N = q.take N) = decide (tv < 0 ∨ (0 ≤ Fv ∧ Fv ≤ tv + (ci : Int))) := by
          rw [List.take_of_length_le (by rw [HPL.out]; omega), List.take_of_length_le (by rw [HQL.out]; omega)]
          exact decide_eq_decide.2 HIFF.out
        rw [HD]
        obtain ⟨bb, hbb⟩ : ∃ b, decide (tv < 0 ∨ (0 ≤ Fv ∧ Fv ≤ tv + (ci : Int))) = b := ⟨_, rfl⟩
        rw [hbb]
        have HBB := Lib.hid hbb
        obtain ⟨bp, op, a, rfl, hbp, hxa, hc0⟩ := (HP12.out.below keeps_int hb).int (k := fr) (by have := HPL.out; omega)
        obtain ⟨bp2, op2, a2, he, _, hxa2, hd0⟩ := (HP12.out.below keeps_int hb).int (k := tt) (by have := HPL.out; omega)
        injection he with he
        injection he with e1 e2 _
        subst e1
        subst e2
        rw [HF.out] at hxa
        obtain rfl := Option.some.inj hxa
        rw [HT.out] at hxa2
        obtain rfl := Option.some.inj hxa2
        obtain ⟨k0, k1, k2, k3, kl⟩ := HK6.out _ (bthen HB12.out hb)
        have hwtc : IntKind.i64.wrap (tv + (ci : Int)) = tv + (ci : Int) := IntWalk.i64_in _ (by omega)
        have hft' : (fr : Int) < (N : Int) := by omega
        have htt' : (tt : Int) < (N : Int) := by omega
        have HB := Lib.hid hb
        have hnlt : ¬ (N : Int) < (N : Int) := by omega
        clear hb hbb HD hxa hxa2 hkN hlt hk
        by_cases z0 : tv < 0
        · obtain rfl : bb = true := by rw [← HBB.out]; simp; omega
          go_upto_region 20 with fail
          refine ordB_below (.quiet 0 (.quiet 1 (.quiet 2 (.quiet 3 (.quiet 4 (.quiet 5 (.quiet 6 (.quiet 7 (.quiet 8 (.quiet 9 (.quiet 10 (.quiet 11 (.quiet 12 (.quiet 13 (.quiet 14 (.quiet 15 (.quiet 16 (.quiet 17 (.quiet 18 (.quiet 19 (.quiet 20 (.quiet 21 (.quiet 22 (.quiet 23 (.quiet 24 (.quiet 25 (.quiet 26 (.quiet 27 (.quiet 28 (.quiet 29 (.quiet 30 .done))))))))))))))))))))))))))))))) (by kernel_rfl) (by kernel_rfl) (by kernel_rfl) (fun _ _ _ _ _ h => h) ?_
          intro V0 hV0
          iterate 31 (first
            | (refine ordB_skip rfl rfl ?_; simp only [Act.put, List.setIfInBounds_toArray, List.set_cons_zero, List.set_cons_succ])
            | (refine ordB_take (v := ?_) rfl rfl ?_ ?_
               rotate_left 1
               focus (intro W hW; obtain ⟨hcW, hfW⟩ := bcell hW; (go_simp <;> with_reducible rfl))
               simp only [Act.put, List.setIfInBounds_toArray, List.set_cons_zero, List.set_cons_succ]))
          refine ordB_nil ?_
          have hE8 := HBE.out _ (bthen HB.out hV0)
          go_wp2_with fail
          go_ret
          exact ⟨rfl, hE8⟩
        · by_cases z1 : Fv < 0
          · obtain rfl : bb = false := by rw [← HBB.out]; simp; omega
            have z2 : ¬ (0 : Int) ≤ Fv := by omega
            go_upto_region 20 with fail
            refine ordB_below (.quiet 0 (.quiet 1 (.quiet 2 (.quiet 3 (.quiet 4 (.quiet 5 (.quiet 6 (.quiet 7 (.quiet 8 (.quiet 9 (.quiet 10 (.quiet 11 (.quiet 12 (.quiet 13 (.quiet 14 (.quiet 15 (.quiet 16 (.quiet 17 (.quiet 18 (.quiet 19 (.quiet 20 (.quiet 21 (.quiet 22 (.quiet 23 (.quiet 24 (.quiet 25 (.quiet 26 (.quiet 27 (.quiet 28 (.quiet 29 (.quiet 30 .done))))))))))))))))))))))))))))))) (by kernel_rfl) (by kernel_rfl) (by kernel_rfl) (fun _ _ _ _ _ h => h) ?_
            intro V0 hV0
            iterate 31 (first
              | (refine ordB_skip rfl rfl ?_; simp only [Act.put, List.setIfInBounds_toArray, List.set_cons_zero, List.set_cons_succ])
              | (refine ordB_take (v := ?_) rfl rfl ?_ ?_
                 rotate_left 1
                 focus (intro W hW; obtain ⟨hcW, hfW⟩ := bcell hW; (go_simp <;> with_reducible rfl))
                 simp only [Act.put, List.setIfInBounds_toArray, List.set_cons_zero, List.set_cons_succ]))
            refine ordB_nil ?_
            have hE8 := HBE.out _ (bthen HB.out hV0)
            go_wp2_with fail
            go_ret
            exact ⟨rfl, hE8⟩
          · have z2 : (0 : Int) ≤ Fv := by omega
            by_cases z3 : Fv ≤ tv + (ci : Int)
            · obtain rfl : bb = true := by rw [← HBB.out]; simp; omega
              go_upto_region 20 with fail
              refine ordB_below (.quiet 0 (.quiet 1 (.quiet 2 (.quiet 3 (.quiet 4 (.quiet 5 (.quiet 6 (.quiet 7 (.quiet 8 (.quiet 9 (.quiet 10 (.quiet 11 (.quiet 12 (.quiet 13 (.quiet 14 (.quiet 15 (.quiet 16 (.quiet 17 (.quiet 18 (.quiet 19 (.quiet 20 (.quiet 21 (.quiet 22 (.quiet 23 (.quiet 24 (.quiet 25 (.quiet 26 (.quiet 27 (.quiet 28 (.quiet 29 (.quiet 30 .done))))))))))))))))))))))))))))))) (by kernel_rfl) (by kernel_rfl) (by kernel_rfl) (fun _ _ _ _ _ h => h) ?_
              intro V0 hV0
              iterate 31 (first
                | (refine ordB_skip rfl rfl ?_; simp only [Act.put, List.setIfInBounds_toArray, List.set_cons_zero, List.set_cons_succ])
                | (refine ordB_take (v := ?_) rfl rfl ?_ ?_
                   rotate_left 1
                   focus (intro W hW; obtain ⟨hcW, hfW⟩ := bcell hW; (go_simp <;> with_reducible rfl))
                   simp only [Act.put, List.setIfInBounds_toArray, List.set_cons_zero, List.set_cons_succ]))
              refine ordB_nil ?_
              have hE8 := HBE.out _ (bthen HB.out hV0)
              go_wp2_with fail
              go_ret
              exact ⟨rfl, hE8⟩
            · obtain rfl : bb = false := by rw [← HBB.out]; simp; omega
              go_upto_region 20 with fail
              refine ordB_below (.quiet 0 (.quiet 1 (.quiet 2 (.quiet 3 (.quiet 4 (.quiet 5 (.quiet 6 (.quiet 7 (.quiet 8 (.quiet 9 (.quiet 10 (.quiet 11 (.quiet 12 (.quiet 13 (.quiet 14 (.quiet 15 (.quiet 16 (.quiet 17 (.quiet 18 (.quiet 19 (.quiet 20 (.quiet 21 (.quiet 22 (.quiet 23 (.quiet 24 (.quiet 25 (.quiet 26 (.quiet 27 (.quiet 28 (.quiet 29 (.quiet 30 .done))))))))))))))))))))))))))))))) (by kernel_rfl) (by kernel_rfl) (by kernel_rfl) (fun _ _ _ _ _ h => h) ?_
              intro V0 hV0
              iterate 31 (first
                | (refine ordB_skip rfl rfl ?_; simp only [Act.put, List.setIfInBounds_toArray, List.set_cons_zero, List.set_cons_succ])
                | (refine ordB_take (v := ?_) rfl rfl ?_ ?_
                   rotate_left 1
                   focus (intro W hW; obtain ⟨hcW, hfW⟩ := bcell hW; (go_simp <;> with_reducible rfl))
                   simp only [Act.put, List.setIfInBounds_toArray, List.set_cons_zero, List.set_cons_succ]))
              refine ordB_nil ?_
              have hE8 := HBE.out _ (bthen HB.out hV0)
              go_wp2_with fail
              go_ret
              exact ⟨rfl, hE8⟩
end Go.Proofs.Ytaohbicjdmogkaa
