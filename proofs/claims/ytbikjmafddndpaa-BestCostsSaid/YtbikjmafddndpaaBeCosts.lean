/-
  The law BestCosts: for all inputs it returns true.
-/
import Derived.Test.YtbikjmafddndpaaBeCost
import Derived.Test.YtbikjmafddndpaaBsWalkN
import Derived.Test.YtbikjmafddndpaaGrFirst
import Derived.Test.YtbikjmafddndpaaGrWalkI
import Derived.Deep.DeepCutAuto
namespace Go.Proofs.Ytbikjmafddndpaa
open Go Go.RowKit

theorem dear_first {g : Gr} (hg : GrOK g) (h14 : g.ls.length ≤ 14) {ls : List Int} (hw : wayB g 0 ls = true) : ∃ y : Can, (allR g).take 1 = [y] ∧ y.cost ≤ sumC g ls := by
  have hA := allR_is hg h14
  have hm : (⟨ls, sumC g ls⟩ : Can) ∈ allR g := (hA.2 _).2 ⟨hw, rfl⟩
  cases hc : allR g with
  | nil => rw [hc] at hm; cases hm
  | cons y r =>
    refine ⟨y, rfl, ?_⟩
    rw [hc] at hm hA
    rcases List.mem_cons.1 hm with h | h
    · rw [← h]; exact Int.le_refl _
    · have := canLt_iff.1 ((List.pairwise_cons.1 hA.1).1 _ h)
      simp only at this
      omega
set_option maxRecDepth 100000 in
set_option maxHeartbeats 16000000 in
theorem bestCosts_any (A : Option Addr) (l : List T3) (c : Nat) (x pa pb : Int) (C : Option Addr) (cs : List Int) (dc : Nat) (w : World) (hs : SlR 3 RT3 w A l) (hl : l.length ≤ maxLen) (hok : ∀ p ∈ l, T3OK p) (hx : 0 ≤ x ∧ x ≤ 255) (hpa : 0 ≤ pa ∧ pa ≤ 255) (hpb : 0 ≤ pb ∧ pb ≤ 255)
    (hcs : SlR 1 RU8 w C cs) (hcl : cs.length ≤ maxLen) (hc8 : ∀ x ∈ cs, 0 ≤ x ∧ x ≤ 255) :
    Calls Try.prog 8 #[.agg #[.int .u8 x, .slice A l.length c], .agg #[.int .u8 pa, .int .u8 pb], .slice C cs.length dc] w fun e w' => e = .returned (.bool true) ∧ Below w.heap.size w w' := by
  obtain ⟨w1, hw1⟩ : ∃ w1, ((w.alloc (.cells #[.int .u8 x, .slice A l.length c] 24)).alloc (.cells #[.int .u8 pa, .int .u8 pb] 51)) = w1 := ⟨_, rfl⟩
  have hb1 : Below w.heap.size w w1 := by rw [← hw1]; exact nw _ (nw _ (Below.refl _ _))
  have hX0 : Blk w1 (w.heap.size) 24 #[.int .u8 x, .slice A l.length c] := by rw [← hw1]; exact (Blk.new _ _ _).alloc _
  have hX1 : Blk w1 (w.heap.size + 1) 51 #[.int .u8 pa, .int .u8 pb] := by rw [← hw1]; exact Blk.new_ (by simp)
  have HW1 := Lib.hid hw1
  have HMD : Hid (∀ W, Below w.heap.size w W → Calls Try.prog 15 #[.agg #[.int .u8 x, .slice A l.length c]] W fun e w' => ∃ A' c', e = .returned (.agg #[.int .i64 (madeG x l).n, .slice A' (madeG x l).ls.length c']) ∧ (madeG x l).ls.length ≤ c' ∧ c' ≤ maxLen ∧ SlR 4 RLk w' A' (madeG x l).ls ∧ Below W.heap.size W w') :=
    fun W hW => made_any A l c x W (hs.below keeps_t3 hW) hl hx hok
  have hg : GrOK (madeG x l) := madeG_ok hok
  have h14 : (madeG x l).ls.length ≤ 14 := madeG_len x l
  have hn7 : 1 ≤ (madeG x l).n ∧ (madeG x l).n ≤ 7 := madeG_n x l
  have hcm : ∀ q ∈ (madeG x l).ls, 0 ≤ q.cost ∧ q.cost ≤ 4 := fun q hq => (madeG_m hok q hq).cost
  generalize madeG x l = g at *
  obtain ⟨N, hN⟩ : ∃ N : Nat, g.n = (N : Int) := ⟨g.n.toNat, by omega⟩
  rw [hN] at HMD
  have HN := Lib.hid hN
  have HG := Lib.hid hg
  have hN1 : 1 ≤ N := by omega
  have hN7 : N ≤ 7 := by omega
  have hlt1 := hX0.lt
  clear hw1 hs hok hN hg hn7
  have hbx0 := hX0.cell 0
  have hbx1 := hX0.cell 1
  simp at hbx0 hbx1
  go_enter Try.func8, Try.ntmps8
  go_upto_region 1 with fail
  rw [HW1.out]
  go_upto_region 2 with (go_at_call 14; go_loud (refine (sanity15_any _).mono ?_; rintro e w2 ⟨rfl, hb2⟩))
  have hX0 := hX0.below hb2 hX0.lt
  have hX1 := hX1.below hb2 hX1.lt
  have hbx0 := hX0.cell 0
  have hbx1 := hX0.cell 1
  simp at hbx0 hbx1
  have hbw2 := bthen hb1 hb2
  go_upto_region 3 with (go_at_call 15; go_loud (refine (HMD.out _ hbw2).mono ?_; rintro e w3 ⟨A3, c3, rfl, hc3, hcm3, hs3, hb3⟩))
  obtain ⟨W, hW⟩ : ∃ W, w3.alloc (.cells #[.int .i64 (N : Int), .slice A3 g.ls.length c3] 30) = W := ⟨_, rfl⟩
  have hb4 : Below w3.heap.size w3 W := by rw [← hW]; exact nw _ (Below.refl _ _)
  have hGB : Blk W w3.heap.size 30 #[.int .i64 (N : Int), .slice A3 g.ls.length c3] := by rw [← hW]; exact Blk.new _ _ _
  rw [hW]
  obtain ⟨bG, hbG⟩ : ∃ b, w3.heap.size = b := ⟨_, rfl⟩
  have hb34 := bthen hb3 hb4
  have hX0 := hX0.below hb34 hX0.lt
  have hX1 := hX1.below hb34 hX1.lt
  have hbw := bthen hbw2 hb34
  have hls := hs3.below keeps_lk hb4
  have hwG : w.heap.size ≤ bG := by have := hbw2.size; have := hb3.size; omega
  rw [hbG] at hGB ⊢
  have hlm : g.ls.length ≤ maxLen := by unfold maxLen; omega
  clear hbx0 hbx1 hW hbG hb4 hb34 hbw2 hb2 hb3 hs3 hb1 HMD HW1

  obtain ⟨i0, hi, hz0, hz1, hz2⟩ := info_parts link_info
  have hwb : IntKind.i64.wrap pb = pb := IntWalk.i64_in _ (by omega)
  have hwa : IntKind.i64.wrap pa = pa := IntWalk.i64_in _ (by omega)
  have HG4 : Hid (∀ W', Below W.heap.size W W' → W'.cell? ⟨bG, 0, none⟩ = some (.int .i64 (N : Int)) ∧ W'.cell? ⟨bG, 1, none⟩ = some (.slice A3 g.ls.length c3) ∧ bG < W'.heap.size) := fun W' hW' => by
    have h1 := hGB.below hW' hGB.lt
    have e0 := h1.cell 0
    have e1 := h1.cell 1
    simp at e0 e1
    exact ⟨e0, e1, h1.lt⟩
  have HCH : Hid (∀ W', Below W.heap.size W W' → Calls Try.prog 25 #[(.agg #[.int .i64 (N : Int), .slice A3 g.ls.length c3]), .slice C cs.length dc] W' (IsChosen g W')) := fun W' hW' => chosen_any A3 c3 g N C cs dc W' (hls.below keeps_lk hW') hlm HG.out HN.out (hcs.below keeps_u8 (bthen hbw hW')) hcl hc8
  have HCG : Hid (∀ W' B ls d, Below W.heap.size W W' → wayB g 0 ls = true → SlR 1 RInt W' B ls → ls.length ≤ maxLen → Calls Try.prog 18 #[(.agg #[.int .i64 (N : Int), .slice A3 g.ls.length c3]), .slice B ls.length d] W' fun e w' => e = .returned (.tuple #[.int .i64 (sumC g ls), .bool true]) ∧ Below W'.heap.size W' w') := fun W' B ls d hW' h0 h1 h2 => by
    have h := cost_any A3 c3 g B ls d W' (hls.below keeps_lk hW') hlm HG.out h1 h2
    rw [HN.out, show costM g ls = (sumC g ls, true) by unfold costM; rw [if_pos h0]] at h
    exact h
  obtain ⟨g0, g1, gl⟩ := HG4.out _ (Below.refl _ _)
  have wx0 := hX1.cell 0
  have wx1 := hX1.cell 1
  have wxl := hX1.lt
  simp at wx0 wx1
  have HBW := Lib.hid hbw
  by_cases hgz : g.ls.length = 0
  · have hgzI : ((g.ls.length : Int) == 0) = true := by simp [hgz]
    go_wp2_with fail
    go_ret
    exact ⟨rfl, hbw⟩
  have hgzI : ((g.ls.length : Int) == 0) = false := by simp; exact fun e => hgz (by rw [e]; rfl)
  obtain ⟨k, hk⟩ : ∃ k : Nat, pa % (g.ls.length : Int) = (k : Int) := ⟨(pa % (g.ls.length : Int)).toNat, by have := Int.emod_nonneg pa (show (g.ls.length : Int) ≠ 0 by omega); omega⟩
  have hkl : k < g.ls.length := by have := Int.emod_lt_of_pos pa (show (0 : Int) < (g.ls.length : Int) by omega); omega
  have htp : pa.tmod (g.ls.length : Int) = (k : Int) := by rw [Int.tmod_eq_emod_of_nonneg hpa.1]; exact hk
  have hwk : IntKind.i64.wrap (k : Int) = (k : Int) := IntWalk.i64_in _ (by omega)
  have hgl0 : ¬ (g.ls.length : Int) = 0 := by omega
  have hgl0n : ¬ g.ls = [] := fun e => hgz (by rw [e]; rfl)
  have hlk : g.ls[k]? = some (lkAt g (k : Int)) := by have h := lkAt_mem (g := g) (i := (k : Int)) ⟨by omega, by omega⟩; rwa [Int.toNat_natCast] at h
  have hkc := hcm _ (List.mem_of_getElem? hlk)
  have HD : Hid (GrOK (dearG g k pb)) := dear_ok HG.out hkl hpb.1 (by omega)
  have HLK := Lib.hid hlk
  clear hk hcm hgz hlk hbw
  go_upto_region 5 with fail
  refine ordB_below (.quiet 0 (.quiet 1 (.quiet 2 (.quiet 3 (.quiet 4 (.quiet 5 (.quiet 6 (.quiet 7 (.quiet 8 (.quiet 9 (.quiet 10 (.quiet 11 .done)))))))))))) (by kernel_rfl) (by kernel_rfl) (by kernel_rfl) (fun _ _ _ _ _ h => h) ?_
  intro V5 hV5
  iterate 12 (first
    | (refine ordB_skip rfl rfl ?_; simp only [Act.put, List.setIfInBounds_toArray, List.set_cons_zero, List.set_cons_succ])
    | (refine ordB_take (v := ?_) rfl rfl ?_ ?_
       rotate_left 1
       focus (intro W hW; obtain ⟨hcW, hfW⟩ := bcell hW; (go_simp <;> with_reducible rfl))
       simp only [Act.put, List.setIfInBounds_toArray, List.set_cons_zero, List.set_cons_succ]))
  refine ordB_nil ?_
  have wxd := HBW
  have hb5 := hV5
  clear wx0 wx1 wxl hwa g0 g1 gl wxd
  generalize V5 = W5 at *
  have HB5 := Lib.hid hb5
  have HG5 : Hid (∀ W', Below W5.heap.size W5 W' → W'.cell? ⟨bG, 0, none⟩ = some (.int .i64 (N : Int)) ∧ W'.cell? ⟨bG, 1, none⟩ = some (.slice A3 g.ls.length c3) ∧ bG < W'.heap.size) := fun W' hW' => HG4.out W' (bthen HB5.out hW')
  have hls5 := hls.below keeps_lk hb5
  clear hb5 hX0 hX1 hGB
  go_upto_region 6 with fail
  go_cut [11] (fun bo wr => ∃ (bO : Nat) (A9 : Option Addr) (c9 : Nat), bo = ptr bO ∧ W5.heap.size ≤ bO ∧ Blk wr bO 30 #[.int .i64 (N : Int), .slice A9 g.ls.length c9] ∧ wr.ownsRow W5.heap.size 54 4 (.slice A9 g.ls.length c9) g.ls.length (g.ls.flatMap encLk) ∧ g.ls.length ≤ c9 ∧ c9 ≤ maxLen ∧ Below W5.heap.size W5 wr)
  case first =>
    refine ordB_below (.quiet 0 (.quiet 1 (.quiet 3 (.quiet 4 (.fork 2 7 (.fork 5 7 (.quiet 6 (.only 7 (.only 8 .done))) (.only 5 (.quiet 6 (.only 8 .done)))) (.only 2 (.only 5 (.quiet 6 (.only 8 .done))))))))) (by kernel_rfl) (by kernel_rfl) (by kernel_rfl) (fun _ _ _ _ _ h => h) ?_
    intro Wd hSd
    obtain ⟨g0, g1, gl⟩ := HG5.out _ (Below.refl _ _)
    iterate 4 (first
      | (refine ordB_skip rfl rfl ?_; simp only [Act.put, List.setIfInBounds_toArray, List.set_cons_zero, List.set_cons_succ])
      | (refine ordB_take (v := ?_) rfl rfl ?_ ?_
         rotate_left 1
         focus (intro W hW; obtain ⟨hcW, hfW⟩ := bcell hW; (go_simp <;> with_reducible rfl))
         simp only [Act.put, List.setIfInBounds_toArray, List.set_cons_zero, List.set_cons_succ]))
    refine ordB_fork (opB_call rfl rfl (fun K hK => ?_)) (opB_call rfl rfl (fun K hK => ?_))
    · go_simp
      refine hK.out _ _ (hSd.alloc hSd.size _) (fun hSd1 => ?_)
      clear hK K
      have ho := own_empty Wd 54 4 W5.heap.size hSd.size
      have vlt := hSd.size
      obtain ⟨vb, hvb⟩ : ∃ b, Wd.heap.size = b := ⟨_, rfl⟩
      obtain ⟨Wd1, qq⟩ : ∃ W', Wd.alloc (.cells #[] 54) = W' := ⟨_, rfl⟩
      rw [hvb] at ho ⊢
      rw [qq] at hSd1 ho ⊢
      clear qq
      try simp only [Act.put, List.setIfInBounds_toArray, List.set_cons_zero, List.set_cons_succ]
      refine ordB_fork (opB_call rfl rfl (fun K hK => ?_)) (opB_call rfl rfl (fun K hK => ?_))
      · refine wp_appS (enc := encLk) (R := RLk) _ _ 28 rfl W5.heap.size 54 i0 _ 4 32 Try.underlying28 hi hz0 hz1 hz2 rfl (by decide) (.slice (some ⟨vb, 0, none⟩) 0 0) _ _ rfl ho A3 c3 g.ls rfl (hls5.below keeps_lk hSd1) (fun _ _ _ h => h) (fun _ => rfl) (fun u hu => one_lkB hu) (by omega) (by decide) hSd1.size ?_
        intro v9 Wd2 h91 h92 h93
        refine hK.out _ _ (hSd1.trans h92) (fun hSd2 => ?_)
        clear hK K
        have ho : Wd2.ownsRow W5.heap.size 54 4 v9 g.ls.length (g.ls.flatMap encLk) := by simpa using h91
        obtain ⟨A9, c9, rfl, hc9, hcm9, hs9⟩ := own_slr (R := RLk) ho (fun _ => rfl) (fun _ => rfl) rfl
        clear h91 h92 h93
        try simp only [Act.put, List.setIfInBounds_toArray, List.set_cons_zero, List.set_cons_succ]
        iterate 1 (first
          | (refine ordB_skip rfl rfl ?_; simp only [Act.put, List.setIfInBounds_toArray, List.set_cons_zero, List.set_cons_succ])
          | (refine ordB_take (v := ?_) rfl rfl ?_ ?_
             rotate_left 1
             focus (intro W hW; obtain ⟨hcW, hfW⟩ := bcell hW; (go_simp <;> with_reducible rfl))
             simp only [Act.put, List.setIfInBounds_toArray, List.set_cons_zero, List.set_cons_succ]))
        refine ordB_only (opB_call rfl rfl (fun K hK => ?_))
        go_simp
        refine hK.out _ _ (hSd2.alloc hSd2.size _) (fun hSd3 => ?_)
        clear hK K
        have nG := Blk.new Wd2 30 #[.int .i64 0, .slice none 0 0]
        have ho := ho.alloc (.cells #[.int .i64 0, .slice none 0 0] 30)
        obtain ⟨bO, hbO⟩ : ∃ b, Wd2.heap.size = b := ⟨_, rfl⟩
        obtain ⟨Wd3, qq⟩ : ∃ W', Wd2.alloc (.cells #[.int .i64 0, .slice none 0 0] 30) = W' := ⟨_, rfl⟩
        have nOB : W5.heap.size ≤ bO := by rw [← hbO]; exact hSd2.size
        rw [hbO] at nG ⊢
        rw [qq] at hSd3 nG ho ⊢
        clear qq
        try simp only [Act.put, List.setIfInBounds_toArray, List.set_cons_zero, List.set_cons_succ]
        refine ordB_only (opB_call rfl rfl (fun K hK => ?_))
        have nGc0 := nG.cell 0
        have nGc1 := nG.cell 1
        have nGf0 := nG.frozen 0
        have nGf1 := nG.frozen 1
        have nGl := nG.lt
        simp at nGc0 nGc1
        go_simp
        refine hK.out _ _ ((hSd3.setCell (p := ⟨bO, 0, none⟩) nOB _).setCell (p := ⟨bO, 1, none⟩) nOB _) (fun hSd4 => ?_)
        clear hK K
        have ho2 := own_keep ho (w' := (Wd3.setCell ⟨bO, 0, none⟩ (.int .i64 (N : Int))).setCell ⟨bO, 1, none⟩ (.slice A9 g.ls.length c9)) (fun gg hgg _ => (Below.heap_setCell _ _ _ gg (fun e => own_blk_ne ho nG (by decide) (by rw [hgg, e]))).trans (Below.heap_setCell _ _ _ gg (fun e => own_blk_ne ho nG (by decide) (by rw [hgg, e]))))
        have nG2 := (nG.set_ 0 (.int .i64 (N : Int))).set_ 1 (.slice A9 g.ls.length c9)
        obtain ⟨Wd4, qq⟩ : ∃ W', (Wd3.setCell ⟨bO, 0, none⟩ (.int .i64 (N : Int))).setCell ⟨bO, 1, none⟩ (.slice A9 g.ls.length c9) = W' := ⟨_, rfl⟩
        rw [qq] at ho2 nG2 hSd4 ⊢
        refine ordB_nil ?_
        go_wp2_with fail
        go_meet
        exact ⟨bO, A9, c9, rfl, nOB, nG2, ho2, hc9, hcm9, hSd4⟩
      · go_simp
        refine hK.out _ _ (hSd1.alloc hSd1.size _) (fun hSd5 => ?_)
        clear hK K
        have nG := Blk.new Wd1 30 #[.int .i64 0, .slice none 0 0]
        have ho := ho.alloc (.cells #[.int .i64 0, .slice none 0 0] 30)
        obtain ⟨bO, hbO⟩ : ∃ b, Wd1.heap.size = b := ⟨_, rfl⟩
        obtain ⟨Wd5, qq⟩ : ∃ W', Wd1.alloc (.cells #[.int .i64 0, .slice none 0 0] 30) = W' := ⟨_, rfl⟩
        have nOB : W5.heap.size ≤ bO := by rw [← hbO]; exact hSd1.size
        rw [hbO] at nG ⊢
        rw [qq] at hSd5 nG ho ⊢
        clear qq
        try simp only [Act.put, List.setIfInBounds_toArray, List.set_cons_zero, List.set_cons_succ]
        refine ordB_only (opB_call rfl rfl (fun K hK => ?_))
        refine wp_appS (enc := encLk) (R := RLk) _ _ 28 rfl W5.heap.size 54 i0 _ 4 32 Try.underlying28 hi hz0 hz1 hz2 rfl (by decide) (.slice (some ⟨vb, 0, none⟩) 0 0) _ _ rfl ho A3 c3 g.ls rfl (hls5.below keeps_lk hSd5) (fun _ _ _ h => h) (fun _ => rfl) (fun u hu => one_lkB hu) (by omega) (by decide) hSd5.size ?_
        intro v9 Wd6 h91 h92 h93
        refine hK.out _ _ (hSd5.trans h92) (fun hSd6 => ?_)
        clear hK K
        have nG := nG.apps h93 (own_blk_ne ho nG (by decide))
        have ho : Wd6.ownsRow W5.heap.size 54 4 v9 g.ls.length (g.ls.flatMap encLk) := by simpa using h91
        obtain ⟨A9, c9, rfl, hc9, hcm9, hs9⟩ := own_slr (R := RLk) ho (fun _ => rfl) (fun _ => rfl) rfl
        clear h91 h92 h93
        try simp only [Act.put, List.setIfInBounds_toArray, List.set_cons_zero, List.set_cons_succ]
        iterate 1 (first
          | (refine ordB_skip rfl rfl ?_; simp only [Act.put, List.setIfInBounds_toArray, List.set_cons_zero, List.set_cons_succ])
          | (refine ordB_take (v := ?_) rfl rfl ?_ ?_
             rotate_left 1
             focus (intro W hW; obtain ⟨hcW, hfW⟩ := bcell hW; (go_simp <;> with_reducible rfl))
             simp only [Act.put, List.setIfInBounds_toArray, List.set_cons_zero, List.set_cons_succ]))
        refine ordB_only (opB_call rfl rfl (fun K hK => ?_))
        have nGc0 := nG.cell 0
        have nGc1 := nG.cell 1
        have nGf0 := nG.frozen 0
        have nGf1 := nG.frozen 1
        have nGl := nG.lt
        simp at nGc0 nGc1
        go_simp
        refine hK.out _ _ ((hSd6.setCell (p := ⟨bO, 0, none⟩) nOB _).setCell (p := ⟨bO, 1, none⟩) nOB _) (fun hSd7 => ?_)
        clear hK K
        have ho2 := own_keep ho (w' := (Wd6.setCell ⟨bO, 0, none⟩ (.int .i64 (N : Int))).setCell ⟨bO, 1, none⟩ (.slice A9 g.ls.length c9)) (fun gg hgg _ => (Below.heap_setCell _ _ _ gg (fun e => own_blk_ne ho nG (by decide) (by rw [hgg, e]))).trans (Below.heap_setCell _ _ _ gg (fun e => own_blk_ne ho nG (by decide) (by rw [hgg, e]))))
        have nG2 := (nG.set_ 0 (.int .i64 (N : Int))).set_ 1 (.slice A9 g.ls.length c9)
        obtain ⟨Wd7, qq⟩ : ∃ W', (Wd6.setCell ⟨bO, 0, none⟩ (.int .i64 (N : Int))).setCell ⟨bO, 1, none⟩ (.slice A9 g.ls.length c9) = W' := ⟨_, rfl⟩
        rw [qq] at ho2 nG2 hSd7 ⊢
        refine ordB_nil ?_
        go_wp2_with fail
        go_meet
        exact ⟨bO, A9, c9, rfl, nOB, nG2, ho2, hc9, hcm9, hSd7⟩
    · go_simp
      refine hK.out _ _ (hSd.alloc hSd.size _) (fun hSd8 => ?_)
      clear hK K
      have nG := Blk.new Wd 30 #[.int .i64 0, .slice none 0 0]
      obtain ⟨bO, hbO⟩ : ∃ b, Wd.heap.size = b := ⟨_, rfl⟩
      obtain ⟨Wd8, qq⟩ : ∃ W', Wd.alloc (.cells #[.int .i64 0, .slice none 0 0] 30) = W' := ⟨_, rfl⟩
      have nOB : W5.heap.size ≤ bO := by rw [← hbO]; exact hSd.size
      rw [hbO] at nG ⊢
      rw [qq] at hSd8 nG ⊢
      clear qq
      try simp only [Act.put, List.setIfInBounds_toArray, List.set_cons_zero, List.set_cons_succ]
      refine ordB_only (opB_call rfl rfl (fun K hK => ?_))
      go_simp
      refine hK.out _ _ (hSd8.alloc hSd8.size _) (fun hSd9 => ?_)
      clear hK K
      have ho := own_empty Wd8 54 4 W5.heap.size hSd8.size
      have nG := nG.alloc (.cells #[] 54)
      have vlt := hSd8.size
      obtain ⟨vb, hvb⟩ : ∃ b, Wd8.heap.size = b := ⟨_, rfl⟩
      obtain ⟨Wd9, qq⟩ : ∃ W', Wd8.alloc (.cells #[] 54) = W' := ⟨_, rfl⟩
      rw [hvb] at ho ⊢
      rw [qq] at hSd9 nG ho ⊢
      clear qq
      try simp only [Act.put, List.setIfInBounds_toArray, List.set_cons_zero, List.set_cons_succ]
      refine ordB_only (opB_call rfl rfl (fun K hK => ?_))
      refine wp_appS (enc := encLk) (R := RLk) _ _ 28 rfl W5.heap.size 54 i0 _ 4 32 Try.underlying28 hi hz0 hz1 hz2 rfl (by decide) (.slice (some ⟨vb, 0, none⟩) 0 0) _ _ rfl ho A3 c3 g.ls rfl (hls5.below keeps_lk hSd9) (fun _ _ _ h => h) (fun _ => rfl) (fun u hu => one_lkB hu) (by omega) (by decide) hSd9.size ?_
      intro v9 Wd10 h91 h92 h93
      refine hK.out _ _ (hSd9.trans h92) (fun hSd10 => ?_)
      clear hK K
      have nG := nG.apps h93 (own_blk_ne ho nG (by decide))
      have ho : Wd10.ownsRow W5.heap.size 54 4 v9 g.ls.length (g.ls.flatMap encLk) := by simpa using h91
      obtain ⟨A9, c9, rfl, hc9, hcm9, hs9⟩ := own_slr (R := RLk) ho (fun _ => rfl) (fun _ => rfl) rfl
      clear h91 h92 h93
      try simp only [Act.put, List.setIfInBounds_toArray, List.set_cons_zero, List.set_cons_succ]
      iterate 1 (first
        | (refine ordB_skip rfl rfl ?_; simp only [Act.put, List.setIfInBounds_toArray, List.set_cons_zero, List.set_cons_succ])
        | (refine ordB_take (v := ?_) rfl rfl ?_ ?_
           rotate_left 1
           focus (intro W hW; obtain ⟨hcW, hfW⟩ := bcell hW; (go_simp <;> with_reducible rfl))
           simp only [Act.put, List.setIfInBounds_toArray, List.set_cons_zero, List.set_cons_succ]))
      refine ordB_only (opB_call rfl rfl (fun K hK => ?_))
      have nGc0 := nG.cell 0
      have nGc1 := nG.cell 1
      have nGf0 := nG.frozen 0
      have nGf1 := nG.frozen 1
      have nGl := nG.lt
      simp at nGc0 nGc1
      go_simp
      refine hK.out _ _ ((hSd10.setCell (p := ⟨bO, 0, none⟩) nOB _).setCell (p := ⟨bO, 1, none⟩) nOB _) (fun hSd11 => ?_)
      clear hK K
      have ho2 := own_keep ho (w' := (Wd10.setCell ⟨bO, 0, none⟩ (.int .i64 (N : Int))).setCell ⟨bO, 1, none⟩ (.slice A9 g.ls.length c9)) (fun gg hgg _ => (Below.heap_setCell _ _ _ gg (fun e => own_blk_ne ho nG (by decide) (by rw [hgg, e]))).trans (Below.heap_setCell _ _ _ gg (fun e => own_blk_ne ho nG (by decide) (by rw [hgg, e]))))
      have nG2 := (nG.set_ 0 (.int .i64 (N : Int))).set_ 1 (.slice A9 g.ls.length c9)
      obtain ⟨Wd11, qq⟩ : ∃ W', (Wd10.setCell ⟨bO, 0, none⟩ (.int .i64 (N : Int))).setCell ⟨bO, 1, none⟩ (.slice A9 g.ls.length c9) = W' := ⟨_, rfl⟩
      rw [qq] at ho2 nG2 hSd11 ⊢
      refine ordB_nil ?_
      go_wp2_with fail
      go_meet
      exact ⟨bO, A9, c9, rfl, nOB, nG2, ho2, hc9, hcm9, hSd11⟩
  case rest =>
    obtain ⟨wO, rfl⟩ : ∃ W', W' = wc := ⟨wc, rfl⟩
    obtain ⟨bO, A9, c9, rfl, hOB, hO, hown, hc9, hcm9, hbO⟩ := hcut
    have hne := own_blk_ne hown hO (by decide)
    obtain ⟨gb, cap, he, hgb, hgbl, hc1, hc2, hfz, hcl3, hsd⟩ := lk_set hown HLK.out ((lkAt g (k : Int)).cost + pb)
    injection he with e1 e2 e3
    subst e1
    have hsd : SlR 4 RLk _ (some ⟨gb, 0, none⟩) (dearG g k pb).ls := hsd
    have hO2 := hO.far (p := ⟨gb, k * 4 + 3, none⟩) (fun e => hne (by rw [e]; rfl)) (.int .i64 ((lkAt g (k : Int)).cost + pb))
    have hb7 : Below W5.heap.size W5 (wO.setCell ⟨gb, k * 4 + 3, none⟩ (.int .i64 ((lkAt g (k : Int)).cost + pb))) := hbO.setCell (p := ⟨gb, k * 4 + 3, none⟩) hgb _
    have o0 := hO.cell 0
    have o1 := hO.cell 1
    have ol := hO.lt
    simp at o0 o1
    obtain ⟨cc, hcc⟩ : ∃ cc, (lkAt g (k : Int)).cost = cc := ⟨_, rfl⟩
    rw [hcc] at hkc hcl3 hsd hO2 hb7
    have hws : IntKind.i64.wrap (cc + pb) = cc + pb := IntWalk.i64_in _ (by omega)
    obtain ⟨W7, hW7⟩ : ∃ V, wO.setCell ⟨gb, k * 4 + 3, none⟩ (.int .i64 (cc + pb)) = V := ⟨_, rfl⟩
    rw [hW7] at hsd hO2 hb7
    have HW7 := Lib.hid hW7
    have HSD := Lib.hid hsd
    have HO2 := Lib.hid hO2
    have HB7 := Lib.hid (bthen HB5.out hb7)
    have hkIl : (k : Int) < (g.ls.length : Int) := by omega
    have hkI0 : (0 : Int) ≤ (k : Int) := by omega
    clear hW7 hsd hO2 hb7 hown hne hbO hcc hO
    go_upto_region 8 with fail
    rw [HW7.out]
    obtain ⟨h, hh⟩ : ∃ h, dearG g k pb = h := ⟨_, rfl⟩
    have hhl : g.ls.length = h.ls.length := by rw [← hh, dear_len]
    have hhn : h.n = (N : Int) := by rw [← hh]; exact HN.out
    have HH14 : Hid (h.ls.length ≤ 14) := by show h.ls.length ≤ 14; omega
    rw [hh] at HSD HD
    have HLI : Hid (∀ W' L, (allR h).take 1 = L → Below W7.heap.size W7 W' → Calls Try.prog 16 #[.agg #[.int .i64 (N : Int), .slice (some ⟨gb, 0, none⟩) g.ls.length c9], .int .i64 1] W' (IsL L W')) := fun W' L hL hW' => by
      have q := listR_any (some ⟨gb, 0, none⟩) c9 h 1 W' (HSD.out.below keeps_lk hW') (by omega) HD.out HH14.out (by omega)
      rw [hhn, hL, ← hhl] at q
      exact q
    have HCHh : Hid (∀ W' B ls d, Below W7.heap.size W7 W' → wayB h 0 ls = true → SlR 1 RInt W' B ls → ls.length ≤ maxLen → Calls Try.prog 18 #[.agg #[.int .i64 (N : Int), .slice (some ⟨gb, 0, none⟩) g.ls.length c9], .slice B ls.length d] W' fun e w' => e = .returned (.tuple #[.int .i64 (sumC h ls), .bool true]) ∧ Below W'.heap.size W' w') := fun W' B ls d hW' h0 h1 h2 => by
      have q := cost_any (some ⟨gb, 0, none⟩) c9 h B ls d W' (HSD.out.below keeps_lk hW') (by omega) HD.out h1 h2
      rw [hhn, show costM h ls = (sumC h ls, true) by unfold costM; rw [if_pos h0], ← hhl] at q
      exact q
    have hDW : ∀ ls, wayB g 0 ls = true → wayB h 0 ls = true ∧ sumC h ls = sumC g ls + useC k pb ls := fun ls hw => by
      rw [← hh]
      exact ⟨by rw [dear_way hkl]; exact hw, dear_sum hkl ls (way_nn hw)⟩
    have HDW := Lib.hid hDW
    have HKL := Lib.hid hkl
    have HHN := Lib.hid hhn
    clear hDW hh hhl hhn e2 e3 hc1 hc2
    have hO7 := HO2.out
    have o0 := hO7.cell 0
    have o1 := hO7.cell 1
    have ol := hO7.lt
    simp at o0 o1
    obtain ⟨g0, g1, gl⟩ := HG4.out _ HB7.out
    clear hO7 hkIl hkI0 hcl3 hfz hkl
    go_upto_region 9 with (go_at_call 25; go_loud (refine (HCH.out _ HB7.out).mono ?_; rintro e W8 ⟨ls, bo, Al, cl, rfl, hsl, hwl, hl10, hlc, hlm2, hb8⟩))
    have HB8 := Lib.hid (bthen HB7.out hb8)
    cases bo with
    | false =>
      clear hwl
      go_wp2_with fail
      go_ret
      exact ⟨rfl, bthen HBW.out HB8.out⟩
    | true =>
      have HWG : Hid (wayB g 0 ls = true) := hwl rfl
      have HWH : Hid (wayB h 0 ls = true) := (HDW.out ls HWG.out).1
      have HSU : Hid (sumC h ls = sumC g ls + useC k pb ls) := (HDW.out ls HWG.out).2
      have hsg := (way_bd HG.out HWG.out).2
      have hsh := (way_bd HD.out HWH.out).2
      rw [HN.out] at hsg
      rw [HHN.out] at hsh
      obtain ⟨y, hyL, hyc⟩ := dear_first HD.out HH14.out HWH.out
      have HYL := Lib.hid hyL
      obtain ⟨sg, hsg'⟩ : ∃ s, sumC g ls = s := ⟨_, rfl⟩
      obtain ⟨sh, hsh'⟩ : ∃ s, sumC h ls = s := ⟨_, rfl⟩
      have HCG1 := fun W' d hW' h1 => HCG.out W' Al ls d hW' HWG.out h1 (by omega)
      have HCH1 := fun W' d hW' h1 => HCHh.out W' Al ls d hW' HWH.out h1 (by omega)
      rw [hsg'] at hsg HCG1 HSU
      rw [hsh'] at hsh HCH1 HSU hyc
      have HCG1 := Lib.hid HCG1
      have HCH1 := Lib.hid HCH1
      have HSL := Lib.hid hsl
      clear hwl hsl hyL
      obtain ⟨g0, g1, gl⟩ := HG4.out _ HB8.out
      have HB78 := Lib.hid hb8
      have hO8 := HO2.out.below hb8 HO2.out.lt
      have o0 := hO8.cell 0
      have o1 := hO8.cell 1
      have ol := hO8.lt
      simp at o0 o1
      clear hsg' hsh' hO8 hb8
      go_upto_region 12 with (go_at_call 18; go_loud (refine (HCG1.out _ cl HB8.out HSL.out).mono ?_; rintro e W9 ⟨rfl, hb9⟩))
      have hb79 := bthen HB78.out hb9
      have hO9 := HO2.out.below hb79 HO2.out.lt
      have o0 := hO9.cell 0
      have o1 := hO9.cell 1
      have ol := hO9.lt
      simp at o0 o1
      have HB89 := Lib.hid hb9
      clear hO9 hb79 hb9
      go_upto_region 13 with (go_at_call 18; go_loud (refine (HCH1.out _ cl (bthen HB78.out HB89.out) (HSL.out.below keeps_int HB89.out)).mono ?_; rintro e W10 ⟨rfl, hb10⟩))
      have HB810 := Lib.hid (bthen HB89.out hb10)
      have HS10 := Lib.hid (HSL.out.below keeps_int HB810.out)
      have hO10 := HO2.out.below (bthen HB78.out HB810.out) HO2.out.lt
      have HO10 := Lib.hid hO10
      clear hb10 hO10
      go_wp2_with fail
      go_loopw [14, 18] (fun av iv wr => ∃ (i : Nat) (a : Int), i ≤ ls.length ∧ iv = .int .i64 (i : Int) ∧ av = .int .i64 a ∧ Hid (sh = a + useC k pb (ls.drop i)) ∧ 0 ≤ a ∧ Below W10.heap.size W10 wr) (fun _ iv _ => ls.length - (intOf iv).toNat)
      case atStart => exact ⟨0, sg, by omega, rfl, rfl, HSU, hsg.1, Below.refl _ _⟩
      case round =>
        obtain ⟨i, a, hil, rfl, rfl, HA, ha0, hbr⟩ := hrel
        by_cases hlt : i < ls.length
        · obtain ⟨bx, ox, xi, rfl, hbx, hxx, hcx⟩ := (HS10.out.below keeps_int hbr).int hlt
          have hdr : ls.drop i = xi :: ls.drop (i + 1) := by obtain ⟨h1, h2⟩ := List.getElem?_eq_some_iff.1 hxx; rw [← h2]; exact List.drop_eq_getElem_cons h1
          have hiI : (i : Int) < (ls.length : Int) := by omega
          have hi0 : (0 : Int) ≤ (i : Int) := by omega
          have hnn := useC_nn k hpb.1 (ls.drop (i + 1))
          have HA2 : Hid (sh = (if xi = (k : Int) then pb else 0) + useC k pb (ls.drop (i + 1)) + a) := by
            have := HA.out
            rw [hdr, show useC k pb (xi :: ls.drop (i + 1)) = (if xi = (k : Int) then pb else 0) + useC k pb (ls.drop (i + 1)) from rfl] at this
            show _ = _
            omega
          by_cases hxk : xi = (k : Int)
          · have hxk' : (xi == (k : Int)) = true := by simp [hxk]
            have HA3 : Hid (sh = (a + pb) + useC k pb (ls.drop (i + 1))) := by have := HA2.out; rw [if_pos hxk] at this; show _ = _; omega
            have hws2 : IntKind.i64.wrap (a + pb) = a + pb := IntWalk.i64_in _ (by have := HA3.out; omega)
            clear hxx hdr hnn HA2 hxk
            go_wp2_with fail
            go_roundw
            case rel => exact ⟨i + 1, a + pb, by omega, by go_num, rfl, HA3, by omega, hbr⟩
            case measure => simp [intOf]; omega
          · have hxk' : (xi == (k : Int)) = false := by simp; exact hxk
            have HA3 : Hid (sh = a + useC k pb (ls.drop (i + 1))) := by have := HA2.out; rw [if_neg hxk] at this; show _ = _; omega
            clear hxx hdr hnn HA2 hxk
            go_wp2_with fail
            go_roundw
            case rel => exact ⟨i + 1, a, by omega, by go_num, rfl, HA3, ha0, hbr⟩
            case measure => simp [intOf]; omega
        · obtain rfl : i = ls.length := by omega
          have hash : sh = a := by have := HA.out; rw [List.drop_length] at this; simpa [useC] using this
          have hO11 := HO10.out.below hbr HO10.out.lt
          have o0 := hO11.cell 0
          have o1 := hO11.cell 1
          have ol := hO11.lt
          simp at o0 o1
          have hb711 := bthen (bthen HB78.out HB810.out) hbr
          have hbE := bthen HBW.out (bthen HB7.out hb711)
          subst hash
          have hzz : (sh == sh) = true := by simp
          clear HA hO11
          go_upto_region 19 with (go_at_call 16; go_loud (refine (HLI.out _ _ HYL.out hb711).mono ?_; rintro e W12 ⟨Aa, ca, rfl, hsa, hla, hma, hb12⟩))
          obtain ⟨ba, oa, z, A1, d1, rfl, hba, hzz2, y0, y1, _, _, _⟩ := hsa.can (k := 0) (by simp)
          obtain rfl : y = z := by simpa using hzz2
          rw [Nat.zero_mul, Nat.add_zero] at y0 y1
          have hbE := bthen hbE hb12
          clear hsa hzz2 hb711
          go_wp2_with fail
          go_ret
          exact ⟨rfl, hbE⟩
end Go.Proofs.Ytbikjmafddndpaa
