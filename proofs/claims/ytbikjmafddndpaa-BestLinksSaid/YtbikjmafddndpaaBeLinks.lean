/-
  The law BestLinks: for all inputs it returns true.
-/
import Derived.Test.YtbikjmafddndpaaBeLink
import Derived.Test.YtbikjmafddndpaaBsLaw
import Derived.Test.YtbikjmafddndpaaGrWaysB
import Derived.Test.YtbikjmafddndpaaGrWalkK
import Derived.Deep.DeepCutAuto
namespace Go.Proofs.Ytbikjmafddndpaa
open Go Go.RowKit

theorem mem_take_succ {m x : Int} {l : List Int} {k : Nat} (h : l[k]? = some x) : decide (m ∈ l.take (k + 1)) = (decide (m ∈ l.take k) || decide (x = m)) := by
  rw [List.take_add_one, h]
  simp [eq_comm]
set_option maxRecDepth 100000 in
set_option maxHeartbeats 16000000 in
theorem bestLinks_any (A : Option Addr) (l : List T3) (c : Nat) (x pa pb pc : Int) (w : World) (hs : SlR 3 RT3 w A l) (hcap : l.length ≤ c) (hok : ∀ p ∈ l, T3OK p) (hx : 0 ≤ x ∧ x ≤ 255)
    (hpa : 0 ≤ pa ∧ pa ≤ 255) (hpb : 0 ≤ pb ∧ pb ≤ 255) (hpc : 0 ≤ pc ∧ pc ≤ 255) :
    Calls Try.prog 7 #[.agg #[.int .u8 x, .slice A l.length c], .agg #[.int .u8 pa, .int .u8 pb, .int .u8 pc]] w fun e w' => e = .returned (.bool true) ∧ Below w.heap.size w w' := by
  obtain ⟨j0, hj1, hy0, hy1, hy2⟩ := info_parts t3_info
  obtain ⟨l1, hl1⟩ : ∃ l1, l.take 13 = l1 := ⟨_, rfl⟩
  have hn1 : l1.length = min l.length 13 := by rw [← hl1, List.length_take]; omega
  have hs1 : SlR 3 RT3 w A l1 := by rw [← hl1]; exact slr_takeS hs 13
  have hok1 : ∀ p ∈ l1, T3OK p := by rw [← hl1]; exact fun p hp => hok p (List.mem_of_mem_take hp)
  have hl13 : l1.length ≤ 13 := by omega
  have hmin : min (l.length : Int) 13 = (l1.length : Int) := by omega
  have hnc : l1.length ≤ c := by omega
  have hokH : ∀ p ∈ l1 ++ [T3.mk pa pb pc], T3OK p := fun p hp => (List.mem_append.1 hp).elim (hok1 p) (fun e => by rw [List.mem_singleton.1 e]; exact ⟨hpa, hpb, hpc⟩)
  have hgok := madeG_ok (x := x) hok1
  have hhok := madeG_ok (x := x) hokH
  have h14 := madeG_len x l1
  have hh14 := madeG_len x (l1 ++ [T3.mk pa pb pc])
  have hn7 := madeG_n x l1
  have hhn : (madeG x (l1 ++ [T3.mk pa pb pc])).n = (madeG x l1).n := rfl
  have hfacts := link_facts (allR_is hhok hh14).1 (link_all hgok hhok h14 hh14 (madeG_more hl13))
  have HMD : Hid (∀ W, Below w.heap.size w W → Calls Try.prog 15 #[.agg #[.int .u8 x, .slice A l1.length c]] W (IsMade (madeG x l1) W)) := fun W hW => made_any A l1 c x W (hs1.below keeps_t3 hW) (by unfold maxLen; omega) hx hok1
  have HMH : Hid (∀ W A' c', SlR 3 RT3 W A' (l1 ++ [T3.mk pa pb pc]) → Calls Try.prog 15 #[.agg #[.int .u8 x, .slice A' (l1.length + 1) c']] W (IsMade (madeG x (l1 ++ [T3.mk pa pb pc])) W)) := fun W A' c' hW => by
    have h := made_any A' (l1 ++ [T3.mk pa pb pc]) c' x W hW (by simp; unfold maxLen; omega) hx hokH
    rw [show (l1 ++ [T3.mk pa pb pc]).length = l1.length + 1 by simp] at h
    exact h
  generalize madeG x l1 = g at *
  generalize madeG x (l1 ++ [T3.mk pa pb pc]) = gh at *
  obtain ⟨N, hN⟩ : ∃ N : Nat, g.n = (N : Int) := ⟨g.n.toNat, by omega⟩
  rw [hN] at hhn
  have HN := Lib.hid hN
  have HNH := Lib.hid hhn
  have HG := Lib.hid hgok
  have HGH := Lib.hid hhok
  have HFC := Lib.hid hfacts
  have HS1 := Lib.hid hs1
  have hN1 : 1 ≤ N := by omega
  have hN7 : N ≤ 7 := by omega
  obtain ⟨w1, hw1⟩ : ∃ w1, ((w.alloc (.cells #[.int .u8 x, .slice A l.length c] 24)).alloc (.cells #[.int .u8 pa, .int .u8 pb, .int .u8 pc] 56)) = w1 := ⟨_, rfl⟩
  have hb1 : Below w.heap.size w w1 := by rw [← hw1]; exact nw _ (nw _ (Below.refl _ _))
  have hX0 : Blk w1 w.heap.size 24 #[.int .u8 x, .slice A l.length c] := by rw [← hw1]; exact (Blk.new _ _ _).alloc _
  have hX1 : Blk w1 (w.heap.size + 1) 56 #[.int .u8 pa, .int .u8 pb, .int .u8 pc] := by rw [← hw1]; exact Blk.new_ (by simp)
  have HW1 := Lib.hid hw1
  clear hw1 hs hs1 hok hok1 hokH hgok hhok hhn hfacts hN hn7 hl1
  go_enter Try.func7, Try.ntmps7
  go_upto_region 1 with fail
  rw [HW1.out]
  go_upto_region 2 with (go_at_call 14; go_loud (refine (sanity15_any _).mono ?_; rintro e w2 ⟨rfl, hb2⟩))
  have hX0 := hX0.below hb2 hX0.lt
  have hX1 := hX1.below hb2 hX1.lt
  have hbx0 := hX0.cell 0
  have hbx1 := hX0.cell 1
  have hbf1 := hX0.frozen 1
  have hlt1 := hX0.lt
  simp at hbx0 hbx1
  have hbw2 := bthen hb1 hb2
  clear hn1 hb1 hb2
  go_upto_region 3 with fail
  obtain ⟨w3, hw3⟩ : ∃ V, w2.setCell ⟨w.heap.size, 1, none⟩ (.slice A l1.length c) = V := ⟨_, rfl⟩
  have hb3 : Below w.heap.size w w3 := by rw [← hw3]; exact hbw2.setCell (p := ⟨w.heap.size, 1, none⟩) (Nat.le_refl _) _
  have hX0 := hX0.set_ 1 (.slice A l1.length c)
  have hX1 := hX1.far (p := ⟨w.heap.size, 1, none⟩) (by show w.heap.size + 1 ≠ w.heap.size; omega) (.slice A l1.length c)
  rw [hw3] at hX0 hX1 ⊢
  have hbx0 := hX0.cell 0
  have hbx1 := hX0.cell 1
  have hlt1 := hX0.lt
  simp at hbx0 hbx1
  clear hw3 hbw2 hmin hnc hbf1
  go_upto_region 4 with (go_at_call 15; go_loud (refine (HMD.out _ hb3).mono ?_; rintro e w4 ⟨A3, c3, rfl, hc3, hcm3, hs3, hb4⟩; rw [HN.out]))
  obtain ⟨W, hW⟩ : ∃ W, w4.alloc (.cells #[.int .i64 (N : Int), .slice A3 g.ls.length c3] 30) = W := ⟨_, rfl⟩
  have hb5 : Below w4.heap.size w4 W := by rw [← hW]; exact nw _ (Below.refl _ _)
  have hGB : Blk W w4.heap.size 30 #[.int .i64 (N : Int), .slice A3 g.ls.length c3] := by rw [← hW]; exact Blk.new _ _ _
  rw [hW]
  obtain ⟨bG, hbG⟩ : ∃ b, w4.heap.size = b := ⟨_, rfl⟩
  rw [hbG] at hGB ⊢
  have hb45 := bthen hb4 hb5
  have hX0 := hX0.below hb45 hX0.lt
  have hX1 := hX1.below hb45 hX1.lt
  have hbw := bthen hb3 hb45
  have hls := hs3.below keeps_lk hb5
  have hlm : g.ls.length ≤ maxLen := by unfold maxLen; omega
  have hlmh : gh.ls.length ≤ maxLen := by unfold maxLen; omega
  clear hW hbG hb3 hb4 hb5 hb45 hs3 HMD
  have hbx0 := hX0.cell 0
  have hbx1 := hX0.cell 1
  have hlt1 := hX0.lt
  have hp0 := hX1.cell 0
  have hp1 := hX1.cell 1
  have hp2 := hX1.cell 2
  have hlt2 := hX1.lt
  simp at hbx0 hbx1 hp0 hp1 hp2
  have HG4 : Hid (∀ W', Below W.heap.size W W' → W'.cell? ⟨bG, 0, none⟩ = some (.int .i64 (N : Int)) ∧ W'.cell? ⟨bG, 1, none⟩ = some (.slice A3 g.ls.length c3) ∧ bG < W'.heap.size) := fun W' hW' => by
    have h1 := hGB.below hW' hGB.lt
    have e0 := h1.cell 0
    have e1 := h1.cell 1
    simp at e0 e1
    exact ⟨e0, e1, h1.lt⟩
  have hsA : SlR 3 RT3 (W.alloc (.cells #[] 56)) A l1 := HS1.out.below keeps_t3 (bthen hbw (nw _ (Below.refl _ _)))
  have hO0 := own_empty W 56 3 W.heap.size (Nat.le_refl _)
  have HBW := Lib.hid hbw
  have HLS := Lib.hid hls
  clear hGB hbw hls
  go_upto_region 5 with (at_builtin; go_loud (refine wpList_appS (enc := encT3) (R := RT3) rfl _ _ 22 rfl W.heap.size 56 j0 _ 3 3 Try.underlying22 hj1 hy0 hy1 hy2 rfl (by decide) (.slice (some ⟨W.heap.size, 0, none⟩) 0 0) _ _ rfl hO0 A c l1 rfl hsA (fun _ _ _ h => h) (fun _ => rfl) (fun u hu => one_t3 hu) (by omega) (by decide) (by simp) ?_; intro v7 w7 h71 h72 h73))
  have hb7 : Below W.heap.size W w7 := (nw _ (Below.refl _ _)).trans h72
  have hown7 : w7.ownsRow W.heap.size 56 3 v7 l1.length (l1.flatMap encT3) := by simpa using h71
  have hbx0 := ((bcell hb7).1 _ 0 hlt1).trans hbx0
  have hp0 := ((bcell hb7).1 _ 0 hlt2).trans hp0
  have hp1 := ((bcell hb7).1 _ 1 hlt2).trans hp1
  have hp2 := ((bcell hb7).1 _ 2 hlt2).trans hp2
  have hDs := hb7.size
  obtain ⟨D, hD⟩ : ∃ D, W.heap.size = D := ⟨_, rfl⟩
  have hb7D : Below D W w7 := by rw [← hD]; exact hb7
  rw [hD] at hown7 hDs hlt1 hlt2
  have HD := Lib.hid hD
  have HB7 := Lib.hid hb7D
  clear h71 h72 h73 hO0 hsA hb7 hb7D hbx1 hX0 hX1 hD
  go_cut [8] (fun bo wr => ∃ (bH : Nat) (A5 : Option Addr) (c5 : Nat), bo = ptr bH ∧ Blk wr bH 30 #[.int .i64 (N : Int), .slice A5 gh.ls.length c5] ∧ SlR 4 RLk wr A5 gh.ls ∧ gh.ls.length ≤ c5 ∧ c5 ≤ maxLen ∧ Below D W wr)
  case first =>
    refine ordB_start (fun V => RowKit.Below D w7 V) (.quiet 0 (.quiet 1 (.quiet 2 (.quiet 3 (.fork 4 8 (.fork 5 8 (.quiet 6 (.fork 7 8 (.only 8 (.only 9 .done)) (.only 7 (.only 9 .done)))) (.only 5 (.quiet 6 (.only 7 (.only 9 .done))))) (.only 4 (.only 5 (.quiet 6 (.only 7 (.only 9 .done)))))))))) (by kernel_rfl) (by kernel_rfl) (by kernel_rfl) (fun _ _ _ _ _ h => h) (Below.refl _ _).drew ?_
    have hT : RowKit.Below D w7 w7.drew := (Below.refl _ _).drew
    have HD : RowKit.Below w7.heap.size w7 w7.drew := (Below.refl _ _).drew
    have ho := own_below hown7 HD
    obtain ⟨Wd, qq⟩ : ∃ W', w7.drew = W' := ⟨_, rfl⟩
    rw [qq] at hT ho ⊢
    clear qq HD
    iterate 4 (first
      | (refine ordB_skip rfl rfl ?_; simp only [Act.put, List.setIfInBounds_toArray, List.set_cons_zero, List.set_cons_succ])
      | (refine ordB_take (v := ?_) rfl rfl ?_ ?_
         rotate_left 1
         focus (intro W hW; have hcW := bcellD hW; (go_simp <;> with_reducible rfl))
         simp only [Act.put, List.setIfInBounds_toArray, List.set_cons_zero, List.set_cons_succ]))
    refine ordB_fork (opB_call rfl rfl (fun K hK => ?_)) (opB_call rfl rfl (fun K hK => ?_))
    · go_simp
      refine hK.out _ _ (hT.alloc (Nat.le_trans hDs hT.size) _) (fun hT1 => ?_)
      clear hK K
      have ho := ho.alloc (.cells #[.int .u8 pa, .int .u8 pb, .int .u8 pc] 56)
      have hE : SlR 3 RT3 (Wd.alloc (.cells #[.int .u8 pa, .int .u8 pb, .int .u8 pc] 56)) (some ⟨Wd.heap.size, 0, none⟩) [(T3.mk pa pb pc)] := slr_blk (enc := encT3) (Blk.new_ rfl) (fun _ => rfl) (fun _ => rfl)
      obtain ⟨vb, hvb⟩ : ∃ b, Wd.heap.size = b := ⟨_, rfl⟩
      rw [hvb] at hE ⊢
      clear hvb
      obtain ⟨Wd1, qq⟩ : ∃ W', Wd.alloc (.cells #[.int .u8 pa, .int .u8 pb, .int .u8 pc] 56) = W' := ⟨_, rfl⟩
      rw [qq] at hT1 ho hE ⊢
      clear qq
      try simp only [Act.put, List.setIfInBounds_toArray, List.set_cons_zero, List.set_cons_succ]
      refine ordB_fork (opB_call rfl rfl (fun K hK => ?_)) (opB_call rfl rfl (fun K hK => ?_))
      · refine wp_appS (enc := encT3) (R := RT3) _ _ 22 rfl D 56 j0 _ 3 3 Try.underlying22 hj1 hy0 hy1 hy2 rfl (by decide) v7 _ _ rfl ho (some ⟨vb, 0, none⟩) 1 [(T3.mk pa pb pc)] rfl hE (fun _ _ _ h => h) (fun _ => rfl) (fun u hu => one_t3 hu) (by simp; omega) (by decide) (Nat.le_trans hDs hT1.size) ?_
        intro v9 Wd2 h91 h92 h93
        refine hK.out _ _ (hT1.trans h92) (fun hT2 => ?_)
        clear hK K
        have ho2 : Wd2.ownsRow D 56 3 v9 (l1 ++ [(T3.mk pa pb pc)]).length ((l1 ++ [(T3.mk pa pb pc)]).flatMap encT3) := by rw [List.length_append, List.flatMap_append]; exact h91
        obtain ⟨A9, c9, rfl, hc9, hcm9, hs9⟩ := own_slr (R := RT3) ho2 (fun _ => rfl) (fun _ => rfl) rfl
        have hl1T : (l1 ++ [(T3.mk pa pb pc)]).length = l1.length + 1 := by simp
        clear h91 h92 h93 ho2
        rw [hl1T]
        clear hl1T
        try simp only [Act.put, List.setIfInBounds_toArray, List.set_cons_zero, List.set_cons_succ]
        iterate 1 (first
          | (refine ordB_skip rfl rfl ?_; simp only [Act.put, List.setIfInBounds_toArray, List.set_cons_zero, List.set_cons_succ])
          | (refine ordB_take (v := ?_) rfl rfl ?_ ?_
             rotate_left 1
             focus (intro W hW; have hcW := bcellD hW; (go_simp <;> with_reducible rfl))
             simp only [Act.put, List.setIfInBounds_toArray, List.set_cons_zero, List.set_cons_succ]))
        refine ordB_fork (opB_call rfl rfl (fun K hK => ?_)) (opB_call rfl rfl (fun K hK => ?_))
        · go_simp
          go_at_call 15
          refine (HMH.out Wd2 A9 c9 hs9).mono ?_
          rintro e Wd3 ⟨A5, c5, rfl, hc5, hcm5, hM, hx7⟩
          rw [HNH.out]
          refine hK.out _ _ (hT2.trans (hx7.mono (Nat.le_trans hDs hT2.size))) (fun hT3 => ?_)
          clear hK K
          clear hx7
          try simp only [Act.put, List.setIfInBounds_toArray, List.set_cons_zero, List.set_cons_succ]
          refine ordB_only (opB_call rfl rfl (fun K hK => ?_))
          go_simp
          refine hK.out _ _ (hT3.alloc (Nat.le_trans hDs hT3.size) _) (fun hT4 => ?_)
          clear hK K
          have nG := Blk.new Wd3 30 #[.int .i64 0, .slice none 0 0]
          have hM := hM.below keeps_lk (nw (.cells #[.int .i64 0, .slice none 0 0] 30) (Below.refl _ Wd3))
          obtain ⟨bO, hbO⟩ : ∃ b, Wd3.heap.size = b := ⟨_, rfl⟩
          have nOB : D ≤ bO := by rw [← hbO]; exact Nat.le_trans hDs hT3.size
          rw [hbO] at nG ⊢
          clear hbO
          obtain ⟨Wd4, qq⟩ : ∃ W', Wd3.alloc (.cells #[.int .i64 0, .slice none 0 0] 30) = W' := ⟨_, rfl⟩
          rw [qq] at hT4 hM nG ⊢
          clear qq
          try simp only [Act.put, List.setIfInBounds_toArray, List.set_cons_zero, List.set_cons_succ]
          refine ordB_only (opB_call rfl rfl (fun K hK => ?_))
          have nGc0 := nG.cell 0
          have nGc1 := nG.cell 1
          have nGf0 := nG.frozen 0
          have nGf1 := nG.frozen 1
          have nGl := nG.lt
          simp at nGc0 nGc1
          go_simp
          refine hK.out _ _ ((hT4.setCell (p := ⟨bO, 0, none⟩) nOB _).setCell (p := ⟨bO, 1, none⟩) nOB _) (fun hT5 => ?_)
          clear hK K
          have hM := slr_far2 hM nG 0 (.int .i64 (N : Int))
          have nG := nG.set_ 0 (.int .i64 (N : Int))
          have hM := slr_far2 (u := .int .i64 (N : Int)) (v := .slice none 0 0) hM nG 1 (.slice A5 gh.ls.length c5)
          have nG2 := nG.set_ 1 (.slice A5 gh.ls.length c5)
          obtain ⟨Wd5, qq⟩ : ∃ W', (Wd4.setCell ⟨bO, 0, none⟩ (.int .i64 (N : Int))).setCell ⟨bO, 1, none⟩ (.slice A5 gh.ls.length c5) = W' := ⟨_, rfl⟩
          rw [qq] at hM nG2 hT5 ⊢
          refine ordB_nil ?_
          go_wp2_with fail
          go_meet
          exact ⟨bO, A5, c5, rfl, nG2, hM, hc5, hcm5, HB7.out.trans hT5⟩
        · go_simp
          refine hK.out _ _ (hT2.alloc (Nat.le_trans hDs hT2.size) _) (fun hT6 => ?_)
          clear hK K
          have nG := Blk.new Wd2 30 #[.int .i64 0, .slice none 0 0]
          have hs9 := hs9.below keeps_t3 (nw (.cells #[.int .i64 0, .slice none 0 0] 30) (Below.refl _ Wd2))
          obtain ⟨bO, hbO⟩ : ∃ b, Wd2.heap.size = b := ⟨_, rfl⟩
          have nOB : D ≤ bO := by rw [← hbO]; exact Nat.le_trans hDs hT2.size
          rw [hbO] at nG ⊢
          clear hbO
          obtain ⟨Wd6, qq⟩ : ∃ W', Wd2.alloc (.cells #[.int .i64 0, .slice none 0 0] 30) = W' := ⟨_, rfl⟩
          rw [qq] at hT6 hs9 nG ⊢
          clear qq
          try simp only [Act.put, List.setIfInBounds_toArray, List.set_cons_zero, List.set_cons_succ]
          refine ordB_only (opB_call rfl rfl (fun K hK => ?_))
          go_simp
          go_at_call 15
          refine (HMH.out Wd6 A9 c9 hs9).mono ?_
          rintro e Wd7 ⟨A5, c5, rfl, hc5, hcm5, hM, hx7⟩
          rw [HNH.out]
          refine hK.out _ _ (hT6.trans (hx7.mono (Nat.le_trans hDs hT6.size))) (fun hT7 => ?_)
          clear hK K
          have nG := nG.below hx7 nG.lt
          clear hx7
          try simp only [Act.put, List.setIfInBounds_toArray, List.set_cons_zero, List.set_cons_succ]
          refine ordB_only (opB_call rfl rfl (fun K hK => ?_))
          have nGc0 := nG.cell 0
          have nGc1 := nG.cell 1
          have nGf0 := nG.frozen 0
          have nGf1 := nG.frozen 1
          have nGl := nG.lt
          simp at nGc0 nGc1
          go_simp
          refine hK.out _ _ ((hT7.setCell (p := ⟨bO, 0, none⟩) nOB _).setCell (p := ⟨bO, 1, none⟩) nOB _) (fun hT8 => ?_)
          clear hK K
          have hM := slr_far2 hM nG 0 (.int .i64 (N : Int))
          have nG := nG.set_ 0 (.int .i64 (N : Int))
          have hM := slr_far2 (u := .int .i64 (N : Int)) (v := .slice none 0 0) hM nG 1 (.slice A5 gh.ls.length c5)
          have nG2 := nG.set_ 1 (.slice A5 gh.ls.length c5)
          obtain ⟨Wd8, qq⟩ : ∃ W', (Wd7.setCell ⟨bO, 0, none⟩ (.int .i64 (N : Int))).setCell ⟨bO, 1, none⟩ (.slice A5 gh.ls.length c5) = W' := ⟨_, rfl⟩
          rw [qq] at hM nG2 hT8 ⊢
          refine ordB_nil ?_
          go_wp2_with fail
          go_meet
          exact ⟨bO, A5, c5, rfl, nG2, hM, hc5, hcm5, HB7.out.trans hT8⟩
      · go_simp
        refine hK.out _ _ (hT1.alloc (Nat.le_trans hDs hT1.size) _) (fun hT9 => ?_)
        clear hK K
        have nG := Blk.new Wd1 30 #[.int .i64 0, .slice none 0 0]
        have ho := ho.alloc (.cells #[.int .i64 0, .slice none 0 0] 30)
        have hE := hE.below keeps_t3 (nw (.cells #[.int .i64 0, .slice none 0 0] 30) (Below.refl _ Wd1))
        obtain ⟨bO, hbO⟩ : ∃ b, Wd1.heap.size = b := ⟨_, rfl⟩
        have nOB : D ≤ bO := by rw [← hbO]; exact Nat.le_trans hDs hT1.size
        rw [hbO] at nG ⊢
        clear hbO
        obtain ⟨Wd9, qq⟩ : ∃ W', Wd1.alloc (.cells #[.int .i64 0, .slice none 0 0] 30) = W' := ⟨_, rfl⟩
        rw [qq] at hT9 ho hE nG ⊢
        clear qq
        try simp only [Act.put, List.setIfInBounds_toArray, List.set_cons_zero, List.set_cons_succ]
        refine ordB_only (opB_call rfl rfl (fun K hK => ?_))
        refine wp_appS (enc := encT3) (R := RT3) _ _ 22 rfl D 56 j0 _ 3 3 Try.underlying22 hj1 hy0 hy1 hy2 rfl (by decide) v7 _ _ rfl ho (some ⟨vb, 0, none⟩) 1 [(T3.mk pa pb pc)] rfl hE (fun _ _ _ h => h) (fun _ => rfl) (fun u hu => one_t3 hu) (by simp; omega) (by decide) (Nat.le_trans hDs hT9.size) ?_
        intro v9 Wd10 h91 h92 h93
        refine hK.out _ _ (hT9.trans h92) (fun hT10 => ?_)
        clear hK K
        have nG := nG.apps h93 (own_blk_ne ho nG (by decide))
        have ho2 : Wd10.ownsRow D 56 3 v9 (l1 ++ [(T3.mk pa pb pc)]).length ((l1 ++ [(T3.mk pa pb pc)]).flatMap encT3) := by rw [List.length_append, List.flatMap_append]; exact h91
        obtain ⟨A9, c9, rfl, hc9, hcm9, hs9⟩ := own_slr (R := RT3) ho2 (fun _ => rfl) (fun _ => rfl) rfl
        have hl1T : (l1 ++ [(T3.mk pa pb pc)]).length = l1.length + 1 := by simp
        clear h91 h92 h93 ho2
        rw [hl1T]
        clear hl1T
        try simp only [Act.put, List.setIfInBounds_toArray, List.set_cons_zero, List.set_cons_succ]
        iterate 1 (first
          | (refine ordB_skip rfl rfl ?_; simp only [Act.put, List.setIfInBounds_toArray, List.set_cons_zero, List.set_cons_succ])
          | (refine ordB_take (v := ?_) rfl rfl ?_ ?_
             rotate_left 1
             focus (intro W hW; have hcW := bcellD hW; (go_simp <;> with_reducible rfl))
             simp only [Act.put, List.setIfInBounds_toArray, List.set_cons_zero, List.set_cons_succ]))
        refine ordB_only (opB_call rfl rfl (fun K hK => ?_))
        go_simp
        go_at_call 15
        refine (HMH.out Wd10 A9 c9 hs9).mono ?_
        rintro e Wd11 ⟨A5, c5, rfl, hc5, hcm5, hM, hx7⟩
        rw [HNH.out]
        refine hK.out _ _ (hT10.trans (hx7.mono (Nat.le_trans hDs hT10.size))) (fun hT11 => ?_)
        clear hK K
        have nG := nG.below hx7 nG.lt
        clear hx7
        try simp only [Act.put, List.setIfInBounds_toArray, List.set_cons_zero, List.set_cons_succ]
        refine ordB_only (opB_call rfl rfl (fun K hK => ?_))
        have nGc0 := nG.cell 0
        have nGc1 := nG.cell 1
        have nGf0 := nG.frozen 0
        have nGf1 := nG.frozen 1
        have nGl := nG.lt
        simp at nGc0 nGc1
        go_simp
        refine hK.out _ _ ((hT11.setCell (p := ⟨bO, 0, none⟩) nOB _).setCell (p := ⟨bO, 1, none⟩) nOB _) (fun hT12 => ?_)
        clear hK K
        have hM := slr_far2 hM nG 0 (.int .i64 (N : Int))
        have nG := nG.set_ 0 (.int .i64 (N : Int))
        have hM := slr_far2 (u := .int .i64 (N : Int)) (v := .slice none 0 0) hM nG 1 (.slice A5 gh.ls.length c5)
        have nG2 := nG.set_ 1 (.slice A5 gh.ls.length c5)
        obtain ⟨Wd12, qq⟩ : ∃ W', (Wd11.setCell ⟨bO, 0, none⟩ (.int .i64 (N : Int))).setCell ⟨bO, 1, none⟩ (.slice A5 gh.ls.length c5) = W' := ⟨_, rfl⟩
        rw [qq] at hM nG2 hT12 ⊢
        refine ordB_nil ?_
        go_wp2_with fail
        go_meet
        exact ⟨bO, A5, c5, rfl, nG2, hM, hc5, hcm5, HB7.out.trans hT12⟩
    · go_simp
      refine hK.out _ _ (hT.alloc (Nat.le_trans hDs hT.size) _) (fun hT13 => ?_)
      clear hK K
      have nG := Blk.new Wd 30 #[.int .i64 0, .slice none 0 0]
      have ho := ho.alloc (.cells #[.int .i64 0, .slice none 0 0] 30)
      obtain ⟨bO, hbO⟩ : ∃ b, Wd.heap.size = b := ⟨_, rfl⟩
      have nOB : D ≤ bO := by rw [← hbO]; exact Nat.le_trans hDs hT.size
      rw [hbO] at nG ⊢
      clear hbO
      obtain ⟨Wd13, qq⟩ : ∃ W', Wd.alloc (.cells #[.int .i64 0, .slice none 0 0] 30) = W' := ⟨_, rfl⟩
      rw [qq] at hT13 ho nG ⊢
      clear qq
      try simp only [Act.put, List.setIfInBounds_toArray, List.set_cons_zero, List.set_cons_succ]
      refine ordB_only (opB_call rfl rfl (fun K hK => ?_))
      go_simp
      refine hK.out _ _ (hT13.alloc (Nat.le_trans hDs hT13.size) _) (fun hT14 => ?_)
      clear hK K
      have ho := ho.alloc (.cells #[.int .u8 pa, .int .u8 pb, .int .u8 pc] 56)
      have nG := nG.alloc (.cells #[.int .u8 pa, .int .u8 pb, .int .u8 pc] 56)
      have hE : SlR 3 RT3 (Wd13.alloc (.cells #[.int .u8 pa, .int .u8 pb, .int .u8 pc] 56)) (some ⟨Wd13.heap.size, 0, none⟩) [(T3.mk pa pb pc)] := slr_blk (enc := encT3) (Blk.new_ rfl) (fun _ => rfl) (fun _ => rfl)
      obtain ⟨vb, hvb⟩ : ∃ b, Wd13.heap.size = b := ⟨_, rfl⟩
      rw [hvb] at hE ⊢
      clear hvb
      obtain ⟨Wd14, qq⟩ : ∃ W', Wd13.alloc (.cells #[.int .u8 pa, .int .u8 pb, .int .u8 pc] 56) = W' := ⟨_, rfl⟩
      rw [qq] at hT14 ho nG hE ⊢
      clear qq
      try simp only [Act.put, List.setIfInBounds_toArray, List.set_cons_zero, List.set_cons_succ]
      refine ordB_only (opB_call rfl rfl (fun K hK => ?_))
      refine wp_appS (enc := encT3) (R := RT3) _ _ 22 rfl D 56 j0 _ 3 3 Try.underlying22 hj1 hy0 hy1 hy2 rfl (by decide) v7 _ _ rfl ho (some ⟨vb, 0, none⟩) 1 [(T3.mk pa pb pc)] rfl hE (fun _ _ _ h => h) (fun _ => rfl) (fun u hu => one_t3 hu) (by simp; omega) (by decide) (Nat.le_trans hDs hT14.size) ?_
      intro v9 Wd15 h91 h92 h93
      refine hK.out _ _ (hT14.trans h92) (fun hT15 => ?_)
      clear hK K
      have nG := nG.apps h93 (own_blk_ne ho nG (by decide))
      have ho2 : Wd15.ownsRow D 56 3 v9 (l1 ++ [(T3.mk pa pb pc)]).length ((l1 ++ [(T3.mk pa pb pc)]).flatMap encT3) := by rw [List.length_append, List.flatMap_append]; exact h91
      obtain ⟨A9, c9, rfl, hc9, hcm9, hs9⟩ := own_slr (R := RT3) ho2 (fun _ => rfl) (fun _ => rfl) rfl
      have hl1T : (l1 ++ [(T3.mk pa pb pc)]).length = l1.length + 1 := by simp
      clear h91 h92 h93 ho2
      rw [hl1T]
      clear hl1T
      try simp only [Act.put, List.setIfInBounds_toArray, List.set_cons_zero, List.set_cons_succ]
      iterate 1 (first
        | (refine ordB_skip rfl rfl ?_; simp only [Act.put, List.setIfInBounds_toArray, List.set_cons_zero, List.set_cons_succ])
        | (refine ordB_take (v := ?_) rfl rfl ?_ ?_
           rotate_left 1
           focus (intro W hW; have hcW := bcellD hW; (go_simp <;> with_reducible rfl))
           simp only [Act.put, List.setIfInBounds_toArray, List.set_cons_zero, List.set_cons_succ]))
      refine ordB_only (opB_call rfl rfl (fun K hK => ?_))
      go_simp
      go_at_call 15
      refine (HMH.out Wd15 A9 c9 hs9).mono ?_
      rintro e Wd16 ⟨A5, c5, rfl, hc5, hcm5, hM, hx7⟩
      rw [HNH.out]
      refine hK.out _ _ (hT15.trans (hx7.mono (Nat.le_trans hDs hT15.size))) (fun hT16 => ?_)
      clear hK K
      have nG := nG.below hx7 nG.lt
      clear hx7
      try simp only [Act.put, List.setIfInBounds_toArray, List.set_cons_zero, List.set_cons_succ]
      refine ordB_only (opB_call rfl rfl (fun K hK => ?_))
      have nGc0 := nG.cell 0
      have nGc1 := nG.cell 1
      have nGf0 := nG.frozen 0
      have nGf1 := nG.frozen 1
      have nGl := nG.lt
      simp at nGc0 nGc1
      go_simp
      refine hK.out _ _ ((hT16.setCell (p := ⟨bO, 0, none⟩) nOB _).setCell (p := ⟨bO, 1, none⟩) nOB _) (fun hT17 => ?_)
      clear hK K
      have hM := slr_far2 hM nG 0 (.int .i64 (N : Int))
      have nG := nG.set_ 0 (.int .i64 (N : Int))
      have hM := slr_far2 (u := .int .i64 (N : Int)) (v := .slice none 0 0) hM nG 1 (.slice A5 gh.ls.length c5)
      have nG2 := nG.set_ 1 (.slice A5 gh.ls.length c5)
      obtain ⟨Wd17, qq⟩ : ∃ W', (Wd16.setCell ⟨bO, 0, none⟩ (.int .i64 (N : Int))).setCell ⟨bO, 1, none⟩ (.slice A5 gh.ls.length c5) = W' := ⟨_, rfl⟩
      rw [qq] at hM nG2 hT17 ⊢
      refine ordB_nil ?_
      go_wp2_with fail
      go_meet
      exact ⟨bO, A5, c5, rfl, nG2, hM, hc5, hcm5, HB7.out.trans hT17⟩
  case rest =>
    obtain ⟨W5, rfl⟩ : ∃ V, V = wc := ⟨wc, rfl⟩
    obtain ⟨bH, A5, c5, rfl, hHB, hhs, hc5, hcm5, hbD⟩ := hcut
    have hbD : Below W.heap.size W W5 := by rw [HD.out]; exact hbD
    clear hbx0 hp0 hp1 hp2 hlt1 hlt2 hown7 hDs HMH
    have HG5 : Hid (∀ W', Below W5.heap.size W5 W' → W'.cell? ⟨bG, 0, none⟩ = some (.int .i64 (N : Int)) ∧ W'.cell? ⟨bG, 1, none⟩ = some (.slice A3 g.ls.length c3) ∧ bG < W'.heap.size) := fun W' hW' => HG4.out W' (bthen hbD hW')
    have HH5 : Hid (∀ W', Below W5.heap.size W5 W' → W'.cell? ⟨bH, 0, none⟩ = some (.int .i64 (N : Int)) ∧ W'.cell? ⟨bH, 1, none⟩ = some (.slice A5 gh.ls.length c5) ∧ bH < W'.heap.size) := fun W' hW' => by
      have h1 := hHB.below hW' hHB.lt
      have e0 := h1.cell 0
      have e1 := h1.cell 1
      simp at e0 e1
      exact ⟨e0, e1, h1.lt⟩
    obtain ⟨La, hLa⟩ : ∃ L, (allR g).take 50 = L := ⟨_, rfl⟩
    obtain ⟨Lb, hLb⟩ : ∃ L, (allR gh).take 50 = L := ⟨_, rfl⟩
    obtain ⟨Kg, hKg⟩ : ∃ K, nW g 0 = K := ⟨_, rfl⟩
    obtain ⟨Kh, hKh⟩ : ∃ K, nW gh 0 = K := ⟨_, rfl⟩
    have hKK : Kg ≤ Kh := by rw [← hKg, ← hKh, ← (allR_nW HG.out h14).1, ← (allR_nW HGH.out hh14).1]; exact HFC.out.fnum
    have hLL : La.length ≤ Lb.length := by rw [← hLa, ← hLb, List.length_take, List.length_take, (allR_nW HG.out h14).1, (allR_nW HGH.out hh14).1, hKg, hKh]; omega
    have hLb50 : Lb.length ≤ 50 := by rw [← hLb, List.length_take]; omega
    have hhead : ∀ a, La[0]? = some a → ∃ b, Lb[0]? = some b ∧ b.cost ≤ a.cost := fun a ha => by
      rw [← hLa, List.getElem?_take, if_pos (by decide)] at ha
      obtain ⟨b, h1, h2⟩ := HFC.out.fhead a ha
      exact ⟨b, by rw [← hLb, List.getElem?_take, if_pos (by decide)]; exact h1, h2⟩
    have hat := HFC.out.fat
    have hend := HFC.out.fend
    rw [hLa, hLb] at hend
    rw [hLa, hLb] at hat
    have HLG : Hid (∀ W', Below W5.heap.size W5 W' → Calls Try.prog 16 #[(.agg #[.int .i64 (N : Int), .slice A3 g.ls.length c3]), .int .i64 50] W' (IsL La W')) := fun W' hW' => by
      have h := listR_any A3 c3 g 50 W' (HLS.out.below keeps_lk (bthen hbD hW')) hlm HG.out h14 (by omega)
      rw [HN.out, hLa] at h
      exact h
    have HLH : Hid (∀ W', Below W5.heap.size W5 W' → Calls Try.prog 16 #[(.agg #[.int .i64 (N : Int), .slice A5 gh.ls.length c5]), .int .i64 50] W' (IsL Lb W')) := fun W' hW' => by
      have h := listR_any A5 c5 gh 50 W' (hhs.below keeps_lk hW') hlmh HGH.out hh14 (by omega)
      rw [HNH.out, hLb] at h
      exact h
    have HNG : Hid (∀ W', Below W5.heap.size W5 W' → Calls Try.prog 21 #[(.agg #[.int .i64 (N : Int), .slice A3 g.ls.length c3])] W' fun e w' => e = .returned (.int .i64 (Kg : Int)) ∧ Below W'.heap.size W' w') := fun W' hW' => by
      have h := number_any A3 c3 g W' (HLS.out.below keeps_lk (bthen hbD hW')) hlm
      rw [HN.out, num_small HG.out h14, hKg] at h
      exact h
    have HNHH : Hid (∀ W', Below W5.heap.size W5 W' → Calls Try.prog 21 #[(.agg #[.int .i64 (N : Int), .slice A5 gh.ls.length c5])] W' fun e w' => e = .returned (.int .i64 (Kh : Int)) ∧ Below W'.heap.size W' w') := fun W' hW' => by
      have h := number_any A5 c5 gh W' (hhs.below keeps_lk hW') hlmh
      rw [HNH.out, num_small HGH.out hh14, hKh] at h
      exact h
    have HBE := Lib.hid (bthen HBW.out hbD)
    have HAT := Lib.hid hat
    have HEND := Lib.hid hend
    have HHEAD := Lib.hid hhead
    obtain ⟨g0, g1, gl⟩ := HG5.out _ (Below.refl _ _)
    clear hbD hHB hhs hc5 hcm5 hLa hLb hKg hKh hlm hlmh hat hend hhead HG4 HLS HS1 hc3 hcm3
    go_upto_region 7 with (go_at_call 16; go_loud (refine (HLG.out _ (Below.refl _ _)).mono ?_; rintro e W6 ⟨Aa, ca, rfl, hsa, hla, hma, hb6⟩))
    obtain ⟨q0, q1, ql⟩ := HH5.out _ hb6
    clear g0 g1 gl
    have HB6 := Lib.hid hb6
    clear hb6
    go_upto_region 8 with (go_at_call 16; go_loud (refine (HLH.out _ HB6.out).mono ?_; rintro e W7 ⟨Ab, cb, rfl, hsb, hlb, hmb, hb7⟩))
    have hb57 := bthen HB6.out hb7
    have HSA := Lib.hid (hsa.below keeps_can hb7)
    have HSB := Lib.hid hsb
    have HB57 := Lib.hid hb57
    have HNGg : Hid (∀ W', Below W7.heap.size W7 W' → Calls Try.prog 21 #[(.agg #[.int .i64 (N : Int), .slice A3 g.ls.length c3])] W' fun e w' => e = .returned (.int .i64 (Kg : Int)) ∧ Below W'.heap.size W' w') := fun W' hW' => HNG.out W' (bthen HB57.out hW')
    have HNHg : Hid (∀ W', Below W7.heap.size W7 W' → Calls Try.prog 21 #[(.agg #[.int .i64 (N : Int), .slice A5 gh.ls.length c5])] W' fun e w' => e = .returned (.int .i64 (Kh : Int)) ∧ Below W'.heap.size W' w') := fun W' hW' => HNHH.out W' (bthen HB57.out hW')
    obtain ⟨g0, g1, gl⟩ := HG5.out _ hb57
    obtain ⟨q0, q1, ql⟩ := HH5.out _ hb57
    clear hsa hsb hb7 hb57 HLG HLH HNG HNHH hla hma hlb hmb
    go_cut [85] (fun tv wr => tv = .bool false ∧ Below W7.heap.size W7 wr)
    case first =>
      have z61 : decide (Kh < Kg) = false := decide_eq_false (by omega)
      have z68 : decide (Lb.length < La.length) = false := decide_eq_false (by omega)
      clear hKK
      by_cases hz : La.length = 0
      · have z73 : decide (0 < La.length) = false := decide_eq_false (by omega)
        clear hz
        refine ordB_below (.quiet 0 (.quiet 1 (.quiet 2 (.quiet 3 (.quiet 4 (.quiet 5 (.quiet 6 (.quiet 7 (.quiet 9 (.only 8 (.only 10 (.quiet 11 (.quiet 12 (.quiet 13 (.quiet 14 (.quiet 15 (.quiet 16 (.quiet 17 (.quiet 18 (.quiet 19 (.quiet 20 (.quiet 21 (.quiet 22 (.quiet 23 (.quiet 24 (.quiet 25 (.quiet 26 (.quiet 27 (.quiet 28 (.quiet 29 (.quiet 30 (.quiet 31 (.quiet 32 (.quiet 33 (.quiet 34 (.quiet 35 .done)))))))))))))))))))))))))))))))))))) (by kernel_rfl) (by kernel_rfl) (by kernel_rfl) (fun _ _ _ _ _ h => h) ?_
        intro Wf hWf
        iterate 9 (first
          | (refine ordB_skip rfl rfl ?_; simp only [Act.put, List.setIfInBounds_toArray, List.set_cons_zero, List.set_cons_succ])
          | (refine ordB_take (v := ?_) rfl rfl ?_ ?_
             rotate_left 1
             focus (intro W hW; obtain ⟨hcW, hfW⟩ := bcell hW; (go_simp <;> with_reducible rfl))
             simp only [Act.put, List.setIfInBounds_toArray, List.set_cons_zero, List.set_cons_succ]))
        refine ordB_only (opB_call rfl rfl (fun K hK => ?_))
        go_simp
        go_at_call 21
        refine (HNHg.out _ hWf).mono ?_
        rintro e Wf_1 ⟨rfl, hx8⟩
        refine hK.out _ _ (hWf.trans (hx8.mono hWf.size)) (fun hWf_1 => ?_)
        refine ordB_only (opB_call rfl rfl (fun K hK => ?_))
        go_simp
        go_at_call 21
        refine (HNGg.out _ hWf_1).mono ?_
        rintro e Wf_1_2 ⟨rfl, hx10⟩
        refine hK.out _ _ (hWf_1.trans (hx10.mono hWf_1.size)) (fun hWf_1_2 => ?_)
        iterate 25 (first
          | (refine ordB_skip rfl rfl ?_; simp only [Act.put, List.setIfInBounds_toArray, List.set_cons_zero, List.set_cons_succ])
          | (refine ordB_take (v := ?_) rfl rfl ?_ ?_
             rotate_left 1
             focus (intro W hW; obtain ⟨hcW, hfW⟩ := bcell hW; (go_simp <;> with_reducible rfl))
             simp only [Act.put, List.setIfInBounds_toArray, List.set_cons_zero, List.set_cons_succ]))
        refine ordB_nil ?_
        go_wp2_with fail
        go_meet
        exact ⟨rfl, hWf_1_2⟩
      · have z73 : decide (0 < La.length) = true := decide_eq_true (by omega)
        have hla0 : 0 < La.length := by omega
        have hlb0 : 0 < Lb.length := by omega
        have hla0I : (0 : Int) < (La.length : Int) := by omega
        have hlb0I : (0 : Int) < (Lb.length : Int) := by omega
        obtain ⟨b1, o1, ya, A1, d1, rfl, hb1, hya, _, y1, _, _, _⟩ := HSA.out.can (k := 0) hla0
        obtain ⟨b2, o2, yb, A2, d2, rfl, hb2, hyb, _, y2, _, _, _⟩ := HSB.out.can (k := 0) hlb0
        rw [Nat.zero_mul, Nat.add_zero] at y1 y2
        obtain ⟨yc, hyc, hcc⟩ := HHEAD.out _ hya
        rw [hyb] at hyc
        obtain rfl := Option.some.inj hyc
        have z83 : decide (ya.cost < yb.cost) = false := decide_eq_false (by omega)
        have z83' : ¬ ya.cost < yb.cost := by omega
        generalize ya.cost = ya' at *
        generalize yb.cost = yb' at *
        clear hz hya hyb hyc hcc
        refine ordB_below (.quiet 0 (.quiet 1 (.quiet 2 (.quiet 3 (.quiet 4 (.quiet 5 (.quiet 6 (.quiet 7 (.quiet 9 (.only 8 (.only 10 (.quiet 11 (.quiet 12 (.quiet 13 (.quiet 14 (.quiet 15 (.quiet 16 (.quiet 17 (.quiet 18 (.quiet 19 (.quiet 20 (.quiet 21 (.quiet 22 (.quiet 23 (.quiet 24 (.quiet 25 (.quiet 26 (.quiet 27 (.quiet 28 (.quiet 29 (.quiet 30 (.quiet 31 (.quiet 32 (.quiet 33 (.quiet 34 (.quiet 35 .done)))))))))))))))))))))))))))))))))))) (by kernel_rfl) (by kernel_rfl) (by kernel_rfl) (fun _ _ _ _ _ h => h) ?_
        intro Wf hWf
        iterate 9 (first
          | (refine ordB_skip rfl rfl ?_; simp only [Act.put, List.setIfInBounds_toArray, List.set_cons_zero, List.set_cons_succ])
          | (refine ordB_take (v := ?_) rfl rfl ?_ ?_
             rotate_left 1
             focus (intro W hW; obtain ⟨hcW, hfW⟩ := bcell hW; (go_simp <;> with_reducible rfl))
             simp only [Act.put, List.setIfInBounds_toArray, List.set_cons_zero, List.set_cons_succ]))
        refine ordB_only (opB_call rfl rfl (fun K hK => ?_))
        go_simp
        go_at_call 21
        refine (HNHg.out _ hWf).mono ?_
        rintro e Wf_1 ⟨rfl, hx8⟩
        refine hK.out _ _ (hWf.trans (hx8.mono hWf.size)) (fun hWf_1 => ?_)
        refine ordB_only (opB_call rfl rfl (fun K hK => ?_))
        go_simp
        go_at_call 21
        refine (HNGg.out _ hWf_1).mono ?_
        rintro e Wf_1_2 ⟨rfl, hx10⟩
        refine hK.out _ _ (hWf_1.trans (hx10.mono hWf_1.size)) (fun hWf_1_2 => ?_)
        iterate 25 (first
          | (refine ordB_skip rfl rfl ?_; simp only [Act.put, List.setIfInBounds_toArray, List.set_cons_zero, List.set_cons_succ])
          | (refine ordB_take (v := ?_) rfl rfl ?_ ?_
             rotate_left 1
             focus (intro W hW; obtain ⟨hcW, hfW⟩ := bcell hW; (go_simp <;> with_reducible rfl))
             simp only [Act.put, List.setIfInBounds_toArray, List.set_cons_zero, List.set_cons_succ]))
        refine ordB_nil ?_
        go_wp2_with fail
        go_meet
        exact ⟨rfl, hWf_1_2⟩
    case rest =>
      obtain ⟨rfl, hb8⟩ := hcut
      obtain ⟨W8, rfl⟩ : ∃ V, V = wc := ⟨wc, rfl⟩
      have HB8 := Lib.hid hb8
      clear hb8 g0 g1 gl q0 q1 ql HHEAD HNGg HNHg
      go_wp2_with fail
      go_loopw [13, 14] (fun av iv wr => ∃ i a : Nat, i ≤ Lb.length ∧ iv = .int .i64 (i : Int) ∧ av = .int .i64 (a : Int) ∧ a = atL (noM (g.ls.length : Int)) Lb i ∧ Below W8.heap.size W8 wr) (fun _ iv _ => Lb.length - (intOf iv).toNat)
      case atStart => exact ⟨0, 0, by omega, rfl, rfl, rfl, Below.refl _ _⟩
      case round =>
        obtain ⟨w8, rfl⟩ : ∃ V, V = wr := ⟨wr, rfl⟩
        obtain ⟨i, a, hil, rfl, rfl, hA, hbr⟩ := hrel
        have HA : Hid (a = atL (noM (g.ls.length : Int)) Lb i) := hA
        have hai := atL_le (noM (g.ls.length : Int)) Lb i
        rw [← hA] at hai
        have hb78 := bthen HB8.out hbr
        clear hA
        by_cases hlt : i < Lb.length
        · obtain ⟨bb, ob, y, A1, d1, rfl, hbb, hyy, y0, y1, hys, hyl, hym⟩ := (HSB.out.below keeps_can hb78).can hlt
          have hiI : (i : Int) < (Lb.length : Int) := by omega
          have hi0 : (0 : Int) ≤ (i : Int) := by omega
          have HYY := Lib.hid hyy
          have HYS := Lib.hid hys
          have HB0 := Lib.hid (bthen HB57.out hb78)
          have hbbl := hbb
          have HBI := Lib.hid hbr
          have hylm : y.links.length ≤ maxLen := by omega
          obtain ⟨g0, g1, gl⟩ := HG5.out _ HB0.out
          clear hyy hys hb78 hbr
          go_wp2_with fail
          go_loopw [15, 16] (fun uv kv wr => ∃ (k : Nat) (u : Bool), k ≤ y.links.length ∧ kv = .int .i64 (k : Int) ∧ uv = .bool u ∧ Hid (u = decide ((g.ls.length : Int) ∈ y.links.take k)) ∧ Below w8.heap.size w8 wr) (fun _ kv _ => y.links.length - (intOf kv).toNat)
          case atStart => exact ⟨0, false, by omega, rfl, rfl, by show false = _; simp, Below.refl _ _⟩
          case round =>
            obtain ⟨w9, rfl⟩ : ∃ V, V = wr := ⟨wr, rfl⟩
            obtain ⟨k, u, hk, rfl, rfl, HU, hbk⟩ := hrel
            have y0 := ((bcell hbk).1 _ _ hbb).trans y0
            have y1 := ((bcell hbk).1 _ _ hbb).trans y1
            have g0 := ((bcell hbk).1 _ _ gl).trans g0
            have g1 := ((bcell hbk).1 _ _ gl).trans g1
            have gl := Nat.lt_of_lt_of_le gl hbk.size
            have hbb := Nat.lt_of_lt_of_le hbb hbk.size
            by_cases hlt2 : k < y.links.length
            · obtain ⟨bz, oz, z, rfl, hbz, hzz, zc⟩ := (HYS.out.below keeps_int hbk).int hlt2
              have hms := mem_take_succ (m := (g.ls.length : Int)) hzz
              rw [← HU.out] at hms
              have hkI : (k : Int) < (y.links.length : Int) := by omega
              have hk0 : (0 : Int) ≤ (k : Int) := by omega
              have hk7 : k < maxLen := by omega
              unfold maxLen at hk7
              have HBK := Lib.hid hbk
              cases u with
              | true =>
                have HU2 : Hid (true = decide ((g.ls.length : Int) ∈ y.links.take (k + 1))) := by show _ = _; rw [hms]; rfl
                clear hzz hms hbk hlt2
                go_upto_region 18 with fail
                refine ordB_below (.quiet 0 (.quiet 1 (.quiet 2 (.quiet 3 (.quiet 4 (.quiet 5 (.quiet 6 (.quiet 7 (.quiet 8 (.quiet 9 (.quiet 10 (.quiet 11 (.quiet 12 (.quiet 13 (.quiet 14 (.quiet 15 .done)))))))))))))))) (by kernel_rfl) (by kernel_rfl) (by kernel_rfl) (fun _ _ _ _ _ h => h) ?_
                intro Wk hWk
                iterate 16 (first
                  | (refine ordB_skip rfl rfl ?_; simp only [Act.put, List.setIfInBounds_toArray, List.set_cons_zero, List.set_cons_succ])
                  | (refine ordB_take (v := ?_) rfl rfl ?_ ?_
                     rotate_left 1
                     focus (intro W hW; obtain ⟨hcW, hfW⟩ := bcell hW; (go_simp <;> with_reducible rfl))
                     simp only [Act.put, List.setIfInBounds_toArray, List.set_cons_zero, List.set_cons_succ]))
                refine ordB_nil ?_
                have HBK2 := Lib.hid (bthen HBK.out hWk)
                clear hWk
                generalize Wk = w10 at *
                go_wp2_with fail
                go_roundw
                case rel => exact ⟨k + 1, _, by omega, by go_num, rfl, HU2, HBK2.out⟩
                case measure => simp [intOf]; omega
              | false =>
                by_cases hz : z = (g.ls.length : Int)
                · have hzb : (z == (g.ls.length : Int)) = true := by simp [hz]
                  have HU2 : Hid (true = decide ((g.ls.length : Int) ∈ y.links.take (k + 1))) := by show _ = _; rw [hms, decide_eq_true hz]; rfl
                  clear hzz hms hbk hlt2 hz
                  go_upto_region 18 with fail
                  refine ordB_below (.quiet 0 (.quiet 1 (.quiet 2 (.quiet 3 (.quiet 4 (.quiet 5 (.quiet 6 (.quiet 7 (.quiet 8 (.quiet 9 (.quiet 10 (.quiet 11 (.quiet 12 (.quiet 13 (.quiet 14 (.quiet 15 .done)))))))))))))))) (by kernel_rfl) (by kernel_rfl) (by kernel_rfl) (fun _ _ _ _ _ h => h) ?_
                  intro Wk hWk
                  iterate 16 (first
                    | (refine ordB_skip rfl rfl ?_; simp only [Act.put, List.setIfInBounds_toArray, List.set_cons_zero, List.set_cons_succ])
                    | (refine ordB_take (v := ?_) rfl rfl ?_ ?_
                       rotate_left 1
                       focus (intro W hW; obtain ⟨hcW, hfW⟩ := bcell hW; (go_simp <;> with_reducible rfl))
                       simp only [Act.put, List.setIfInBounds_toArray, List.set_cons_zero, List.set_cons_succ]))
                  refine ordB_nil ?_
                  have HBK2 := Lib.hid (bthen HBK.out hWk)
                  clear hWk
                  generalize Wk = w10 at *
                  go_wp2_with fail
                  go_roundw
                  case rel => exact ⟨k + 1, _, by omega, by go_num, rfl, HU2, HBK2.out⟩
                  case measure => simp [intOf]; omega
                · have hzb : (z == (g.ls.length : Int)) = false := by simp [hz]
                  have HU2 : Hid (false = decide ((g.ls.length : Int) ∈ y.links.take (k + 1))) := by show _ = _; rw [hms, decide_eq_false hz]; rfl
                  clear hzz hms hbk hlt2 hz
                  go_upto_region 18 with fail
                  refine ordB_below (.quiet 0 (.quiet 1 (.quiet 2 (.quiet 3 (.quiet 4 (.quiet 5 (.quiet 6 (.quiet 7 (.quiet 8 (.quiet 9 (.quiet 10 (.quiet 11 (.quiet 12 (.quiet 13 (.quiet 14 (.quiet 15 .done)))))))))))))))) (by kernel_rfl) (by kernel_rfl) (by kernel_rfl) (fun _ _ _ _ _ h => h) ?_
                  intro Wk hWk
                  iterate 16 (first
                    | (refine ordB_skip rfl rfl ?_; simp only [Act.put, List.setIfInBounds_toArray, List.set_cons_zero, List.set_cons_succ])
                    | (refine ordB_take (v := ?_) rfl rfl ?_ ?_
                       rotate_left 1
                       focus (intro W hW; obtain ⟨hcW, hfW⟩ := bcell hW; (go_simp <;> with_reducible rfl))
                       simp only [Act.put, List.setIfInBounds_toArray, List.set_cons_zero, List.set_cons_succ]))
                  refine ordB_nil ?_
                  have HBK2 := Lib.hid (bthen HBK.out hWk)
                  clear hWk
                  generalize Wk = w10 at *
                  go_wp2_with fail
                  go_roundw
                  case rel => exact ⟨k + 1, _, by omega, by go_num, rfl, HU2, HBK2.out⟩
                  case measure => simp [intOf]; omega
            · obtain rfl : k = y.links.length := by omega
              have hue := HU.out
              rw [List.take_length] at hue
              have hpu : noM (g.ls.length : Int) y = !u := by unfold noM; rw [hue, List.contains_eq_mem]
              have hsu := atL_succ (p := noM (g.ls.length : Int)) HYY.out
              rw [← HA.out, hpu] at hsu
              have HBI2 : Hid (Below W8.heap.size W8 w9) := bthen HBI.out hbk
              cases u with
              | true =>
                have HA2 : Hid (a = atL (noM (g.ls.length : Int)) Lb (i + 1)) := by show a = _; rw [hsu]; rfl
                clear hue hpu hsu hbk hlt2
                go_wp2_with fail
                go_roundw
                case rel => exact ⟨i + 1, a, by omega, by go_num, rfl, HA2.out, HBI2.out⟩
                case measure => simp [intOf]; omega
              | false =>
                have HA2 : Hid (a + 1 = atL (noM (g.ls.length : Int)) Lb (i + 1)) := by show _ = _; rw [hsu]; rfl
                have hga := HAT.out i y HYY.out hpu
                rw [← HA.out] at hga
                have hb79 : Below W7.heap.size W7 w9 := bthen HB8.out HBI2.out
                have hal : a < La.length := (List.getElem?_eq_some_iff.1 hga).1
                obtain ⟨ba, oa, y', A2, d2, rfl, hba, hya, x0, x1, hxs, hxl, hxm⟩ := (HSA.out.below keeps_can hb79).can hal
                rw [hga] at hya
                obtain rfl := Option.some.inj hya
                have haI : (a : Int) < (La.length : Int) := by omega
                have ha0 : (0 : Int) ≤ (a : Int) := by omega
                have z121 : decide (La.length ≤ a) = false := decide_eq_false (by omega)
                have HIN : Hid (∀ W', Below w9.heap.size w9 W' → Calls Try.prog 27 #[.slice A2 y.links.length d2, .slice A1 y.links.length d1] W' fun e w' => e = .returned (.bool true) ∧ Below W'.heap.size W' w') := fun W' hW' => by
                  have h := ints_any A2 A1 y.links y.links d2 d1 W' (hxs.below keeps_int hW') (HYS.out.below keeps_int (bthen hbk hW')) (by omega) (by omega)
                  rw [decide_eq_true rfl] at h
                  exact h
                have HBI := HBI2
                clear hue hpu hsu hga hya hxs hb79 hbk
                go_upto_region 20 with fail
                refine ordB_below (.quiet 0 (.quiet 1 (.quiet 2 (.quiet 3 (.quiet 4 (.quiet 5 (.quiet 6 (.quiet 7 (.quiet 8 (.quiet 9 (.quiet 10 (.quiet 11 (.quiet 12 (.quiet 13 (.quiet 14 (.only 15 (.quiet 16 (.quiet 17 (.quiet 18 (.quiet 19 (.quiet 20 (.quiet 21 (.quiet 22 (.quiet 23 (.quiet 24 (.quiet 25 (.quiet 26 (.quiet 27 (.quiet 28 (.quiet 29 (.quiet 30 .done))))))))))))))))))))))))))))))) (by kernel_rfl) (by kernel_rfl) (by kernel_rfl) (fun _ _ _ _ _ h => h) ?_
                intro Wj hWj
                iterate 15 (first
                  | (refine ordB_skip rfl rfl ?_; simp only [Act.put, List.setIfInBounds_toArray, List.set_cons_zero, List.set_cons_succ])
                  | (refine ordB_take (v := ?_) rfl rfl ?_ ?_
                     rotate_left 1
                     focus (intro W hW; obtain ⟨hcW, hfW⟩ := bcell hW; (go_simp <;> with_reducible rfl))
                     simp only [Act.put, List.setIfInBounds_toArray, List.set_cons_zero, List.set_cons_succ]))
                refine ordB_only (opB_call rfl rfl (fun K hK => ?_))
                go_simp
                go_at_call 27
                refine (HIN.out _ hWj).mono ?_
                rintro e Wj_1 ⟨rfl, hx15⟩
                refine hK.out _ _ (hWj.trans (hx15.mono hWj.size)) (fun hWj_1 => ?_)
                iterate 15 (first
                  | (refine ordB_skip rfl rfl ?_; simp only [Act.put, List.setIfInBounds_toArray, List.set_cons_zero, List.set_cons_succ])
                  | (refine ordB_take (v := ?_) rfl rfl ?_ ?_
                     rotate_left 1
                     focus (intro W hW; obtain ⟨hcW, hfW⟩ := bcell hW; (go_simp <;> with_reducible rfl))
                     simp only [Act.put, List.setIfInBounds_toArray, List.set_cons_zero, List.set_cons_succ]))
                refine ordB_nil ?_
                have HBI2 := Lib.hid (bthen HBI.out hWj_1)
                clear hWj_1
                generalize Wj_1 = w11 at *
                go_wp2_with fail
                go_roundw
                case rel => exact ⟨i + 1, a + 1, by omega, by go_num, by go_num, HA2.out, HBI2.out⟩
                case measure => simp [intOf]; omega
        · obtain rfl : i = Lb.length := by omega
          have hb0 := bthen HBE.out (bthen HB57.out hb78)
          have hend := HEND.out
          rw [← HA.out] at hend
          by_cases h50 : Lb.length = 50
          · rw [h50]
            go_wp2_with fail
            go_ret
            exact ⟨rfl, hb0⟩
          · have haL : a = La.length := hend.resolve_left h50
            have h50b : ((Lb.length : Int) == 50) = false := by simp; omega
            subst haL
            clear hend h50
            go_wp2_with fail
            go_ret
            exact ⟨rfl, hb0⟩
end Go.Proofs.Ytbikjmafddndpaa
