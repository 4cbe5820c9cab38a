/-
  The walks of layer 16: the reference's Potentials.
-/
import Derived.Test.YtbikjmafddndpaaGrWalkC
import Derived.Test.YtbikjmafddndpaaGrMem
import Derived.Test.YtbikjmafddndpaaBase
namespace Go.Proofs.Ytbikjmafddndpaa
open Go Go.RowKit

theorem int_info : (Try.prog.info? 3).map (fun i => (i.zero, i.size, i.bytes)) = some (some (.int .i64 0), 1, 8) := by kernel_rfl
set_option maxRecDepth 100000 in
set_option maxHeartbeats 8000000 in
theorem refpot_any (A : Option Addr) (c : Nat) (g : Gr) (w : World) (hx : SlR 4 RLk w A g.ls) (hl : g.ls.length ≤ maxLen) :
    Calls Try.prog 31 #[.agg #[.int .i64 g.n, .slice A g.ls.length c]] w fun e w' => ∃ A' c', e = .returned (.tuple #[.slice A' (potsOf g).1.length c', .int .i64 (potsOf g).2]) ∧ SlR 1 RInt w' A' (potsOf g).1 ∧ Below w.heap.size w w' ∧ (potsOf g).1.length ≤ c' ∧ c' ≤ maxLen := by
  have hl0 := hl
  unfold maxLen at hl
  obtain ⟨i0, hi, hz0, hz1, hz2⟩ := info_parts int_info
  obtain ⟨w1, hw1⟩ : ∃ w1, w.alloc (.cells #[.int .i64 g.n, .slice A g.ls.length c] 30) = w1 := ⟨_, rfl⟩
  have hb1 : Below w.heap.size w w1 := by rw [← hw1]; exact nw _ (Below.refl _ _)
  have hB1 : Blk w1 w.heap.size 30 #[.int .i64 g.n, .slice A g.ls.length c] := by rw [← hw1]; exact Blk.new _ _ _
  have HW1 := Lib.hid hw1
  have c0 := hB1.cell 0
  have c1 := hB1.cell 1
  have lb := hB1.lt
  simp at c0 c1
  have HV : Hid (∀ W, Below w.heap.size w W → Calls Try.prog 29 #[.agg #[.int .i64 g.n, .slice A g.ls.length c]] W fun e w' => e = .returned (.bool (grB g)) ∧ Below W.heap.size W w') := fun W hW => refvalid_any A c g W (hx.below keeps_lk hW) hl0
  clear hw1
  cases hgr : grB g with
  | false =>
    have HP : Hid (potsOf g = ([], 150)) := by show potsOf g = _; unfold potsOf; rw [hgr]; rfl
    rw [hgr] at HV
    clear hgr
    go_enter Try.func31, Try.ntmps31
    go_wp2_with (go_at_call 29; go_loud (rw [HW1.out]; refine (HV.out _ hb1).mono ?_; rintro e w2 ⟨rfl, hb2⟩))
    go_ret2
    exact ⟨none, 0, by rw [HP.out]; rfl, by rw [HP.out]; exact SlR.nil, bthen hb1 hb2, by rw [HP.out]; exact Nat.le_refl _, Nat.zero_le _⟩
  | true =>
    have hg := grB_iff.1 hgr
    have HP : Hid (potsOf g = (potL g, 0)) := by show potsOf g = _; unfold potsOf; rw [hgr]; rfl
    rw [hgr] at HV
    obtain ⟨hn1, hn2⟩ := hg.n
    obtain ⟨N, hN⟩ : ∃ N : Nat, g.n = (N : Int) := ⟨g.n.toNat, by omega⟩
    have HG := Lib.hid hg
    have HN := Lib.hid hN
    rw [hN] at HV c0 hB1 hn1 hn2 ⊢
    have hN2 : (N : Int) - 2 = (N : Int) - 1 - 1 := by omega
    clear hgr hg hN
    go_enter Try.func31, Try.ntmps31
    go_upto_region 4 with (go_at_call 29; go_loud (rw [← HN.out, HW1.out]; rw [HN.out]; refine (HV.out _ hb1).mono ?_; rintro e w2 ⟨rfl, hb2⟩))
    have hB2 := hB1.below hb2 lb
    have k0 := hB2.cell 0
    have k1 := hB2.cell 1
    have kl := hB2.lt
    simp at k0 k1
    have hbw2 := bthen hb1 hb2
    have hwN : IntKind.i64.wrap ((N : Int) - 2) = (N : Int) - 2 := IntWalk.i64_in _ (by omega)
    go_upto_region 5 with (at_make; go_loud (refine wpList_mk _ rfl _ _ 36 rfl 3 i0 (.int .i64 0) (.int .i64 0) Try.underlying36 hi hz0 hz1 (by omega) rfl N rfl rfl (by omega) ?_))
    obtain ⟨W3, hW3⟩ : ∃ W, w2.alloc (.cells (Array.replicate N (Value.int .i64 0)) 3) = W := ⟨_, rfl⟩
    have hb3 : Below w2.heap.size w2 W3 := by rw [← hW3]; exact nw _ (Below.refl _ _)
    have hR3 : Row W3 w2.heap.size (List.replicate N 0) := by rw [← hW3, ← List.toArray_replicate]; exact Row.zeros _ _
    rw [hW3]
    clear hW3
    obtain ⟨gh, hgh⟩ : ∃ b, w2.heap.size = b := ⟨_, rfl⟩
    rw [hgh] at hR3 ⊢
    have hbgh : w.heap.size < gh := by omega
    have hghl := hR3.lt
    have hB3 := hB2.below hb3 kl
    have hbw3 := bthen hbw2 hb3
    clear hb3 hb2 k0 k1 kl hB2 hgh c0 c1
    have j0 := hB3.cell 0
    have j1 := hB3.cell 1
    have jl := hB3.lt
    simp at j0 j1
    go_wp2_with fail
    go_loopw [6] (fun nd wr => ∃ k : Nat, 1 ≤ k ∧ k ≤ N ∧ nd = .int .i64 ((N : Int) - 1 - k) ∧ Row wr gh (List.replicate (N - k) 0 ++ potS g k) ∧ Below gh W3 wr) (fun nd _ => (intOf nd + 1).toNat)
    case atStart =>
      refine ⟨1, by omega, by omega, vint (by omega), ?_, Below.refl _ _⟩
      have : List.replicate (N - 1) 0 ++ potS g 1 = List.replicate N (0 : Int) := by
        show List.replicate (N - 1) 0 ++ [0] = _
        rw [← List.replicate_succ']
        congr 1
        omega
      rw [this]; exact hR3
    case round =>
      obtain ⟨k, hk1, hkN, rfl, hR, hbr⟩ := hrel
      have hBr := hB3.below hbr hbgh
      have b0 := hBr.cell 0
      have b1 := hBr.cell 1
      have bl := hBr.lt
      simp at b0 b1
      have hRl := hR.lt
      have hPl := potS_len g k
      by_cases hlt : k < N
      · obtain ⟨m, hm⟩ : ∃ m, N - k = m + 1 := ⟨N - k - 1, by omega⟩
        rw [hm, potRow_start] at hR
        have hmv : (N : Int) - 1 - k = (m : Int) := by omega
        rw [hmv]
        have a0 := hR.cell (potRow_at m 0 _)
        have af := hR.frozen m
        have hm0 : (0 : Int) ≤ (m : Int) := by omega
        have hmN : (m : Int) < (N : Int) := by omega
        have hmN2 : m < N := by omega
        go_upto_region 9 with fail
        obtain ⟨W1, hW1⟩ : ∃ W, wr.setCell ⟨gh, m, none⟩ (.int .i64 (-1)) = W := ⟨_, rfl⟩
        have hR1 := hR.set_ m (-1)
        rw [potRow_set] at hR1
        have hb1' : Below gh W3 W1 := by rw [← hW1]; exact hbr.setCell (Nat.le_refl _) _
        rw [hW1] at hR1 ⊢
        clear hW1 hR a0 af b0 b1 bl hBr hRl hbr
        have HB1 := Lib.hid hb1'
        clear hb1'
        go_wp2_with fail
        go_loopw [7] (fun i wv => ∃ j : Nat, j ≤ g.ls.length ∧ i = .int .i64 j ∧ Row wv gh (potRow m ((lvTo g.ls (m : Int) j).foldl (potStep g (m : Int) (potS g k)) (-1)) (potS g k)) ∧ Below gh W3 wv) (fun i _ => g.ls.length - (intOf i).toNat)
        case atStart => exact ⟨0, by omega, rfl, hR1, HB1.out⟩
        case round =>
          obtain ⟨j, hj, rfl, hRw, hbv⟩ := hrel
          have hBv := hB3.below hbv hbgh
          have b0 := hBv.cell 0
          have b1 := hBv.cell 1
          have bl := hBv.lt
          simp at b0 b1
          have hRl := hRw.lt
          have hbwv : Below w.heap.size w wr := hbw3.trans (hbv.mono (by omega))
          by_cases hltj : j < g.ls.length
          · obtain ⟨b, off, l, rfl, hbb, hll, d0, d1, d2, d3⟩ := (hx.below keeps_lk hbwv).lk hltj
            have hok := HG.out.ls l (List.mem_of_getElem? hll)
            have hbd := potS_bd HG.out k
            have HACC := Lib.hid (acc_snoc (v := (m : Int)) (tail := potS g k) hll)
            have hLk := lkAt_nat hll
            have hacc := step_bd HG.out (v := (m : Int)) (tail := potS g k) (B := 1000000 * (k : Int)) hbd (by omega) (L := lvTo g.ls (m : Int) j) (fun i hi => by have := lvTo_ok (g := g) (v := (m : Int)) (k := j) (by omega) i hi; omega) (-1) (by omega)
            generalize (lvTo g.ls (m : Int) j).foldl (potStep g (m : Int) (potS g k)) (-1) = acc at *
            have HBV := Lib.hid (hbv.trans ((nw (.cells #[.int .i64 l.fr, .int .i64 l.to, .int .i64 l.lb, .int .i64 l.cost] 54) (Below.refl wr.heap.size wr)).mono (Nat.le_of_lt hRl)))
            have hRw := hRw.alloc (.cells #[.int .i64 l.fr, .int .i64 l.to, .int .i64 l.lb, .int .i64 l.cost] 54)
            obtain ⟨o1, o2, o3, o4, o5⟩ := hok
            have hto1 : l.to < (N : Int) := by rw [← HN.out]; exact o3
            clear hll
            go_upto_region 13 with fail
            obtain ⟨W2, hW2⟩ : ∃ W, wr.alloc (.cells #[.int .i64 l.fr, .int .i64 l.to, .int .i64 l.lb, .int .i64 l.cost] 54) = W := ⟨_, rfl⟩
            have hb2' : Below wr.heap.size wr W2 := by rw [← hW2]; exact nw _ (Below.refl _ _)
            have hLb : Blk W2 wr.heap.size 54 #[.int .i64 l.fr, .int .i64 l.to, .int .i64 l.lb, .int .i64 l.cost] := by rw [← hW2]; exact Blk.new _ _ _
            rw [hW2] at hRw HBV ⊢
            obtain ⟨t8, ht8⟩ : ∃ b, wr.heap.size = b := ⟨_, rfl⟩
            rw [ht8] at hLb ⊢
            have hn8 : gh ≠ t8 := by omega
            have hRl := hRw.lt
            have hLl := hLb.lt
            clear hW2 ht8 b0 b1 bl d0 d1 d2 d3 hb2'
            have u0 := hLb.cell 0
            have u1 := hLb.cell 1
            have u3 := hLb.cell 3
            simp at u0 u1 u3
            have r1 := hRw.cell (potRow_at m acc (potS g k))
            by_cases hfr : l.fr = (m : Int)
            · obtain ⟨tn, htn⟩ : ∃ tn : Nat, l.to = (tn : Int) := ⟨l.to.toNat, by omega⟩
              have htoAt := potRow_tail (m := m) (acc := acc) (tail := potS g k) (j := tn) (by omega) (by omega)
              have htb := getD_bd hbd (by omega) (tn - m - 1)
              have HT : Hid (potStep g (m : Int) (potS g k) acc (j : Int) = if 0 ≤ (potS g k).getD (tn - m - 1) 0 ∧ (acc < 0 ∨ l.cost + (potS g k).getD (tn - m - 1) 0 < acc) then l.cost + (potS g k).getD (tn - m - 1) 0 else acc) := by
                show potStep g (m : Int) (potS g k) acc (j : Int) = _
                unfold potStep
                dsimp only
                rw [hLk, htn, show ((tn : Int) - (m : Int) - 1).toNat = tn - m - 1 by omega]
              have HACC2 : Hid (_ = potStep g (m : Int) (potS g k) acc (j : Int)) := HACC.out.trans (if_pos hfr)
              generalize (potS g k).getD (tn - m - 1) 0 = tt at *
              have r2 := hRw.cell htoAt
              have HTN := Lib.hid htn
              rw [htn] at u1 hto1
              have htnN : tn < N := by omega
              have htn0 : (0 : Int) ≤ (tn : Int) := by omega
              have hws : IntKind.i64.wrap (l.cost + tt) = l.cost + tt := IntWalk.i64_in _ (by omega)
              have e1 : (l.fr == (m : Int)) = true := by simpa using hfr
              clear htn hfr o2 o3 hLk htb hbd hacc
              by_cases c1 : 0 ≤ tt
              · by_cases c2 : acc < 0
                · have HA2 := Lib.hid (HACC2.out.trans (HT.out.trans (if_pos ⟨c1, .inl c2⟩)))
                  have z1 : decide (0 ≤ tt) = true := decide_eq_true c1
                  have z2 : decide (acc < 0) = true := decide_eq_true c2
                  go_wp2_with fail
                  refine ordB_below (.quiet 0 (.quiet 1 (.quiet 2 (.quiet 3 (.quiet 4 (.quiet 5 (.quiet 6 (.quiet 7 (.quiet 8 (.quiet 9 (.quiet 10 (.quiet 11 (.quiet 12 (.quiet 13 (.quiet 14 (.quiet 15 (.quiet 16 (.quiet 17 (.quiet 18 (.quiet 19 (.quiet 20 (.quiet 21 (.quiet 22 (.quiet 23 (.quiet 24 (.quiet 25 (.quiet 26 (.quiet 27 (.quiet 28 (.quiet 29 (.quiet 30 (.quiet 31 (.quiet 32 (.quiet 33 .done)))))))))))))))))))))))))))))))))) (by kernel_rfl) (by kernel_rfl) (by kernel_rfl) (fun _ _ _ _ _ h => h) ?_
                  intro V0 hV0
                  iterate 34 (first
                    | (refine ordB_skip rfl rfl ?_; simp only [Act.put, List.setIfInBounds_toArray, List.set_cons_zero, List.set_cons_succ])
                    | (refine ordB_take (v := ?_) rfl rfl ?_ ?_
                       rotate_left 1
                       focus (intro W hW; obtain ⟨hcW, hfW⟩ := bcell hW; (go_simp <;> with_reducible rfl))
                       simp only [Act.put, List.setIfInBounds_toArray, List.set_cons_zero, List.set_cons_succ]))
                  refine ordB_nil ?_
                  have hRs := hRw.below hV0 hRl
                  have hLs := hLb.below hV0 hLl
                  have HBs := Lib.hid (HBV.out.trans (hV0.mono (Nat.le_of_lt hRl)))
                  have hRsl := hRs.lt
                  have hLsl := hLs.lt
                  generalize V0 = V at *
                  clear hV0
                  have v1 := hLs.cell 1
                  have v3 := hLs.cell 3
                  simp at v1 v3
                  rw [HTN.out] at v1
                  have x1 := hRs.cell (potRow_at m acc (potS g k))
                  have x2 := hRs.cell htoAt
                  have xf := hRs.frozen m
                  go_wp2_with fail
                  refine ordT_below [11] [(0, false), (1, false), (2, false), (3, false), (4, false), (5, false), (6, false), (7, false), (8, false), (9, false), (10, false), (11, true)] (by kernel_rfl) (by kernel_rfl) (by kernel_rfl) (fun _ _ _ _ _ h => h) ?_
                  intro W0 hS0
                  repeat (first
                    | (refine ordT_skip rfl rfl (by assumption) ?_; simp only [Act.put, List.setIfInBounds_toArray, List.set_cons_zero, List.set_cons_succ])
                    | (refine ordT_cskip rfl rfl (by assumption) ?_; simp only [Act.put, List.setIfInBounds_toArray, List.set_cons_zero, List.set_cons_succ])
                    | (refine ordT_take (v := ?_) rfl rfl (by assumption) ?_ ?_
                       rotate_left 1
                       focus (intro W hW; obtain ⟨hcW, hfW⟩ := bcell hW; (go_simp <;> with_reducible rfl))
                       simp only [Act.put, List.setIfInBounds_toArray, List.set_cons_zero, List.set_cons_succ])
                    | (refine ordT_call rfl rfl (fun K hK => ?_)
                       obtain ⟨hcS, hfS⟩ := bcell hS0
                       go_simp
                       first
                         | (refine hK.out _ _ (fun h => by cases h) ?_)))
                  refine ordT_nil ?_
                  go_wp2_with fail
                  go_roundw
                  case rel => exact ⟨j + 1, by omega, by go_num, (by rw [HA2.out]; have := (hRs.below hS0 hRsl).set_ m (l.cost + tt); rw [potRow_set] at this; exact this), (HBs.out.trans (hS0.mono (Nat.le_of_lt hRsl))).setCell (Nat.le_refl _) _⟩
                  case measure => simp [intOf]; omega
                · have z1 : decide (0 ≤ tt) = true := decide_eq_true c1
                  have z2 : decide (acc < 0) = false := decide_eq_false c2
                  by_cases c3 : l.cost + tt < acc
                  · have HA2 := Lib.hid (HACC2.out.trans (HT.out.trans (if_pos ⟨c1, .inr c3⟩)))
                    have z3 : decide (l.cost + tt < acc) = true := decide_eq_true c3
                    go_wp2_with fail
                    refine ordB_below (.quiet 0 (.quiet 1 (.quiet 2 (.quiet 3 (.quiet 4 (.quiet 5 (.quiet 6 (.quiet 7 (.quiet 8 (.quiet 9 (.quiet 10 (.quiet 11 (.quiet 12 (.quiet 13 (.quiet 14 (.quiet 15 (.quiet 16 (.quiet 17 (.quiet 18 (.quiet 19 (.quiet 20 (.quiet 21 (.quiet 22 (.quiet 23 (.quiet 24 (.quiet 25 (.quiet 26 (.quiet 27 (.quiet 28 (.quiet 29 (.quiet 30 (.quiet 31 (.quiet 32 (.quiet 33 .done)))))))))))))))))))))))))))))))))) (by kernel_rfl) (by kernel_rfl) (by kernel_rfl) (fun _ _ _ _ _ h => h) ?_
                    intro V0 hV0
                    iterate 34 (first
                      | (refine ordB_skip rfl rfl ?_; simp only [Act.put, List.setIfInBounds_toArray, List.set_cons_zero, List.set_cons_succ])
                      | (refine ordB_take (v := ?_) rfl rfl ?_ ?_
                         rotate_left 1
                         focus (intro W hW; obtain ⟨hcW, hfW⟩ := bcell hW; (go_simp <;> with_reducible rfl))
                         simp only [Act.put, List.setIfInBounds_toArray, List.set_cons_zero, List.set_cons_succ]))
                    refine ordB_nil ?_
                    have hRs := hRw.below hV0 hRl
                    have hLs := hLb.below hV0 hLl
                    have HBs := Lib.hid (HBV.out.trans (hV0.mono (Nat.le_of_lt hRl)))
                    have hRsl := hRs.lt
                    have hLsl := hLs.lt
                    generalize V0 = V at *
                    clear hV0
                    have v1 := hLs.cell 1
                    have v3 := hLs.cell 3
                    simp at v1 v3
                    rw [HTN.out] at v1
                    have x1 := hRs.cell (potRow_at m acc (potS g k))
                    have x2 := hRs.cell htoAt
                    have xf := hRs.frozen m
                    go_wp2_with fail
                    refine ordT_below [11] [(0, false), (1, false), (2, false), (3, false), (4, false), (5, false), (6, false), (7, false), (8, false), (9, false), (10, false), (11, true)] (by kernel_rfl) (by kernel_rfl) (by kernel_rfl) (fun _ _ _ _ _ h => h) ?_
                    intro W0 hS0
                    repeat (first
                      | (refine ordT_skip rfl rfl (by assumption) ?_; simp only [Act.put, List.setIfInBounds_toArray, List.set_cons_zero, List.set_cons_succ])
                      | (refine ordT_cskip rfl rfl (by assumption) ?_; simp only [Act.put, List.setIfInBounds_toArray, List.set_cons_zero, List.set_cons_succ])
                      | (refine ordT_take (v := ?_) rfl rfl (by assumption) ?_ ?_
                         rotate_left 1
                         focus (intro W hW; obtain ⟨hcW, hfW⟩ := bcell hW; (go_simp <;> with_reducible rfl))
                         simp only [Act.put, List.setIfInBounds_toArray, List.set_cons_zero, List.set_cons_succ])
                      | (refine ordT_call rfl rfl (fun K hK => ?_)
                         obtain ⟨hcS, hfS⟩ := bcell hS0
                         go_simp
                         first
                           | (refine hK.out _ _ (fun h => by cases h) ?_)))
                    refine ordT_nil ?_
                    go_wp2_with fail
                    go_roundw
                    case rel => exact ⟨j + 1, by omega, by go_num, (by rw [HA2.out]; have := (hRs.below hS0 hRsl).set_ m (l.cost + tt); rw [potRow_set] at this; exact this), (HBs.out.trans (hS0.mono (Nat.le_of_lt hRsl))).setCell (Nat.le_refl _) _⟩
                    case measure => simp [intOf]; omega
                  · have HA2 := Lib.hid (HACC2.out.trans (HT.out.trans (if_neg (fun h => h.2.elim c2 c3))))
                    have z3 : decide (l.cost + tt < acc) = false := decide_eq_false c3
                    go_wp2_with fail
                    refine ordB_below (.quiet 0 (.quiet 1 (.quiet 2 (.quiet 3 (.quiet 4 (.quiet 5 (.quiet 6 (.quiet 7 (.quiet 8 (.quiet 9 (.quiet 10 (.quiet 11 (.quiet 12 (.quiet 13 (.quiet 14 (.quiet 15 (.quiet 16 (.quiet 17 (.quiet 18 (.quiet 19 (.quiet 20 (.quiet 21 (.quiet 22 (.quiet 23 (.quiet 24 (.quiet 25 (.quiet 26 (.quiet 27 (.quiet 28 (.quiet 29 (.quiet 30 (.quiet 31 (.quiet 32 (.quiet 33 .done)))))))))))))))))))))))))))))))))) (by kernel_rfl) (by kernel_rfl) (by kernel_rfl) (fun _ _ _ _ _ h => h) ?_
                    intro V0 hV0
                    iterate 34 (first
                      | (refine ordB_skip rfl rfl ?_; simp only [Act.put, List.setIfInBounds_toArray, List.set_cons_zero, List.set_cons_succ])
                      | (refine ordB_take (v := ?_) rfl rfl ?_ ?_
                         rotate_left 1
                         focus (intro W hW; obtain ⟨hcW, hfW⟩ := bcell hW; (go_simp <;> with_reducible rfl))
                         simp only [Act.put, List.setIfInBounds_toArray, List.set_cons_zero, List.set_cons_succ]))
                    refine ordB_nil ?_
                    have hRs := hRw.below hV0 hRl
                    have hLs := hLb.below hV0 hLl
                    have HBs := Lib.hid (HBV.out.trans (hV0.mono (Nat.le_of_lt hRl)))
                    have hRsl := hRs.lt
                    have hLsl := hLs.lt
                    generalize V0 = V at *
                    clear hV0
                    go_wp2_with fail
                    go_roundw
                    case rel => exact ⟨j + 1, by omega, by go_num, (by rw [HA2.out]; exact hRs), HBs.out⟩
                    case measure => simp [intOf]; omega
              · have HA2 := Lib.hid (HACC2.out.trans (HT.out.trans (if_neg (fun h => c1 h.1))))
                have z1 : decide (0 ≤ tt) = false := decide_eq_false c1
                go_wp2_with fail
                refine ordB_below (.quiet 0 (.quiet 1 (.quiet 2 (.quiet 3 (.quiet 4 (.quiet 5 (.quiet 6 (.quiet 7 (.quiet 8 (.quiet 9 (.quiet 10 (.quiet 11 (.quiet 12 (.quiet 13 (.quiet 14 (.quiet 15 (.quiet 16 (.quiet 17 (.quiet 18 (.quiet 19 (.quiet 20 (.quiet 21 (.quiet 22 (.quiet 23 (.quiet 24 (.quiet 25 (.quiet 26 (.quiet 27 (.quiet 28 (.quiet 29 (.quiet 30 (.quiet 31 (.quiet 32 (.quiet 33 .done)))))))))))))))))))))))))))))))))) (by kernel_rfl) (by kernel_rfl) (by kernel_rfl) (fun _ _ _ _ _ h => h) ?_
                intro V0 hV0
                iterate 34 (first
                  | (refine ordB_skip rfl rfl ?_; simp only [Act.put, List.setIfInBounds_toArray, List.set_cons_zero, List.set_cons_succ])
                  | (refine ordB_take (v := ?_) rfl rfl ?_ ?_
                     rotate_left 1
                     focus (intro W hW; obtain ⟨hcW, hfW⟩ := bcell hW; (go_simp <;> with_reducible rfl))
                     simp only [Act.put, List.setIfInBounds_toArray, List.set_cons_zero, List.set_cons_succ]))
                refine ordB_nil ?_
                have hRs := hRw.below hV0 hRl
                have hLs := hLb.below hV0 hLl
                have HBs := Lib.hid (HBV.out.trans (hV0.mono (Nat.le_of_lt hRl)))
                have hRsl := hRs.lt
                have hLsl := hLs.lt
                generalize V0 = V at *
                clear hV0
                go_wp2_with fail
                go_roundw
                case rel => exact ⟨j + 1, by omega, by go_num, (by rw [HA2.out]; exact hRs), HBs.out⟩
                case measure => simp [intOf]; omega
            · have HA2 := Lib.hid (HACC.out.trans (if_neg hfr))
              have e1 : (l.fr == (m : Int)) = false := by simpa using hfr
              clear hfr
              go_wp2_with fail
              refine ordB_below (.quiet 0 (.quiet 1 (.quiet 2 (.quiet 3 (.quiet 4 (.quiet 5 (.quiet 6 (.quiet 7 (.quiet 8 (.quiet 9 (.quiet 10 (.quiet 11 (.quiet 12 (.quiet 13 (.quiet 14 (.quiet 15 (.quiet 16 (.quiet 17 (.quiet 18 (.quiet 19 (.quiet 20 (.quiet 21 (.quiet 22 (.quiet 23 (.quiet 24 (.quiet 25 (.quiet 26 (.quiet 27 (.quiet 28 (.quiet 29 (.quiet 30 (.quiet 31 (.quiet 32 (.quiet 33 .done)))))))))))))))))))))))))))))))))) (by kernel_rfl) (by kernel_rfl) (by kernel_rfl) (fun _ _ _ _ _ h => h) ?_
              intro V0 hV0
              iterate 34 (first
                | (refine ordB_skip rfl rfl ?_; simp only [Act.put, List.setIfInBounds_toArray, List.set_cons_zero, List.set_cons_succ])
                | (refine ordB_take (v := ?_) rfl rfl ?_ ?_
                   rotate_left 1
                   focus (intro W hW; obtain ⟨hcW, hfW⟩ := bcell hW; (go_simp <;> with_reducible rfl))
                   simp only [Act.put, List.setIfInBounds_toArray, List.set_cons_zero, List.set_cons_succ]))
              refine ordB_nil ?_
              have hRs := hRw.below hV0 hRl
              have hLs := hLb.below hV0 hLl
              have HBs := Lib.hid (HBV.out.trans (hV0.mono (Nat.le_of_lt hRl)))
              have hRsl := hRs.lt
              have hLsl := hLs.lt
              generalize V0 = V at *
              clear hV0
              go_wp2_with fail
              go_roundw
              case rel => exact ⟨j + 1, by omega, by go_num, (by rw [HA2.out]; exact hRs), HBs.out⟩
              case measure => simp [intOf]; omega
          · obtain rfl : j = g.ls.length := by omega
            have hnk : N - (k + 1) = m := by omega
            have hps := potS_succ g (k := k) hk1
            have hvm : g.n - ((k : Int) + 1) = (m : Int) := by rw [HN.out]; omega
            rw [hvm] at hps
            have HROW : Hid (Row wr gh (List.replicate (N - (k + 1)) 0 ++ potS g (k + 1))) := by
              show Row _ _ _
              rw [hnk, hps]
              exact hRw
            have HBV := Lib.hid hbv
            clear hRw hps hvm hnk hbv
            go_wp2_with fail
            go_roundw
            case rel => exact ⟨k + 1, by omega, by omega, vint (by omega), HROW.out, HBV.out⟩
            case measure => first | (simp [intOf]; done) | (simp [intOf]; omega)
      · obtain rfl : k = N := by omega
        have HRF : Hid (Row wr gh (potL g)) := by
          show Row _ _ _
          unfold potL
          rw [HN.out, Int.toNat_natCast]
          have := hR
          rw [Nat.sub_self] at this
          exact this
        have HLEN : Hid ((potL g).length = k) := by show _ = _; unfold potL; rw [potS_len, HN.out, Int.toNat_natCast]
        have hneg : (k : Int) - 1 - (k : Int) < 0 := by omega
        have HBE := Lib.hid (hbw3.trans (hbr.mono (Nat.le_of_lt hbgh)))
        clear hR hbr
        go_wp2_with fail
        go_ret2
        exact ⟨some ⟨gh, 0, none⟩, k, by rw [HP.out]; show _ = Ending.returned (.tuple #[.slice _ (potL g).length k, .int .i64 0]); rw [HLEN.out]; rfl, by rw [HP.out]; exact HRF.out.slr, HBE.out, by rw [HP.out]; show (potL g).length ≤ k; rw [HLEN.out]; exact Nat.le_refl _, by unfold maxLen; omega⟩
end Go.Proofs.Ytbikjmafddndpaa
