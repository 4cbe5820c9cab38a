/-
  The walk of ContextMatchesReference.
-/
import Derived.Test.YtcimnkijpifkjaaQCxMt
import Derived.Test.YtcimnkijpifkjaaQ34
import Derived.Test.YtcimnkijpifkjaaQ32
import Derived.Test.YtcimnkijpifkjaaQ35
import Derived.Test.YtcimnkijpifkjaaQ25
namespace Go.Proofs.Ytcimnkijpifkjaa
open Go Go.RowKit

set_option maxRecDepth 100000 in
set_option maxHeartbeats 16000000 in
theorem contextMatchesReference_any (AR : Option Addr) (rl : List R4) (cr : Nat) (x : Raw) (A1 A2 A3 : Option Addr) (c1 c2 c3 : Nat) (u0 u1 u2 u3 : Int) (w : World) (hrl : SlR 4 RR4 w AR rl) (hrn : rl.length ≤ maxLen) (hrok : ∀ r ∈ rl, R4OK r) (hraw : RawR w x A1 A2 A3) (h0 : 0 ≤ u0 ∧ u0 ≤ 255) (h1 : 0 ≤ u1 ∧ u1 ≤ 255) (h2 : 0 ≤ u2 ∧ u2 ≤ 255) (h3 : 0 ≤ u3 ∧ u3 ≤ 255) :
    Calls Try.prog 3 #[.slice AR rl.length cr, .agg #[.slice A1 x.words.length c1, .slice A2 x.counts.length c2, .slice A3 x.uses.length c3, .int .u8 x.back], .agg #[.int .u8 u0, .int .u8 u1, .int .u8 u2, .int .u8 u3]] w fun e w' => e = .returned (.bool true) ∧ Below w.heap.size w w' := by
  obtain ⟨hlm, hw2, hw8⟩ := made_lim x hraw.b2 hraw.b3 hraw.bk
  have HMade : Hid (∀ W, Below w.heap.size w W → Calls Try.prog 10 #[.agg #[.slice A1 x.words.length c1, .slice A2 x.counts.length c2, .slice A3 x.uses.length c3, .int .u8 x.back]] W (GivesMo (madeM x) W)) := fun W hW => co_made_any x A1 A2 A3 c1 c2 c3 W (hraw.below hW)
  generalize madeM x = m at *
  have HOK := Lib.hid hlm.ok
  have HLim := Lib.hid hlm
  have HLaM : Hid (∀ W, Below w.heap.size w W → Calls Try.prog 11 #[.slice AR rl.length cr, .int .u8 u0, .int .i64 (m.ws.length : Int)] W (GivesLa (latM rl u0 (m.ws.length : Int)) W)) := fun W hW => lat_any AR rl cr u0 _ W (hrl.below keeps_r4 hW) hrn hrok h0 ⟨by omega, by omega⟩
  obtain ⟨q1, q2, q3, q4, q5⟩ := latM_ok (l := rl) (pl := u0) (n := (m.ws.length : Int)) h0.1 (by omega) (by omega) hrok
  generalize latM rl u0 (m.ws.length : Int) = la at *
  have HF : Hid (FitsL la m.ws.length) := ⟨q1, fun e he => (q2 e he).1⟩
  have HCO : Hid (∀ e ∈ la.es, e.co ≤ 1000) := fun e he => by have := (q2 e he).2; omega
  have HFull := Lib.hid q5
  have hq0 := q1.1.1
  obtain ⟨w1, hw1⟩ : ∃ V, (w.alloc (.cells #[.slice A1 x.words.length c1, .slice A2 x.counts.length c2, .slice A3 x.uses.length c3, .int .u8 x.back] 27)).alloc (.cells #[.int .u8 u0, .int .u8 u1, .int .u8 u2, .int .u8 u3] 28) = V := ⟨_, rfl⟩
  have hb1 : Below w.heap.size w w1 := by rw [← hw1]; exact nw _ (nw _ (Below.refl _ _))
  have hK0 : Blk w1 w.heap.size 27 #[.slice A1 x.words.length c1, .slice A2 x.counts.length c2, .slice A3 x.uses.length c3, .int .u8 x.back] := by rw [← hw1]; exact (Blk.new _ _ _).alloc _
  have hK1 : Blk w1 (w.heap.size + 1) 28 #[.int .u8 u0, .int .u8 u1, .int .u8 u2, .int .u8 u3] := by rw [← hw1]; exact Blk.new_ (by simp)
  have HW1 := Lib.hid hw1
  clear hw1 hlm hrl hrok hraw q1 q2 q5
  go_enter Try.func3, Try.ntmps3
  go_upto_region 3 with (first
    | (go_at_call 9; go_loud (rw [HW1.out]; refine (sanity20_any w1).mono ?_; rintro e w2 ⟨rfl, hb2⟩; have hkr := hK0.below hb2 hK0.lt; have rw0 := hkr.cell 0; have rw1 := hkr.cell 1; have rw2 := hkr.cell 2; have rw3 := hkr.cell 3; have rwl := hkr.lt; simp at rw0 rw1 rw2 rw3))
    | (go_at_call 10; go_loud (refine (HMade.out _ (bthen hb1 hb2)).mono ?_; rintro e w3 ⟨B1, B2, B3, d1, d2, d3, rfl, hmor, hcaps, hb3⟩; clear rw0 rw1 rw2 rw3 rwl)))
  obtain ⟨W4, hW4⟩ : ∃ V, w3.alloc (.cells #[.slice B1 m.ws.length d1, .slice B2 m.cs.length d2, .slice B3 m.ps.length d3, .int .i64 m.back] 34) = V := ⟨_, rfl⟩
  have hM : MB m w3.heap.size B1 B2 B3 d1 d2 d3 W4 := by rw [← hW4]; exact mb_new hmor hcaps
  have hb34 : Below w3.heap.size w3 W4 := by rw [← hW4]; exact nw _ (Below.refl _ _)
  have hK4 := hK1.below (bthen (bthen hb2 hb3) hb34) hK1.lt
  have HB4 := Lib.hid (bthen hb1 (bthen (bthen hb2 hb3) hb34))
  rw [hW4]
  obtain ⟨gM, hgM⟩ : ∃ b, w3.heap.size = b := ⟨_, rfl⟩
  rw [hgM] at hM ⊢
  obtain ⟨gW, hgW⟩ : ∃ b, w.heap.size + 1 = b := ⟨_, rfl⟩
  have hgWge : w.heap.size ≤ gW := by omega
  have hgMw : w.heap.size ≤ gM := by have := (bthen hb1 (bthen hb2 hb3)).size; omega
  have hgne : gW ≠ gM := by have h1 := hK1.below (bthen hb2 hb3) hK1.lt; have := h1.lt; omega
  rw [hgW] at hK4 ⊢
  have HM4 := Lib.hid hM
  have HK4 := Lib.hid hK4
  have hb34' : Below gM w3 W4 := by rw [← hgM]; exact hb34
  have HR3 := Lib.hid (And.intro hmor (And.intro hb34' hgM))
  clear hb34' hb1 hb2 hb3 hb34 hkr hK0 hK1 hW4 hmor hcaps hgM hgW HW1
  have m0 := hM.b.cell 0
  have m1 := hM.b.cell 1
  have m2 := hM.b.cell 2
  have m3 := hM.b.cell 3
  have ml := hM.b.lt
  have y0 := hK4.cell 0
  have y1 := hK4.cell 1
  have y2 := hK4.cell 2
  have y3 := hK4.cell 3
  have yl := hK4.lt
  simp at m0 m1 m2 m3 y0 y1 y2 y3
  clear hM hK4
  have hr12 : 0 ≤ u1 % 12 ∧ u1 % 12 ≤ 11 := by omega
  have ht12 : u1.tmod 12 = u1 % 12 := Int.tmod_eq_emod_of_nonneg h1.1
  obtain ⟨pr, hpr⟩ : ∃ q, u1 % 12 = q := ⟨_, rfl⟩
  rw [hpr] at hr12 ht12
  have hwr1 : IntKind.u8.wrap pr = pr := by rw [IntKind.wrap_u8]; omega
  have hwr2 : IntKind.i64.wrap pr = pr := IntWalk.i64_in _ (by omega)
  obtain ⟨prev, hprev⟩ : ∃ q, pr - 2 = q := ⟨_, rfl⟩
  have hwr3 : IntKind.i64.wrap (pr - 2) = prev := by rw [hprev]; exact IntWalk.i64_in _ (by omega)
  clear hpr hprev
  go_cut [9, 10] (fun s9 s10 W => ∃ (g9 : Nat) (A9 : Option Addr) (c9 : Nat), s9 = .pointer (some ⟨g9, 0, none⟩) ∧ s10 = .int .i64 prev ∧ Blk W g9 38 #[.int .i64 la.n, .slice A9 la.es.length c9] ∧ W.ownsRow W4.heap.size 43 4 (.slice A9 la.es.length c9) la.es.length (la.es.flatMap encEd) ∧ (la.es.length ≤ c9 ∧ c9 ≤ maxLen) ∧ Below W4.heap.size W4 W)
  case first =>
    refine ordB_below (.quiet 0 (.quiet 1 (.quiet 2 (.quiet 3 (.quiet 4 (.quiet 5 (.quiet 7 (.quiet 8 (.quiet 9 (.quiet 10 (.quiet 11 (.fork 6 12 (.only 12 (.only 13 (.quiet 14 .done))) (.only 6 (.only 13 (.quiet 14 .done))))))))))))))) (by kernel_rfl) (by kernel_rfl) (by kernel_rfl) (fun _ _ _ _ _ h => h) ?_
    intro V0 hV0
    iterate 11 (first
      | (refine ordB_skip rfl rfl ?_; simp only [Act.put, List.setIfInBounds_toArray, List.set_cons_zero, List.set_cons_succ])
      | (refine ordB_take (v := ?_) rfl rfl ?_ ?_
         rotate_left 1
         focus (intro W hW; obtain ⟨hcW, hfW⟩ := bcell hW; (go_simp <;> with_reducible rfl))
         simp only [Act.put, List.setIfInBounds_toArray, List.set_cons_zero, List.set_cons_succ]))
    refine ordB_fork (opB_call rfl rfl (fun K hK => ?_)) (opB_call rfl rfl (fun K hK => ?_))
    · go_simp
      go_at_call 11
      refine (HLaM.out _ (bthen HB4.out hV0)).mono ?_
      rintro e VL ⟨A9, c9, rfl, _, hk9, hb9, hown9⟩
      refine hK.out _ _ (hV0.trans (hb9.mono hV0.size)) (fun hV0_1 => ?_)
      have hz_1 := hb9.size
      have hown9 := own_base hown9 (hV0.size)
      refine ordB_only (opB_call rfl rfl (fun K hK => ?_))
      go_simp
      refine hK.out _ _ (hV0_1.alloc hV0_1.size _) (fun hV0_1_2 => ?_)
      have X := Blk.new VL 38 #[.int .i64 0, .slice none 0 0]
      have Xb := nw (.cells #[.int .i64 0, .slice none 0 0] 38) (Below.refl VL.heap.size VL)
      have Xg := hV0_1.size
      obtain ⟨VL_2, qqVL_2⟩ : ∃ W', VL.alloc (.cells #[.int .i64 0, .slice none 0 0] 38) = W' := ⟨_, rfl⟩
      rw [qqVL_2] at hV0_1_2 X Xb ⊢
      have hown9 := own_below hown9 Xb
      have Xlt := X.lt
      clear qqVL_2
      refine ordB_only (opB_call rfl rfl (fun K hK => ?_))
      have Xc0 := X.cell 0
      have Xf0 := X.frozen 0
      have Xc1 := X.cell 1
      have Xf1 := X.frozen 1
      simp at Xc0 Xc1
      go_simp
      refine hK.out _ _ ((hV0_1_2.setCell (p := ⟨VL.heap.size, 0, none⟩) Xg _).setCell (p := ⟨VL.heap.size, 1, none⟩) Xg _) (fun hV0_1_2_3 => ?_)
      have X_old := X
      have X := ((X.set_ 0 (.int .i64 la.n)).set_ 1 (.slice A9 la.es.length c9))
      have hown9Xne : (Value.slice A9 la.es.length c9).ownBlock ≠ some (VL.heap.size) := own_blk_ne hown9 X_old (by decide)
      have hown9 := (own_set (own_set hown9 (a := ⟨VL.heap.size, 0, none⟩) hown9Xne (.int .i64 la.n)) (a := ⟨VL.heap.size, 1, none⟩) hown9Xne (.slice A9 la.es.length c9))
      obtain ⟨VL_2_3, qqVL_2_3⟩ : ∃ W', ((VL_2.setCell ⟨VL.heap.size, 0, none⟩ (.int .i64 la.n)).setCell ⟨VL.heap.size, 1, none⟩ (.slice A9 la.es.length c9)) = W' := ⟨_, rfl⟩
      rw [qqVL_2_3] at hV0_1_2_3 X hown9 ⊢
      clear qqVL_2_3 Xc0 Xf0 Xc1 Xf1
      iterate 1 (first
        | (refine ordB_skip rfl rfl ?_; simp only [Act.put, List.setIfInBounds_toArray, List.set_cons_zero, List.set_cons_succ])
        | (refine ordB_take (v := ?_) rfl rfl ?_ ?_
           rotate_left 1
           focus (intro W hW; obtain ⟨hcW, hfW⟩ := bcell hW; (go_simp <;> with_reducible rfl))
           simp only [Act.put, List.setIfInBounds_toArray, List.set_cons_zero, List.set_cons_succ]))
      refine ordB_nil ?_
      go_wp2_with fail
      go_meet
      have X2 : Blk VL_2_3 VL.heap.size 38 #[.int .i64 la.n, .slice A9 la.es.length c9] := by simpa using X
      exact ⟨_, A9, c9, rfl, rfl, X2, hown9, hk9, hV0_1_2_3⟩
    · go_simp
      refine hK.out _ _ (hV0.alloc hV0.size _) (fun hV0_1 => ?_)
      have X := Blk.new V0 38 #[.int .i64 0, .slice none 0 0]
      have Xb := nw (.cells #[.int .i64 0, .slice none 0 0] 38) (Below.refl V0.heap.size V0)
      have Xg := hV0.size
      obtain ⟨V0_1, qqV0_1⟩ : ∃ W', V0.alloc (.cells #[.int .i64 0, .slice none 0 0] 38) = W' := ⟨_, rfl⟩
      rw [qqV0_1] at hV0_1 X Xb ⊢
      have Xlt := X.lt
      clear qqV0_1
      refine ordB_only (opB_call rfl rfl (fun K hK => ?_))
      go_simp
      go_at_call 11
      refine (HLaM.out _ (bthen HB4.out hV0_1)).mono ?_
      rintro e VL ⟨A9, c9, rfl, _, hk9, hb9, hown9⟩
      refine hK.out _ _ (hV0_1.trans (hb9.mono hV0_1.size)) (fun hV0_1_2 => ?_)
      have X := X.below hb9 X.lt
      have hz_2 := hb9.size
      have hown9 := own_base hown9 (hV0_1.size)
      refine ordB_only (opB_call rfl rfl (fun K hK => ?_))
      have Xc0 := X.cell 0
      have Xf0 := X.frozen 0
      have Xc1 := X.cell 1
      have Xf1 := X.frozen 1
      simp at Xc0 Xc1
      go_simp
      refine hK.out _ _ ((hV0_1_2.setCell (p := ⟨V0.heap.size, 0, none⟩) Xg _).setCell (p := ⟨V0.heap.size, 1, none⟩) Xg _) (fun hV0_1_2_3 => ?_)
      have X_old := X
      have X := ((X.set_ 0 (.int .i64 la.n)).set_ 1 (.slice A9 la.es.length c9))
      have hown9Xne : (Value.slice A9 la.es.length c9).ownBlock ≠ some (V0.heap.size) := own_blk_ne hown9 X_old (by decide)
      have hown9 := (own_set (own_set hown9 (a := ⟨V0.heap.size, 0, none⟩) hown9Xne (.int .i64 la.n)) (a := ⟨V0.heap.size, 1, none⟩) hown9Xne (.slice A9 la.es.length c9))
      obtain ⟨VL_3, qqVL_3⟩ : ∃ W', ((VL.setCell ⟨V0.heap.size, 0, none⟩ (.int .i64 la.n)).setCell ⟨V0.heap.size, 1, none⟩ (.slice A9 la.es.length c9)) = W' := ⟨_, rfl⟩
      rw [qqVL_3] at hV0_1_2_3 X hown9 ⊢
      clear qqVL_3 Xc0 Xf0 Xc1 Xf1
      iterate 1 (first
        | (refine ordB_skip rfl rfl ?_; simp only [Act.put, List.setIfInBounds_toArray, List.set_cons_zero, List.set_cons_succ])
        | (refine ordB_take (v := ?_) rfl rfl ?_ ?_
           rotate_left 1
           focus (intro W hW; obtain ⟨hcW, hfW⟩ := bcell hW; (go_simp <;> with_reducible rfl))
           simp only [Act.put, List.setIfInBounds_toArray, List.set_cons_zero, List.set_cons_succ]))
      refine ordB_nil ?_
      go_wp2_with fail
      go_meet
      have X2 : Blk VL_3 V0.heap.size 38 #[.int .i64 la.n, .slice A9 la.es.length c9] := by simpa using X
      exact ⟨_, A9, c9, rfl, rfl, X2, hown9, hk9, hV0_1_2_3⟩
  case rest =>
    obtain ⟨W5, rfl⟩ : ∃ W, W = wc := ⟨wc, rfl⟩
    obtain ⟨gX, A9, c9, rfl, rfl, hX, hown, hk9, hb5⟩ := hcut
    have hs5 : SlR 4 REd W5 A9 la.es := by
      obtain ⟨A', c', he, _, _, hs⟩ := own_slr (R := REd) hown (fun _ => rfl) (fun _ => rfl) rfl
      injection he with e1 _ _
      rw [e1]
      exact hs
    have HM5 := Lib.hid (HM4.out.below hb5)
    have HK5 := Lib.hid (HK4.out.below hb5 HK4.out.lt)
    have HB5 := Lib.hid hb5
    have HX5 := Lib.hid (show LB la gX A9 c9 W5 from ⟨hX, hs5, hk9⟩)
    have HOW := Lib.hid hown
    clear m0 m1 m2 m3 ml y0 y1 y2 y3 yl ht12 hwr1 hwr2 hwr3 hr12 hX hs5 hown hb5
    have x0 := HX5.out.b.cell 0
    have x1 := HX5.out.b.cell 1
    have xl := HX5.out.b.lt
    have y0 := HK5.out.cell 0
    have y2 := HK5.out.cell 2
    have y3 := HK5.out.cell 3
    have yl := HK5.out.lt
    simp at x0 x1 y0 y2 y3
    go_upto_region 5 with (go_at_call 12; go_loud (refine (way20_any HX5.out HF.out.1 q3 HFull.out h2 h3 h0).mono ?_; rintro e W6 ⟨B11, c11, o0, rfl, hso, _, ho40, hoc, hcm, hb6⟩))
    have HM6 := Lib.hid (HM5.out.below hb6)
    have HK6 := Lib.hid (HK5.out.below hb6 HK5.out.lt)
    have HB6 : Hid (Below W4.heap.size W4 W6) := bthen HB5.out hb6
    have HX6 := Lib.hid (HX5.out.below hb6)
    have HOW6 := Lib.hid (own_below HOW.out hb6)
    have HSO := Lib.hid hso
    clear x0 x1 xl y0 y2 y3 yl hb6 hso HM5 HK5 HB5 HX5 HOW
    have x0 := HX6.out.b.cell 0
    have x1 := HX6.out.b.cell 1
    have xl := HX6.out.b.lt
    have m0 := HM6.out.b.cell 0
    have ml := HM6.out.b.lt
    have y2 := HK6.out.cell 2
    have yl := HK6.out.lt
    simp at x0 x1 m0 y2
    have ht8 : u2.tmod 8 = u2 % 8 := Int.tmod_eq_emod_of_nonneg h2.1
    have hr8 : 0 ≤ u2 % 8 ∧ u2 % 8 ≤ 7 := by omega
    obtain ⟨r8, hr8e⟩ : ∃ q, u2 % 8 = q := ⟨_, rfl⟩
    rw [hr8e] at ht8 hr8
    have hw8' : IntKind.u8.wrap r8 = r8 := by rw [IntKind.wrap_u8]; omega
    obtain ⟨bt, hbt⟩ : ∃ t, (decide (r8 = 7) && decide (0 < la.es.length)) = t := ⟨_, rfl⟩
    have HBT := Lib.hid hbt
    clear hr8e hbt
    go_cut [62] (fun tv W => tv = .bool bt ∧ W6 = W)
    case first =>
      by_cases h7 : r8 = 7
      · have z7 : (r8 == 7) = true := by simpa using h7
        by_cases hl0 : la.es.length = 0
        · have hl0i : ¬ (0 : Int) < (la.es.length : Int) := by omega
          have hb : bt = false := by rw [← HBT.out]; simp [hl0]
          have hl0n : decide (0 < la.es.length) = false := decide_eq_false (by omega)
          subst hb
          clear hl0 h7
          go_wp2_with fail
          go_meet
          exact ⟨by first | rfl | rw [hl0n], rfl⟩
        · have hl0i : (0 : Int) < (la.es.length : Int) := by omega
          have hb : bt = true := by rw [← HBT.out]; simp [h7]; omega
          have hl0n : decide (0 < la.es.length) = true := decide_eq_true (by omega)
          subst hb
          clear hl0 h7
          go_wp2_with fail
          go_meet
          exact ⟨by first | rfl | rw [hl0n], rfl⟩
      · have z7 : (r8 == 7) = false := by simpa using h7
        have hb : bt = false := by rw [← HBT.out]; simp [h7]
        subst hb
        clear h7
        go_wp2_with fail
        go_meet
        exact ⟨rfl, rfl⟩
    case rest =>
      obtain ⟨rfl, rfl⟩ := hcut
      clear ht8 hr8 hw8'
      go_upto_if 62 with fail
      go_cut [] (fun W => ∃ (es' : List Ed) (o : List Int), Hid (es'.length = la.es.length) ∧ Hid (o.length = o0.length) ∧ SlR 4 REd W A9 es' ∧ SlR 1 RInt W B11 o ∧ Blk W gX 38 #[.int .i64 la.n, .slice A9 la.es.length c9] ∧ Below W4.heap.size W4 W)
      case first =>
        have HNO : Hid (∃ (es' : List Ed) (o : List Int), Hid (es'.length = la.es.length) ∧ Hid (o.length = o0.length) ∧ SlR 4 REd W6 A9 es' ∧ SlR 1 RInt W6 B11 o ∧ Blk W6 gX 38 #[.int .i64 la.n, .slice A9 la.es.length c9] ∧ Below W4.heap.size W4 W6) := ⟨la.es, o0, rfl, rfl, HX6.out.s, HSO.out, HX6.out.b, HB6.out⟩
        cases bt
        · go_wp2_with fail
          go_meet
          exact HNO.out
        · skip
          have hl0 : ¬ la.es.length = 0 := fun e => by have := HBT.out; simp [e] at this
          have hl0i : (0 : Int) < (la.es.length : Int) := by omega
          rcases HOW6.out.2 with ⟨hv, h00⟩ | ⟨gc, cap, cur, hv, hgc, hh, hnc, hcm', hcs, htk⟩
          · exact absurd h00 hl0
          · injection hv with e1 e2 e3
            obtain ⟨kE, hkE⟩ : ∃ k, la.es.length = k + 1 := ⟨la.es.length - 1, by omega⟩
            obtain ⟨eE, heE⟩ : ∃ e, la.es[kE]? = some e := ⟨_, List.getElem?_eq_getElem (by omega)⟩
            have HEE := Lib.hid heE
            have hown := HOW6.out
            rw [e1] at hown
            have hBC : Blk W6 gc 43 cur := hh
            have g2 : W6.cell? ⟨gc, kE * 4 + 2, none⟩ = some (.int .i64 eE.wd) := by
              rw [World.ownsRow.cellAt hown _ (by omega), flat_getE la.es kE eE heE 2 (by decide)]
              rfl
            have gf := World.ownsRow.frozenAt hown (kE * 4 + 2)
            have gl := hBC.lt
            have hst := (World.ownsRow.stored hown (kE * 4 + 2) (.int .i64 (m.ws.length : Int))).1
            rw [flat_setE la.es kE eE heE] at hst
            obtain ⟨o', ho'l, ho's⟩ := slr_stored hBC HSO.out (kE * 4 + 2) (m.ws.length : Int)
            have hgX : gX ≠ gc := fun e => own_blk_ne HOW6.out HX6.out.b (by decide) (by rw [e1, e]; rfl)
            have hX2 := HX6.out.b.far (p := ⟨gc, kE * 4 + 2, none⟩) hgX (.int .i64 (m.ws.length : Int))
            have hb2 := HB6.out.setCell (p := ⟨gc, kE * 4 + 2, none⟩) hgc (.int .i64 (m.ws.length : Int))
            have HFIN : Hid (∃ (es' : List Ed) (o : List Int), Hid (es'.length = la.es.length) ∧ Hid (o.length = o0.length) ∧ SlR 4 REd (W6.setCell ⟨gc, kE * 4 + 2, none⟩ (.int .i64 (m.ws.length : Int))) A9 es' ∧ SlR 1 RInt (W6.setCell ⟨gc, kE * 4 + 2, none⟩ (.int .i64 (m.ws.length : Int))) B11 o ∧ Blk (W6.setCell ⟨gc, kE * 4 + 2, none⟩ (.int .i64 (m.ws.length : Int))) gX 38 #[.int .i64 la.n, .slice A9 la.es.length c9] ∧ Below W4.heap.size W4 (W6.setCell ⟨gc, kE * 4 + 2, none⟩ (.int .i64 (m.ws.length : Int)))) := by
              refine ⟨la.es.set kE ⟨eE.fr, eE.to, (m.ws.length : Int), eE.co⟩, o', by show _ = _; rw [List.length_set], ho'l, ?_, ho's, hX2, hb2⟩
              obtain ⟨A', c', he', _, _, hs'⟩ := own_slr (R := REd) (xs := la.es.set kE ⟨eE.fr, eE.to, (m.ws.length : Int), eE.co⟩) hst (fun _ => rfl) (fun _ => rfl) (by rw [List.length_set])
              injection he' with e1' _ _
              rw [e1, e1']
              exact hs'
            have hwk : IntKind.i64.wrap ((la.es.length : Int) - 1) = (kE : Int) := by rw [IntWalk.i64_in _ (by omega)]; omega
            have hk0 : (0 : Int) ≤ (kE : Int) := by omega
            have hkI : (kE : Int) < (la.es.length : Int) := by omega
            have hA9 : A9 = some ⟨gc, 0, none⟩ := e1
            subst hA9
            clear hl0 e1 e2 e3 hkE heE hown hst ho'l ho's hX2 hb2 hBC hh hcs htk hgX hnc hcm' HNO
            go_wp2_with fail
            go_meet
            exact HFIN.out
      case rest =>
        obtain ⟨W7, rfl⟩ : ∃ W, W = wc := ⟨wc, rfl⟩
        obtain ⟨es', o, hel, hol, hse, hso, hXb, hb7⟩ := hcut
        have he13 : es'.length ≤ 13 := by have := hel.out; omega
        have ho40' : o.length ≤ 40 := by have := hol.out; omega
        have HEL := Lib.hid hel.out
        have HOL := Lib.hid hol.out
        have HXB := Lib.hid hXb
        have HSE := Lib.hid hse
        have HSO7 := Lib.hid hso
        have HM7 := Lib.hid (HM4.out.below hb7)
        have HK7 := Lib.hid (HK4.out.below hb7 HK4.out.lt)
        have HB7 : Hid (Below w.heap.size w W7) := bthen HB4.out hb7
        clear x0 x1 xl m0 ml y2 yl hel hol hse hso hXb hb7 HM6 HK6 HB6 HX6 HOW6 HSO HM4 HK4 HB4 HR3
        have HC : Hid (∀ W, Below W7.heap.size W7 W → (W.cell? ⟨gX, 0, none⟩ = some (.int .i64 la.n) ∧ W.cell? ⟨gX, 1, none⟩ = some (.slice A9 la.es.length c9) ∧ gX < W.heap.size) ∧ (W.cell? ⟨gM, 0, none⟩ = some (.slice B1 m.ws.length d1) ∧ W.cell? ⟨gM, 1, none⟩ = some (.slice B2 m.cs.length d2) ∧ W.cell? ⟨gM, 2, none⟩ = some (.slice B3 m.ps.length d3) ∧ W.cell? ⟨gM, 3, none⟩ = some (.int .i64 m.back) ∧ gM < W.heap.size) ∧ (W.cell? ⟨gW, 0, none⟩ = some (.int .u8 u0) ∧ W.cell? ⟨gW, 1, none⟩ = some (.int .u8 u1) ∧ W.cell? ⟨gW, 2, none⟩ = some (.int .u8 u2) ∧ W.cell? ⟨gW, 3, none⟩ = some (.int .u8 u3) ∧ gW < W.heap.size)) := fun W hW => by
          have f1 := HXB.out.below hW HXB.out.lt
          have f2 := (HM7.out.below hW).b
          have f3 := HK7.out.below hW HK7.out.lt
          exact ⟨⟨by rw [f1.cell]; rfl, by rw [f1.cell]; rfl, f1.lt⟩, ⟨by rw [f2.cell]; rfl, by rw [f2.cell]; rfl, by rw [f2.cell]; rfl, by rw [f2.cell]; rfl, f2.lt⟩, ⟨by rw [f3.cell]; rfl, by rw [f3.cell]; rfl, by rw [f3.cell]; rfl, by rw [f3.cell]; rfl, f3.lt⟩⟩
        obtain ⟨b, hb⟩ : ∃ b, buM ⟨la.n, es'⟩ m prev = b := ⟨_, rfl⟩
        have HBB := Lib.hid hb
        have HBA : Hid (∀ W, Below W7.heap.size W7 W → Calls Try.prog 13 #[.agg #[.int .i64 la.n, .slice A9 la.es.length c9], .agg #[.slice B1 m.ws.length d1, .slice B2 m.cs.length d2, .slice B3 m.ps.length d3, .int .i64 m.back], .int .i64 prev] W (GivesRB b W)) := fun W hW => by
          have hm := HM7.out.below hW
          have h := lawbuild_any ⟨la.n, es'⟩ A9 c9 m B1 B2 B3 d1 d2 d3 prev W (HSE.out.below keeps_ed hW) (by show es'.length ≤ 100; omega) hm.r hm.k.2.2.1 hm.k.2.2.2
          rw [HBB.out] at h
          rw [← HEL.out]
          exact h
        have HBR : Hid (∀ W, Below W7.heap.size W7 W → Calls Try.prog 14 #[.agg #[.int .i64 la.n, .slice A9 la.es.length c9], .agg #[.slice B1 m.ws.length d1, .slice B2 m.cs.length d2, .slice B3 m.ps.length d3, .int .i64 m.back], .int .i64 prev] W (GivesRB b W)) := fun W hW => by
          have hm := HM7.out.below hW
          have h := rbuild_any ⟨la.n, es'⟩ A9 c9 m B1 B2 B3 d1 d2 d3 prev W (HSE.out.below keeps_ed hW) (by show es'.length ≤ 100; omega) hm.r
          rw [HBB.out] at h
          rw [← HEL.out]
          exact h
        have HCA : Hid (∀ W (l : List Int) (n : Nat) (cl : Nat), Below W7.heap.size W7 W → SlR 1 RInt W B11 l → l.length = n → l.length ≤ 40 → Calls Try.prog 15 #[.agg #[.int .i64 la.n, .slice A9 la.es.length c9], .agg #[.slice B1 m.ws.length d1, .slice B2 m.cs.length d2, .slice B3 m.ps.length d3, .int .i64 m.back], .int .i64 prev, .slice B11 n cl] W fun e w' => e = .returned (.tuple #[.int .i64 (cx_costM ⟨la.n, es'⟩ m prev l).1, .bool (cx_costM ⟨la.n, es'⟩ m prev l).2]) ∧ Below W.heap.size W w') := fun W l n cl hW hl hn h40 => by
          subst hn
          have hm := HM7.out.below hW
          have h := ccost_any ⟨la.n, es'⟩ A9 c9 m B1 B2 B3 d1 d2 d3 prev B11 l cl W (HSE.out.below keeps_ed hW) (by show es'.length ≤ maxLen; unfold maxLen; omega) hm.r hm.k.2.2.1 hm.k.2.2.2 hl (by omega)
          rw [← HEL.out]
          exact h
        have HCR : Hid (∀ W (l : List Int) (n : Nat) (cl : Nat), Below W7.heap.size W7 W → SlR 1 RInt W B11 l → l.length = n → l.length ≤ 40 → Calls Try.prog 16 #[.agg #[.int .i64 la.n, .slice A9 la.es.length c9, .slice B1 m.ws.length d1, .slice B2 m.cs.length d2, .slice B3 m.ps.length d3, .int .i64 m.back, .int .i64 prev], .slice B11 n cl] W fun e w' => e = .returned (.tuple #[.int .i64 (cx_costM ⟨la.n, es'⟩ m prev l).1, .bool (cx_costM ⟨la.n, es'⟩ m prev l).2]) ∧ Below W.heap.size W w') := fun W l n cl hW hl hn h40 => by
          subst hn
          have hm := HM7.out.below hW
          have h := rcost_any ⟨la.n, es'⟩ A9 c9 m B1 B2 B3 d1 d2 d3 prev B11 l cl W (HSE.out.below keeps_ed hW) (by show es'.length ≤ maxLen; unfold maxLen; omega) hm.r hl (by omega)
          rw [← HEL.out]
          exact h
        obtain ⟨⟨cv, cb⟩, hcv⟩ : ∃ p, cx_costM ⟨la.n, es'⟩ m prev o = p := ⟨_, rfl⟩
        obtain ⟨⟨sv, sb⟩, hsv⟩ : ∃ p, cx_costM ⟨la.n, es'⟩ m prev (o.take (o0.length / 2)) = p := ⟨_, rfl⟩
        have HCAo : Hid (∀ W, Below W7.heap.size W7 W → Calls Try.prog 15 #[.agg #[.int .i64 la.n, .slice A9 la.es.length c9], .agg #[.slice B1 m.ws.length d1, .slice B2 m.cs.length d2, .slice B3 m.ps.length d3, .int .i64 m.back], .int .i64 prev, .slice B11 o0.length c11] W fun e w' => e = .returned (.tuple #[.int .i64 cv, .bool cb]) ∧ Below W.heap.size W w') := fun W hW => by
          have h := HCA.out W o o0.length c11 hW (HSO7.out.below keeps_int hW) HOL.out ho40'
          rw [hcv] at h
          exact h
        have HCRo : Hid (∀ W, Below W7.heap.size W7 W → Calls Try.prog 16 #[.agg #[.int .i64 la.n, .slice A9 la.es.length c9, .slice B1 m.ws.length d1, .slice B2 m.cs.length d2, .slice B3 m.ps.length d3, .int .i64 m.back, .int .i64 prev], .slice B11 o0.length c11] W fun e w' => e = .returned (.tuple #[.int .i64 cv, .bool cb]) ∧ Below W.heap.size W w') := fun W hW => by
          have h := HCR.out W o o0.length c11 hW (HSO7.out.below keeps_int hW) HOL.out ho40'
          rw [hcv] at h
          exact h
        have htl : (o.take (o0.length / 2)).length = o0.length / 2 := by rw [List.length_take]; have := HOL.out; omega
        have HCAs : Hid (∀ W cl, Below W7.heap.size W7 W → Calls Try.prog 15 #[.agg #[.int .i64 la.n, .slice A9 la.es.length c9], .agg #[.slice B1 m.ws.length d1, .slice B2 m.cs.length d2, .slice B3 m.ps.length d3, .int .i64 m.back], .int .i64 prev, .slice B11 (o0.length / 2) cl] W fun e w' => e = .returned (.tuple #[.int .i64 sv, .bool sb]) ∧ Below W.heap.size W w') := fun W cl hW => by
          have h := HCA.out W (o.take (o0.length / 2)) (o0.length / 2) cl hW (cx_slr_take (HSO7.out.below keeps_int hW) _) htl (by omega)
          rw [hsv] at h
          exact h
        have HCRs : Hid (∀ W cl, Below W7.heap.size W7 W → Calls Try.prog 16 #[.agg #[.int .i64 la.n, .slice A9 la.es.length c9, .slice B1 m.ws.length d1, .slice B2 m.cs.length d2, .slice B3 m.ps.length d3, .int .i64 m.back, .int .i64 prev], .slice B11 (o0.length / 2) cl] W fun e w' => e = .returned (.tuple #[.int .i64 sv, .bool sb]) ∧ Below W.heap.size W w') := fun W cl hW => by
          have h := HCR.out W (o.take (o0.length / 2)) (o0.length / 2) cl hW (cx_slr_take (HSO7.out.below keeps_int hW) _) htl (by omega)
          rw [hsv] at h
          exact h
        have hbl : b.g.ls.length ≤ 65536 ∧ b.last.length ≤ 65536 := by
          rw [← hb]
          exact buM_len m prev he13
        clear hb hcv hsv htl
        obtain ⟨⟨x0, x1, xl⟩, ⟨m0, m1, m2, m3, ml⟩, ⟨y0, y1, y2, y3, yl⟩⟩ := HC.out _ (Below.refl _ _)
        go_upto_region 7 with fail
        go_cut [13, 14] (fun s13 s14 W => ∃ (p13 p14 : Nat) (LA LB LC LD : Option Addr) (cA cB cC cD : Nat), s13 = .pointer (some ⟨p13, 0, none⟩) ∧ s14 = .pointer (some ⟨p14, 0, none⟩) ∧ BB b p13 LA LB cA cB W ∧ BB b p14 LC LD cC cD W ∧ Below W7.heap.size W7 W)
        case first => as_aux_lemma =>
          refine ordB_below (.quiet 0 (.quiet 1 (.quiet 2 (.quiet 4 (.quiet 5 (.quiet 6 (.fork3 3 8 9 (.fork3 7 8 9 (.fork 8 9 (.only 9 (.only 10 (.only 11 .done))) (.only 8 (.only 10 (.only 11 .done)))) (.fork 7 9 (.only 9 (.only 10 (.only 11 .done))) (.only 7 (.only 10 (.only 11 .done)))) (.fork 7 8 (.only 8 (.only 10 (.only 11 .done))) (.only 7 (.only 10 (.only 11 .done))))) (.fork 3 9 (.fork 7 9 (.only 9 (.only 10 (.only 11 .done))) (.only 7 (.only 10 (.only 11 .done)))) (.only 3 (.only 7 (.only 10 (.only 11 .done))))) (.fork 3 8 (.fork 7 8 (.only 8 (.only 10 (.only 11 .done))) (.only 7 (.only 10 (.only 11 .done)))) (.only 3 (.only 7 (.only 10 (.only 11 .done)))))))))))) (by kernel_rfl) (by kernel_rfl) (by kernel_rfl) (fun _ _ _ _ _ h => h) ?_
          intro V1 hV1
          iterate 6 (first
            | (refine ordB_skip rfl rfl ?_; simp only [Act.put, List.setIfInBounds_toArray, List.set_cons_zero, List.set_cons_succ])
            | (refine ordB_take (v := ?_) rfl rfl ?_ ?_
               rotate_left 1
               focus (intro W hW; obtain ⟨hcW, hfW⟩ := bcell hW; (go_simp <;> with_reducible rfl))
               simp only [Act.put, List.setIfInBounds_toArray, List.set_cons_zero, List.set_cons_succ]))
          refine ordB_fork3 (opB_call rfl rfl (fun K hK => ?_)) (opB_call rfl rfl (fun K hK => ?_)) (opB_call rfl rfl (fun K hK => ?_))
          · go_simp
            go_at_call 13
            refine (HBA.out _ hV1).mono ?_
            rintro e VA ⟨LA, LB, cA, cB, rfl, hsA, hsB, hkA, hbA, hoA, hoB⟩
            refine hK.out _ _ (hV1.trans (hbA.mono hV1.size)) (fun hV1_1 => ?_)
            have hz_1 := hbA.size
            have huA := hsA.blkLt
            have huB := hsB.blkLt
            refine ordB_fork3 (opB_call rfl rfl (fun K hK => ?_)) (opB_call rfl rfl (fun K hK => ?_)) (opB_call rfl rfl (fun K hK => ?_))
            · go_simp
              go_at_call 14
              refine (HBR.out _ hV1_1).mono ?_
              rintro e VC ⟨LC, LD, cC, cD, rfl, hsC, hsD, hkC, hbC, hoC, hoD⟩
              refine hK.out _ _ (hV1_1.trans (hbC.mono hV1_1.size)) (fun hV1_1_2 => ?_)
              have hsA := hsA.below keeps_lk hbC
              have hsB := hsB.below keeps_int hbC
              have hz_2 := hbC.size
              have huC := hsC.blkLt
              have huD := hsD.blkLt
              refine ordB_fork (opB_call rfl rfl (fun K hK => ?_)) (opB_call rfl rfl (fun K hK => ?_))
              · go_simp
                refine hK.out _ _ (hV1_1_2.alloc hV1_1_2.size _) (fun hV1_1_2_3 => ?_)
                have A := Blk.new VC 49 #[.int .i64 0, .slice none 0 0, .slice none 0 0, .int .i64 0]
                have Ab := nw (.cells #[.int .i64 0, .slice none 0 0, .slice none 0 0, .int .i64 0] 49) (Below.refl VC.heap.size VC)
                have Ag := hV1_1_2.size
                obtain ⟨VC_3, qqVC_3⟩ : ∃ W', VC.alloc (.cells #[.int .i64 0, .slice none 0 0, .slice none 0 0, .int .i64 0] 49) = W' := ⟨_, rfl⟩
                rw [qqVC_3] at hV1_1_2_3 A Ab ⊢
                have hsA := hsA.below keeps_lk Ab
                have hsB := hsB.below keeps_int Ab
                have hsC := hsC.below keeps_lk Ab
                have hsD := hsD.below keeps_int Ab
                have Alt := A.lt
                clear qqVC_3
                refine ordB_only (opB_call rfl rfl (fun K hK => ?_))
                have A_B := Nat.ne_of_lt A.lt
                go_simp
                refine hK.out _ _ (hV1_1_2_3.alloc hV1_1_2_3.size _) (fun hV1_1_2_3_4 => ?_)
                have B := Blk.new VC_3 49 #[.int .i64 0, .slice none 0 0, .slice none 0 0, .int .i64 0]
                have Bb := nw (.cells #[.int .i64 0, .slice none 0 0, .slice none 0 0, .int .i64 0] 49) (Below.refl VC_3.heap.size VC_3)
                have Bg := hV1_1_2_3.size
                obtain ⟨VC_3_4, qqVC_3_4⟩ : ∃ W', VC_3.alloc (.cells #[.int .i64 0, .slice none 0 0, .slice none 0 0, .int .i64 0] 49) = W' := ⟨_, rfl⟩
                rw [qqVC_3_4] at hV1_1_2_3_4 B Bb ⊢
                have A := A.below Bb A.lt
                have hsA := hsA.below keeps_lk Bb
                have hsB := hsB.below keeps_int Bb
                have hsC := hsC.below keeps_lk Bb
                have hsD := hsD.below keeps_int Bb
                have Blt := B.lt
                clear qqVC_3_4
                refine ordB_only (opB_call rfl rfl (fun K hK => ?_))
                have Ac0 := A.cell 0
                have Af0 := A.frozen 0
                have Ac1 := A.cell 1
                have Af1 := A.frozen 1
                have Ac2 := A.cell 2
                have Af2 := A.frozen 2
                have Ac3 := A.cell 3
                have Af3 := A.frozen 3
                simp at Ac0 Ac1 Ac2 Ac3
                go_simp
                refine hK.out _ _ ((((hV1_1_2_3_4.setCell (p := ⟨VC.heap.size, 0, none⟩) Ag _).setCell (p := ⟨VC.heap.size, 1, none⟩) Ag _).setCell (p := ⟨VC.heap.size, 2, none⟩) Ag _).setCell (p := ⟨VC.heap.size, 3, none⟩) Ag _) (fun hV1_1_2_3_4_5 => ?_)
                have A := ((((A.set_ 0 (.int .i64 b.g.n)).set_ 1 (.slice LA b.g.ls.length cA)).set_ 2 (.slice LB b.last.length cB)).set_ 3 (.int .i64 b.e))
                have Bne : VC_3.heap.size ≠ VC.heap.size := by first | exact B_A | exact A_B.symm
                have B := ((((B.far (p := ⟨VC.heap.size, 0, none⟩) Bne (.int .i64 b.g.n)).far (p := ⟨VC.heap.size, 1, none⟩) Bne (.slice LA b.g.ls.length cA)).far (p := ⟨VC.heap.size, 2, none⟩) Bne (.slice LB b.last.length cB)).far (p := ⟨VC.heap.size, 3, none⟩) Bne (.int .i64 b.e))
                have hsAAne : ∀ a, LA = some a → b.g.ls ≠ [] → a.block ≠ VC.heap.size := fun a h hn => by have h1 := hoA a h; have h2 := huA hn a h; omega
                have hsA := ((((hsA.awayG lk_any (p := ⟨VC.heap.size, 0, none⟩) hsAAne (.int .i64 b.g.n)).awayG lk_any (p := ⟨VC.heap.size, 1, none⟩) hsAAne (.slice LA b.g.ls.length cA)).awayG lk_any (p := ⟨VC.heap.size, 2, none⟩) hsAAne (.slice LB b.last.length cB)).awayG lk_any (p := ⟨VC.heap.size, 3, none⟩) hsAAne (.int .i64 b.e))
                have hsBAne : ∀ a, LB = some a → b.last ≠ [] → a.block ≠ VC.heap.size := fun a h hn => by have h1 := hoB a h; have h2 := huB hn a h; omega
                have hsB := ((((hsB.awayG int_any_ (p := ⟨VC.heap.size, 0, none⟩) hsBAne (.int .i64 b.g.n)).awayG int_any_ (p := ⟨VC.heap.size, 1, none⟩) hsBAne (.slice LA b.g.ls.length cA)).awayG int_any_ (p := ⟨VC.heap.size, 2, none⟩) hsBAne (.slice LB b.last.length cB)).awayG int_any_ (p := ⟨VC.heap.size, 3, none⟩) hsBAne (.int .i64 b.e))
                have hsCAne : ∀ a, LC = some a → b.g.ls ≠ [] → a.block ≠ VC.heap.size := fun a h hn => by have h1 := hoC a h; have h2 := huC hn a h; omega
                have hsC := ((((hsC.awayG lk_any (p := ⟨VC.heap.size, 0, none⟩) hsCAne (.int .i64 b.g.n)).awayG lk_any (p := ⟨VC.heap.size, 1, none⟩) hsCAne (.slice LA b.g.ls.length cA)).awayG lk_any (p := ⟨VC.heap.size, 2, none⟩) hsCAne (.slice LB b.last.length cB)).awayG lk_any (p := ⟨VC.heap.size, 3, none⟩) hsCAne (.int .i64 b.e))
                have hsDAne : ∀ a, LD = some a → b.last ≠ [] → a.block ≠ VC.heap.size := fun a h hn => by have h1 := hoD a h; have h2 := huD hn a h; omega
                have hsD := ((((hsD.awayG int_any_ (p := ⟨VC.heap.size, 0, none⟩) hsDAne (.int .i64 b.g.n)).awayG int_any_ (p := ⟨VC.heap.size, 1, none⟩) hsDAne (.slice LA b.g.ls.length cA)).awayG int_any_ (p := ⟨VC.heap.size, 2, none⟩) hsDAne (.slice LB b.last.length cB)).awayG int_any_ (p := ⟨VC.heap.size, 3, none⟩) hsDAne (.int .i64 b.e))
                obtain ⟨VC_3_4_5, qqVC_3_4_5⟩ : ∃ W', ((((VC_3_4.setCell ⟨VC.heap.size, 0, none⟩ (.int .i64 b.g.n)).setCell ⟨VC.heap.size, 1, none⟩ (.slice LA b.g.ls.length cA)).setCell ⟨VC.heap.size, 2, none⟩ (.slice LB b.last.length cB)).setCell ⟨VC.heap.size, 3, none⟩ (.int .i64 b.e)) = W' := ⟨_, rfl⟩
                rw [qqVC_3_4_5] at hV1_1_2_3_4_5 A B hsA hsB hsC hsD ⊢
                clear qqVC_3_4_5 Ac0 Af0 Ac1 Af1 Ac2 Af2 Ac3 Af3
                refine ordB_only (opB_call rfl rfl (fun K hK => ?_))
                have Bc0 := B.cell 0
                have Bf0 := B.frozen 0
                have Bc1 := B.cell 1
                have Bf1 := B.frozen 1
                have Bc2 := B.cell 2
                have Bf2 := B.frozen 2
                have Bc3 := B.cell 3
                have Bf3 := B.frozen 3
                simp at Bc0 Bc1 Bc2 Bc3
                go_simp
                refine hK.out _ _ ((((hV1_1_2_3_4_5.setCell (p := ⟨VC_3.heap.size, 0, none⟩) Bg _).setCell (p := ⟨VC_3.heap.size, 1, none⟩) Bg _).setCell (p := ⟨VC_3.heap.size, 2, none⟩) Bg _).setCell (p := ⟨VC_3.heap.size, 3, none⟩) Bg _) (fun hV1_1_2_3_4_5_6 => ?_)
                have B := ((((B.set_ 0 (.int .i64 b.g.n)).set_ 1 (.slice LC b.g.ls.length cC)).set_ 2 (.slice LD b.last.length cD)).set_ 3 (.int .i64 b.e))
                have Ane : VC.heap.size ≠ VC_3.heap.size := by first | exact A_B | exact B_A.symm
                have A := ((((A.far (p := ⟨VC_3.heap.size, 0, none⟩) Ane (.int .i64 b.g.n)).far (p := ⟨VC_3.heap.size, 1, none⟩) Ane (.slice LC b.g.ls.length cC)).far (p := ⟨VC_3.heap.size, 2, none⟩) Ane (.slice LD b.last.length cD)).far (p := ⟨VC_3.heap.size, 3, none⟩) Ane (.int .i64 b.e))
                have hsABne : ∀ a, LA = some a → b.g.ls ≠ [] → a.block ≠ VC_3.heap.size := fun a h hn => by have h1 := hoA a h; have h2 := huA hn a h; omega
                have hsA := ((((hsA.awayG lk_any (p := ⟨VC_3.heap.size, 0, none⟩) hsABne (.int .i64 b.g.n)).awayG lk_any (p := ⟨VC_3.heap.size, 1, none⟩) hsABne (.slice LC b.g.ls.length cC)).awayG lk_any (p := ⟨VC_3.heap.size, 2, none⟩) hsABne (.slice LD b.last.length cD)).awayG lk_any (p := ⟨VC_3.heap.size, 3, none⟩) hsABne (.int .i64 b.e))
                have hsBBne : ∀ a, LB = some a → b.last ≠ [] → a.block ≠ VC_3.heap.size := fun a h hn => by have h1 := hoB a h; have h2 := huB hn a h; omega
                have hsB := ((((hsB.awayG int_any_ (p := ⟨VC_3.heap.size, 0, none⟩) hsBBne (.int .i64 b.g.n)).awayG int_any_ (p := ⟨VC_3.heap.size, 1, none⟩) hsBBne (.slice LC b.g.ls.length cC)).awayG int_any_ (p := ⟨VC_3.heap.size, 2, none⟩) hsBBne (.slice LD b.last.length cD)).awayG int_any_ (p := ⟨VC_3.heap.size, 3, none⟩) hsBBne (.int .i64 b.e))
                have hsCBne : ∀ a, LC = some a → b.g.ls ≠ [] → a.block ≠ VC_3.heap.size := fun a h hn => by have h1 := hoC a h; have h2 := huC hn a h; omega
                have hsC := ((((hsC.awayG lk_any (p := ⟨VC_3.heap.size, 0, none⟩) hsCBne (.int .i64 b.g.n)).awayG lk_any (p := ⟨VC_3.heap.size, 1, none⟩) hsCBne (.slice LC b.g.ls.length cC)).awayG lk_any (p := ⟨VC_3.heap.size, 2, none⟩) hsCBne (.slice LD b.last.length cD)).awayG lk_any (p := ⟨VC_3.heap.size, 3, none⟩) hsCBne (.int .i64 b.e))
                have hsDBne : ∀ a, LD = some a → b.last ≠ [] → a.block ≠ VC_3.heap.size := fun a h hn => by have h1 := hoD a h; have h2 := huD hn a h; omega
                have hsD := ((((hsD.awayG int_any_ (p := ⟨VC_3.heap.size, 0, none⟩) hsDBne (.int .i64 b.g.n)).awayG int_any_ (p := ⟨VC_3.heap.size, 1, none⟩) hsDBne (.slice LC b.g.ls.length cC)).awayG int_any_ (p := ⟨VC_3.heap.size, 2, none⟩) hsDBne (.slice LD b.last.length cD)).awayG int_any_ (p := ⟨VC_3.heap.size, 3, none⟩) hsDBne (.int .i64 b.e))
                obtain ⟨VC_3_4_5_6, qqVC_3_4_5_6⟩ : ∃ W', ((((VC_3_4_5.setCell ⟨VC_3.heap.size, 0, none⟩ (.int .i64 b.g.n)).setCell ⟨VC_3.heap.size, 1, none⟩ (.slice LC b.g.ls.length cC)).setCell ⟨VC_3.heap.size, 2, none⟩ (.slice LD b.last.length cD)).setCell ⟨VC_3.heap.size, 3, none⟩ (.int .i64 b.e)) = W' := ⟨_, rfl⟩
                rw [qqVC_3_4_5_6] at hV1_1_2_3_4_5_6 B A hsA hsB hsC hsD ⊢
                clear qqVC_3_4_5_6 Bc0 Bf0 Bc1 Bf1 Bc2 Bf2 Bc3 Bf3
                refine ordB_nil ?_
                go_wp2_with fail
                go_meet
                have A2 : Blk VC_3_4_5_6 VC.heap.size 49 #[.int .i64 b.g.n, .slice LA b.g.ls.length cA, .slice LB b.last.length cB, .int .i64 b.e] := by simpa using A
                have B2' : Blk VC_3_4_5_6 VC_3.heap.size 49 #[.int .i64 b.g.n, .slice LC b.g.ls.length cC, .slice LD b.last.length cD, .int .i64 b.e] := by simpa using B
                exact ⟨_, _, LA, LB, LC, LD, cA, cB, cC, cD, rfl, rfl, ⟨A2, hsA, hsB, hkA⟩, ⟨B2', hsC, hsD, hkC⟩, hV1_1_2_3_4_5_6⟩
              · go_simp
                refine hK.out _ _ (hV1_1_2.alloc hV1_1_2.size _) (fun hV1_1_2_3 => ?_)
                have B := Blk.new VC 49 #[.int .i64 0, .slice none 0 0, .slice none 0 0, .int .i64 0]
                have Bb := nw (.cells #[.int .i64 0, .slice none 0 0, .slice none 0 0, .int .i64 0] 49) (Below.refl VC.heap.size VC)
                have Bg := hV1_1_2.size
                obtain ⟨VC_3, qqVC_3⟩ : ∃ W', VC.alloc (.cells #[.int .i64 0, .slice none 0 0, .slice none 0 0, .int .i64 0] 49) = W' := ⟨_, rfl⟩
                rw [qqVC_3] at hV1_1_2_3 B Bb ⊢
                have hsA := hsA.below keeps_lk Bb
                have hsB := hsB.below keeps_int Bb
                have hsC := hsC.below keeps_lk Bb
                have hsD := hsD.below keeps_int Bb
                have Blt := B.lt
                clear qqVC_3
                refine ordB_only (opB_call rfl rfl (fun K hK => ?_))
                have B_A := Nat.ne_of_lt B.lt
                go_simp
                refine hK.out _ _ (hV1_1_2_3.alloc hV1_1_2_3.size _) (fun hV1_1_2_3_4 => ?_)
                have A := Blk.new VC_3 49 #[.int .i64 0, .slice none 0 0, .slice none 0 0, .int .i64 0]
                have Ab := nw (.cells #[.int .i64 0, .slice none 0 0, .slice none 0 0, .int .i64 0] 49) (Below.refl VC_3.heap.size VC_3)
                have Ag := hV1_1_2_3.size
                obtain ⟨VC_3_4, qqVC_3_4⟩ : ∃ W', VC_3.alloc (.cells #[.int .i64 0, .slice none 0 0, .slice none 0 0, .int .i64 0] 49) = W' := ⟨_, rfl⟩
                rw [qqVC_3_4] at hV1_1_2_3_4 A Ab ⊢
                have B := B.below Ab B.lt
                have hsA := hsA.below keeps_lk Ab
                have hsB := hsB.below keeps_int Ab
                have hsC := hsC.below keeps_lk Ab
                have hsD := hsD.below keeps_int Ab
                have Alt := A.lt
                clear qqVC_3_4
                refine ordB_only (opB_call rfl rfl (fun K hK => ?_))
                have Ac0 := A.cell 0
                have Af0 := A.frozen 0
                have Ac1 := A.cell 1
                have Af1 := A.frozen 1
                have Ac2 := A.cell 2
                have Af2 := A.frozen 2
                have Ac3 := A.cell 3
                have Af3 := A.frozen 3
                simp at Ac0 Ac1 Ac2 Ac3
                go_simp
                refine hK.out _ _ ((((hV1_1_2_3_4.setCell (p := ⟨VC_3.heap.size, 0, none⟩) Ag _).setCell (p := ⟨VC_3.heap.size, 1, none⟩) Ag _).setCell (p := ⟨VC_3.heap.size, 2, none⟩) Ag _).setCell (p := ⟨VC_3.heap.size, 3, none⟩) Ag _) (fun hV1_1_2_3_4_5 => ?_)
                have A := ((((A.set_ 0 (.int .i64 b.g.n)).set_ 1 (.slice LA b.g.ls.length cA)).set_ 2 (.slice LB b.last.length cB)).set_ 3 (.int .i64 b.e))
                have Bne : VC.heap.size ≠ VC_3.heap.size := by first | exact B_A | exact A_B.symm
                have B := ((((B.far (p := ⟨VC_3.heap.size, 0, none⟩) Bne (.int .i64 b.g.n)).far (p := ⟨VC_3.heap.size, 1, none⟩) Bne (.slice LA b.g.ls.length cA)).far (p := ⟨VC_3.heap.size, 2, none⟩) Bne (.slice LB b.last.length cB)).far (p := ⟨VC_3.heap.size, 3, none⟩) Bne (.int .i64 b.e))
                have hsAAne : ∀ a, LA = some a → b.g.ls ≠ [] → a.block ≠ VC_3.heap.size := fun a h hn => by have h1 := hoA a h; have h2 := huA hn a h; omega
                have hsA := ((((hsA.awayG lk_any (p := ⟨VC_3.heap.size, 0, none⟩) hsAAne (.int .i64 b.g.n)).awayG lk_any (p := ⟨VC_3.heap.size, 1, none⟩) hsAAne (.slice LA b.g.ls.length cA)).awayG lk_any (p := ⟨VC_3.heap.size, 2, none⟩) hsAAne (.slice LB b.last.length cB)).awayG lk_any (p := ⟨VC_3.heap.size, 3, none⟩) hsAAne (.int .i64 b.e))
                have hsBAne : ∀ a, LB = some a → b.last ≠ [] → a.block ≠ VC_3.heap.size := fun a h hn => by have h1 := hoB a h; have h2 := huB hn a h; omega
                have hsB := ((((hsB.awayG int_any_ (p := ⟨VC_3.heap.size, 0, none⟩) hsBAne (.int .i64 b.g.n)).awayG int_any_ (p := ⟨VC_3.heap.size, 1, none⟩) hsBAne (.slice LA b.g.ls.length cA)).awayG int_any_ (p := ⟨VC_3.heap.size, 2, none⟩) hsBAne (.slice LB b.last.length cB)).awayG int_any_ (p := ⟨VC_3.heap.size, 3, none⟩) hsBAne (.int .i64 b.e))
                have hsCAne : ∀ a, LC = some a → b.g.ls ≠ [] → a.block ≠ VC_3.heap.size := fun a h hn => by have h1 := hoC a h; have h2 := huC hn a h; omega
                have hsC := ((((hsC.awayG lk_any (p := ⟨VC_3.heap.size, 0, none⟩) hsCAne (.int .i64 b.g.n)).awayG lk_any (p := ⟨VC_3.heap.size, 1, none⟩) hsCAne (.slice LA b.g.ls.length cA)).awayG lk_any (p := ⟨VC_3.heap.size, 2, none⟩) hsCAne (.slice LB b.last.length cB)).awayG lk_any (p := ⟨VC_3.heap.size, 3, none⟩) hsCAne (.int .i64 b.e))
                have hsDAne : ∀ a, LD = some a → b.last ≠ [] → a.block ≠ VC_3.heap.size := fun a h hn => by have h1 := hoD a h; have h2 := huD hn a h; omega
                have hsD := ((((hsD.awayG int_any_ (p := ⟨VC_3.heap.size, 0, none⟩) hsDAne (.int .i64 b.g.n)).awayG int_any_ (p := ⟨VC_3.heap.size, 1, none⟩) hsDAne (.slice LA b.g.ls.length cA)).awayG int_any_ (p := ⟨VC_3.heap.size, 2, none⟩) hsDAne (.slice LB b.last.length cB)).awayG int_any_ (p := ⟨VC_3.heap.size, 3, none⟩) hsDAne (.int .i64 b.e))
                obtain ⟨VC_3_4_5, qqVC_3_4_5⟩ : ∃ W', ((((VC_3_4.setCell ⟨VC_3.heap.size, 0, none⟩ (.int .i64 b.g.n)).setCell ⟨VC_3.heap.size, 1, none⟩ (.slice LA b.g.ls.length cA)).setCell ⟨VC_3.heap.size, 2, none⟩ (.slice LB b.last.length cB)).setCell ⟨VC_3.heap.size, 3, none⟩ (.int .i64 b.e)) = W' := ⟨_, rfl⟩
                rw [qqVC_3_4_5] at hV1_1_2_3_4_5 A B hsA hsB hsC hsD ⊢
                clear qqVC_3_4_5 Ac0 Af0 Ac1 Af1 Ac2 Af2 Ac3 Af3
                refine ordB_only (opB_call rfl rfl (fun K hK => ?_))
                have Bc0 := B.cell 0
                have Bf0 := B.frozen 0
                have Bc1 := B.cell 1
                have Bf1 := B.frozen 1
                have Bc2 := B.cell 2
                have Bf2 := B.frozen 2
                have Bc3 := B.cell 3
                have Bf3 := B.frozen 3
                simp at Bc0 Bc1 Bc2 Bc3
                go_simp
                refine hK.out _ _ ((((hV1_1_2_3_4_5.setCell (p := ⟨VC.heap.size, 0, none⟩) Bg _).setCell (p := ⟨VC.heap.size, 1, none⟩) Bg _).setCell (p := ⟨VC.heap.size, 2, none⟩) Bg _).setCell (p := ⟨VC.heap.size, 3, none⟩) Bg _) (fun hV1_1_2_3_4_5_6 => ?_)
                have B := ((((B.set_ 0 (.int .i64 b.g.n)).set_ 1 (.slice LC b.g.ls.length cC)).set_ 2 (.slice LD b.last.length cD)).set_ 3 (.int .i64 b.e))
                have Ane : VC_3.heap.size ≠ VC.heap.size := by first | exact A_B | exact B_A.symm
                have A := ((((A.far (p := ⟨VC.heap.size, 0, none⟩) Ane (.int .i64 b.g.n)).far (p := ⟨VC.heap.size, 1, none⟩) Ane (.slice LC b.g.ls.length cC)).far (p := ⟨VC.heap.size, 2, none⟩) Ane (.slice LD b.last.length cD)).far (p := ⟨VC.heap.size, 3, none⟩) Ane (.int .i64 b.e))
                have hsABne : ∀ a, LA = some a → b.g.ls ≠ [] → a.block ≠ VC.heap.size := fun a h hn => by have h1 := hoA a h; have h2 := huA hn a h; omega
                have hsA := ((((hsA.awayG lk_any (p := ⟨VC.heap.size, 0, none⟩) hsABne (.int .i64 b.g.n)).awayG lk_any (p := ⟨VC.heap.size, 1, none⟩) hsABne (.slice LC b.g.ls.length cC)).awayG lk_any (p := ⟨VC.heap.size, 2, none⟩) hsABne (.slice LD b.last.length cD)).awayG lk_any (p := ⟨VC.heap.size, 3, none⟩) hsABne (.int .i64 b.e))
                have hsBBne : ∀ a, LB = some a → b.last ≠ [] → a.block ≠ VC.heap.size := fun a h hn => by have h1 := hoB a h; have h2 := huB hn a h; omega
                have hsB := ((((hsB.awayG int_any_ (p := ⟨VC.heap.size, 0, none⟩) hsBBne (.int .i64 b.g.n)).awayG int_any_ (p := ⟨VC.heap.size, 1, none⟩) hsBBne (.slice LC b.g.ls.length cC)).awayG int_any_ (p := ⟨VC.heap.size, 2, none⟩) hsBBne (.slice LD b.last.length cD)).awayG int_any_ (p := ⟨VC.heap.size, 3, none⟩) hsBBne (.int .i64 b.e))
                have hsCBne : ∀ a, LC = some a → b.g.ls ≠ [] → a.block ≠ VC.heap.size := fun a h hn => by have h1 := hoC a h; have h2 := huC hn a h; omega
                have hsC := ((((hsC.awayG lk_any (p := ⟨VC.heap.size, 0, none⟩) hsCBne (.int .i64 b.g.n)).awayG lk_any (p := ⟨VC.heap.size, 1, none⟩) hsCBne (.slice LC b.g.ls.length cC)).awayG lk_any (p := ⟨VC.heap.size, 2, none⟩) hsCBne (.slice LD b.last.length cD)).awayG lk_any (p := ⟨VC.heap.size, 3, none⟩) hsCBne (.int .i64 b.e))
                have hsDBne : ∀ a, LD = some a → b.last ≠ [] → a.block ≠ VC.heap.size := fun a h hn => by have h1 := hoD a h; have h2 := huD hn a h; omega
                have hsD := ((((hsD.awayG int_any_ (p := ⟨VC.heap.size, 0, none⟩) hsDBne (.int .i64 b.g.n)).awayG int_any_ (p := ⟨VC.heap.size, 1, none⟩) hsDBne (.slice LC b.g.ls.length cC)).awayG int_any_ (p := ⟨VC.heap.size, 2, none⟩) hsDBne (.slice LD b.last.length cD)).awayG int_any_ (p := ⟨VC.heap.size, 3, none⟩) hsDBne (.int .i64 b.e))
                obtain ⟨VC_3_4_5_6, qqVC_3_4_5_6⟩ : ∃ W', ((((VC_3_4_5.setCell ⟨VC.heap.size, 0, none⟩ (.int .i64 b.g.n)).setCell ⟨VC.heap.size, 1, none⟩ (.slice LC b.g.ls.length cC)).setCell ⟨VC.heap.size, 2, none⟩ (.slice LD b.last.length cD)).setCell ⟨VC.heap.size, 3, none⟩ (.int .i64 b.e)) = W' := ⟨_, rfl⟩
                rw [qqVC_3_4_5_6] at hV1_1_2_3_4_5_6 B A hsA hsB hsC hsD ⊢
                clear qqVC_3_4_5_6 Bc0 Bf0 Bc1 Bf1 Bc2 Bf2 Bc3 Bf3
                refine ordB_nil ?_
                go_wp2_with fail
                go_meet
                have A2 : Blk VC_3_4_5_6 VC_3.heap.size 49 #[.int .i64 b.g.n, .slice LA b.g.ls.length cA, .slice LB b.last.length cB, .int .i64 b.e] := by simpa using A
                have B2' : Blk VC_3_4_5_6 VC.heap.size 49 #[.int .i64 b.g.n, .slice LC b.g.ls.length cC, .slice LD b.last.length cD, .int .i64 b.e] := by simpa using B
                exact ⟨_, _, LA, LB, LC, LD, cA, cB, cC, cD, rfl, rfl, ⟨A2, hsA, hsB, hkA⟩, ⟨B2', hsC, hsD, hkC⟩, hV1_1_2_3_4_5_6⟩
            · go_simp
              refine hK.out _ _ (hV1_1.alloc hV1_1.size _) (fun hV1_1_2 => ?_)
              have A := Blk.new VA 49 #[.int .i64 0, .slice none 0 0, .slice none 0 0, .int .i64 0]
              have Ab := nw (.cells #[.int .i64 0, .slice none 0 0, .slice none 0 0, .int .i64 0] 49) (Below.refl VA.heap.size VA)
              have Ag := hV1_1.size
              obtain ⟨VA_2, qqVA_2⟩ : ∃ W', VA.alloc (.cells #[.int .i64 0, .slice none 0 0, .slice none 0 0, .int .i64 0] 49) = W' := ⟨_, rfl⟩
              rw [qqVA_2] at hV1_1_2 A Ab ⊢
              have hsA := hsA.below keeps_lk Ab
              have hsB := hsB.below keeps_int Ab
              have Alt := A.lt
              clear qqVA_2
              refine ordB_fork (opB_call rfl rfl (fun K hK => ?_)) (opB_call rfl rfl (fun K hK => ?_))
              · go_simp
                go_at_call 14
                refine (HBR.out _ hV1_1_2).mono ?_
                rintro e VC ⟨LC, LD, cC, cD, rfl, hsC, hsD, hkC, hbC, hoC, hoD⟩
                refine hK.out _ _ (hV1_1_2.trans (hbC.mono hV1_1_2.size)) (fun hV1_1_2_3 => ?_)
                have A := A.below hbC A.lt
                have hsA := hsA.below keeps_lk hbC
                have hsB := hsB.below keeps_int hbC
                have hz_3 := hbC.size
                have huC := hsC.blkLt
                have huD := hsD.blkLt
                refine ordB_only (opB_call rfl rfl (fun K hK => ?_))
                have A_B := Nat.ne_of_lt A.lt
                go_simp
                refine hK.out _ _ (hV1_1_2_3.alloc hV1_1_2_3.size _) (fun hV1_1_2_3_4 => ?_)
                have B := Blk.new VC 49 #[.int .i64 0, .slice none 0 0, .slice none 0 0, .int .i64 0]
                have Bb := nw (.cells #[.int .i64 0, .slice none 0 0, .slice none 0 0, .int .i64 0] 49) (Below.refl VC.heap.size VC)
                have Bg := hV1_1_2_3.size
                obtain ⟨VC_4, qqVC_4⟩ : ∃ W', VC.alloc (.cells #[.int .i64 0, .slice none 0 0, .slice none 0 0, .int .i64 0] 49) = W' := ⟨_, rfl⟩
                rw [qqVC_4] at hV1_1_2_3_4 B Bb ⊢
                have A := A.below Bb A.lt
                have hsA := hsA.below keeps_lk Bb
                have hsB := hsB.below keeps_int Bb
                have hsC := hsC.below keeps_lk Bb
                have hsD := hsD.below keeps_int Bb
                have Blt := B.lt
                clear qqVC_4
                refine ordB_only (opB_call rfl rfl (fun K hK => ?_))
                have Ac0 := A.cell 0
                have Af0 := A.frozen 0
                have Ac1 := A.cell 1
                have Af1 := A.frozen 1
                have Ac2 := A.cell 2
                have Af2 := A.frozen 2
                have Ac3 := A.cell 3
                have Af3 := A.frozen 3
                simp at Ac0 Ac1 Ac2 Ac3
                go_simp
                refine hK.out _ _ ((((hV1_1_2_3_4.setCell (p := ⟨VA.heap.size, 0, none⟩) Ag _).setCell (p := ⟨VA.heap.size, 1, none⟩) Ag _).setCell (p := ⟨VA.heap.size, 2, none⟩) Ag _).setCell (p := ⟨VA.heap.size, 3, none⟩) Ag _) (fun hV1_1_2_3_4_5 => ?_)
                have A := ((((A.set_ 0 (.int .i64 b.g.n)).set_ 1 (.slice LA b.g.ls.length cA)).set_ 2 (.slice LB b.last.length cB)).set_ 3 (.int .i64 b.e))
                have Bne : VC.heap.size ≠ VA.heap.size := by first | exact B_A | exact A_B.symm
                have B := ((((B.far (p := ⟨VA.heap.size, 0, none⟩) Bne (.int .i64 b.g.n)).far (p := ⟨VA.heap.size, 1, none⟩) Bne (.slice LA b.g.ls.length cA)).far (p := ⟨VA.heap.size, 2, none⟩) Bne (.slice LB b.last.length cB)).far (p := ⟨VA.heap.size, 3, none⟩) Bne (.int .i64 b.e))
                have hsAAne : ∀ a, LA = some a → b.g.ls ≠ [] → a.block ≠ VA.heap.size := fun a h hn => by have h1 := hoA a h; have h2 := huA hn a h; omega
                have hsA := ((((hsA.awayG lk_any (p := ⟨VA.heap.size, 0, none⟩) hsAAne (.int .i64 b.g.n)).awayG lk_any (p := ⟨VA.heap.size, 1, none⟩) hsAAne (.slice LA b.g.ls.length cA)).awayG lk_any (p := ⟨VA.heap.size, 2, none⟩) hsAAne (.slice LB b.last.length cB)).awayG lk_any (p := ⟨VA.heap.size, 3, none⟩) hsAAne (.int .i64 b.e))
                have hsBAne : ∀ a, LB = some a → b.last ≠ [] → a.block ≠ VA.heap.size := fun a h hn => by have h1 := hoB a h; have h2 := huB hn a h; omega
                have hsB := ((((hsB.awayG int_any_ (p := ⟨VA.heap.size, 0, none⟩) hsBAne (.int .i64 b.g.n)).awayG int_any_ (p := ⟨VA.heap.size, 1, none⟩) hsBAne (.slice LA b.g.ls.length cA)).awayG int_any_ (p := ⟨VA.heap.size, 2, none⟩) hsBAne (.slice LB b.last.length cB)).awayG int_any_ (p := ⟨VA.heap.size, 3, none⟩) hsBAne (.int .i64 b.e))
                have hsCAne : ∀ a, LC = some a → b.g.ls ≠ [] → a.block ≠ VA.heap.size := fun a h hn => by have h1 := hoC a h; have h2 := huC hn a h; omega
                have hsC := ((((hsC.awayG lk_any (p := ⟨VA.heap.size, 0, none⟩) hsCAne (.int .i64 b.g.n)).awayG lk_any (p := ⟨VA.heap.size, 1, none⟩) hsCAne (.slice LA b.g.ls.length cA)).awayG lk_any (p := ⟨VA.heap.size, 2, none⟩) hsCAne (.slice LB b.last.length cB)).awayG lk_any (p := ⟨VA.heap.size, 3, none⟩) hsCAne (.int .i64 b.e))
                have hsDAne : ∀ a, LD = some a → b.last ≠ [] → a.block ≠ VA.heap.size := fun a h hn => by have h1 := hoD a h; have h2 := huD hn a h; omega
                have hsD := ((((hsD.awayG int_any_ (p := ⟨VA.heap.size, 0, none⟩) hsDAne (.int .i64 b.g.n)).awayG int_any_ (p := ⟨VA.heap.size, 1, none⟩) hsDAne (.slice LA b.g.ls.length cA)).awayG int_any_ (p := ⟨VA.heap.size, 2, none⟩) hsDAne (.slice LB b.last.length cB)).awayG int_any_ (p := ⟨VA.heap.size, 3, none⟩) hsDAne (.int .i64 b.e))
                obtain ⟨VC_4_5, qqVC_4_5⟩ : ∃ W', ((((VC_4.setCell ⟨VA.heap.size, 0, none⟩ (.int .i64 b.g.n)).setCell ⟨VA.heap.size, 1, none⟩ (.slice LA b.g.ls.length cA)).setCell ⟨VA.heap.size, 2, none⟩ (.slice LB b.last.length cB)).setCell ⟨VA.heap.size, 3, none⟩ (.int .i64 b.e)) = W' := ⟨_, rfl⟩
                rw [qqVC_4_5] at hV1_1_2_3_4_5 A B hsA hsB hsC hsD ⊢
                clear qqVC_4_5 Ac0 Af0 Ac1 Af1 Ac2 Af2 Ac3 Af3
                refine ordB_only (opB_call rfl rfl (fun K hK => ?_))
                have Bc0 := B.cell 0
                have Bf0 := B.frozen 0
                have Bc1 := B.cell 1
                have Bf1 := B.frozen 1
                have Bc2 := B.cell 2
                have Bf2 := B.frozen 2
                have Bc3 := B.cell 3
                have Bf3 := B.frozen 3
                simp at Bc0 Bc1 Bc2 Bc3
                go_simp
                refine hK.out _ _ ((((hV1_1_2_3_4_5.setCell (p := ⟨VC.heap.size, 0, none⟩) Bg _).setCell (p := ⟨VC.heap.size, 1, none⟩) Bg _).setCell (p := ⟨VC.heap.size, 2, none⟩) Bg _).setCell (p := ⟨VC.heap.size, 3, none⟩) Bg _) (fun hV1_1_2_3_4_5_6 => ?_)
                have B := ((((B.set_ 0 (.int .i64 b.g.n)).set_ 1 (.slice LC b.g.ls.length cC)).set_ 2 (.slice LD b.last.length cD)).set_ 3 (.int .i64 b.e))
                have Ane : VA.heap.size ≠ VC.heap.size := by first | exact A_B | exact B_A.symm
                have A := ((((A.far (p := ⟨VC.heap.size, 0, none⟩) Ane (.int .i64 b.g.n)).far (p := ⟨VC.heap.size, 1, none⟩) Ane (.slice LC b.g.ls.length cC)).far (p := ⟨VC.heap.size, 2, none⟩) Ane (.slice LD b.last.length cD)).far (p := ⟨VC.heap.size, 3, none⟩) Ane (.int .i64 b.e))
                have hsABne : ∀ a, LA = some a → b.g.ls ≠ [] → a.block ≠ VC.heap.size := fun a h hn => by have h1 := hoA a h; have h2 := huA hn a h; omega
                have hsA := ((((hsA.awayG lk_any (p := ⟨VC.heap.size, 0, none⟩) hsABne (.int .i64 b.g.n)).awayG lk_any (p := ⟨VC.heap.size, 1, none⟩) hsABne (.slice LC b.g.ls.length cC)).awayG lk_any (p := ⟨VC.heap.size, 2, none⟩) hsABne (.slice LD b.last.length cD)).awayG lk_any (p := ⟨VC.heap.size, 3, none⟩) hsABne (.int .i64 b.e))
                have hsBBne : ∀ a, LB = some a → b.last ≠ [] → a.block ≠ VC.heap.size := fun a h hn => by have h1 := hoB a h; have h2 := huB hn a h; omega
                have hsB := ((((hsB.awayG int_any_ (p := ⟨VC.heap.size, 0, none⟩) hsBBne (.int .i64 b.g.n)).awayG int_any_ (p := ⟨VC.heap.size, 1, none⟩) hsBBne (.slice LC b.g.ls.length cC)).awayG int_any_ (p := ⟨VC.heap.size, 2, none⟩) hsBBne (.slice LD b.last.length cD)).awayG int_any_ (p := ⟨VC.heap.size, 3, none⟩) hsBBne (.int .i64 b.e))
                have hsCBne : ∀ a, LC = some a → b.g.ls ≠ [] → a.block ≠ VC.heap.size := fun a h hn => by have h1 := hoC a h; have h2 := huC hn a h; omega
                have hsC := ((((hsC.awayG lk_any (p := ⟨VC.heap.size, 0, none⟩) hsCBne (.int .i64 b.g.n)).awayG lk_any (p := ⟨VC.heap.size, 1, none⟩) hsCBne (.slice LC b.g.ls.length cC)).awayG lk_any (p := ⟨VC.heap.size, 2, none⟩) hsCBne (.slice LD b.last.length cD)).awayG lk_any (p := ⟨VC.heap.size, 3, none⟩) hsCBne (.int .i64 b.e))
                have hsDBne : ∀ a, LD = some a → b.last ≠ [] → a.block ≠ VC.heap.size := fun a h hn => by have h1 := hoD a h; have h2 := huD hn a h; omega
                have hsD := ((((hsD.awayG int_any_ (p := ⟨VC.heap.size, 0, none⟩) hsDBne (.int .i64 b.g.n)).awayG int_any_ (p := ⟨VC.heap.size, 1, none⟩) hsDBne (.slice LC b.g.ls.length cC)).awayG int_any_ (p := ⟨VC.heap.size, 2, none⟩) hsDBne (.slice LD b.last.length cD)).awayG int_any_ (p := ⟨VC.heap.size, 3, none⟩) hsDBne (.int .i64 b.e))
                obtain ⟨VC_4_5_6, qqVC_4_5_6⟩ : ∃ W', ((((VC_4_5.setCell ⟨VC.heap.size, 0, none⟩ (.int .i64 b.g.n)).setCell ⟨VC.heap.size, 1, none⟩ (.slice LC b.g.ls.length cC)).setCell ⟨VC.heap.size, 2, none⟩ (.slice LD b.last.length cD)).setCell ⟨VC.heap.size, 3, none⟩ (.int .i64 b.e)) = W' := ⟨_, rfl⟩
                rw [qqVC_4_5_6] at hV1_1_2_3_4_5_6 B A hsA hsB hsC hsD ⊢
                clear qqVC_4_5_6 Bc0 Bf0 Bc1 Bf1 Bc2 Bf2 Bc3 Bf3
                refine ordB_nil ?_
                go_wp2_with fail
                go_meet
                have A2 : Blk VC_4_5_6 VA.heap.size 49 #[.int .i64 b.g.n, .slice LA b.g.ls.length cA, .slice LB b.last.length cB, .int .i64 b.e] := by simpa using A
                have B2' : Blk VC_4_5_6 VC.heap.size 49 #[.int .i64 b.g.n, .slice LC b.g.ls.length cC, .slice LD b.last.length cD, .int .i64 b.e] := by simpa using B
                exact ⟨_, _, LA, LB, LC, LD, cA, cB, cC, cD, rfl, rfl, ⟨A2, hsA, hsB, hkA⟩, ⟨B2', hsC, hsD, hkC⟩, hV1_1_2_3_4_5_6⟩
              · have A_B := Nat.ne_of_lt A.lt
                go_simp
                refine hK.out _ _ (hV1_1_2.alloc hV1_1_2.size _) (fun hV1_1_2_3 => ?_)
                have B := Blk.new VA_2 49 #[.int .i64 0, .slice none 0 0, .slice none 0 0, .int .i64 0]
                have Bb := nw (.cells #[.int .i64 0, .slice none 0 0, .slice none 0 0, .int .i64 0] 49) (Below.refl VA_2.heap.size VA_2)
                have Bg := hV1_1_2.size
                obtain ⟨VA_2_3, qqVA_2_3⟩ : ∃ W', VA_2.alloc (.cells #[.int .i64 0, .slice none 0 0, .slice none 0 0, .int .i64 0] 49) = W' := ⟨_, rfl⟩
                rw [qqVA_2_3] at hV1_1_2_3 B Bb ⊢
                have A := A.below Bb A.lt
                have hsA := hsA.below keeps_lk Bb
                have hsB := hsB.below keeps_int Bb
                have Blt := B.lt
                clear qqVA_2_3
                refine ordB_only (opB_call rfl rfl (fun K hK => ?_))
                go_simp
                go_at_call 14
                refine (HBR.out _ hV1_1_2_3).mono ?_
                rintro e VC ⟨LC, LD, cC, cD, rfl, hsC, hsD, hkC, hbC, hoC, hoD⟩
                refine hK.out _ _ (hV1_1_2_3.trans (hbC.mono hV1_1_2_3.size)) (fun hV1_1_2_3_4 => ?_)
                have A := A.below hbC A.lt
                have B := B.below hbC B.lt
                have hsA := hsA.below keeps_lk hbC
                have hsB := hsB.below keeps_int hbC
                have hz_4 := hbC.size
                have huC := hsC.blkLt
                have huD := hsD.blkLt
                refine ordB_only (opB_call rfl rfl (fun K hK => ?_))
                have Ac0 := A.cell 0
                have Af0 := A.frozen 0
                have Ac1 := A.cell 1
                have Af1 := A.frozen 1
                have Ac2 := A.cell 2
                have Af2 := A.frozen 2
                have Ac3 := A.cell 3
                have Af3 := A.frozen 3
                simp at Ac0 Ac1 Ac2 Ac3
                go_simp
                refine hK.out _ _ ((((hV1_1_2_3_4.setCell (p := ⟨VA.heap.size, 0, none⟩) Ag _).setCell (p := ⟨VA.heap.size, 1, none⟩) Ag _).setCell (p := ⟨VA.heap.size, 2, none⟩) Ag _).setCell (p := ⟨VA.heap.size, 3, none⟩) Ag _) (fun hV1_1_2_3_4_5 => ?_)
                have A := ((((A.set_ 0 (.int .i64 b.g.n)).set_ 1 (.slice LA b.g.ls.length cA)).set_ 2 (.slice LB b.last.length cB)).set_ 3 (.int .i64 b.e))
                have Bne : VA_2.heap.size ≠ VA.heap.size := by first | exact B_A | exact A_B.symm
                have B := ((((B.far (p := ⟨VA.heap.size, 0, none⟩) Bne (.int .i64 b.g.n)).far (p := ⟨VA.heap.size, 1, none⟩) Bne (.slice LA b.g.ls.length cA)).far (p := ⟨VA.heap.size, 2, none⟩) Bne (.slice LB b.last.length cB)).far (p := ⟨VA.heap.size, 3, none⟩) Bne (.int .i64 b.e))
                have hsAAne : ∀ a, LA = some a → b.g.ls ≠ [] → a.block ≠ VA.heap.size := fun a h hn => by have h1 := hoA a h; have h2 := huA hn a h; omega
                have hsA := ((((hsA.awayG lk_any (p := ⟨VA.heap.size, 0, none⟩) hsAAne (.int .i64 b.g.n)).awayG lk_any (p := ⟨VA.heap.size, 1, none⟩) hsAAne (.slice LA b.g.ls.length cA)).awayG lk_any (p := ⟨VA.heap.size, 2, none⟩) hsAAne (.slice LB b.last.length cB)).awayG lk_any (p := ⟨VA.heap.size, 3, none⟩) hsAAne (.int .i64 b.e))
                have hsBAne : ∀ a, LB = some a → b.last ≠ [] → a.block ≠ VA.heap.size := fun a h hn => by have h1 := hoB a h; have h2 := huB hn a h; omega
                have hsB := ((((hsB.awayG int_any_ (p := ⟨VA.heap.size, 0, none⟩) hsBAne (.int .i64 b.g.n)).awayG int_any_ (p := ⟨VA.heap.size, 1, none⟩) hsBAne (.slice LA b.g.ls.length cA)).awayG int_any_ (p := ⟨VA.heap.size, 2, none⟩) hsBAne (.slice LB b.last.length cB)).awayG int_any_ (p := ⟨VA.heap.size, 3, none⟩) hsBAne (.int .i64 b.e))
                have hsCAne : ∀ a, LC = some a → b.g.ls ≠ [] → a.block ≠ VA.heap.size := fun a h hn => by have h1 := hoC a h; have h2 := huC hn a h; omega
                have hsC := ((((hsC.awayG lk_any (p := ⟨VA.heap.size, 0, none⟩) hsCAne (.int .i64 b.g.n)).awayG lk_any (p := ⟨VA.heap.size, 1, none⟩) hsCAne (.slice LA b.g.ls.length cA)).awayG lk_any (p := ⟨VA.heap.size, 2, none⟩) hsCAne (.slice LB b.last.length cB)).awayG lk_any (p := ⟨VA.heap.size, 3, none⟩) hsCAne (.int .i64 b.e))
                have hsDAne : ∀ a, LD = some a → b.last ≠ [] → a.block ≠ VA.heap.size := fun a h hn => by have h1 := hoD a h; have h2 := huD hn a h; omega
                have hsD := ((((hsD.awayG int_any_ (p := ⟨VA.heap.size, 0, none⟩) hsDAne (.int .i64 b.g.n)).awayG int_any_ (p := ⟨VA.heap.size, 1, none⟩) hsDAne (.slice LA b.g.ls.length cA)).awayG int_any_ (p := ⟨VA.heap.size, 2, none⟩) hsDAne (.slice LB b.last.length cB)).awayG int_any_ (p := ⟨VA.heap.size, 3, none⟩) hsDAne (.int .i64 b.e))
                obtain ⟨VC_5, qqVC_5⟩ : ∃ W', ((((VC.setCell ⟨VA.heap.size, 0, none⟩ (.int .i64 b.g.n)).setCell ⟨VA.heap.size, 1, none⟩ (.slice LA b.g.ls.length cA)).setCell ⟨VA.heap.size, 2, none⟩ (.slice LB b.last.length cB)).setCell ⟨VA.heap.size, 3, none⟩ (.int .i64 b.e)) = W' := ⟨_, rfl⟩
                rw [qqVC_5] at hV1_1_2_3_4_5 A B hsA hsB hsC hsD ⊢
                clear qqVC_5 Ac0 Af0 Ac1 Af1 Ac2 Af2 Ac3 Af3
                refine ordB_only (opB_call rfl rfl (fun K hK => ?_))
                have Bc0 := B.cell 0
                have Bf0 := B.frozen 0
                have Bc1 := B.cell 1
                have Bf1 := B.frozen 1
                have Bc2 := B.cell 2
                have Bf2 := B.frozen 2
                have Bc3 := B.cell 3
                have Bf3 := B.frozen 3
                simp at Bc0 Bc1 Bc2 Bc3
                go_simp
                refine hK.out _ _ ((((hV1_1_2_3_4_5.setCell (p := ⟨VA_2.heap.size, 0, none⟩) Bg _).setCell (p := ⟨VA_2.heap.size, 1, none⟩) Bg _).setCell (p := ⟨VA_2.heap.size, 2, none⟩) Bg _).setCell (p := ⟨VA_2.heap.size, 3, none⟩) Bg _) (fun hV1_1_2_3_4_5_6 => ?_)
                have B := ((((B.set_ 0 (.int .i64 b.g.n)).set_ 1 (.slice LC b.g.ls.length cC)).set_ 2 (.slice LD b.last.length cD)).set_ 3 (.int .i64 b.e))
                have Ane : VA.heap.size ≠ VA_2.heap.size := by first | exact A_B | exact B_A.symm
                have A := ((((A.far (p := ⟨VA_2.heap.size, 0, none⟩) Ane (.int .i64 b.g.n)).far (p := ⟨VA_2.heap.size, 1, none⟩) Ane (.slice LC b.g.ls.length cC)).far (p := ⟨VA_2.heap.size, 2, none⟩) Ane (.slice LD b.last.length cD)).far (p := ⟨VA_2.heap.size, 3, none⟩) Ane (.int .i64 b.e))
                have hsABne : ∀ a, LA = some a → b.g.ls ≠ [] → a.block ≠ VA_2.heap.size := fun a h hn => by have h1 := hoA a h; have h2 := huA hn a h; omega
                have hsA := ((((hsA.awayG lk_any (p := ⟨VA_2.heap.size, 0, none⟩) hsABne (.int .i64 b.g.n)).awayG lk_any (p := ⟨VA_2.heap.size, 1, none⟩) hsABne (.slice LC b.g.ls.length cC)).awayG lk_any (p := ⟨VA_2.heap.size, 2, none⟩) hsABne (.slice LD b.last.length cD)).awayG lk_any (p := ⟨VA_2.heap.size, 3, none⟩) hsABne (.int .i64 b.e))
                have hsBBne : ∀ a, LB = some a → b.last ≠ [] → a.block ≠ VA_2.heap.size := fun a h hn => by have h1 := hoB a h; have h2 := huB hn a h; omega
                have hsB := ((((hsB.awayG int_any_ (p := ⟨VA_2.heap.size, 0, none⟩) hsBBne (.int .i64 b.g.n)).awayG int_any_ (p := ⟨VA_2.heap.size, 1, none⟩) hsBBne (.slice LC b.g.ls.length cC)).awayG int_any_ (p := ⟨VA_2.heap.size, 2, none⟩) hsBBne (.slice LD b.last.length cD)).awayG int_any_ (p := ⟨VA_2.heap.size, 3, none⟩) hsBBne (.int .i64 b.e))
                have hsCBne : ∀ a, LC = some a → b.g.ls ≠ [] → a.block ≠ VA_2.heap.size := fun a h hn => by have h1 := hoC a h; have h2 := huC hn a h; omega
                have hsC := ((((hsC.awayG lk_any (p := ⟨VA_2.heap.size, 0, none⟩) hsCBne (.int .i64 b.g.n)).awayG lk_any (p := ⟨VA_2.heap.size, 1, none⟩) hsCBne (.slice LC b.g.ls.length cC)).awayG lk_any (p := ⟨VA_2.heap.size, 2, none⟩) hsCBne (.slice LD b.last.length cD)).awayG lk_any (p := ⟨VA_2.heap.size, 3, none⟩) hsCBne (.int .i64 b.e))
                have hsDBne : ∀ a, LD = some a → b.last ≠ [] → a.block ≠ VA_2.heap.size := fun a h hn => by have h1 := hoD a h; have h2 := huD hn a h; omega
                have hsD := ((((hsD.awayG int_any_ (p := ⟨VA_2.heap.size, 0, none⟩) hsDBne (.int .i64 b.g.n)).awayG int_any_ (p := ⟨VA_2.heap.size, 1, none⟩) hsDBne (.slice LC b.g.ls.length cC)).awayG int_any_ (p := ⟨VA_2.heap.size, 2, none⟩) hsDBne (.slice LD b.last.length cD)).awayG int_any_ (p := ⟨VA_2.heap.size, 3, none⟩) hsDBne (.int .i64 b.e))
                obtain ⟨VC_5_6, qqVC_5_6⟩ : ∃ W', ((((VC_5.setCell ⟨VA_2.heap.size, 0, none⟩ (.int .i64 b.g.n)).setCell ⟨VA_2.heap.size, 1, none⟩ (.slice LC b.g.ls.length cC)).setCell ⟨VA_2.heap.size, 2, none⟩ (.slice LD b.last.length cD)).setCell ⟨VA_2.heap.size, 3, none⟩ (.int .i64 b.e)) = W' := ⟨_, rfl⟩
                rw [qqVC_5_6] at hV1_1_2_3_4_5_6 B A hsA hsB hsC hsD ⊢
                clear qqVC_5_6 Bc0 Bf0 Bc1 Bf1 Bc2 Bf2 Bc3 Bf3
                refine ordB_nil ?_
                go_wp2_with fail
                go_meet
                have A2 : Blk VC_5_6 VA.heap.size 49 #[.int .i64 b.g.n, .slice LA b.g.ls.length cA, .slice LB b.last.length cB, .int .i64 b.e] := by simpa using A
                have B2' : Blk VC_5_6 VA_2.heap.size 49 #[.int .i64 b.g.n, .slice LC b.g.ls.length cC, .slice LD b.last.length cD, .int .i64 b.e] := by simpa using B
                exact ⟨_, _, LA, LB, LC, LD, cA, cB, cC, cD, rfl, rfl, ⟨A2, hsA, hsB, hkA⟩, ⟨B2', hsC, hsD, hkC⟩, hV1_1_2_3_4_5_6⟩
            · go_simp
              refine hK.out _ _ (hV1_1.alloc hV1_1.size _) (fun hV1_1_2 => ?_)
              have B := Blk.new VA 49 #[.int .i64 0, .slice none 0 0, .slice none 0 0, .int .i64 0]
              have Bb := nw (.cells #[.int .i64 0, .slice none 0 0, .slice none 0 0, .int .i64 0] 49) (Below.refl VA.heap.size VA)
              have Bg := hV1_1.size
              obtain ⟨VA_2, qqVA_2⟩ : ∃ W', VA.alloc (.cells #[.int .i64 0, .slice none 0 0, .slice none 0 0, .int .i64 0] 49) = W' := ⟨_, rfl⟩
              rw [qqVA_2] at hV1_1_2 B Bb ⊢
              have hsA := hsA.below keeps_lk Bb
              have hsB := hsB.below keeps_int Bb
              have Blt := B.lt
              clear qqVA_2
              refine ordB_fork (opB_call rfl rfl (fun K hK => ?_)) (opB_call rfl rfl (fun K hK => ?_))
              · go_simp
                go_at_call 14
                refine (HBR.out _ hV1_1_2).mono ?_
                rintro e VC ⟨LC, LD, cC, cD, rfl, hsC, hsD, hkC, hbC, hoC, hoD⟩
                refine hK.out _ _ (hV1_1_2.trans (hbC.mono hV1_1_2.size)) (fun hV1_1_2_3 => ?_)
                have B := B.below hbC B.lt
                have hsA := hsA.below keeps_lk hbC
                have hsB := hsB.below keeps_int hbC
                have hz_3 := hbC.size
                have huC := hsC.blkLt
                have huD := hsD.blkLt
                refine ordB_only (opB_call rfl rfl (fun K hK => ?_))
                have B_A := Nat.ne_of_lt B.lt
                go_simp
                refine hK.out _ _ (hV1_1_2_3.alloc hV1_1_2_3.size _) (fun hV1_1_2_3_4 => ?_)
                have A := Blk.new VC 49 #[.int .i64 0, .slice none 0 0, .slice none 0 0, .int .i64 0]
                have Ab := nw (.cells #[.int .i64 0, .slice none 0 0, .slice none 0 0, .int .i64 0] 49) (Below.refl VC.heap.size VC)
                have Ag := hV1_1_2_3.size
                obtain ⟨VC_4, qqVC_4⟩ : ∃ W', VC.alloc (.cells #[.int .i64 0, .slice none 0 0, .slice none 0 0, .int .i64 0] 49) = W' := ⟨_, rfl⟩
                rw [qqVC_4] at hV1_1_2_3_4 A Ab ⊢
                have B := B.below Ab B.lt
                have hsA := hsA.below keeps_lk Ab
                have hsB := hsB.below keeps_int Ab
                have hsC := hsC.below keeps_lk Ab
                have hsD := hsD.below keeps_int Ab
                have Alt := A.lt
                clear qqVC_4
                refine ordB_only (opB_call rfl rfl (fun K hK => ?_))
                have Ac0 := A.cell 0
                have Af0 := A.frozen 0
                have Ac1 := A.cell 1
                have Af1 := A.frozen 1
                have Ac2 := A.cell 2
                have Af2 := A.frozen 2
                have Ac3 := A.cell 3
                have Af3 := A.frozen 3
                simp at Ac0 Ac1 Ac2 Ac3
                go_simp
                refine hK.out _ _ ((((hV1_1_2_3_4.setCell (p := ⟨VC.heap.size, 0, none⟩) Ag _).setCell (p := ⟨VC.heap.size, 1, none⟩) Ag _).setCell (p := ⟨VC.heap.size, 2, none⟩) Ag _).setCell (p := ⟨VC.heap.size, 3, none⟩) Ag _) (fun hV1_1_2_3_4_5 => ?_)
                have A := ((((A.set_ 0 (.int .i64 b.g.n)).set_ 1 (.slice LA b.g.ls.length cA)).set_ 2 (.slice LB b.last.length cB)).set_ 3 (.int .i64 b.e))
                have Bne : VA.heap.size ≠ VC.heap.size := by first | exact B_A | exact A_B.symm
                have B := ((((B.far (p := ⟨VC.heap.size, 0, none⟩) Bne (.int .i64 b.g.n)).far (p := ⟨VC.heap.size, 1, none⟩) Bne (.slice LA b.g.ls.length cA)).far (p := ⟨VC.heap.size, 2, none⟩) Bne (.slice LB b.last.length cB)).far (p := ⟨VC.heap.size, 3, none⟩) Bne (.int .i64 b.e))
                have hsAAne : ∀ a, LA = some a → b.g.ls ≠ [] → a.block ≠ VC.heap.size := fun a h hn => by have h1 := hoA a h; have h2 := huA hn a h; omega
                have hsA := ((((hsA.awayG lk_any (p := ⟨VC.heap.size, 0, none⟩) hsAAne (.int .i64 b.g.n)).awayG lk_any (p := ⟨VC.heap.size, 1, none⟩) hsAAne (.slice LA b.g.ls.length cA)).awayG lk_any (p := ⟨VC.heap.size, 2, none⟩) hsAAne (.slice LB b.last.length cB)).awayG lk_any (p := ⟨VC.heap.size, 3, none⟩) hsAAne (.int .i64 b.e))
                have hsBAne : ∀ a, LB = some a → b.last ≠ [] → a.block ≠ VC.heap.size := fun a h hn => by have h1 := hoB a h; have h2 := huB hn a h; omega
                have hsB := ((((hsB.awayG int_any_ (p := ⟨VC.heap.size, 0, none⟩) hsBAne (.int .i64 b.g.n)).awayG int_any_ (p := ⟨VC.heap.size, 1, none⟩) hsBAne (.slice LA b.g.ls.length cA)).awayG int_any_ (p := ⟨VC.heap.size, 2, none⟩) hsBAne (.slice LB b.last.length cB)).awayG int_any_ (p := ⟨VC.heap.size, 3, none⟩) hsBAne (.int .i64 b.e))
                have hsCAne : ∀ a, LC = some a → b.g.ls ≠ [] → a.block ≠ VC.heap.size := fun a h hn => by have h1 := hoC a h; have h2 := huC hn a h; omega
                have hsC := ((((hsC.awayG lk_any (p := ⟨VC.heap.size, 0, none⟩) hsCAne (.int .i64 b.g.n)).awayG lk_any (p := ⟨VC.heap.size, 1, none⟩) hsCAne (.slice LA b.g.ls.length cA)).awayG lk_any (p := ⟨VC.heap.size, 2, none⟩) hsCAne (.slice LB b.last.length cB)).awayG lk_any (p := ⟨VC.heap.size, 3, none⟩) hsCAne (.int .i64 b.e))
                have hsDAne : ∀ a, LD = some a → b.last ≠ [] → a.block ≠ VC.heap.size := fun a h hn => by have h1 := hoD a h; have h2 := huD hn a h; omega
                have hsD := ((((hsD.awayG int_any_ (p := ⟨VC.heap.size, 0, none⟩) hsDAne (.int .i64 b.g.n)).awayG int_any_ (p := ⟨VC.heap.size, 1, none⟩) hsDAne (.slice LA b.g.ls.length cA)).awayG int_any_ (p := ⟨VC.heap.size, 2, none⟩) hsDAne (.slice LB b.last.length cB)).awayG int_any_ (p := ⟨VC.heap.size, 3, none⟩) hsDAne (.int .i64 b.e))
                obtain ⟨VC_4_5, qqVC_4_5⟩ : ∃ W', ((((VC_4.setCell ⟨VC.heap.size, 0, none⟩ (.int .i64 b.g.n)).setCell ⟨VC.heap.size, 1, none⟩ (.slice LA b.g.ls.length cA)).setCell ⟨VC.heap.size, 2, none⟩ (.slice LB b.last.length cB)).setCell ⟨VC.heap.size, 3, none⟩ (.int .i64 b.e)) = W' := ⟨_, rfl⟩
                rw [qqVC_4_5] at hV1_1_2_3_4_5 A B hsA hsB hsC hsD ⊢
                clear qqVC_4_5 Ac0 Af0 Ac1 Af1 Ac2 Af2 Ac3 Af3
                refine ordB_only (opB_call rfl rfl (fun K hK => ?_))
                have Bc0 := B.cell 0
                have Bf0 := B.frozen 0
                have Bc1 := B.cell 1
                have Bf1 := B.frozen 1
                have Bc2 := B.cell 2
                have Bf2 := B.frozen 2
                have Bc3 := B.cell 3
                have Bf3 := B.frozen 3
                simp at Bc0 Bc1 Bc2 Bc3
                go_simp
                refine hK.out _ _ ((((hV1_1_2_3_4_5.setCell (p := ⟨VA.heap.size, 0, none⟩) Bg _).setCell (p := ⟨VA.heap.size, 1, none⟩) Bg _).setCell (p := ⟨VA.heap.size, 2, none⟩) Bg _).setCell (p := ⟨VA.heap.size, 3, none⟩) Bg _) (fun hV1_1_2_3_4_5_6 => ?_)
                have B := ((((B.set_ 0 (.int .i64 b.g.n)).set_ 1 (.slice LC b.g.ls.length cC)).set_ 2 (.slice LD b.last.length cD)).set_ 3 (.int .i64 b.e))
                have Ane : VC.heap.size ≠ VA.heap.size := by first | exact A_B | exact B_A.symm
                have A := ((((A.far (p := ⟨VA.heap.size, 0, none⟩) Ane (.int .i64 b.g.n)).far (p := ⟨VA.heap.size, 1, none⟩) Ane (.slice LC b.g.ls.length cC)).far (p := ⟨VA.heap.size, 2, none⟩) Ane (.slice LD b.last.length cD)).far (p := ⟨VA.heap.size, 3, none⟩) Ane (.int .i64 b.e))
                have hsABne : ∀ a, LA = some a → b.g.ls ≠ [] → a.block ≠ VA.heap.size := fun a h hn => by have h1 := hoA a h; have h2 := huA hn a h; omega
                have hsA := ((((hsA.awayG lk_any (p := ⟨VA.heap.size, 0, none⟩) hsABne (.int .i64 b.g.n)).awayG lk_any (p := ⟨VA.heap.size, 1, none⟩) hsABne (.slice LC b.g.ls.length cC)).awayG lk_any (p := ⟨VA.heap.size, 2, none⟩) hsABne (.slice LD b.last.length cD)).awayG lk_any (p := ⟨VA.heap.size, 3, none⟩) hsABne (.int .i64 b.e))
                have hsBBne : ∀ a, LB = some a → b.last ≠ [] → a.block ≠ VA.heap.size := fun a h hn => by have h1 := hoB a h; have h2 := huB hn a h; omega
                have hsB := ((((hsB.awayG int_any_ (p := ⟨VA.heap.size, 0, none⟩) hsBBne (.int .i64 b.g.n)).awayG int_any_ (p := ⟨VA.heap.size, 1, none⟩) hsBBne (.slice LC b.g.ls.length cC)).awayG int_any_ (p := ⟨VA.heap.size, 2, none⟩) hsBBne (.slice LD b.last.length cD)).awayG int_any_ (p := ⟨VA.heap.size, 3, none⟩) hsBBne (.int .i64 b.e))
                have hsCBne : ∀ a, LC = some a → b.g.ls ≠ [] → a.block ≠ VA.heap.size := fun a h hn => by have h1 := hoC a h; have h2 := huC hn a h; omega
                have hsC := ((((hsC.awayG lk_any (p := ⟨VA.heap.size, 0, none⟩) hsCBne (.int .i64 b.g.n)).awayG lk_any (p := ⟨VA.heap.size, 1, none⟩) hsCBne (.slice LC b.g.ls.length cC)).awayG lk_any (p := ⟨VA.heap.size, 2, none⟩) hsCBne (.slice LD b.last.length cD)).awayG lk_any (p := ⟨VA.heap.size, 3, none⟩) hsCBne (.int .i64 b.e))
                have hsDBne : ∀ a, LD = some a → b.last ≠ [] → a.block ≠ VA.heap.size := fun a h hn => by have h1 := hoD a h; have h2 := huD hn a h; omega
                have hsD := ((((hsD.awayG int_any_ (p := ⟨VA.heap.size, 0, none⟩) hsDBne (.int .i64 b.g.n)).awayG int_any_ (p := ⟨VA.heap.size, 1, none⟩) hsDBne (.slice LC b.g.ls.length cC)).awayG int_any_ (p := ⟨VA.heap.size, 2, none⟩) hsDBne (.slice LD b.last.length cD)).awayG int_any_ (p := ⟨VA.heap.size, 3, none⟩) hsDBne (.int .i64 b.e))
                obtain ⟨VC_4_5_6, qqVC_4_5_6⟩ : ∃ W', ((((VC_4_5.setCell ⟨VA.heap.size, 0, none⟩ (.int .i64 b.g.n)).setCell ⟨VA.heap.size, 1, none⟩ (.slice LC b.g.ls.length cC)).setCell ⟨VA.heap.size, 2, none⟩ (.slice LD b.last.length cD)).setCell ⟨VA.heap.size, 3, none⟩ (.int .i64 b.e)) = W' := ⟨_, rfl⟩
                rw [qqVC_4_5_6] at hV1_1_2_3_4_5_6 B A hsA hsB hsC hsD ⊢
                clear qqVC_4_5_6 Bc0 Bf0 Bc1 Bf1 Bc2 Bf2 Bc3 Bf3
                refine ordB_nil ?_
                go_wp2_with fail
                go_meet
                have A2 : Blk VC_4_5_6 VC.heap.size 49 #[.int .i64 b.g.n, .slice LA b.g.ls.length cA, .slice LB b.last.length cB, .int .i64 b.e] := by simpa using A
                have B2' : Blk VC_4_5_6 VA.heap.size 49 #[.int .i64 b.g.n, .slice LC b.g.ls.length cC, .slice LD b.last.length cD, .int .i64 b.e] := by simpa using B
                exact ⟨_, _, LA, LB, LC, LD, cA, cB, cC, cD, rfl, rfl, ⟨A2, hsA, hsB, hkA⟩, ⟨B2', hsC, hsD, hkC⟩, hV1_1_2_3_4_5_6⟩
              · have B_A := Nat.ne_of_lt B.lt
                go_simp
                refine hK.out _ _ (hV1_1_2.alloc hV1_1_2.size _) (fun hV1_1_2_3 => ?_)
                have A := Blk.new VA_2 49 #[.int .i64 0, .slice none 0 0, .slice none 0 0, .int .i64 0]
                have Ab := nw (.cells #[.int .i64 0, .slice none 0 0, .slice none 0 0, .int .i64 0] 49) (Below.refl VA_2.heap.size VA_2)
                have Ag := hV1_1_2.size
                obtain ⟨VA_2_3, qqVA_2_3⟩ : ∃ W', VA_2.alloc (.cells #[.int .i64 0, .slice none 0 0, .slice none 0 0, .int .i64 0] 49) = W' := ⟨_, rfl⟩
                rw [qqVA_2_3] at hV1_1_2_3 A Ab ⊢
                have B := B.below Ab B.lt
                have hsA := hsA.below keeps_lk Ab
                have hsB := hsB.below keeps_int Ab
                have Alt := A.lt
                clear qqVA_2_3
                refine ordB_only (opB_call rfl rfl (fun K hK => ?_))
                go_simp
                go_at_call 14
                refine (HBR.out _ hV1_1_2_3).mono ?_
                rintro e VC ⟨LC, LD, cC, cD, rfl, hsC, hsD, hkC, hbC, hoC, hoD⟩
                refine hK.out _ _ (hV1_1_2_3.trans (hbC.mono hV1_1_2_3.size)) (fun hV1_1_2_3_4 => ?_)
                have B := B.below hbC B.lt
                have A := A.below hbC A.lt
                have hsA := hsA.below keeps_lk hbC
                have hsB := hsB.below keeps_int hbC
                have hz_4 := hbC.size
                have huC := hsC.blkLt
                have huD := hsD.blkLt
                refine ordB_only (opB_call rfl rfl (fun K hK => ?_))
                have Ac0 := A.cell 0
                have Af0 := A.frozen 0
                have Ac1 := A.cell 1
                have Af1 := A.frozen 1
                have Ac2 := A.cell 2
                have Af2 := A.frozen 2
                have Ac3 := A.cell 3
                have Af3 := A.frozen 3
                simp at Ac0 Ac1 Ac2 Ac3
                go_simp
                refine hK.out _ _ ((((hV1_1_2_3_4.setCell (p := ⟨VA_2.heap.size, 0, none⟩) Ag _).setCell (p := ⟨VA_2.heap.size, 1, none⟩) Ag _).setCell (p := ⟨VA_2.heap.size, 2, none⟩) Ag _).setCell (p := ⟨VA_2.heap.size, 3, none⟩) Ag _) (fun hV1_1_2_3_4_5 => ?_)
                have A := ((((A.set_ 0 (.int .i64 b.g.n)).set_ 1 (.slice LA b.g.ls.length cA)).set_ 2 (.slice LB b.last.length cB)).set_ 3 (.int .i64 b.e))
                have Bne : VA.heap.size ≠ VA_2.heap.size := by first | exact B_A | exact A_B.symm
                have B := ((((B.far (p := ⟨VA_2.heap.size, 0, none⟩) Bne (.int .i64 b.g.n)).far (p := ⟨VA_2.heap.size, 1, none⟩) Bne (.slice LA b.g.ls.length cA)).far (p := ⟨VA_2.heap.size, 2, none⟩) Bne (.slice LB b.last.length cB)).far (p := ⟨VA_2.heap.size, 3, none⟩) Bne (.int .i64 b.e))
                have hsAAne : ∀ a, LA = some a → b.g.ls ≠ [] → a.block ≠ VA_2.heap.size := fun a h hn => by have h1 := hoA a h; have h2 := huA hn a h; omega
                have hsA := ((((hsA.awayG lk_any (p := ⟨VA_2.heap.size, 0, none⟩) hsAAne (.int .i64 b.g.n)).awayG lk_any (p := ⟨VA_2.heap.size, 1, none⟩) hsAAne (.slice LA b.g.ls.length cA)).awayG lk_any (p := ⟨VA_2.heap.size, 2, none⟩) hsAAne (.slice LB b.last.length cB)).awayG lk_any (p := ⟨VA_2.heap.size, 3, none⟩) hsAAne (.int .i64 b.e))
                have hsBAne : ∀ a, LB = some a → b.last ≠ [] → a.block ≠ VA_2.heap.size := fun a h hn => by have h1 := hoB a h; have h2 := huB hn a h; omega
                have hsB := ((((hsB.awayG int_any_ (p := ⟨VA_2.heap.size, 0, none⟩) hsBAne (.int .i64 b.g.n)).awayG int_any_ (p := ⟨VA_2.heap.size, 1, none⟩) hsBAne (.slice LA b.g.ls.length cA)).awayG int_any_ (p := ⟨VA_2.heap.size, 2, none⟩) hsBAne (.slice LB b.last.length cB)).awayG int_any_ (p := ⟨VA_2.heap.size, 3, none⟩) hsBAne (.int .i64 b.e))
                have hsCAne : ∀ a, LC = some a → b.g.ls ≠ [] → a.block ≠ VA_2.heap.size := fun a h hn => by have h1 := hoC a h; have h2 := huC hn a h; omega
                have hsC := ((((hsC.awayG lk_any (p := ⟨VA_2.heap.size, 0, none⟩) hsCAne (.int .i64 b.g.n)).awayG lk_any (p := ⟨VA_2.heap.size, 1, none⟩) hsCAne (.slice LA b.g.ls.length cA)).awayG lk_any (p := ⟨VA_2.heap.size, 2, none⟩) hsCAne (.slice LB b.last.length cB)).awayG lk_any (p := ⟨VA_2.heap.size, 3, none⟩) hsCAne (.int .i64 b.e))
                have hsDAne : ∀ a, LD = some a → b.last ≠ [] → a.block ≠ VA_2.heap.size := fun a h hn => by have h1 := hoD a h; have h2 := huD hn a h; omega
                have hsD := ((((hsD.awayG int_any_ (p := ⟨VA_2.heap.size, 0, none⟩) hsDAne (.int .i64 b.g.n)).awayG int_any_ (p := ⟨VA_2.heap.size, 1, none⟩) hsDAne (.slice LA b.g.ls.length cA)).awayG int_any_ (p := ⟨VA_2.heap.size, 2, none⟩) hsDAne (.slice LB b.last.length cB)).awayG int_any_ (p := ⟨VA_2.heap.size, 3, none⟩) hsDAne (.int .i64 b.e))
                obtain ⟨VC_5, qqVC_5⟩ : ∃ W', ((((VC.setCell ⟨VA_2.heap.size, 0, none⟩ (.int .i64 b.g.n)).setCell ⟨VA_2.heap.size, 1, none⟩ (.slice LA b.g.ls.length cA)).setCell ⟨VA_2.heap.size, 2, none⟩ (.slice LB b.last.length cB)).setCell ⟨VA_2.heap.size, 3, none⟩ (.int .i64 b.e)) = W' := ⟨_, rfl⟩
                rw [qqVC_5] at hV1_1_2_3_4_5 A B hsA hsB hsC hsD ⊢
                clear qqVC_5 Ac0 Af0 Ac1 Af1 Ac2 Af2 Ac3 Af3
                refine ordB_only (opB_call rfl rfl (fun K hK => ?_))
                have Bc0 := B.cell 0
                have Bf0 := B.frozen 0
                have Bc1 := B.cell 1
                have Bf1 := B.frozen 1
                have Bc2 := B.cell 2
                have Bf2 := B.frozen 2
                have Bc3 := B.cell 3
                have Bf3 := B.frozen 3
                simp at Bc0 Bc1 Bc2 Bc3
                go_simp
                refine hK.out _ _ ((((hV1_1_2_3_4_5.setCell (p := ⟨VA.heap.size, 0, none⟩) Bg _).setCell (p := ⟨VA.heap.size, 1, none⟩) Bg _).setCell (p := ⟨VA.heap.size, 2, none⟩) Bg _).setCell (p := ⟨VA.heap.size, 3, none⟩) Bg _) (fun hV1_1_2_3_4_5_6 => ?_)
                have B := ((((B.set_ 0 (.int .i64 b.g.n)).set_ 1 (.slice LC b.g.ls.length cC)).set_ 2 (.slice LD b.last.length cD)).set_ 3 (.int .i64 b.e))
                have Ane : VA_2.heap.size ≠ VA.heap.size := by first | exact A_B | exact B_A.symm
                have A := ((((A.far (p := ⟨VA.heap.size, 0, none⟩) Ane (.int .i64 b.g.n)).far (p := ⟨VA.heap.size, 1, none⟩) Ane (.slice LC b.g.ls.length cC)).far (p := ⟨VA.heap.size, 2, none⟩) Ane (.slice LD b.last.length cD)).far (p := ⟨VA.heap.size, 3, none⟩) Ane (.int .i64 b.e))
                have hsABne : ∀ a, LA = some a → b.g.ls ≠ [] → a.block ≠ VA.heap.size := fun a h hn => by have h1 := hoA a h; have h2 := huA hn a h; omega
                have hsA := ((((hsA.awayG lk_any (p := ⟨VA.heap.size, 0, none⟩) hsABne (.int .i64 b.g.n)).awayG lk_any (p := ⟨VA.heap.size, 1, none⟩) hsABne (.slice LC b.g.ls.length cC)).awayG lk_any (p := ⟨VA.heap.size, 2, none⟩) hsABne (.slice LD b.last.length cD)).awayG lk_any (p := ⟨VA.heap.size, 3, none⟩) hsABne (.int .i64 b.e))
                have hsBBne : ∀ a, LB = some a → b.last ≠ [] → a.block ≠ VA.heap.size := fun a h hn => by have h1 := hoB a h; have h2 := huB hn a h; omega
                have hsB := ((((hsB.awayG int_any_ (p := ⟨VA.heap.size, 0, none⟩) hsBBne (.int .i64 b.g.n)).awayG int_any_ (p := ⟨VA.heap.size, 1, none⟩) hsBBne (.slice LC b.g.ls.length cC)).awayG int_any_ (p := ⟨VA.heap.size, 2, none⟩) hsBBne (.slice LD b.last.length cD)).awayG int_any_ (p := ⟨VA.heap.size, 3, none⟩) hsBBne (.int .i64 b.e))
                have hsCBne : ∀ a, LC = some a → b.g.ls ≠ [] → a.block ≠ VA.heap.size := fun a h hn => by have h1 := hoC a h; have h2 := huC hn a h; omega
                have hsC := ((((hsC.awayG lk_any (p := ⟨VA.heap.size, 0, none⟩) hsCBne (.int .i64 b.g.n)).awayG lk_any (p := ⟨VA.heap.size, 1, none⟩) hsCBne (.slice LC b.g.ls.length cC)).awayG lk_any (p := ⟨VA.heap.size, 2, none⟩) hsCBne (.slice LD b.last.length cD)).awayG lk_any (p := ⟨VA.heap.size, 3, none⟩) hsCBne (.int .i64 b.e))
                have hsDBne : ∀ a, LD = some a → b.last ≠ [] → a.block ≠ VA.heap.size := fun a h hn => by have h1 := hoD a h; have h2 := huD hn a h; omega
                have hsD := ((((hsD.awayG int_any_ (p := ⟨VA.heap.size, 0, none⟩) hsDBne (.int .i64 b.g.n)).awayG int_any_ (p := ⟨VA.heap.size, 1, none⟩) hsDBne (.slice LC b.g.ls.length cC)).awayG int_any_ (p := ⟨VA.heap.size, 2, none⟩) hsDBne (.slice LD b.last.length cD)).awayG int_any_ (p := ⟨VA.heap.size, 3, none⟩) hsDBne (.int .i64 b.e))
                obtain ⟨VC_5_6, qqVC_5_6⟩ : ∃ W', ((((VC_5.setCell ⟨VA.heap.size, 0, none⟩ (.int .i64 b.g.n)).setCell ⟨VA.heap.size, 1, none⟩ (.slice LC b.g.ls.length cC)).setCell ⟨VA.heap.size, 2, none⟩ (.slice LD b.last.length cD)).setCell ⟨VA.heap.size, 3, none⟩ (.int .i64 b.e)) = W' := ⟨_, rfl⟩
                rw [qqVC_5_6] at hV1_1_2_3_4_5_6 B A hsA hsB hsC hsD ⊢
                clear qqVC_5_6 Bc0 Bf0 Bc1 Bf1 Bc2 Bf2 Bc3 Bf3
                refine ordB_nil ?_
                go_wp2_with fail
                go_meet
                have A2 : Blk VC_5_6 VA_2.heap.size 49 #[.int .i64 b.g.n, .slice LA b.g.ls.length cA, .slice LB b.last.length cB, .int .i64 b.e] := by simpa using A
                have B2' : Blk VC_5_6 VA.heap.size 49 #[.int .i64 b.g.n, .slice LC b.g.ls.length cC, .slice LD b.last.length cD, .int .i64 b.e] := by simpa using B
                exact ⟨_, _, LA, LB, LC, LD, cA, cB, cC, cD, rfl, rfl, ⟨A2, hsA, hsB, hkA⟩, ⟨B2', hsC, hsD, hkC⟩, hV1_1_2_3_4_5_6⟩
          · go_simp
            refine hK.out _ _ (hV1.alloc hV1.size _) (fun hV1_1 => ?_)
            have A := Blk.new V1 49 #[.int .i64 0, .slice none 0 0, .slice none 0 0, .int .i64 0]
            have Ab := nw (.cells #[.int .i64 0, .slice none 0 0, .slice none 0 0, .int .i64 0] 49) (Below.refl V1.heap.size V1)
            have Ag := hV1.size
            obtain ⟨V1_1, qqV1_1⟩ : ∃ W', V1.alloc (.cells #[.int .i64 0, .slice none 0 0, .slice none 0 0, .int .i64 0] 49) = W' := ⟨_, rfl⟩
            rw [qqV1_1] at hV1_1 A Ab ⊢
            have Alt := A.lt
            clear qqV1_1
            refine ordB_fork (opB_call rfl rfl (fun K hK => ?_)) (opB_call rfl rfl (fun K hK => ?_))
            · go_simp
              go_at_call 13
              refine (HBA.out _ hV1_1).mono ?_
              rintro e VA ⟨LA, LB, cA, cB, rfl, hsA, hsB, hkA, hbA, hoA, hoB⟩
              refine hK.out _ _ (hV1_1.trans (hbA.mono hV1_1.size)) (fun hV1_1_2 => ?_)
              have A := A.below hbA A.lt
              have hz_2 := hbA.size
              have huA := hsA.blkLt
              have huB := hsB.blkLt
              refine ordB_fork (opB_call rfl rfl (fun K hK => ?_)) (opB_call rfl rfl (fun K hK => ?_))
              · go_simp
                go_at_call 14
                refine (HBR.out _ hV1_1_2).mono ?_
                rintro e VC ⟨LC, LD, cC, cD, rfl, hsC, hsD, hkC, hbC, hoC, hoD⟩
                refine hK.out _ _ (hV1_1_2.trans (hbC.mono hV1_1_2.size)) (fun hV1_1_2_3 => ?_)
                have A := A.below hbC A.lt
                have hsA := hsA.below keeps_lk hbC
                have hsB := hsB.below keeps_int hbC
                have hz_3 := hbC.size
                have huC := hsC.blkLt
                have huD := hsD.blkLt
                refine ordB_only (opB_call rfl rfl (fun K hK => ?_))
                have A_B := Nat.ne_of_lt A.lt
                go_simp
                refine hK.out _ _ (hV1_1_2_3.alloc hV1_1_2_3.size _) (fun hV1_1_2_3_4 => ?_)
                have B := Blk.new VC 49 #[.int .i64 0, .slice none 0 0, .slice none 0 0, .int .i64 0]
                have Bb := nw (.cells #[.int .i64 0, .slice none 0 0, .slice none 0 0, .int .i64 0] 49) (Below.refl VC.heap.size VC)
                have Bg := hV1_1_2_3.size
                obtain ⟨VC_4, qqVC_4⟩ : ∃ W', VC.alloc (.cells #[.int .i64 0, .slice none 0 0, .slice none 0 0, .int .i64 0] 49) = W' := ⟨_, rfl⟩
                rw [qqVC_4] at hV1_1_2_3_4 B Bb ⊢
                have A := A.below Bb A.lt
                have hsA := hsA.below keeps_lk Bb
                have hsB := hsB.below keeps_int Bb
                have hsC := hsC.below keeps_lk Bb
                have hsD := hsD.below keeps_int Bb
                have Blt := B.lt
                clear qqVC_4
                refine ordB_only (opB_call rfl rfl (fun K hK => ?_))
                have Ac0 := A.cell 0
                have Af0 := A.frozen 0
                have Ac1 := A.cell 1
                have Af1 := A.frozen 1
                have Ac2 := A.cell 2
                have Af2 := A.frozen 2
                have Ac3 := A.cell 3
                have Af3 := A.frozen 3
                simp at Ac0 Ac1 Ac2 Ac3
                go_simp
                refine hK.out _ _ ((((hV1_1_2_3_4.setCell (p := ⟨V1.heap.size, 0, none⟩) Ag _).setCell (p := ⟨V1.heap.size, 1, none⟩) Ag _).setCell (p := ⟨V1.heap.size, 2, none⟩) Ag _).setCell (p := ⟨V1.heap.size, 3, none⟩) Ag _) (fun hV1_1_2_3_4_5 => ?_)
                have A := ((((A.set_ 0 (.int .i64 b.g.n)).set_ 1 (.slice LA b.g.ls.length cA)).set_ 2 (.slice LB b.last.length cB)).set_ 3 (.int .i64 b.e))
                have Bne : VC.heap.size ≠ V1.heap.size := by first | exact B_A | exact A_B.symm
                have B := ((((B.far (p := ⟨V1.heap.size, 0, none⟩) Bne (.int .i64 b.g.n)).far (p := ⟨V1.heap.size, 1, none⟩) Bne (.slice LA b.g.ls.length cA)).far (p := ⟨V1.heap.size, 2, none⟩) Bne (.slice LB b.last.length cB)).far (p := ⟨V1.heap.size, 3, none⟩) Bne (.int .i64 b.e))
                have hsAAne : ∀ a, LA = some a → b.g.ls ≠ [] → a.block ≠ V1.heap.size := fun a h hn => by have h1 := hoA a h; have h2 := huA hn a h; omega
                have hsA := ((((hsA.awayG lk_any (p := ⟨V1.heap.size, 0, none⟩) hsAAne (.int .i64 b.g.n)).awayG lk_any (p := ⟨V1.heap.size, 1, none⟩) hsAAne (.slice LA b.g.ls.length cA)).awayG lk_any (p := ⟨V1.heap.size, 2, none⟩) hsAAne (.slice LB b.last.length cB)).awayG lk_any (p := ⟨V1.heap.size, 3, none⟩) hsAAne (.int .i64 b.e))
                have hsBAne : ∀ a, LB = some a → b.last ≠ [] → a.block ≠ V1.heap.size := fun a h hn => by have h1 := hoB a h; have h2 := huB hn a h; omega
                have hsB := ((((hsB.awayG int_any_ (p := ⟨V1.heap.size, 0, none⟩) hsBAne (.int .i64 b.g.n)).awayG int_any_ (p := ⟨V1.heap.size, 1, none⟩) hsBAne (.slice LA b.g.ls.length cA)).awayG int_any_ (p := ⟨V1.heap.size, 2, none⟩) hsBAne (.slice LB b.last.length cB)).awayG int_any_ (p := ⟨V1.heap.size, 3, none⟩) hsBAne (.int .i64 b.e))
                have hsCAne : ∀ a, LC = some a → b.g.ls ≠ [] → a.block ≠ V1.heap.size := fun a h hn => by have h1 := hoC a h; have h2 := huC hn a h; omega
                have hsC := ((((hsC.awayG lk_any (p := ⟨V1.heap.size, 0, none⟩) hsCAne (.int .i64 b.g.n)).awayG lk_any (p := ⟨V1.heap.size, 1, none⟩) hsCAne (.slice LA b.g.ls.length cA)).awayG lk_any (p := ⟨V1.heap.size, 2, none⟩) hsCAne (.slice LB b.last.length cB)).awayG lk_any (p := ⟨V1.heap.size, 3, none⟩) hsCAne (.int .i64 b.e))
                have hsDAne : ∀ a, LD = some a → b.last ≠ [] → a.block ≠ V1.heap.size := fun a h hn => by have h1 := hoD a h; have h2 := huD hn a h; omega
                have hsD := ((((hsD.awayG int_any_ (p := ⟨V1.heap.size, 0, none⟩) hsDAne (.int .i64 b.g.n)).awayG int_any_ (p := ⟨V1.heap.size, 1, none⟩) hsDAne (.slice LA b.g.ls.length cA)).awayG int_any_ (p := ⟨V1.heap.size, 2, none⟩) hsDAne (.slice LB b.last.length cB)).awayG int_any_ (p := ⟨V1.heap.size, 3, none⟩) hsDAne (.int .i64 b.e))
                obtain ⟨VC_4_5, qqVC_4_5⟩ : ∃ W', ((((VC_4.setCell ⟨V1.heap.size, 0, none⟩ (.int .i64 b.g.n)).setCell ⟨V1.heap.size, 1, none⟩ (.slice LA b.g.ls.length cA)).setCell ⟨V1.heap.size, 2, none⟩ (.slice LB b.last.length cB)).setCell ⟨V1.heap.size, 3, none⟩ (.int .i64 b.e)) = W' := ⟨_, rfl⟩
                rw [qqVC_4_5] at hV1_1_2_3_4_5 A B hsA hsB hsC hsD ⊢
                clear qqVC_4_5 Ac0 Af0 Ac1 Af1 Ac2 Af2 Ac3 Af3
                refine ordB_only (opB_call rfl rfl (fun K hK => ?_))
                have Bc0 := B.cell 0
                have Bf0 := B.frozen 0
                have Bc1 := B.cell 1
                have Bf1 := B.frozen 1
                have Bc2 := B.cell 2
                have Bf2 := B.frozen 2
                have Bc3 := B.cell 3
                have Bf3 := B.frozen 3
                simp at Bc0 Bc1 Bc2 Bc3
                go_simp
                refine hK.out _ _ ((((hV1_1_2_3_4_5.setCell (p := ⟨VC.heap.size, 0, none⟩) Bg _).setCell (p := ⟨VC.heap.size, 1, none⟩) Bg _).setCell (p := ⟨VC.heap.size, 2, none⟩) Bg _).setCell (p := ⟨VC.heap.size, 3, none⟩) Bg _) (fun hV1_1_2_3_4_5_6 => ?_)
                have B := ((((B.set_ 0 (.int .i64 b.g.n)).set_ 1 (.slice LC b.g.ls.length cC)).set_ 2 (.slice LD b.last.length cD)).set_ 3 (.int .i64 b.e))
                have Ane : V1.heap.size ≠ VC.heap.size := by first | exact A_B | exact B_A.symm
                have A := ((((A.far (p := ⟨VC.heap.size, 0, none⟩) Ane (.int .i64 b.g.n)).far (p := ⟨VC.heap.size, 1, none⟩) Ane (.slice LC b.g.ls.length cC)).far (p := ⟨VC.heap.size, 2, none⟩) Ane (.slice LD b.last.length cD)).far (p := ⟨VC.heap.size, 3, none⟩) Ane (.int .i64 b.e))
                have hsABne : ∀ a, LA = some a → b.g.ls ≠ [] → a.block ≠ VC.heap.size := fun a h hn => by have h1 := hoA a h; have h2 := huA hn a h; omega
                have hsA := ((((hsA.awayG lk_any (p := ⟨VC.heap.size, 0, none⟩) hsABne (.int .i64 b.g.n)).awayG lk_any (p := ⟨VC.heap.size, 1, none⟩) hsABne (.slice LC b.g.ls.length cC)).awayG lk_any (p := ⟨VC.heap.size, 2, none⟩) hsABne (.slice LD b.last.length cD)).awayG lk_any (p := ⟨VC.heap.size, 3, none⟩) hsABne (.int .i64 b.e))
                have hsBBne : ∀ a, LB = some a → b.last ≠ [] → a.block ≠ VC.heap.size := fun a h hn => by have h1 := hoB a h; have h2 := huB hn a h; omega
                have hsB := ((((hsB.awayG int_any_ (p := ⟨VC.heap.size, 0, none⟩) hsBBne (.int .i64 b.g.n)).awayG int_any_ (p := ⟨VC.heap.size, 1, none⟩) hsBBne (.slice LC b.g.ls.length cC)).awayG int_any_ (p := ⟨VC.heap.size, 2, none⟩) hsBBne (.slice LD b.last.length cD)).awayG int_any_ (p := ⟨VC.heap.size, 3, none⟩) hsBBne (.int .i64 b.e))
                have hsCBne : ∀ a, LC = some a → b.g.ls ≠ [] → a.block ≠ VC.heap.size := fun a h hn => by have h1 := hoC a h; have h2 := huC hn a h; omega
                have hsC := ((((hsC.awayG lk_any (p := ⟨VC.heap.size, 0, none⟩) hsCBne (.int .i64 b.g.n)).awayG lk_any (p := ⟨VC.heap.size, 1, none⟩) hsCBne (.slice LC b.g.ls.length cC)).awayG lk_any (p := ⟨VC.heap.size, 2, none⟩) hsCBne (.slice LD b.last.length cD)).awayG lk_any (p := ⟨VC.heap.size, 3, none⟩) hsCBne (.int .i64 b.e))
                have hsDBne : ∀ a, LD = some a → b.last ≠ [] → a.block ≠ VC.heap.size := fun a h hn => by have h1 := hoD a h; have h2 := huD hn a h; omega
                have hsD := ((((hsD.awayG int_any_ (p := ⟨VC.heap.size, 0, none⟩) hsDBne (.int .i64 b.g.n)).awayG int_any_ (p := ⟨VC.heap.size, 1, none⟩) hsDBne (.slice LC b.g.ls.length cC)).awayG int_any_ (p := ⟨VC.heap.size, 2, none⟩) hsDBne (.slice LD b.last.length cD)).awayG int_any_ (p := ⟨VC.heap.size, 3, none⟩) hsDBne (.int .i64 b.e))
                obtain ⟨VC_4_5_6, qqVC_4_5_6⟩ : ∃ W', ((((VC_4_5.setCell ⟨VC.heap.size, 0, none⟩ (.int .i64 b.g.n)).setCell ⟨VC.heap.size, 1, none⟩ (.slice LC b.g.ls.length cC)).setCell ⟨VC.heap.size, 2, none⟩ (.slice LD b.last.length cD)).setCell ⟨VC.heap.size, 3, none⟩ (.int .i64 b.e)) = W' := ⟨_, rfl⟩
                rw [qqVC_4_5_6] at hV1_1_2_3_4_5_6 B A hsA hsB hsC hsD ⊢
                clear qqVC_4_5_6 Bc0 Bf0 Bc1 Bf1 Bc2 Bf2 Bc3 Bf3
                refine ordB_nil ?_
                go_wp2_with fail
                go_meet
                have A2 : Blk VC_4_5_6 V1.heap.size 49 #[.int .i64 b.g.n, .slice LA b.g.ls.length cA, .slice LB b.last.length cB, .int .i64 b.e] := by simpa using A
                have B2' : Blk VC_4_5_6 VC.heap.size 49 #[.int .i64 b.g.n, .slice LC b.g.ls.length cC, .slice LD b.last.length cD, .int .i64 b.e] := by simpa using B
                exact ⟨_, _, LA, LB, LC, LD, cA, cB, cC, cD, rfl, rfl, ⟨A2, hsA, hsB, hkA⟩, ⟨B2', hsC, hsD, hkC⟩, hV1_1_2_3_4_5_6⟩
              · have A_B := Nat.ne_of_lt A.lt
                go_simp
                refine hK.out _ _ (hV1_1_2.alloc hV1_1_2.size _) (fun hV1_1_2_3 => ?_)
                have B := Blk.new VA 49 #[.int .i64 0, .slice none 0 0, .slice none 0 0, .int .i64 0]
                have Bb := nw (.cells #[.int .i64 0, .slice none 0 0, .slice none 0 0, .int .i64 0] 49) (Below.refl VA.heap.size VA)
                have Bg := hV1_1_2.size
                obtain ⟨VA_3, qqVA_3⟩ : ∃ W', VA.alloc (.cells #[.int .i64 0, .slice none 0 0, .slice none 0 0, .int .i64 0] 49) = W' := ⟨_, rfl⟩
                rw [qqVA_3] at hV1_1_2_3 B Bb ⊢
                have A := A.below Bb A.lt
                have hsA := hsA.below keeps_lk Bb
                have hsB := hsB.below keeps_int Bb
                have Blt := B.lt
                clear qqVA_3
                refine ordB_only (opB_call rfl rfl (fun K hK => ?_))
                go_simp
                go_at_call 14
                refine (HBR.out _ hV1_1_2_3).mono ?_
                rintro e VC ⟨LC, LD, cC, cD, rfl, hsC, hsD, hkC, hbC, hoC, hoD⟩
                refine hK.out _ _ (hV1_1_2_3.trans (hbC.mono hV1_1_2_3.size)) (fun hV1_1_2_3_4 => ?_)
                have A := A.below hbC A.lt
                have B := B.below hbC B.lt
                have hsA := hsA.below keeps_lk hbC
                have hsB := hsB.below keeps_int hbC
                have hz_4 := hbC.size
                have huC := hsC.blkLt
                have huD := hsD.blkLt
                refine ordB_only (opB_call rfl rfl (fun K hK => ?_))
                have Ac0 := A.cell 0
                have Af0 := A.frozen 0
                have Ac1 := A.cell 1
                have Af1 := A.frozen 1
                have Ac2 := A.cell 2
                have Af2 := A.frozen 2
                have Ac3 := A.cell 3
                have Af3 := A.frozen 3
                simp at Ac0 Ac1 Ac2 Ac3
                go_simp
                refine hK.out _ _ ((((hV1_1_2_3_4.setCell (p := ⟨V1.heap.size, 0, none⟩) Ag _).setCell (p := ⟨V1.heap.size, 1, none⟩) Ag _).setCell (p := ⟨V1.heap.size, 2, none⟩) Ag _).setCell (p := ⟨V1.heap.size, 3, none⟩) Ag _) (fun hV1_1_2_3_4_5 => ?_)
                have A := ((((A.set_ 0 (.int .i64 b.g.n)).set_ 1 (.slice LA b.g.ls.length cA)).set_ 2 (.slice LB b.last.length cB)).set_ 3 (.int .i64 b.e))
                have Bne : VA.heap.size ≠ V1.heap.size := by first | exact B_A | exact A_B.symm
                have B := ((((B.far (p := ⟨V1.heap.size, 0, none⟩) Bne (.int .i64 b.g.n)).far (p := ⟨V1.heap.size, 1, none⟩) Bne (.slice LA b.g.ls.length cA)).far (p := ⟨V1.heap.size, 2, none⟩) Bne (.slice LB b.last.length cB)).far (p := ⟨V1.heap.size, 3, none⟩) Bne (.int .i64 b.e))
                have hsAAne : ∀ a, LA = some a → b.g.ls ≠ [] → a.block ≠ V1.heap.size := fun a h hn => by have h1 := hoA a h; have h2 := huA hn a h; omega
                have hsA := ((((hsA.awayG lk_any (p := ⟨V1.heap.size, 0, none⟩) hsAAne (.int .i64 b.g.n)).awayG lk_any (p := ⟨V1.heap.size, 1, none⟩) hsAAne (.slice LA b.g.ls.length cA)).awayG lk_any (p := ⟨V1.heap.size, 2, none⟩) hsAAne (.slice LB b.last.length cB)).awayG lk_any (p := ⟨V1.heap.size, 3, none⟩) hsAAne (.int .i64 b.e))
                have hsBAne : ∀ a, LB = some a → b.last ≠ [] → a.block ≠ V1.heap.size := fun a h hn => by have h1 := hoB a h; have h2 := huB hn a h; omega
                have hsB := ((((hsB.awayG int_any_ (p := ⟨V1.heap.size, 0, none⟩) hsBAne (.int .i64 b.g.n)).awayG int_any_ (p := ⟨V1.heap.size, 1, none⟩) hsBAne (.slice LA b.g.ls.length cA)).awayG int_any_ (p := ⟨V1.heap.size, 2, none⟩) hsBAne (.slice LB b.last.length cB)).awayG int_any_ (p := ⟨V1.heap.size, 3, none⟩) hsBAne (.int .i64 b.e))
                have hsCAne : ∀ a, LC = some a → b.g.ls ≠ [] → a.block ≠ V1.heap.size := fun a h hn => by have h1 := hoC a h; have h2 := huC hn a h; omega
                have hsC := ((((hsC.awayG lk_any (p := ⟨V1.heap.size, 0, none⟩) hsCAne (.int .i64 b.g.n)).awayG lk_any (p := ⟨V1.heap.size, 1, none⟩) hsCAne (.slice LA b.g.ls.length cA)).awayG lk_any (p := ⟨V1.heap.size, 2, none⟩) hsCAne (.slice LB b.last.length cB)).awayG lk_any (p := ⟨V1.heap.size, 3, none⟩) hsCAne (.int .i64 b.e))
                have hsDAne : ∀ a, LD = some a → b.last ≠ [] → a.block ≠ V1.heap.size := fun a h hn => by have h1 := hoD a h; have h2 := huD hn a h; omega
                have hsD := ((((hsD.awayG int_any_ (p := ⟨V1.heap.size, 0, none⟩) hsDAne (.int .i64 b.g.n)).awayG int_any_ (p := ⟨V1.heap.size, 1, none⟩) hsDAne (.slice LA b.g.ls.length cA)).awayG int_any_ (p := ⟨V1.heap.size, 2, none⟩) hsDAne (.slice LB b.last.length cB)).awayG int_any_ (p := ⟨V1.heap.size, 3, none⟩) hsDAne (.int .i64 b.e))
                obtain ⟨VC_5, qqVC_5⟩ : ∃ W', ((((VC.setCell ⟨V1.heap.size, 0, none⟩ (.int .i64 b.g.n)).setCell ⟨V1.heap.size, 1, none⟩ (.slice LA b.g.ls.length cA)).setCell ⟨V1.heap.size, 2, none⟩ (.slice LB b.last.length cB)).setCell ⟨V1.heap.size, 3, none⟩ (.int .i64 b.e)) = W' := ⟨_, rfl⟩
                rw [qqVC_5] at hV1_1_2_3_4_5 A B hsA hsB hsC hsD ⊢
                clear qqVC_5 Ac0 Af0 Ac1 Af1 Ac2 Af2 Ac3 Af3
                refine ordB_only (opB_call rfl rfl (fun K hK => ?_))
                have Bc0 := B.cell 0
                have Bf0 := B.frozen 0
                have Bc1 := B.cell 1
                have Bf1 := B.frozen 1
                have Bc2 := B.cell 2
                have Bf2 := B.frozen 2
                have Bc3 := B.cell 3
                have Bf3 := B.frozen 3
                simp at Bc0 Bc1 Bc2 Bc3
                go_simp
                refine hK.out _ _ ((((hV1_1_2_3_4_5.setCell (p := ⟨VA.heap.size, 0, none⟩) Bg _).setCell (p := ⟨VA.heap.size, 1, none⟩) Bg _).setCell (p := ⟨VA.heap.size, 2, none⟩) Bg _).setCell (p := ⟨VA.heap.size, 3, none⟩) Bg _) (fun hV1_1_2_3_4_5_6 => ?_)
                have B := ((((B.set_ 0 (.int .i64 b.g.n)).set_ 1 (.slice LC b.g.ls.length cC)).set_ 2 (.slice LD b.last.length cD)).set_ 3 (.int .i64 b.e))
                have Ane : V1.heap.size ≠ VA.heap.size := by first | exact A_B | exact B_A.symm
                have A := ((((A.far (p := ⟨VA.heap.size, 0, none⟩) Ane (.int .i64 b.g.n)).far (p := ⟨VA.heap.size, 1, none⟩) Ane (.slice LC b.g.ls.length cC)).far (p := ⟨VA.heap.size, 2, none⟩) Ane (.slice LD b.last.length cD)).far (p := ⟨VA.heap.size, 3, none⟩) Ane (.int .i64 b.e))
                have hsABne : ∀ a, LA = some a → b.g.ls ≠ [] → a.block ≠ VA.heap.size := fun a h hn => by have h1 := hoA a h; have h2 := huA hn a h; omega
                have hsA := ((((hsA.awayG lk_any (p := ⟨VA.heap.size, 0, none⟩) hsABne (.int .i64 b.g.n)).awayG lk_any (p := ⟨VA.heap.size, 1, none⟩) hsABne (.slice LC b.g.ls.length cC)).awayG lk_any (p := ⟨VA.heap.size, 2, none⟩) hsABne (.slice LD b.last.length cD)).awayG lk_any (p := ⟨VA.heap.size, 3, none⟩) hsABne (.int .i64 b.e))
                have hsBBne : ∀ a, LB = some a → b.last ≠ [] → a.block ≠ VA.heap.size := fun a h hn => by have h1 := hoB a h; have h2 := huB hn a h; omega
                have hsB := ((((hsB.awayG int_any_ (p := ⟨VA.heap.size, 0, none⟩) hsBBne (.int .i64 b.g.n)).awayG int_any_ (p := ⟨VA.heap.size, 1, none⟩) hsBBne (.slice LC b.g.ls.length cC)).awayG int_any_ (p := ⟨VA.heap.size, 2, none⟩) hsBBne (.slice LD b.last.length cD)).awayG int_any_ (p := ⟨VA.heap.size, 3, none⟩) hsBBne (.int .i64 b.e))
                have hsCBne : ∀ a, LC = some a → b.g.ls ≠ [] → a.block ≠ VA.heap.size := fun a h hn => by have h1 := hoC a h; have h2 := huC hn a h; omega
                have hsC := ((((hsC.awayG lk_any (p := ⟨VA.heap.size, 0, none⟩) hsCBne (.int .i64 b.g.n)).awayG lk_any (p := ⟨VA.heap.size, 1, none⟩) hsCBne (.slice LC b.g.ls.length cC)).awayG lk_any (p := ⟨VA.heap.size, 2, none⟩) hsCBne (.slice LD b.last.length cD)).awayG lk_any (p := ⟨VA.heap.size, 3, none⟩) hsCBne (.int .i64 b.e))
                have hsDBne : ∀ a, LD = some a → b.last ≠ [] → a.block ≠ VA.heap.size := fun a h hn => by have h1 := hoD a h; have h2 := huD hn a h; omega
                have hsD := ((((hsD.awayG int_any_ (p := ⟨VA.heap.size, 0, none⟩) hsDBne (.int .i64 b.g.n)).awayG int_any_ (p := ⟨VA.heap.size, 1, none⟩) hsDBne (.slice LC b.g.ls.length cC)).awayG int_any_ (p := ⟨VA.heap.size, 2, none⟩) hsDBne (.slice LD b.last.length cD)).awayG int_any_ (p := ⟨VA.heap.size, 3, none⟩) hsDBne (.int .i64 b.e))
                obtain ⟨VC_5_6, qqVC_5_6⟩ : ∃ W', ((((VC_5.setCell ⟨VA.heap.size, 0, none⟩ (.int .i64 b.g.n)).setCell ⟨VA.heap.size, 1, none⟩ (.slice LC b.g.ls.length cC)).setCell ⟨VA.heap.size, 2, none⟩ (.slice LD b.last.length cD)).setCell ⟨VA.heap.size, 3, none⟩ (.int .i64 b.e)) = W' := ⟨_, rfl⟩
                rw [qqVC_5_6] at hV1_1_2_3_4_5_6 B A hsA hsB hsC hsD ⊢
                clear qqVC_5_6 Bc0 Bf0 Bc1 Bf1 Bc2 Bf2 Bc3 Bf3
                refine ordB_nil ?_
                go_wp2_with fail
                go_meet
                have A2 : Blk VC_5_6 V1.heap.size 49 #[.int .i64 b.g.n, .slice LA b.g.ls.length cA, .slice LB b.last.length cB, .int .i64 b.e] := by simpa using A
                have B2' : Blk VC_5_6 VA.heap.size 49 #[.int .i64 b.g.n, .slice LC b.g.ls.length cC, .slice LD b.last.length cD, .int .i64 b.e] := by simpa using B
                exact ⟨_, _, LA, LB, LC, LD, cA, cB, cC, cD, rfl, rfl, ⟨A2, hsA, hsB, hkA⟩, ⟨B2', hsC, hsD, hkC⟩, hV1_1_2_3_4_5_6⟩
            · have A_B := Nat.ne_of_lt A.lt
              go_simp
              refine hK.out _ _ (hV1_1.alloc hV1_1.size _) (fun hV1_1_2 => ?_)
              have B := Blk.new V1_1 49 #[.int .i64 0, .slice none 0 0, .slice none 0 0, .int .i64 0]
              have Bb := nw (.cells #[.int .i64 0, .slice none 0 0, .slice none 0 0, .int .i64 0] 49) (Below.refl V1_1.heap.size V1_1)
              have Bg := hV1_1.size
              obtain ⟨V1_1_2, qqV1_1_2⟩ : ∃ W', V1_1.alloc (.cells #[.int .i64 0, .slice none 0 0, .slice none 0 0, .int .i64 0] 49) = W' := ⟨_, rfl⟩
              rw [qqV1_1_2] at hV1_1_2 B Bb ⊢
              have A := A.below Bb A.lt
              have Blt := B.lt
              clear qqV1_1_2
              refine ordB_only (opB_call rfl rfl (fun K hK => ?_))
              go_simp
              go_at_call 13
              refine (HBA.out _ hV1_1_2).mono ?_
              rintro e VA ⟨LA, LB, cA, cB, rfl, hsA, hsB, hkA, hbA, hoA, hoB⟩
              refine hK.out _ _ (hV1_1_2.trans (hbA.mono hV1_1_2.size)) (fun hV1_1_2_3 => ?_)
              have A := A.below hbA A.lt
              have B := B.below hbA B.lt
              have hz_3 := hbA.size
              have huA := hsA.blkLt
              have huB := hsB.blkLt
              refine ordB_only (opB_call rfl rfl (fun K hK => ?_))
              go_simp
              go_at_call 14
              refine (HBR.out _ hV1_1_2_3).mono ?_
              rintro e VC ⟨LC, LD, cC, cD, rfl, hsC, hsD, hkC, hbC, hoC, hoD⟩
              refine hK.out _ _ (hV1_1_2_3.trans (hbC.mono hV1_1_2_3.size)) (fun hV1_1_2_3_4 => ?_)
              have A := A.below hbC A.lt
              have B := B.below hbC B.lt
              have hsA := hsA.below keeps_lk hbC
              have hsB := hsB.below keeps_int hbC
              have hz_4 := hbC.size
              have huC := hsC.blkLt
              have huD := hsD.blkLt
              refine ordB_only (opB_call rfl rfl (fun K hK => ?_))
              have Ac0 := A.cell 0
              have Af0 := A.frozen 0
              have Ac1 := A.cell 1
              have Af1 := A.frozen 1
              have Ac2 := A.cell 2
              have Af2 := A.frozen 2
              have Ac3 := A.cell 3
              have Af3 := A.frozen 3
              simp at Ac0 Ac1 Ac2 Ac3
              go_simp
              refine hK.out _ _ ((((hV1_1_2_3_4.setCell (p := ⟨V1.heap.size, 0, none⟩) Ag _).setCell (p := ⟨V1.heap.size, 1, none⟩) Ag _).setCell (p := ⟨V1.heap.size, 2, none⟩) Ag _).setCell (p := ⟨V1.heap.size, 3, none⟩) Ag _) (fun hV1_1_2_3_4_5 => ?_)
              have A := ((((A.set_ 0 (.int .i64 b.g.n)).set_ 1 (.slice LA b.g.ls.length cA)).set_ 2 (.slice LB b.last.length cB)).set_ 3 (.int .i64 b.e))
              have Bne : V1_1.heap.size ≠ V1.heap.size := by first | exact B_A | exact A_B.symm
              have B := ((((B.far (p := ⟨V1.heap.size, 0, none⟩) Bne (.int .i64 b.g.n)).far (p := ⟨V1.heap.size, 1, none⟩) Bne (.slice LA b.g.ls.length cA)).far (p := ⟨V1.heap.size, 2, none⟩) Bne (.slice LB b.last.length cB)).far (p := ⟨V1.heap.size, 3, none⟩) Bne (.int .i64 b.e))
              have hsAAne : ∀ a, LA = some a → b.g.ls ≠ [] → a.block ≠ V1.heap.size := fun a h hn => by have h1 := hoA a h; have h2 := huA hn a h; omega
              have hsA := ((((hsA.awayG lk_any (p := ⟨V1.heap.size, 0, none⟩) hsAAne (.int .i64 b.g.n)).awayG lk_any (p := ⟨V1.heap.size, 1, none⟩) hsAAne (.slice LA b.g.ls.length cA)).awayG lk_any (p := ⟨V1.heap.size, 2, none⟩) hsAAne (.slice LB b.last.length cB)).awayG lk_any (p := ⟨V1.heap.size, 3, none⟩) hsAAne (.int .i64 b.e))
              have hsBAne : ∀ a, LB = some a → b.last ≠ [] → a.block ≠ V1.heap.size := fun a h hn => by have h1 := hoB a h; have h2 := huB hn a h; omega
              have hsB := ((((hsB.awayG int_any_ (p := ⟨V1.heap.size, 0, none⟩) hsBAne (.int .i64 b.g.n)).awayG int_any_ (p := ⟨V1.heap.size, 1, none⟩) hsBAne (.slice LA b.g.ls.length cA)).awayG int_any_ (p := ⟨V1.heap.size, 2, none⟩) hsBAne (.slice LB b.last.length cB)).awayG int_any_ (p := ⟨V1.heap.size, 3, none⟩) hsBAne (.int .i64 b.e))
              have hsCAne : ∀ a, LC = some a → b.g.ls ≠ [] → a.block ≠ V1.heap.size := fun a h hn => by have h1 := hoC a h; have h2 := huC hn a h; omega
              have hsC := ((((hsC.awayG lk_any (p := ⟨V1.heap.size, 0, none⟩) hsCAne (.int .i64 b.g.n)).awayG lk_any (p := ⟨V1.heap.size, 1, none⟩) hsCAne (.slice LA b.g.ls.length cA)).awayG lk_any (p := ⟨V1.heap.size, 2, none⟩) hsCAne (.slice LB b.last.length cB)).awayG lk_any (p := ⟨V1.heap.size, 3, none⟩) hsCAne (.int .i64 b.e))
              have hsDAne : ∀ a, LD = some a → b.last ≠ [] → a.block ≠ V1.heap.size := fun a h hn => by have h1 := hoD a h; have h2 := huD hn a h; omega
              have hsD := ((((hsD.awayG int_any_ (p := ⟨V1.heap.size, 0, none⟩) hsDAne (.int .i64 b.g.n)).awayG int_any_ (p := ⟨V1.heap.size, 1, none⟩) hsDAne (.slice LA b.g.ls.length cA)).awayG int_any_ (p := ⟨V1.heap.size, 2, none⟩) hsDAne (.slice LB b.last.length cB)).awayG int_any_ (p := ⟨V1.heap.size, 3, none⟩) hsDAne (.int .i64 b.e))
              obtain ⟨VC_5, qqVC_5⟩ : ∃ W', ((((VC.setCell ⟨V1.heap.size, 0, none⟩ (.int .i64 b.g.n)).setCell ⟨V1.heap.size, 1, none⟩ (.slice LA b.g.ls.length cA)).setCell ⟨V1.heap.size, 2, none⟩ (.slice LB b.last.length cB)).setCell ⟨V1.heap.size, 3, none⟩ (.int .i64 b.e)) = W' := ⟨_, rfl⟩
              rw [qqVC_5] at hV1_1_2_3_4_5 A B hsA hsB hsC hsD ⊢
              clear qqVC_5 Ac0 Af0 Ac1 Af1 Ac2 Af2 Ac3 Af3
              refine ordB_only (opB_call rfl rfl (fun K hK => ?_))
              have Bc0 := B.cell 0
              have Bf0 := B.frozen 0
              have Bc1 := B.cell 1
              have Bf1 := B.frozen 1
              have Bc2 := B.cell 2
              have Bf2 := B.frozen 2
              have Bc3 := B.cell 3
              have Bf3 := B.frozen 3
              simp at Bc0 Bc1 Bc2 Bc3
              go_simp
              refine hK.out _ _ ((((hV1_1_2_3_4_5.setCell (p := ⟨V1_1.heap.size, 0, none⟩) Bg _).setCell (p := ⟨V1_1.heap.size, 1, none⟩) Bg _).setCell (p := ⟨V1_1.heap.size, 2, none⟩) Bg _).setCell (p := ⟨V1_1.heap.size, 3, none⟩) Bg _) (fun hV1_1_2_3_4_5_6 => ?_)
              have B := ((((B.set_ 0 (.int .i64 b.g.n)).set_ 1 (.slice LC b.g.ls.length cC)).set_ 2 (.slice LD b.last.length cD)).set_ 3 (.int .i64 b.e))
              have Ane : V1.heap.size ≠ V1_1.heap.size := by first | exact A_B | exact B_A.symm
              have A := ((((A.far (p := ⟨V1_1.heap.size, 0, none⟩) Ane (.int .i64 b.g.n)).far (p := ⟨V1_1.heap.size, 1, none⟩) Ane (.slice LC b.g.ls.length cC)).far (p := ⟨V1_1.heap.size, 2, none⟩) Ane (.slice LD b.last.length cD)).far (p := ⟨V1_1.heap.size, 3, none⟩) Ane (.int .i64 b.e))
              have hsABne : ∀ a, LA = some a → b.g.ls ≠ [] → a.block ≠ V1_1.heap.size := fun a h hn => by have h1 := hoA a h; have h2 := huA hn a h; omega
              have hsA := ((((hsA.awayG lk_any (p := ⟨V1_1.heap.size, 0, none⟩) hsABne (.int .i64 b.g.n)).awayG lk_any (p := ⟨V1_1.heap.size, 1, none⟩) hsABne (.slice LC b.g.ls.length cC)).awayG lk_any (p := ⟨V1_1.heap.size, 2, none⟩) hsABne (.slice LD b.last.length cD)).awayG lk_any (p := ⟨V1_1.heap.size, 3, none⟩) hsABne (.int .i64 b.e))
              have hsBBne : ∀ a, LB = some a → b.last ≠ [] → a.block ≠ V1_1.heap.size := fun a h hn => by have h1 := hoB a h; have h2 := huB hn a h; omega
              have hsB := ((((hsB.awayG int_any_ (p := ⟨V1_1.heap.size, 0, none⟩) hsBBne (.int .i64 b.g.n)).awayG int_any_ (p := ⟨V1_1.heap.size, 1, none⟩) hsBBne (.slice LC b.g.ls.length cC)).awayG int_any_ (p := ⟨V1_1.heap.size, 2, none⟩) hsBBne (.slice LD b.last.length cD)).awayG int_any_ (p := ⟨V1_1.heap.size, 3, none⟩) hsBBne (.int .i64 b.e))
              have hsCBne : ∀ a, LC = some a → b.g.ls ≠ [] → a.block ≠ V1_1.heap.size := fun a h hn => by have h1 := hoC a h; have h2 := huC hn a h; omega
              have hsC := ((((hsC.awayG lk_any (p := ⟨V1_1.heap.size, 0, none⟩) hsCBne (.int .i64 b.g.n)).awayG lk_any (p := ⟨V1_1.heap.size, 1, none⟩) hsCBne (.slice LC b.g.ls.length cC)).awayG lk_any (p := ⟨V1_1.heap.size, 2, none⟩) hsCBne (.slice LD b.last.length cD)).awayG lk_any (p := ⟨V1_1.heap.size, 3, none⟩) hsCBne (.int .i64 b.e))
              have hsDBne : ∀ a, LD = some a → b.last ≠ [] → a.block ≠ V1_1.heap.size := fun a h hn => by have h1 := hoD a h; have h2 := huD hn a h; omega
              have hsD := ((((hsD.awayG int_any_ (p := ⟨V1_1.heap.size, 0, none⟩) hsDBne (.int .i64 b.g.n)).awayG int_any_ (p := ⟨V1_1.heap.size, 1, none⟩) hsDBne (.slice LC b.g.ls.length cC)).awayG int_any_ (p := ⟨V1_1.heap.size, 2, none⟩) hsDBne (.slice LD b.last.length cD)).awayG int_any_ (p := ⟨V1_1.heap.size, 3, none⟩) hsDBne (.int .i64 b.e))
              obtain ⟨VC_5_6, qqVC_5_6⟩ : ∃ W', ((((VC_5.setCell ⟨V1_1.heap.size, 0, none⟩ (.int .i64 b.g.n)).setCell ⟨V1_1.heap.size, 1, none⟩ (.slice LC b.g.ls.length cC)).setCell ⟨V1_1.heap.size, 2, none⟩ (.slice LD b.last.length cD)).setCell ⟨V1_1.heap.size, 3, none⟩ (.int .i64 b.e)) = W' := ⟨_, rfl⟩
              rw [qqVC_5_6] at hV1_1_2_3_4_5_6 B A hsA hsB hsC hsD ⊢
              clear qqVC_5_6 Bc0 Bf0 Bc1 Bf1 Bc2 Bf2 Bc3 Bf3
              refine ordB_nil ?_
              go_wp2_with fail
              go_meet
              have A2 : Blk VC_5_6 V1.heap.size 49 #[.int .i64 b.g.n, .slice LA b.g.ls.length cA, .slice LB b.last.length cB, .int .i64 b.e] := by simpa using A
              have B2' : Blk VC_5_6 V1_1.heap.size 49 #[.int .i64 b.g.n, .slice LC b.g.ls.length cC, .slice LD b.last.length cD, .int .i64 b.e] := by simpa using B
              exact ⟨_, _, LA, LB, LC, LD, cA, cB, cC, cD, rfl, rfl, ⟨A2, hsA, hsB, hkA⟩, ⟨B2', hsC, hsD, hkC⟩, hV1_1_2_3_4_5_6⟩
          · go_simp
            refine hK.out _ _ (hV1.alloc hV1.size _) (fun hV1_1 => ?_)
            have B := Blk.new V1 49 #[.int .i64 0, .slice none 0 0, .slice none 0 0, .int .i64 0]
            have Bb := nw (.cells #[.int .i64 0, .slice none 0 0, .slice none 0 0, .int .i64 0] 49) (Below.refl V1.heap.size V1)
            have Bg := hV1.size
            obtain ⟨V1_1, qqV1_1⟩ : ∃ W', V1.alloc (.cells #[.int .i64 0, .slice none 0 0, .slice none 0 0, .int .i64 0] 49) = W' := ⟨_, rfl⟩
            rw [qqV1_1] at hV1_1 B Bb ⊢
            have Blt := B.lt
            clear qqV1_1
            refine ordB_fork (opB_call rfl rfl (fun K hK => ?_)) (opB_call rfl rfl (fun K hK => ?_))
            · go_simp
              go_at_call 13
              refine (HBA.out _ hV1_1).mono ?_
              rintro e VA ⟨LA, LB, cA, cB, rfl, hsA, hsB, hkA, hbA, hoA, hoB⟩
              refine hK.out _ _ (hV1_1.trans (hbA.mono hV1_1.size)) (fun hV1_1_2 => ?_)
              have B := B.below hbA B.lt
              have hz_2 := hbA.size
              have huA := hsA.blkLt
              have huB := hsB.blkLt
              refine ordB_fork (opB_call rfl rfl (fun K hK => ?_)) (opB_call rfl rfl (fun K hK => ?_))
              · go_simp
                go_at_call 14
                refine (HBR.out _ hV1_1_2).mono ?_
                rintro e VC ⟨LC, LD, cC, cD, rfl, hsC, hsD, hkC, hbC, hoC, hoD⟩
                refine hK.out _ _ (hV1_1_2.trans (hbC.mono hV1_1_2.size)) (fun hV1_1_2_3 => ?_)
                have B := B.below hbC B.lt
                have hsA := hsA.below keeps_lk hbC
                have hsB := hsB.below keeps_int hbC
                have hz_3 := hbC.size
                have huC := hsC.blkLt
                have huD := hsD.blkLt
                refine ordB_only (opB_call rfl rfl (fun K hK => ?_))
                have B_A := Nat.ne_of_lt B.lt
                go_simp
                refine hK.out _ _ (hV1_1_2_3.alloc hV1_1_2_3.size _) (fun hV1_1_2_3_4 => ?_)
                have A := Blk.new VC 49 #[.int .i64 0, .slice none 0 0, .slice none 0 0, .int .i64 0]
                have Ab := nw (.cells #[.int .i64 0, .slice none 0 0, .slice none 0 0, .int .i64 0] 49) (Below.refl VC.heap.size VC)
                have Ag := hV1_1_2_3.size
                obtain ⟨VC_4, qqVC_4⟩ : ∃ W', VC.alloc (.cells #[.int .i64 0, .slice none 0 0, .slice none 0 0, .int .i64 0] 49) = W' := ⟨_, rfl⟩
                rw [qqVC_4] at hV1_1_2_3_4 A Ab ⊢
                have B := B.below Ab B.lt
                have hsA := hsA.below keeps_lk Ab
                have hsB := hsB.below keeps_int Ab
                have hsC := hsC.below keeps_lk Ab
                have hsD := hsD.below keeps_int Ab
                have Alt := A.lt
                clear qqVC_4
                refine ordB_only (opB_call rfl rfl (fun K hK => ?_))
                have Ac0 := A.cell 0
                have Af0 := A.frozen 0
                have Ac1 := A.cell 1
                have Af1 := A.frozen 1
                have Ac2 := A.cell 2
                have Af2 := A.frozen 2
                have Ac3 := A.cell 3
                have Af3 := A.frozen 3
                simp at Ac0 Ac1 Ac2 Ac3
                go_simp
                refine hK.out _ _ ((((hV1_1_2_3_4.setCell (p := ⟨VC.heap.size, 0, none⟩) Ag _).setCell (p := ⟨VC.heap.size, 1, none⟩) Ag _).setCell (p := ⟨VC.heap.size, 2, none⟩) Ag _).setCell (p := ⟨VC.heap.size, 3, none⟩) Ag _) (fun hV1_1_2_3_4_5 => ?_)
                have A := ((((A.set_ 0 (.int .i64 b.g.n)).set_ 1 (.slice LA b.g.ls.length cA)).set_ 2 (.slice LB b.last.length cB)).set_ 3 (.int .i64 b.e))
                have Bne : V1.heap.size ≠ VC.heap.size := by first | exact B_A | exact A_B.symm
                have B := ((((B.far (p := ⟨VC.heap.size, 0, none⟩) Bne (.int .i64 b.g.n)).far (p := ⟨VC.heap.size, 1, none⟩) Bne (.slice LA b.g.ls.length cA)).far (p := ⟨VC.heap.size, 2, none⟩) Bne (.slice LB b.last.length cB)).far (p := ⟨VC.heap.size, 3, none⟩) Bne (.int .i64 b.e))
                have hsAAne : ∀ a, LA = some a → b.g.ls ≠ [] → a.block ≠ VC.heap.size := fun a h hn => by have h1 := hoA a h; have h2 := huA hn a h; omega
                have hsA := ((((hsA.awayG lk_any (p := ⟨VC.heap.size, 0, none⟩) hsAAne (.int .i64 b.g.n)).awayG lk_any (p := ⟨VC.heap.size, 1, none⟩) hsAAne (.slice LA b.g.ls.length cA)).awayG lk_any (p := ⟨VC.heap.size, 2, none⟩) hsAAne (.slice LB b.last.length cB)).awayG lk_any (p := ⟨VC.heap.size, 3, none⟩) hsAAne (.int .i64 b.e))
                have hsBAne : ∀ a, LB = some a → b.last ≠ [] → a.block ≠ VC.heap.size := fun a h hn => by have h1 := hoB a h; have h2 := huB hn a h; omega
                have hsB := ((((hsB.awayG int_any_ (p := ⟨VC.heap.size, 0, none⟩) hsBAne (.int .i64 b.g.n)).awayG int_any_ (p := ⟨VC.heap.size, 1, none⟩) hsBAne (.slice LA b.g.ls.length cA)).awayG int_any_ (p := ⟨VC.heap.size, 2, none⟩) hsBAne (.slice LB b.last.length cB)).awayG int_any_ (p := ⟨VC.heap.size, 3, none⟩) hsBAne (.int .i64 b.e))
                have hsCAne : ∀ a, LC = some a → b.g.ls ≠ [] → a.block ≠ VC.heap.size := fun a h hn => by have h1 := hoC a h; have h2 := huC hn a h; omega
                have hsC := ((((hsC.awayG lk_any (p := ⟨VC.heap.size, 0, none⟩) hsCAne (.int .i64 b.g.n)).awayG lk_any (p := ⟨VC.heap.size, 1, none⟩) hsCAne (.slice LA b.g.ls.length cA)).awayG lk_any (p := ⟨VC.heap.size, 2, none⟩) hsCAne (.slice LB b.last.length cB)).awayG lk_any (p := ⟨VC.heap.size, 3, none⟩) hsCAne (.int .i64 b.e))
                have hsDAne : ∀ a, LD = some a → b.last ≠ [] → a.block ≠ VC.heap.size := fun a h hn => by have h1 := hoD a h; have h2 := huD hn a h; omega
                have hsD := ((((hsD.awayG int_any_ (p := ⟨VC.heap.size, 0, none⟩) hsDAne (.int .i64 b.g.n)).awayG int_any_ (p := ⟨VC.heap.size, 1, none⟩) hsDAne (.slice LA b.g.ls.length cA)).awayG int_any_ (p := ⟨VC.heap.size, 2, none⟩) hsDAne (.slice LB b.last.length cB)).awayG int_any_ (p := ⟨VC.heap.size, 3, none⟩) hsDAne (.int .i64 b.e))
                obtain ⟨VC_4_5, qqVC_4_5⟩ : ∃ W', ((((VC_4.setCell ⟨VC.heap.size, 0, none⟩ (.int .i64 b.g.n)).setCell ⟨VC.heap.size, 1, none⟩ (.slice LA b.g.ls.length cA)).setCell ⟨VC.heap.size, 2, none⟩ (.slice LB b.last.length cB)).setCell ⟨VC.heap.size, 3, none⟩ (.int .i64 b.e)) = W' := ⟨_, rfl⟩
                rw [qqVC_4_5] at hV1_1_2_3_4_5 A B hsA hsB hsC hsD ⊢
                clear qqVC_4_5 Ac0 Af0 Ac1 Af1 Ac2 Af2 Ac3 Af3
                refine ordB_only (opB_call rfl rfl (fun K hK => ?_))
                have Bc0 := B.cell 0
                have Bf0 := B.frozen 0
                have Bc1 := B.cell 1
                have Bf1 := B.frozen 1
                have Bc2 := B.cell 2
                have Bf2 := B.frozen 2
                have Bc3 := B.cell 3
                have Bf3 := B.frozen 3
                simp at Bc0 Bc1 Bc2 Bc3
                go_simp
                refine hK.out _ _ ((((hV1_1_2_3_4_5.setCell (p := ⟨V1.heap.size, 0, none⟩) Bg _).setCell (p := ⟨V1.heap.size, 1, none⟩) Bg _).setCell (p := ⟨V1.heap.size, 2, none⟩) Bg _).setCell (p := ⟨V1.heap.size, 3, none⟩) Bg _) (fun hV1_1_2_3_4_5_6 => ?_)
                have B := ((((B.set_ 0 (.int .i64 b.g.n)).set_ 1 (.slice LC b.g.ls.length cC)).set_ 2 (.slice LD b.last.length cD)).set_ 3 (.int .i64 b.e))
                have Ane : VC.heap.size ≠ V1.heap.size := by first | exact A_B | exact B_A.symm
                have A := ((((A.far (p := ⟨V1.heap.size, 0, none⟩) Ane (.int .i64 b.g.n)).far (p := ⟨V1.heap.size, 1, none⟩) Ane (.slice LC b.g.ls.length cC)).far (p := ⟨V1.heap.size, 2, none⟩) Ane (.slice LD b.last.length cD)).far (p := ⟨V1.heap.size, 3, none⟩) Ane (.int .i64 b.e))
                have hsABne : ∀ a, LA = some a → b.g.ls ≠ [] → a.block ≠ V1.heap.size := fun a h hn => by have h1 := hoA a h; have h2 := huA hn a h; omega
                have hsA := ((((hsA.awayG lk_any (p := ⟨V1.heap.size, 0, none⟩) hsABne (.int .i64 b.g.n)).awayG lk_any (p := ⟨V1.heap.size, 1, none⟩) hsABne (.slice LC b.g.ls.length cC)).awayG lk_any (p := ⟨V1.heap.size, 2, none⟩) hsABne (.slice LD b.last.length cD)).awayG lk_any (p := ⟨V1.heap.size, 3, none⟩) hsABne (.int .i64 b.e))
                have hsBBne : ∀ a, LB = some a → b.last ≠ [] → a.block ≠ V1.heap.size := fun a h hn => by have h1 := hoB a h; have h2 := huB hn a h; omega
                have hsB := ((((hsB.awayG int_any_ (p := ⟨V1.heap.size, 0, none⟩) hsBBne (.int .i64 b.g.n)).awayG int_any_ (p := ⟨V1.heap.size, 1, none⟩) hsBBne (.slice LC b.g.ls.length cC)).awayG int_any_ (p := ⟨V1.heap.size, 2, none⟩) hsBBne (.slice LD b.last.length cD)).awayG int_any_ (p := ⟨V1.heap.size, 3, none⟩) hsBBne (.int .i64 b.e))
                have hsCBne : ∀ a, LC = some a → b.g.ls ≠ [] → a.block ≠ V1.heap.size := fun a h hn => by have h1 := hoC a h; have h2 := huC hn a h; omega
                have hsC := ((((hsC.awayG lk_any (p := ⟨V1.heap.size, 0, none⟩) hsCBne (.int .i64 b.g.n)).awayG lk_any (p := ⟨V1.heap.size, 1, none⟩) hsCBne (.slice LC b.g.ls.length cC)).awayG lk_any (p := ⟨V1.heap.size, 2, none⟩) hsCBne (.slice LD b.last.length cD)).awayG lk_any (p := ⟨V1.heap.size, 3, none⟩) hsCBne (.int .i64 b.e))
                have hsDBne : ∀ a, LD = some a → b.last ≠ [] → a.block ≠ V1.heap.size := fun a h hn => by have h1 := hoD a h; have h2 := huD hn a h; omega
                have hsD := ((((hsD.awayG int_any_ (p := ⟨V1.heap.size, 0, none⟩) hsDBne (.int .i64 b.g.n)).awayG int_any_ (p := ⟨V1.heap.size, 1, none⟩) hsDBne (.slice LC b.g.ls.length cC)).awayG int_any_ (p := ⟨V1.heap.size, 2, none⟩) hsDBne (.slice LD b.last.length cD)).awayG int_any_ (p := ⟨V1.heap.size, 3, none⟩) hsDBne (.int .i64 b.e))
                obtain ⟨VC_4_5_6, qqVC_4_5_6⟩ : ∃ W', ((((VC_4_5.setCell ⟨V1.heap.size, 0, none⟩ (.int .i64 b.g.n)).setCell ⟨V1.heap.size, 1, none⟩ (.slice LC b.g.ls.length cC)).setCell ⟨V1.heap.size, 2, none⟩ (.slice LD b.last.length cD)).setCell ⟨V1.heap.size, 3, none⟩ (.int .i64 b.e)) = W' := ⟨_, rfl⟩
                rw [qqVC_4_5_6] at hV1_1_2_3_4_5_6 B A hsA hsB hsC hsD ⊢
                clear qqVC_4_5_6 Bc0 Bf0 Bc1 Bf1 Bc2 Bf2 Bc3 Bf3
                refine ordB_nil ?_
                go_wp2_with fail
                go_meet
                have A2 : Blk VC_4_5_6 VC.heap.size 49 #[.int .i64 b.g.n, .slice LA b.g.ls.length cA, .slice LB b.last.length cB, .int .i64 b.e] := by simpa using A
                have B2' : Blk VC_4_5_6 V1.heap.size 49 #[.int .i64 b.g.n, .slice LC b.g.ls.length cC, .slice LD b.last.length cD, .int .i64 b.e] := by simpa using B
                exact ⟨_, _, LA, LB, LC, LD, cA, cB, cC, cD, rfl, rfl, ⟨A2, hsA, hsB, hkA⟩, ⟨B2', hsC, hsD, hkC⟩, hV1_1_2_3_4_5_6⟩
              · have B_A := Nat.ne_of_lt B.lt
                go_simp
                refine hK.out _ _ (hV1_1_2.alloc hV1_1_2.size _) (fun hV1_1_2_3 => ?_)
                have A := Blk.new VA 49 #[.int .i64 0, .slice none 0 0, .slice none 0 0, .int .i64 0]
                have Ab := nw (.cells #[.int .i64 0, .slice none 0 0, .slice none 0 0, .int .i64 0] 49) (Below.refl VA.heap.size VA)
                have Ag := hV1_1_2.size
                obtain ⟨VA_3, qqVA_3⟩ : ∃ W', VA.alloc (.cells #[.int .i64 0, .slice none 0 0, .slice none 0 0, .int .i64 0] 49) = W' := ⟨_, rfl⟩
                rw [qqVA_3] at hV1_1_2_3 A Ab ⊢
                have B := B.below Ab B.lt
                have hsA := hsA.below keeps_lk Ab
                have hsB := hsB.below keeps_int Ab
                have Alt := A.lt
                clear qqVA_3
                refine ordB_only (opB_call rfl rfl (fun K hK => ?_))
                go_simp
                go_at_call 14
                refine (HBR.out _ hV1_1_2_3).mono ?_
                rintro e VC ⟨LC, LD, cC, cD, rfl, hsC, hsD, hkC, hbC, hoC, hoD⟩
                refine hK.out _ _ (hV1_1_2_3.trans (hbC.mono hV1_1_2_3.size)) (fun hV1_1_2_3_4 => ?_)
                have B := B.below hbC B.lt
                have A := A.below hbC A.lt
                have hsA := hsA.below keeps_lk hbC
                have hsB := hsB.below keeps_int hbC
                have hz_4 := hbC.size
                have huC := hsC.blkLt
                have huD := hsD.blkLt
                refine ordB_only (opB_call rfl rfl (fun K hK => ?_))
                have Ac0 := A.cell 0
                have Af0 := A.frozen 0
                have Ac1 := A.cell 1
                have Af1 := A.frozen 1
                have Ac2 := A.cell 2
                have Af2 := A.frozen 2
                have Ac3 := A.cell 3
                have Af3 := A.frozen 3
                simp at Ac0 Ac1 Ac2 Ac3
                go_simp
                refine hK.out _ _ ((((hV1_1_2_3_4.setCell (p := ⟨VA.heap.size, 0, none⟩) Ag _).setCell (p := ⟨VA.heap.size, 1, none⟩) Ag _).setCell (p := ⟨VA.heap.size, 2, none⟩) Ag _).setCell (p := ⟨VA.heap.size, 3, none⟩) Ag _) (fun hV1_1_2_3_4_5 => ?_)
                have A := ((((A.set_ 0 (.int .i64 b.g.n)).set_ 1 (.slice LA b.g.ls.length cA)).set_ 2 (.slice LB b.last.length cB)).set_ 3 (.int .i64 b.e))
                have Bne : V1.heap.size ≠ VA.heap.size := by first | exact B_A | exact A_B.symm
                have B := ((((B.far (p := ⟨VA.heap.size, 0, none⟩) Bne (.int .i64 b.g.n)).far (p := ⟨VA.heap.size, 1, none⟩) Bne (.slice LA b.g.ls.length cA)).far (p := ⟨VA.heap.size, 2, none⟩) Bne (.slice LB b.last.length cB)).far (p := ⟨VA.heap.size, 3, none⟩) Bne (.int .i64 b.e))
                have hsAAne : ∀ a, LA = some a → b.g.ls ≠ [] → a.block ≠ VA.heap.size := fun a h hn => by have h1 := hoA a h; have h2 := huA hn a h; omega
                have hsA := ((((hsA.awayG lk_any (p := ⟨VA.heap.size, 0, none⟩) hsAAne (.int .i64 b.g.n)).awayG lk_any (p := ⟨VA.heap.size, 1, none⟩) hsAAne (.slice LA b.g.ls.length cA)).awayG lk_any (p := ⟨VA.heap.size, 2, none⟩) hsAAne (.slice LB b.last.length cB)).awayG lk_any (p := ⟨VA.heap.size, 3, none⟩) hsAAne (.int .i64 b.e))
                have hsBAne : ∀ a, LB = some a → b.last ≠ [] → a.block ≠ VA.heap.size := fun a h hn => by have h1 := hoB a h; have h2 := huB hn a h; omega
                have hsB := ((((hsB.awayG int_any_ (p := ⟨VA.heap.size, 0, none⟩) hsBAne (.int .i64 b.g.n)).awayG int_any_ (p := ⟨VA.heap.size, 1, none⟩) hsBAne (.slice LA b.g.ls.length cA)).awayG int_any_ (p := ⟨VA.heap.size, 2, none⟩) hsBAne (.slice LB b.last.length cB)).awayG int_any_ (p := ⟨VA.heap.size, 3, none⟩) hsBAne (.int .i64 b.e))
                have hsCAne : ∀ a, LC = some a → b.g.ls ≠ [] → a.block ≠ VA.heap.size := fun a h hn => by have h1 := hoC a h; have h2 := huC hn a h; omega
                have hsC := ((((hsC.awayG lk_any (p := ⟨VA.heap.size, 0, none⟩) hsCAne (.int .i64 b.g.n)).awayG lk_any (p := ⟨VA.heap.size, 1, none⟩) hsCAne (.slice LA b.g.ls.length cA)).awayG lk_any (p := ⟨VA.heap.size, 2, none⟩) hsCAne (.slice LB b.last.length cB)).awayG lk_any (p := ⟨VA.heap.size, 3, none⟩) hsCAne (.int .i64 b.e))
                have hsDAne : ∀ a, LD = some a → b.last ≠ [] → a.block ≠ VA.heap.size := fun a h hn => by have h1 := hoD a h; have h2 := huD hn a h; omega
                have hsD := ((((hsD.awayG int_any_ (p := ⟨VA.heap.size, 0, none⟩) hsDAne (.int .i64 b.g.n)).awayG int_any_ (p := ⟨VA.heap.size, 1, none⟩) hsDAne (.slice LA b.g.ls.length cA)).awayG int_any_ (p := ⟨VA.heap.size, 2, none⟩) hsDAne (.slice LB b.last.length cB)).awayG int_any_ (p := ⟨VA.heap.size, 3, none⟩) hsDAne (.int .i64 b.e))
                obtain ⟨VC_5, qqVC_5⟩ : ∃ W', ((((VC.setCell ⟨VA.heap.size, 0, none⟩ (.int .i64 b.g.n)).setCell ⟨VA.heap.size, 1, none⟩ (.slice LA b.g.ls.length cA)).setCell ⟨VA.heap.size, 2, none⟩ (.slice LB b.last.length cB)).setCell ⟨VA.heap.size, 3, none⟩ (.int .i64 b.e)) = W' := ⟨_, rfl⟩
                rw [qqVC_5] at hV1_1_2_3_4_5 A B hsA hsB hsC hsD ⊢
                clear qqVC_5 Ac0 Af0 Ac1 Af1 Ac2 Af2 Ac3 Af3
                refine ordB_only (opB_call rfl rfl (fun K hK => ?_))
                have Bc0 := B.cell 0
                have Bf0 := B.frozen 0
                have Bc1 := B.cell 1
                have Bf1 := B.frozen 1
                have Bc2 := B.cell 2
                have Bf2 := B.frozen 2
                have Bc3 := B.cell 3
                have Bf3 := B.frozen 3
                simp at Bc0 Bc1 Bc2 Bc3
                go_simp
                refine hK.out _ _ ((((hV1_1_2_3_4_5.setCell (p := ⟨V1.heap.size, 0, none⟩) Bg _).setCell (p := ⟨V1.heap.size, 1, none⟩) Bg _).setCell (p := ⟨V1.heap.size, 2, none⟩) Bg _).setCell (p := ⟨V1.heap.size, 3, none⟩) Bg _) (fun hV1_1_2_3_4_5_6 => ?_)
                have B := ((((B.set_ 0 (.int .i64 b.g.n)).set_ 1 (.slice LC b.g.ls.length cC)).set_ 2 (.slice LD b.last.length cD)).set_ 3 (.int .i64 b.e))
                have Ane : VA.heap.size ≠ V1.heap.size := by first | exact A_B | exact B_A.symm
                have A := ((((A.far (p := ⟨V1.heap.size, 0, none⟩) Ane (.int .i64 b.g.n)).far (p := ⟨V1.heap.size, 1, none⟩) Ane (.slice LC b.g.ls.length cC)).far (p := ⟨V1.heap.size, 2, none⟩) Ane (.slice LD b.last.length cD)).far (p := ⟨V1.heap.size, 3, none⟩) Ane (.int .i64 b.e))
                have hsABne : ∀ a, LA = some a → b.g.ls ≠ [] → a.block ≠ V1.heap.size := fun a h hn => by have h1 := hoA a h; have h2 := huA hn a h; omega
                have hsA := ((((hsA.awayG lk_any (p := ⟨V1.heap.size, 0, none⟩) hsABne (.int .i64 b.g.n)).awayG lk_any (p := ⟨V1.heap.size, 1, none⟩) hsABne (.slice LC b.g.ls.length cC)).awayG lk_any (p := ⟨V1.heap.size, 2, none⟩) hsABne (.slice LD b.last.length cD)).awayG lk_any (p := ⟨V1.heap.size, 3, none⟩) hsABne (.int .i64 b.e))
                have hsBBne : ∀ a, LB = some a → b.last ≠ [] → a.block ≠ V1.heap.size := fun a h hn => by have h1 := hoB a h; have h2 := huB hn a h; omega
                have hsB := ((((hsB.awayG int_any_ (p := ⟨V1.heap.size, 0, none⟩) hsBBne (.int .i64 b.g.n)).awayG int_any_ (p := ⟨V1.heap.size, 1, none⟩) hsBBne (.slice LC b.g.ls.length cC)).awayG int_any_ (p := ⟨V1.heap.size, 2, none⟩) hsBBne (.slice LD b.last.length cD)).awayG int_any_ (p := ⟨V1.heap.size, 3, none⟩) hsBBne (.int .i64 b.e))
                have hsCBne : ∀ a, LC = some a → b.g.ls ≠ [] → a.block ≠ V1.heap.size := fun a h hn => by have h1 := hoC a h; have h2 := huC hn a h; omega
                have hsC := ((((hsC.awayG lk_any (p := ⟨V1.heap.size, 0, none⟩) hsCBne (.int .i64 b.g.n)).awayG lk_any (p := ⟨V1.heap.size, 1, none⟩) hsCBne (.slice LC b.g.ls.length cC)).awayG lk_any (p := ⟨V1.heap.size, 2, none⟩) hsCBne (.slice LD b.last.length cD)).awayG lk_any (p := ⟨V1.heap.size, 3, none⟩) hsCBne (.int .i64 b.e))
                have hsDBne : ∀ a, LD = some a → b.last ≠ [] → a.block ≠ V1.heap.size := fun a h hn => by have h1 := hoD a h; have h2 := huD hn a h; omega
                have hsD := ((((hsD.awayG int_any_ (p := ⟨V1.heap.size, 0, none⟩) hsDBne (.int .i64 b.g.n)).awayG int_any_ (p := ⟨V1.heap.size, 1, none⟩) hsDBne (.slice LC b.g.ls.length cC)).awayG int_any_ (p := ⟨V1.heap.size, 2, none⟩) hsDBne (.slice LD b.last.length cD)).awayG int_any_ (p := ⟨V1.heap.size, 3, none⟩) hsDBne (.int .i64 b.e))
                obtain ⟨VC_5_6, qqVC_5_6⟩ : ∃ W', ((((VC_5.setCell ⟨V1.heap.size, 0, none⟩ (.int .i64 b.g.n)).setCell ⟨V1.heap.size, 1, none⟩ (.slice LC b.g.ls.length cC)).setCell ⟨V1.heap.size, 2, none⟩ (.slice LD b.last.length cD)).setCell ⟨V1.heap.size, 3, none⟩ (.int .i64 b.e)) = W' := ⟨_, rfl⟩
                rw [qqVC_5_6] at hV1_1_2_3_4_5_6 B A hsA hsB hsC hsD ⊢
                clear qqVC_5_6 Bc0 Bf0 Bc1 Bf1 Bc2 Bf2 Bc3 Bf3
                refine ordB_nil ?_
                go_wp2_with fail
                go_meet
                have A2 : Blk VC_5_6 VA.heap.size 49 #[.int .i64 b.g.n, .slice LA b.g.ls.length cA, .slice LB b.last.length cB, .int .i64 b.e] := by simpa using A
                have B2' : Blk VC_5_6 V1.heap.size 49 #[.int .i64 b.g.n, .slice LC b.g.ls.length cC, .slice LD b.last.length cD, .int .i64 b.e] := by simpa using B
                exact ⟨_, _, LA, LB, LC, LD, cA, cB, cC, cD, rfl, rfl, ⟨A2, hsA, hsB, hkA⟩, ⟨B2', hsC, hsD, hkC⟩, hV1_1_2_3_4_5_6⟩
            · have B_A := Nat.ne_of_lt B.lt
              go_simp
              refine hK.out _ _ (hV1_1.alloc hV1_1.size _) (fun hV1_1_2 => ?_)
              have A := Blk.new V1_1 49 #[.int .i64 0, .slice none 0 0, .slice none 0 0, .int .i64 0]
              have Ab := nw (.cells #[.int .i64 0, .slice none 0 0, .slice none 0 0, .int .i64 0] 49) (Below.refl V1_1.heap.size V1_1)
              have Ag := hV1_1.size
              obtain ⟨V1_1_2, qqV1_1_2⟩ : ∃ W', V1_1.alloc (.cells #[.int .i64 0, .slice none 0 0, .slice none 0 0, .int .i64 0] 49) = W' := ⟨_, rfl⟩
              rw [qqV1_1_2] at hV1_1_2 A Ab ⊢
              have B := B.below Ab B.lt
              have Alt := A.lt
              clear qqV1_1_2
              refine ordB_only (opB_call rfl rfl (fun K hK => ?_))
              go_simp
              go_at_call 13
              refine (HBA.out _ hV1_1_2).mono ?_
              rintro e VA ⟨LA, LB, cA, cB, rfl, hsA, hsB, hkA, hbA, hoA, hoB⟩
              refine hK.out _ _ (hV1_1_2.trans (hbA.mono hV1_1_2.size)) (fun hV1_1_2_3 => ?_)
              have B := B.below hbA B.lt
              have A := A.below hbA A.lt
              have hz_3 := hbA.size
              have huA := hsA.blkLt
              have huB := hsB.blkLt
              refine ordB_only (opB_call rfl rfl (fun K hK => ?_))
              go_simp
              go_at_call 14
              refine (HBR.out _ hV1_1_2_3).mono ?_
              rintro e VC ⟨LC, LD, cC, cD, rfl, hsC, hsD, hkC, hbC, hoC, hoD⟩
              refine hK.out _ _ (hV1_1_2_3.trans (hbC.mono hV1_1_2_3.size)) (fun hV1_1_2_3_4 => ?_)
              have B := B.below hbC B.lt
              have A := A.below hbC A.lt
              have hsA := hsA.below keeps_lk hbC
              have hsB := hsB.below keeps_int hbC
              have hz_4 := hbC.size
              have huC := hsC.blkLt
              have huD := hsD.blkLt
              refine ordB_only (opB_call rfl rfl (fun K hK => ?_))
              have Ac0 := A.cell 0
              have Af0 := A.frozen 0
              have Ac1 := A.cell 1
              have Af1 := A.frozen 1
              have Ac2 := A.cell 2
              have Af2 := A.frozen 2
              have Ac3 := A.cell 3
              have Af3 := A.frozen 3
              simp at Ac0 Ac1 Ac2 Ac3
              go_simp
              refine hK.out _ _ ((((hV1_1_2_3_4.setCell (p := ⟨V1_1.heap.size, 0, none⟩) Ag _).setCell (p := ⟨V1_1.heap.size, 1, none⟩) Ag _).setCell (p := ⟨V1_1.heap.size, 2, none⟩) Ag _).setCell (p := ⟨V1_1.heap.size, 3, none⟩) Ag _) (fun hV1_1_2_3_4_5 => ?_)
              have A := ((((A.set_ 0 (.int .i64 b.g.n)).set_ 1 (.slice LA b.g.ls.length cA)).set_ 2 (.slice LB b.last.length cB)).set_ 3 (.int .i64 b.e))
              have Bne : V1.heap.size ≠ V1_1.heap.size := by first | exact B_A | exact A_B.symm
              have B := ((((B.far (p := ⟨V1_1.heap.size, 0, none⟩) Bne (.int .i64 b.g.n)).far (p := ⟨V1_1.heap.size, 1, none⟩) Bne (.slice LA b.g.ls.length cA)).far (p := ⟨V1_1.heap.size, 2, none⟩) Bne (.slice LB b.last.length cB)).far (p := ⟨V1_1.heap.size, 3, none⟩) Bne (.int .i64 b.e))
              have hsAAne : ∀ a, LA = some a → b.g.ls ≠ [] → a.block ≠ V1_1.heap.size := fun a h hn => by have h1 := hoA a h; have h2 := huA hn a h; omega
              have hsA := ((((hsA.awayG lk_any (p := ⟨V1_1.heap.size, 0, none⟩) hsAAne (.int .i64 b.g.n)).awayG lk_any (p := ⟨V1_1.heap.size, 1, none⟩) hsAAne (.slice LA b.g.ls.length cA)).awayG lk_any (p := ⟨V1_1.heap.size, 2, none⟩) hsAAne (.slice LB b.last.length cB)).awayG lk_any (p := ⟨V1_1.heap.size, 3, none⟩) hsAAne (.int .i64 b.e))
              have hsBAne : ∀ a, LB = some a → b.last ≠ [] → a.block ≠ V1_1.heap.size := fun a h hn => by have h1 := hoB a h; have h2 := huB hn a h; omega
              have hsB := ((((hsB.awayG int_any_ (p := ⟨V1_1.heap.size, 0, none⟩) hsBAne (.int .i64 b.g.n)).awayG int_any_ (p := ⟨V1_1.heap.size, 1, none⟩) hsBAne (.slice LA b.g.ls.length cA)).awayG int_any_ (p := ⟨V1_1.heap.size, 2, none⟩) hsBAne (.slice LB b.last.length cB)).awayG int_any_ (p := ⟨V1_1.heap.size, 3, none⟩) hsBAne (.int .i64 b.e))
              have hsCAne : ∀ a, LC = some a → b.g.ls ≠ [] → a.block ≠ V1_1.heap.size := fun a h hn => by have h1 := hoC a h; have h2 := huC hn a h; omega
              have hsC := ((((hsC.awayG lk_any (p := ⟨V1_1.heap.size, 0, none⟩) hsCAne (.int .i64 b.g.n)).awayG lk_any (p := ⟨V1_1.heap.size, 1, none⟩) hsCAne (.slice LA b.g.ls.length cA)).awayG lk_any (p := ⟨V1_1.heap.size, 2, none⟩) hsCAne (.slice LB b.last.length cB)).awayG lk_any (p := ⟨V1_1.heap.size, 3, none⟩) hsCAne (.int .i64 b.e))
              have hsDAne : ∀ a, LD = some a → b.last ≠ [] → a.block ≠ V1_1.heap.size := fun a h hn => by have h1 := hoD a h; have h2 := huD hn a h; omega
              have hsD := ((((hsD.awayG int_any_ (p := ⟨V1_1.heap.size, 0, none⟩) hsDAne (.int .i64 b.g.n)).awayG int_any_ (p := ⟨V1_1.heap.size, 1, none⟩) hsDAne (.slice LA b.g.ls.length cA)).awayG int_any_ (p := ⟨V1_1.heap.size, 2, none⟩) hsDAne (.slice LB b.last.length cB)).awayG int_any_ (p := ⟨V1_1.heap.size, 3, none⟩) hsDAne (.int .i64 b.e))
              obtain ⟨VC_5, qqVC_5⟩ : ∃ W', ((((VC.setCell ⟨V1_1.heap.size, 0, none⟩ (.int .i64 b.g.n)).setCell ⟨V1_1.heap.size, 1, none⟩ (.slice LA b.g.ls.length cA)).setCell ⟨V1_1.heap.size, 2, none⟩ (.slice LB b.last.length cB)).setCell ⟨V1_1.heap.size, 3, none⟩ (.int .i64 b.e)) = W' := ⟨_, rfl⟩
              rw [qqVC_5] at hV1_1_2_3_4_5 A B hsA hsB hsC hsD ⊢
              clear qqVC_5 Ac0 Af0 Ac1 Af1 Ac2 Af2 Ac3 Af3
              refine ordB_only (opB_call rfl rfl (fun K hK => ?_))
              have Bc0 := B.cell 0
              have Bf0 := B.frozen 0
              have Bc1 := B.cell 1
              have Bf1 := B.frozen 1
              have Bc2 := B.cell 2
              have Bf2 := B.frozen 2
              have Bc3 := B.cell 3
              have Bf3 := B.frozen 3
              simp at Bc0 Bc1 Bc2 Bc3
              go_simp
              refine hK.out _ _ ((((hV1_1_2_3_4_5.setCell (p := ⟨V1.heap.size, 0, none⟩) Bg _).setCell (p := ⟨V1.heap.size, 1, none⟩) Bg _).setCell (p := ⟨V1.heap.size, 2, none⟩) Bg _).setCell (p := ⟨V1.heap.size, 3, none⟩) Bg _) (fun hV1_1_2_3_4_5_6 => ?_)
              have B := ((((B.set_ 0 (.int .i64 b.g.n)).set_ 1 (.slice LC b.g.ls.length cC)).set_ 2 (.slice LD b.last.length cD)).set_ 3 (.int .i64 b.e))
              have Ane : V1_1.heap.size ≠ V1.heap.size := by first | exact A_B | exact B_A.symm
              have A := ((((A.far (p := ⟨V1.heap.size, 0, none⟩) Ane (.int .i64 b.g.n)).far (p := ⟨V1.heap.size, 1, none⟩) Ane (.slice LC b.g.ls.length cC)).far (p := ⟨V1.heap.size, 2, none⟩) Ane (.slice LD b.last.length cD)).far (p := ⟨V1.heap.size, 3, none⟩) Ane (.int .i64 b.e))
              have hsABne : ∀ a, LA = some a → b.g.ls ≠ [] → a.block ≠ V1.heap.size := fun a h hn => by have h1 := hoA a h; have h2 := huA hn a h; omega
              have hsA := ((((hsA.awayG lk_any (p := ⟨V1.heap.size, 0, none⟩) hsABne (.int .i64 b.g.n)).awayG lk_any (p := ⟨V1.heap.size, 1, none⟩) hsABne (.slice LC b.g.ls.length cC)).awayG lk_any (p := ⟨V1.heap.size, 2, none⟩) hsABne (.slice LD b.last.length cD)).awayG lk_any (p := ⟨V1.heap.size, 3, none⟩) hsABne (.int .i64 b.e))
              have hsBBne : ∀ a, LB = some a → b.last ≠ [] → a.block ≠ V1.heap.size := fun a h hn => by have h1 := hoB a h; have h2 := huB hn a h; omega
              have hsB := ((((hsB.awayG int_any_ (p := ⟨V1.heap.size, 0, none⟩) hsBBne (.int .i64 b.g.n)).awayG int_any_ (p := ⟨V1.heap.size, 1, none⟩) hsBBne (.slice LC b.g.ls.length cC)).awayG int_any_ (p := ⟨V1.heap.size, 2, none⟩) hsBBne (.slice LD b.last.length cD)).awayG int_any_ (p := ⟨V1.heap.size, 3, none⟩) hsBBne (.int .i64 b.e))
              have hsCBne : ∀ a, LC = some a → b.g.ls ≠ [] → a.block ≠ V1.heap.size := fun a h hn => by have h1 := hoC a h; have h2 := huC hn a h; omega
              have hsC := ((((hsC.awayG lk_any (p := ⟨V1.heap.size, 0, none⟩) hsCBne (.int .i64 b.g.n)).awayG lk_any (p := ⟨V1.heap.size, 1, none⟩) hsCBne (.slice LC b.g.ls.length cC)).awayG lk_any (p := ⟨V1.heap.size, 2, none⟩) hsCBne (.slice LD b.last.length cD)).awayG lk_any (p := ⟨V1.heap.size, 3, none⟩) hsCBne (.int .i64 b.e))
              have hsDBne : ∀ a, LD = some a → b.last ≠ [] → a.block ≠ V1.heap.size := fun a h hn => by have h1 := hoD a h; have h2 := huD hn a h; omega
              have hsD := ((((hsD.awayG int_any_ (p := ⟨V1.heap.size, 0, none⟩) hsDBne (.int .i64 b.g.n)).awayG int_any_ (p := ⟨V1.heap.size, 1, none⟩) hsDBne (.slice LC b.g.ls.length cC)).awayG int_any_ (p := ⟨V1.heap.size, 2, none⟩) hsDBne (.slice LD b.last.length cD)).awayG int_any_ (p := ⟨V1.heap.size, 3, none⟩) hsDBne (.int .i64 b.e))
              obtain ⟨VC_5_6, qqVC_5_6⟩ : ∃ W', ((((VC_5.setCell ⟨V1.heap.size, 0, none⟩ (.int .i64 b.g.n)).setCell ⟨V1.heap.size, 1, none⟩ (.slice LC b.g.ls.length cC)).setCell ⟨V1.heap.size, 2, none⟩ (.slice LD b.last.length cD)).setCell ⟨V1.heap.size, 3, none⟩ (.int .i64 b.e)) = W' := ⟨_, rfl⟩
              rw [qqVC_5_6] at hV1_1_2_3_4_5_6 B A hsA hsB hsC hsD ⊢
              clear qqVC_5_6 Bc0 Bf0 Bc1 Bf1 Bc2 Bf2 Bc3 Bf3
              refine ordB_nil ?_
              go_wp2_with fail
              go_meet
              have A2 : Blk VC_5_6 V1_1.heap.size 49 #[.int .i64 b.g.n, .slice LA b.g.ls.length cA, .slice LB b.last.length cB, .int .i64 b.e] := by simpa using A
              have B2' : Blk VC_5_6 V1.heap.size 49 #[.int .i64 b.g.n, .slice LC b.g.ls.length cC, .slice LD b.last.length cD, .int .i64 b.e] := by simpa using B
              exact ⟨_, _, LA, LB, LC, LD, cA, cB, cC, cD, rfl, rfl, ⟨A2, hsA, hsB, hkA⟩, ⟨B2', hsC, hsD, hkC⟩, hV1_1_2_3_4_5_6⟩
        case rest =>
          obtain ⟨W8, rfl⟩ : ∃ W, W = wc := ⟨wc, rfl⟩
          obtain ⟨p13, p14, LA, LB, LC, LD, cA, cB, cC, cD, rfl, rfl, hB3, hB4, hb8⟩ := hcut
          have HB3 := Lib.hid hB3
          have HB4' := Lib.hid hB4
          have HB8 := Lib.hid hb8
          clear x0 x1 xl m0 m1 m2 m3 ml y0 y1 y2 y3 yl
          have HD : Hid (∀ W, Below W8.heap.size W8 W → (W.cell? ⟨p13, 0, none⟩ = some (.int .i64 b.g.n) ∧ W.cell? ⟨p13, 1, none⟩ = some (.slice LA b.g.ls.length cA) ∧ W.cell? ⟨p13, 2, none⟩ = some (.slice LB b.last.length cB) ∧ W.cell? ⟨p13, 3, none⟩ = some (.int .i64 b.e) ∧ p13 < W.heap.size) ∧ (W.cell? ⟨p14, 0, none⟩ = some (.int .i64 b.g.n) ∧ W.cell? ⟨p14, 1, none⟩ = some (.slice LC b.g.ls.length cC) ∧ W.cell? ⟨p14, 2, none⟩ = some (.slice LD b.last.length cD) ∧ W.cell? ⟨p14, 3, none⟩ = some (.int .i64 b.e) ∧ p14 < W.heap.size)) := fun W hW => by
            have f1 := (HB3.out.below hW).b
            have f2 := (HB4'.out.below hW).b
            exact ⟨⟨by rw [f1.cell]; rfl, by rw [f1.cell]; rfl, by rw [f1.cell]; rfl, by rw [f1.cell]; rfl, f1.lt⟩, ⟨by rw [f2.cell]; rfl, by rw [f2.cell]; rfl, by rw [f2.cell]; rfl, by rw [f2.cell]; rfl, f2.lt⟩⟩
          obtain ⟨⟨x0, x1, xl⟩, ⟨m0, m1, m2, m3, ml⟩, ⟨y0, y1, y2, y3, yl⟩⟩ := HC.out _ hb8
          clear hb8 hB3 hB4
          have hx0 : Below W8.heap.size W8 W8 := Below.refl _ _
          go_upto_region 9 with (go_at_call 15; go_loud (refine (HCAo.out _ HB8.out).mono ?_; rintro e X1 ⟨rfl, hx1⟩; clear x0 x1 xl m0 m1 m2 m3 ml y0 y1 y2 y3 yl; obtain ⟨⟨x0, x1, xl⟩, ⟨m0, m1, m2, m3, ml⟩, ⟨y0, y1, y2, y3, yl⟩⟩ := HC.out _ (bthen HB8.out hx1)))
          go_upto_region 10 with (go_at_call 16; go_loud (refine (HCRo.out _ (bthen HB8.out hx1)).mono ?_; rintro e X2 ⟨rfl, hy⟩; have hx2 := bthen hx1 hy; clear hy x0 x1 xl m0 m1 m2 m3 ml y0 y1 y2 y3 yl; obtain ⟨⟨x0, x1, xl⟩, ⟨m0, m1, m2, m3, ml⟩, ⟨y0, y1, y2, y3, yl⟩⟩ := HC.out _ (bthen HB8.out hx2); obtain ⟨⟨s0, s1, s2, s3, sl⟩, ⟨t0, t1, t2, t3, tl⟩⟩ := HD.out _ hx2))
          have HSA : Hid (∀ W, Below W8.heap.size W8 W → Calls Try.prog 17 #[.agg #[.int .i64 b.g.n, .slice LA b.g.ls.length cA, .slice LB b.last.length cB, .int .i64 b.e], .agg #[.int .i64 b.g.n, .slice LC b.g.ls.length cC, .slice LD b.last.length cD, .int .i64 b.e]] W fun e w' => e = .returned (.bool true) ∧ Below W.heap.size W w') := fun W hW => by
            have e3 := HB3.out.below hW
            have e4 := HB4'.out.below hW
            have h := same20_any b b LA LB LC LD cA cB cC cD W e3.g e3.l e4.g e4.l hbl.1 hbl.2
            rw [decide_eq_true ⟨⟨rfl, rfl⟩, rfl, rfl⟩] at h
            exact h
          have zcb : (cb != cb) = false := by cases cb <;> rfl
          have zsb : (sb != sb) = false := by cases sb <;> rfl
          have hqt : (o0.length : Int).tdiv 2 = ((o0.length / 2 : Nat) : Int) := by rw [Int.tdiv_eq_ediv_of_nonneg (by omega)]; omega
          have hqw : IntKind.i64.wrap ((o0.length / 2 : Nat) : Int) = ((o0.length / 2 : Nat) : Int) := IntWalk.i64_in _ (by omega)
          have hq1 : ((o0.length / 2 : Nat) : Int) ≤ (c11 : Int) := by omega
          have hq2 : (0 : Int) ≤ ((o0.length / 2 : Nat) : Int) := by omega
          go_upto_region 12 with (go_at_call 17; go_loud (refine (HSA.out _ hx2).mono ?_; rintro e X3 ⟨rfl, hy⟩; have hx3 := bthen hx2 hy; clear hy x0 x1 xl m0 m1 m2 m3 ml y0 y1 y2 y3 yl s0 s1 s2 s3 sl t0 t1 t2 t3 tl; obtain ⟨⟨x0, x1, xl⟩, ⟨m0, m1, m2, m3, ml⟩, ⟨y0, y1, y2, y3, yl⟩⟩ := HC.out _ (bthen HB8.out hx3)))
          go_upto_region 13 with fail
          go_upto_region 14 with (go_at_call 15; go_loud (refine (HCAs.out _ _ (bthen HB8.out hx3)).mono ?_; rintro e X4 ⟨rfl, hy⟩; have hx4 := bthen hx3 hy; clear hy x0 x1 xl m0 m1 m2 m3 ml y0 y1 y2 y3 yl; obtain ⟨⟨x0, x1, xl⟩, ⟨m0, m1, m2, m3, ml⟩, ⟨y0, y1, y2, y3, yl⟩⟩ := HC.out _ (bthen HB8.out hx4)))
          go_upto_region 15 with (go_at_call 16; go_loud (refine (HCRs.out _ _ (bthen HB8.out hx4)).mono ?_; rintro e X5 ⟨rfl, hy⟩; have hx5 := bthen hx4 hy; clear hy x0 x1 xl m0 m1 m2 m3 ml y0 y1 y2 y3 yl))
          obtain ⟨⟨x0, x1, xl⟩, ⟨m0, m1, m2, m3, ml⟩, ⟨y0, y1, y2, y3, yl⟩⟩ := HC.out _ (bthen HB8.out hx5)
          obtain ⟨⟨s0, s1, s2, s3, sl⟩, ⟨t0, t1, t2, t3, tl⟩⟩ := HD.out _ hx5
          clear zcb hqt hqw hq1 hq2
          go_upto_region 17 with fail
          have HBX := Lib.hid (bthen HB7.out (bthen HB8.out hx5))
          by_cases hbe : b.e = 0
          · have zbe : (b.e == 0) = true := by simpa using hbe
            by_cases hls : b.g.ls.length = 0
            · have zls : ((b.g.ls.length : Int) == 0) = true := by simp only [beq_iff_eq]; omega
              rw [hbe] at t3
              clear hbe hls zbe
              go_wp2_with fail
              go_ret
              exact ⟨rfl, HBX.out⟩
            · have zls : ((b.g.ls.length : Int) == 0) = false := by simp only [beq_eq_false_iff_ne, ne_eq]; omega
              have HBE := Lib.hid hbe
              rw [hbe] at t3
              have hn0 : ¬ ((b.g.ls.length : Int) = 0) := by omega
              have hnn : ¬ b.g.ls = [] := fun e => hls (by rw [e]; rfl)
              have hnp : (0 : Int) < (b.g.ls.length : Int) := by omega
              have hwa : IntKind.i64.wrap u2 = u2 := IntWalk.i64_in _ (by omega)
              have hwb : IntKind.i64.wrap u3 = u3 := IntWalk.i64_in _ (by omega)
              have hta : u2.tmod (b.g.ls.length : Int) = u2 % (b.g.ls.length : Int) := Int.tmod_eq_emod_of_nonneg h2.1
              have htb : u3.tmod (b.g.ls.length : Int) = u3 % (b.g.ls.length : Int) := Int.tmod_eq_emod_of_nonneg h3.1
              have hra := Int.emod_nonneg u2 hn0
              have hrb := Int.emod_lt_of_pos u2 hnp
              have hrc := Int.emod_nonneg u3 hn0
              have hrd := Int.emod_lt_of_pos u3 hnp
              obtain ⟨i1, hi1⟩ : ∃ q, u2 % (b.g.ls.length : Int) = q := ⟨_, rfl⟩
              obtain ⟨i2, hi2⟩ : ∃ q, u3 % (b.g.ls.length : Int) = q := ⟨_, rfl⟩
              rw [hi1] at hta hra hrb
              rw [hi2] at htb hrc hrd
              have hwc : IntKind.i64.wrap i1 = i1 := IntWalk.i64_in _ (by omega)
              have hwd : IntKind.i64.wrap i2 = i2 := IntWalk.i64_in _ (by omega)
              have HLK : Hid (∀ i ∈ [i1, i2], LkIn es' b.g.ls i) := fun i hi => by
                have h := fun j h0 h1 => buM_lk (x := ⟨la.n, es'⟩) (m := m) (prev := prev) (i := j) (by rw [HBB.out]; exact HBE.out) h0 (by rw [HBB.out]; exact h1)
                rw [HBB.out] at h
                rcases List.mem_cons.1 hi with rfl | hi
                · exact h _ hra hrb
                · rw [List.mem_singleton.1 hi]; exact h _ hrc hrd
              have hx5h := Lib.hid hx5
              clear hbe hls zbe hi1 hi2 hra hrb hrc hrd
              go_upto_region 20 with fail
              go_cut [25] (fun s25 W => ∃ (gC gR : Nat), s25 = .pointer (some ⟨gC, 0, none⟩) ∧ Blk W gC 58 #[.slice (some ⟨gR, 0, none⟩) 2 2, .int .i64 0] ∧ Blk W gR 3 #[.int .i64 i1, .int .i64 i2] ∧ Below X5.heap.size X5 W)
              case first => as_aux_lemma =>
                refine ordB_below (.quiet 0 (.quiet 1 (.quiet 2 (.quiet 3 (.quiet 4 (.quiet 5 (.quiet 6 (.quiet 7 (.quiet 8 (.quiet 9 (.fork 10 12 (.quiet 11 (.only 12 (.only 13 .done))) (.only 10 (.quiet 11 (.only 13 .done)))))))))))))) (by kernel_rfl) (by kernel_rfl) (by kernel_rfl) (fun _ _ _ _ _ h => h) ?_
                intro V2 hV2
                iterate 10 (first
                  | (refine ordB_skip rfl rfl ?_; simp only [Act.put, List.setIfInBounds_toArray, List.set_cons_zero, List.set_cons_succ])
                  | (refine ordB_take (v := ?_) rfl rfl ?_ ?_
                     rotate_left 1
                     focus (intro W hW; obtain ⟨hcW, hfW⟩ := bcell hW; (go_simp <;> with_reducible rfl))
                     simp only [Act.put, List.setIfInBounds_toArray, List.set_cons_zero, List.set_cons_succ]))
                refine ordB_fork (opB_call rfl rfl (fun K hK => ?_)) (opB_call rfl rfl (fun K hK => ?_))
                · go_simp
                  refine hK.out _ _ (hV2.alloc hV2.size _) (fun hV2_1 => ?_)
                  have R := Blk.new V2 3 #[.int .i64 i1, .int .i64 i2]
                  have Rb := nw (.cells #[.int .i64 i1, .int .i64 i2] 3) (Below.refl V2.heap.size V2)
                  have Rg := hV2.size
                  obtain ⟨V2_1, qqV2_1⟩ : ∃ W', V2.alloc (.cells #[.int .i64 i1, .int .i64 i2] 3) = W' := ⟨_, rfl⟩
                  rw [qqV2_1] at hV2_1 R Rb ⊢
                  clear qqV2_1 Rb
                  iterate 1 (first
                    | (refine ordB_skip rfl rfl ?_; simp only [Act.put, List.setIfInBounds_toArray, List.set_cons_zero, List.set_cons_succ])
                    | (refine ordB_take (v := ?_) rfl rfl ?_ ?_
                       rotate_left 1
                       focus (intro W hW; obtain ⟨hcW, hfW⟩ := bcell hW; (go_simp <;> with_reducible rfl))
                       simp only [Act.put, List.setIfInBounds_toArray, List.set_cons_zero, List.set_cons_succ]))
                  refine ordB_only (opB_call rfl rfl (fun K hK => ?_))
                  have R_C := Nat.ne_of_lt R.lt
                  go_simp
                  refine hK.out _ _ (hV2_1.alloc hV2_1.size _) (fun hV2_1_2 => ?_)
                  have C := Blk.new V2_1 58 #[.slice none 0 0, .int .i64 0]
                  have Cb := nw (.cells #[.slice none 0 0, .int .i64 0] 58) (Below.refl V2_1.heap.size V2_1)
                  have Cg := hV2_1.size
                  obtain ⟨V2_1_2, qqV2_1_2⟩ : ∃ W', V2_1.alloc (.cells #[.slice none 0 0, .int .i64 0] 58) = W' := ⟨_, rfl⟩
                  rw [qqV2_1_2] at hV2_1_2 C Cb ⊢
                  have R := R.below Cb R.lt
                  clear qqV2_1_2 Cb
                  refine ordB_only (opB_call rfl rfl (fun K hK => ?_))
                  have Cc0 := C.cell 0
                  have Cf0 := C.frozen 0
                  have Cc1 := C.cell 1
                  have Cf1 := C.frozen 1
                  simp at Cc0 Cc1
                  go_simp
                  refine hK.out _ _ ((hV2_1_2.setCell (p := ⟨V2_1.heap.size, 0, none⟩) Cg _).setCell (p := ⟨V2_1.heap.size, 1, none⟩) Cg _) (fun hV2_1_2_3 => ?_)
                  have C := ((C.set_ 0 (.slice (some ⟨V2.heap.size, 0, none⟩) 2 2)).set_ 1 (.int .i64 0))
                  have Rne : V2.heap.size ≠ V2_1.heap.size := by first | exact R_C | exact C_R.symm
                  have R := ((R.far (p := ⟨V2_1.heap.size, 0, none⟩) Rne (.slice (some ⟨V2.heap.size, 0, none⟩) 2 2)).far (p := ⟨V2_1.heap.size, 1, none⟩) Rne (.int .i64 0))
                  obtain ⟨V2_1_2_3, qqV2_1_2_3⟩ : ∃ W', ((V2_1_2.setCell ⟨V2_1.heap.size, 0, none⟩ (.slice (some ⟨V2.heap.size, 0, none⟩) 2 2)).setCell ⟨V2_1.heap.size, 1, none⟩ (.int .i64 0)) = W' := ⟨_, rfl⟩
                  rw [qqV2_1_2_3] at hV2_1_2_3 C R ⊢
                  clear qqV2_1_2_3 Cc0 Cf0 Cc1 Cf1
                  refine ordB_nil ?_
                  have C2 : Blk V2_1_2_3 V2_1.heap.size 58 #[.slice (some ⟨V2.heap.size, 0, none⟩) 2 2, .int .i64 0] := by simpa using C
                  go_wp2_with fail
                  go_meet
                  exact ⟨_, _, rfl, C2, R, hV2_1_2_3⟩
                · go_simp
                  refine hK.out _ _ (hV2.alloc hV2.size _) (fun hV2_1 => ?_)
                  have C := Blk.new V2 58 #[.slice none 0 0, .int .i64 0]
                  have Cb := nw (.cells #[.slice none 0 0, .int .i64 0] 58) (Below.refl V2.heap.size V2)
                  have Cg := hV2.size
                  obtain ⟨V2_1, qqV2_1⟩ : ∃ W', V2.alloc (.cells #[.slice none 0 0, .int .i64 0] 58) = W' := ⟨_, rfl⟩
                  rw [qqV2_1] at hV2_1 C Cb ⊢
                  clear qqV2_1 Cb
                  refine ordB_only (opB_call rfl rfl (fun K hK => ?_))
                  have C_R := Nat.ne_of_lt C.lt
                  go_simp
                  refine hK.out _ _ (hV2_1.alloc hV2_1.size _) (fun hV2_1_2 => ?_)
                  have R := Blk.new V2_1 3 #[.int .i64 i1, .int .i64 i2]
                  have Rb := nw (.cells #[.int .i64 i1, .int .i64 i2] 3) (Below.refl V2_1.heap.size V2_1)
                  have Rg := hV2_1.size
                  obtain ⟨V2_1_2, qqV2_1_2⟩ : ∃ W', V2_1.alloc (.cells #[.int .i64 i1, .int .i64 i2] 3) = W' := ⟨_, rfl⟩
                  rw [qqV2_1_2] at hV2_1_2 R Rb ⊢
                  have C := C.below Rb C.lt
                  clear qqV2_1_2 Rb
                  iterate 1 (first
                    | (refine ordB_skip rfl rfl ?_; simp only [Act.put, List.setIfInBounds_toArray, List.set_cons_zero, List.set_cons_succ])
                    | (refine ordB_take (v := ?_) rfl rfl ?_ ?_
                       rotate_left 1
                       focus (intro W hW; obtain ⟨hcW, hfW⟩ := bcell hW; (go_simp <;> with_reducible rfl))
                       simp only [Act.put, List.setIfInBounds_toArray, List.set_cons_zero, List.set_cons_succ]))
                  refine ordB_only (opB_call rfl rfl (fun K hK => ?_))
                  have Cc0 := C.cell 0
                  have Cf0 := C.frozen 0
                  have Cc1 := C.cell 1
                  have Cf1 := C.frozen 1
                  simp at Cc0 Cc1
                  go_simp
                  refine hK.out _ _ ((hV2_1_2.setCell (p := ⟨V2.heap.size, 0, none⟩) Cg _).setCell (p := ⟨V2.heap.size, 1, none⟩) Cg _) (fun hV2_1_2_3 => ?_)
                  have C := ((C.set_ 0 (.slice (some ⟨V2_1.heap.size, 0, none⟩) 2 2)).set_ 1 (.int .i64 0))
                  have Rne : V2_1.heap.size ≠ V2.heap.size := by first | exact R_C | exact C_R.symm
                  have R := ((R.far (p := ⟨V2.heap.size, 0, none⟩) Rne (.slice (some ⟨V2_1.heap.size, 0, none⟩) 2 2)).far (p := ⟨V2.heap.size, 1, none⟩) Rne (.int .i64 0))
                  obtain ⟨V2_1_2_3, qqV2_1_2_3⟩ : ∃ W', ((V2_1_2.setCell ⟨V2.heap.size, 0, none⟩ (.slice (some ⟨V2_1.heap.size, 0, none⟩) 2 2)).setCell ⟨V2.heap.size, 1, none⟩ (.int .i64 0)) = W' := ⟨_, rfl⟩
                  rw [qqV2_1_2_3] at hV2_1_2_3 C R ⊢
                  clear qqV2_1_2_3 Cc0 Cf0 Cc1 Cf1
                  refine ordB_nil ?_
                  have C2 : Blk V2_1_2_3 V2.heap.size 58 #[.slice (some ⟨V2_1.heap.size, 0, none⟩) 2 2, .int .i64 0] := by simpa using C
                  go_wp2_with fail
                  go_meet
                  exact ⟨_, _, rfl, C2, R, hV2_1_2_3⟩
              case rest =>
                obtain ⟨X6, rfl⟩ : ∃ W, W = wc := ⟨wc, rfl⟩
                obtain ⟨gC, gR, rfl, hCB, hRB, hb6⟩ := hcut
                have HX6 : Hid (Below W8.heap.size W8 X6) := bthen hx5h.out hb6
                have HX67 : Hid (Below W7.heap.size W7 X6) := bthen HB8.out HX6.out
                have HRB := Lib.hid hRB
                have HCB := Lib.hid hCB
                clear zls hn0 hnn hnp hwa hwb hta htb hwc hwd hx5 x0 x1 xl m0 m1 m2 m3 ml y0 y1 y2 y3 yl s0 s1 s2 s3 sl t0 t1 t2 t3 tl
                have HIX : Hid (∀ W, Below X6.heap.size X6 W → SlR 1 RInt W (some ⟨gR, 0, none⟩) [i1, i2]) := fun W hW =>
                  slr_of_blk (s := 1) (R := RInt) (enc := fun x => [Value.int .i64 x]) (xs := [i1, i2]) (HRB.out.below hW HRB.out.lt) (fun _ => rfl) (fun _ => rfl) (by simp)
                obtain ⟨XS, hXS⟩ : ∃ l, [i1, i2].map (wdAt es' b.g.ls) = l := ⟨_, rfl⟩
                have HXS := Lib.hid hXS
                have hXSl : XS.length ≤ 2 := by rw [← hXS]; simp
                have HWA : Hid (∀ W, Below X6.heap.size X6 W → Calls Try.prog 19 #[.agg #[.int .i64 la.n, .slice A9 la.es.length c9], .agg #[.int .i64 b.g.n, .slice LC b.g.ls.length cC], .agg #[.slice (some ⟨gR, 0, none⟩) 2 2, .int .i64 0]] W (GivesIs XS W)) := fun W hW => by
                  have h := cxwords_any ⟨la.n, es'⟩ A9 c9 b.g.n LC b.g.ls cC (some ⟨gR, 0, none⟩) [i1, i2] 2 0 W (HSE.out.below keeps_ed (bthen HX67.out hW)) (HB4'.out.below (bthen HX6.out hW)).g (HIX.out _ hW) (by simp) HLK.out
                  rw [HXS.out] at h
                  rw [← HEL.out]
                  exact h
                have HWB : Hid (∀ W, Below X6.heap.size X6 W → Calls Try.prog 20 #[.agg #[.int .i64 la.n, .slice A9 la.es.length c9], .agg #[.int .i64 b.g.n, .slice LC b.g.ls.length cC], .agg #[.slice (some ⟨gR, 0, none⟩) 2 2, .int .i64 0]] W (GivesIs XS W)) := fun W hW => by
                  have h := cxrwords_any ⟨la.n, es'⟩ A9 c9 b.g.n LC b.g.ls cC (some ⟨gR, 0, none⟩) [i1, i2] 2 0 W (HSE.out.below keeps_ed (bthen HX67.out hW)) (HB4'.out.below (bthen HX6.out hW)).g (HIX.out _ hW) (by simp) HLK.out
                  rw [HXS.out] at h
                  rw [← HEL.out]
                  exact h
                have HIN : Hid (∀ W A B c d, SlR 1 RInt W A XS → SlR 1 RInt W B XS → Calls Try.prog 18 #[.slice A XS.length c, .slice B XS.length d] W fun e w' => e = .returned (.bool true) ∧ Below W.heap.size W w') := fun W A B c d h1 h2 => by
                  have h := co_ints_any A B XS XS c d W h1 h2 (by omega)
                  rw [decide_eq_true rfl] at h
                  exact h
                have c0 := hCB.cell 0
                have c1' := hCB.cell 1
                have cl := hCB.lt
                simp at c0 c1'
                obtain ⟨⟨x0, x1, xl⟩, ⟨m0, m1, m2, m3, ml⟩, ⟨y0, y1, y2, y3, yl⟩⟩ := HC.out _ HX67.out
                obtain ⟨⟨s0, s1, s2, s3, sl⟩, ⟨t0, t1, t2, t3, tl⟩⟩ := HD.out _ HX6.out
                clear hXS hCB hRB hb6
                go_upto_region 21 with fail
                refine ordB_below (.quiet 0 (.quiet 1 (.quiet 2 (.quiet 3 (.quiet 5 (.quiet 6 (.quiet 7 (.quiet 8 (.only 4 (.only 9 (.only 10 (.quiet 11 (.quiet 12 (.quiet 13 (.quiet 14 .done))))))))))))))) (by kernel_rfl) (by kernel_rfl) (by kernel_rfl) (fun _ _ _ _ _ h => h) ?_
                intro V3 hV3
                iterate 8 (first
                  | (refine ordB_skip rfl rfl ?_; simp only [Act.put, List.setIfInBounds_toArray, List.set_cons_zero, List.set_cons_succ])
                  | (refine ordB_take (v := ?_) rfl rfl ?_ ?_
                     rotate_left 1
                     focus (intro W hW; obtain ⟨hcW, hfW⟩ := bcell hW; (go_simp <;> with_reducible rfl))
                     simp only [Act.put, List.setIfInBounds_toArray, List.set_cons_zero, List.set_cons_succ]))
                refine ordB_only (opB_call rfl rfl (fun K hK => ?_))
                go_simp
                go_at_call 19
                refine (HWA.out _ hV3).mono ?_
                rintro e V3_1 ⟨BA1, cA1, rfl, hs1, hk1, hb1⟩
                refine hK.out _ _ (hV3.trans (hb1.mono hV3.size)) (fun hV3_1 => ?_)
                refine ordB_only (opB_call rfl rfl (fun K hK => ?_))
                go_simp
                go_at_call 20
                refine (HWB.out _ hV3_1).mono ?_
                rintro e V3_1_2 ⟨BA2, cA2, rfl, hs2, hk2, hb2⟩
                refine hK.out _ _ (hV3_1.trans (hb2.mono hV3_1.size)) (fun hV3_1_2 => ?_)
                refine ordB_only (opB_call rfl rfl (fun K hK => ?_))
                go_simp
                go_at_call 18
                refine (HIN.out _ _ _ _ _ (hs1.below keeps_int hb2) hs2).mono ?_
                rintro e V3_1_2_3 ⟨rfl, hb3⟩
                refine hK.out _ _ (hV3_1_2.trans (hb3.mono hV3_1_2.size)) (fun hV3_1_2_3 => ?_)
                iterate 4 (first
                  | (refine ordB_skip rfl rfl ?_; simp only [Act.put, List.setIfInBounds_toArray, List.set_cons_zero, List.set_cons_succ])
                  | (refine ordB_take (v := ?_) rfl rfl ?_ ?_
                     rotate_left 1
                     focus (intro W hW; obtain ⟨hcW, hfW⟩ := bcell hW; (go_simp <;> with_reducible rfl))
                     simp only [Act.put, List.setIfInBounds_toArray, List.set_cons_zero, List.set_cons_succ]))
                refine ordB_nil ?_
                have HBF := Lib.hid (bthen HB7.out (bthen HX67.out hV3_1_2_3))
                clear hs1 hs2 hk1 hk2
                go_wp2_with fail
                go_ret
                exact ⟨rfl, HBF.out⟩
          · have zbe : (b.e == 0) = false := by simpa using hbe
            clear hbe
            go_wp2_with fail
            go_ret
            exact ⟨rfl, HBX.out⟩
end Go.Proofs.Ytcimnkijpifkjaa
