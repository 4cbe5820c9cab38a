/-
  The walk of ContextNodes.
-/
import Derived.Test.YtcimnkijpifkjaaQ30
import Derived.Test.YtcimnkijpifkjaaQ34
import Derived.Test.YtcimnkijpifkjaaQ25
namespace Go.Proofs.Ytcimnkijpifkjaa
open Go Go.RowKit

set_option maxRecDepth 100000 in
set_option maxHeartbeats 16000000 in
theorem contextNodes_any (AR : Option Addr) (rl : List R4) (cr : Nat) (x : Raw) (A1 A2 A3 : Option Addr) (c1 c2 c3 : Nat) (u0 u1 : Int) (w : World) (hrl : SlR 4 RR4 w AR rl) (hrn : rl.length ≤ maxLen) (hrok : ∀ r ∈ rl, R4OK r) (hraw : RawR w x A1 A2 A3) (h0 : 0 ≤ u0 ∧ u0 ≤ 255) (h1 : 0 ≤ u1 ∧ u1 ≤ 255) :
    Calls Try.prog 4 #[.slice AR rl.length cr, .agg #[.slice A1 x.words.length c1, .slice A2 x.counts.length c2, .slice A3 x.uses.length c3, .int .u8 x.back], .agg #[.int .u8 u0, .int .u8 u1]] w fun e w' => e = .returned (.bool true) ∧ Below w.heap.size w w' := by
  obtain ⟨hlm, hw2, hw8⟩ := made_lim x hraw.b2 hraw.b3 hraw.bk
  have HMade : Hid (∀ W, Below w.heap.size w W → Calls Try.prog 10 #[.agg #[.slice A1 x.words.length c1, .slice A2 x.counts.length c2, .slice A3 x.uses.length c3, .int .u8 x.back]] W (GivesMo (madeM x) W)) := fun W hW => co_made_any x A1 A2 A3 c1 c2 c3 W (hraw.below hW)
  generalize madeM x = m at *
  have HOK := Lib.hid hlm.ok
  have HLim := Lib.hid hlm
  have HLaM : Hid (∀ W, Below w.heap.size w W → Calls Try.prog 11 #[.slice AR rl.length cr, .int .u8 u0, .int .i64 (m.ws.length : Int)] W (GivesLa (latM rl u0 (m.ws.length : Int)) W)) := fun W hW => lat_any AR rl cr u0 _ W (hrl.below keeps_r4 hW) hrn hrok h0 ⟨by omega, by omega⟩
  obtain ⟨q1, q2, q3, q4, q5⟩ := latM_ok (l := rl) (pl := u0) (n := (m.ws.length : Int)) h0.1 (by omega) (by omega) hrok
  generalize latM rl u0 (m.ws.length : Int) = la at *
  have HF : Hid (FitsL la m.ws.length) := ⟨q1, fun e he => (q2 e he).1⟩
  have HCO : Hid (∀ e ∈ la.es, e.co ≤ 1000) := fun e he => by have := (q2 e he).2; omega
  have HFull := Lib.hid q5
  have hq0 := q1.1.1
  obtain ⟨w1, hw1⟩ : ∃ V, (w.alloc (.cells #[.slice A1 x.words.length c1, .slice A2 x.counts.length c2, .slice A3 x.uses.length c3, .int .u8 x.back] 27)).alloc (.cells #[.int .u8 u0, .int .u8 u1] 62) = V := ⟨_, rfl⟩
  have hb1 : Below w.heap.size w w1 := by rw [← hw1]; exact nw _ (nw _ (Below.refl _ _))
  have hK0 : Blk w1 w.heap.size 27 #[.slice A1 x.words.length c1, .slice A2 x.counts.length c2, .slice A3 x.uses.length c3, .int .u8 x.back] := by rw [← hw1]; exact (Blk.new _ _ _).alloc _
  have hK1 : Blk w1 (w.heap.size + 1) 62 #[.int .u8 u0, .int .u8 u1] := by rw [← hw1]; exact Blk.new_ (by simp)
  have HW1 := Lib.hid hw1
  clear hw1 hlm hrl hrok hraw q1 q2 q5
  go_enter Try.func4, Try.ntmps4
  go_upto_region 3 with (first
    | (go_at_call 9; go_loud (rw [HW1.out]; refine (sanity20_any w1).mono ?_; rintro e w2 ⟨rfl, hb2⟩; have hkr := hK0.below hb2 hK0.lt; have rw0 := hkr.cell 0; have rw1 := hkr.cell 1; have rw2 := hkr.cell 2; have rw3 := hkr.cell 3; have rwl := hkr.lt; simp at rw0 rw1 rw2 rw3))
    | (go_at_call 10; go_loud (refine (HMade.out _ (bthen hb1 hb2)).mono ?_; rintro e w3 ⟨B1, B2, B3, d1, d2, d3, rfl, hmor, hcaps, hb3⟩; clear rw0 rw1 rw2 rw3 rwl)))
  obtain ⟨W4, hW4⟩ : ∃ V, w3.alloc (.cells #[.slice B1 m.ws.length d1, .slice B2 m.cs.length d2, .slice B3 m.ps.length d3, .int .i64 m.back] 34) = V := ⟨_, rfl⟩
  have hM : MB m w3.heap.size B1 B2 B3 d1 d2 d3 W4 := by rw [← hW4]; exact mb_new hmor hcaps
  have hb34 : Below w3.heap.size w3 W4 := by rw [← hW4]; exact nw _ (Below.refl _ _)
  have hK4 := hK1.below (bthen (bthen hb2 hb3) hb34) hK1.lt
  have HB4 := Lib.hid (bthen hb1 (bthen (bthen hb2 hb3) hb34))
  rw [hW4]
  obtain ⟨gM, hgM⟩ : ∃ b, w3.heap.size = b := ⟨_, rfl⟩
  rw [hgM] at hM ⊢
  obtain ⟨gW, hgW⟩ : ∃ b, w.heap.size + 1 = b := ⟨_, rfl⟩
  have hgWge : w.heap.size ≤ gW := by omega
  have hgMw : w.heap.size ≤ gM := by have := (bthen hb1 (bthen hb2 hb3)).size; omega
  have hgne : gW ≠ gM := by have h1 := hK1.below (bthen hb2 hb3) hK1.lt; have := h1.lt; omega
  rw [hgW] at hK4 ⊢
  have HM4 := Lib.hid hM
  have HK4 := Lib.hid hK4
  have hb34' : Below gM w3 W4 := by rw [← hgM]; exact hb34
  have HR3 := Lib.hid (And.intro hmor (And.intro hb34' hgM))
  clear hb34' hb1 hb2 hb3 hb34 hkr hK0 hK1 hW4 hmor hcaps hgM hgW HW1
  have m0 := hM.b.cell 0
  have m1 := hM.b.cell 1
  have m2 := hM.b.cell 2
  have m3 := hM.b.cell 3
  have ml := hM.b.lt
  have y0 := hK4.cell 0
  have y1 := hK4.cell 1
  have yl := hK4.lt
  simp at m0 m1 m2 m3 y0 y1
  clear hM hK4
  have hwu : IntKind.i64.wrap u1 = u1 := IntWalk.i64_in _ (by omega)
  have hwn : IntKind.i64.wrap ((m.ws.length : Int) + 1) = (m.ws.length : Int) + 1 := IntWalk.i64_in _ (by omega)
  have htm : u1.tmod ((m.ws.length : Int) + 1) = u1 % ((m.ws.length : Int) + 1) := Int.tmod_eq_emod_of_nonneg h1.1
  have hr1 := Int.emod_nonneg u1 (show (m.ws.length : Int) + 1 ≠ 0 by omega)
  have hr2 := Int.emod_lt_of_pos u1 (show 0 < (m.ws.length : Int) + 1 by omega)
  obtain ⟨pq, hpq⟩ : ∃ q, u1 % ((m.ws.length : Int) + 1) = q := ⟨_, rfl⟩
  rw [hpq] at htm hr1 hr2
  have hwq : IntKind.i64.wrap pq = pq := IntWalk.i64_in _ (by omega)
  obtain ⟨prev, hprev⟩ : ∃ q, pq - 1 = q := ⟨_, rfl⟩
  have hwp : IntKind.i64.wrap (pq - 1) = prev := by rw [hprev]; exact IntWalk.i64_in _ (by omega)
  have hpv : -1 ≤ prev ∧ prev < (m.ws.length : Int) := by omega
  have hne : ¬ m.ws = [] := fun e => by rw [e] at hw2; simp at hw2
  have hn0 : ¬ ((m.ws.length : Int) + 1 = 0) := by omega
  clear hpq hprev
  go_cut [9, 10] (fun s9 s10 W => ∃ (g9 : Nat) (A9 : Option Addr) (c9 : Nat), s9 = .pointer (some ⟨g9, 0, none⟩) ∧ s10 = .int .i64 prev ∧ LB la g9 A9 c9 W ∧ Below W4.heap.size W4 W)
  case first =>
    refine ordB_below (.quiet 0 (.quiet 1 (.quiet 2 (.quiet 3 (.quiet 4 (.quiet 5 (.quiet 7 (.quiet 8 (.quiet 9 (.quiet 10 (.quiet 11 (.quiet 12 (.quiet 13 (.quiet 14 (.quiet 15 (.fork 6 16 (.only 16 (.only 17 (.quiet 18 .done))) (.only 6 (.only 17 (.quiet 18 .done))))))))))))))))))) (by kernel_rfl) (by kernel_rfl) (by kernel_rfl) (fun _ _ _ _ _ h => h) ?_
    intro V0 hV0
    iterate 15 (first
      | (refine ordB_skip rfl rfl ?_; simp only [Act.put, List.setIfInBounds_toArray, List.set_cons_zero, List.set_cons_succ])
      | (refine ordB_take (v := ?_) rfl rfl ?_ ?_
         rotate_left 1
         focus (intro W hW; obtain ⟨hcW, hfW⟩ := bcell hW; (go_simp <;> with_reducible rfl))
         simp only [Act.put, List.setIfInBounds_toArray, List.set_cons_zero, List.set_cons_succ]))
    refine ordB_fork (opB_call rfl rfl (fun K hK => ?_)) (opB_call rfl rfl (fun K hK => ?_))
    · go_simp
      go_at_call 11
      refine (HLaM.out _ (bthen HB4.out hV0)).mono ?_
      rintro e VL ⟨A9, c9, rfl, hs9, hk9, hb9, hown9⟩
      refine hK.out _ _ (hV0.trans (hb9.mono hV0.size)) (fun hV0_1 => ?_)
      have hz_1 := hb9.size
      have ho9 := own_ge hown9
      have hu9 := hs9.blkLt
      clear hown9
      refine ordB_only (opB_call rfl rfl (fun K hK => ?_))
      go_simp
      refine hK.out _ _ (hV0_1.alloc hV0_1.size _) (fun hV0_1_2 => ?_)
      have X := Blk.new VL 38 #[.int .i64 0, .slice none 0 0]
      have Xb := nw (.cells #[.int .i64 0, .slice none 0 0] 38) (Below.refl VL.heap.size VL)
      have Xg := hV0_1.size
      obtain ⟨VL_2, qqVL_2⟩ : ∃ W', VL.alloc (.cells #[.int .i64 0, .slice none 0 0] 38) = W' := ⟨_, rfl⟩
      rw [qqVL_2] at hV0_1_2 X Xb ⊢
      have hs9 := hs9.below keeps_ed Xb
      have Xlt := X.lt
      clear qqVL_2
      refine ordB_only (opB_call rfl rfl (fun K hK => ?_))
      have Xc0 := X.cell 0
      have Xf0 := X.frozen 0
      have Xc1 := X.cell 1
      have Xf1 := X.frozen 1
      simp at Xc0 Xc1
      go_simp
      refine hK.out _ _ ((hV0_1_2.setCell (p := ⟨VL.heap.size, 0, none⟩) Xg _).setCell (p := ⟨VL.heap.size, 1, none⟩) Xg _) (fun hV0_1_2_3 => ?_)
      have X := ((X.set_ 0 (.int .i64 la.n)).set_ 1 (.slice A9 la.es.length c9))
      have hs9Xne : ∀ a, A9 = some a → la.es ≠ [] → a.block ≠ VL.heap.size := fun a h hn => by have h1 := ho9 a h; have h2 := hu9 hn a h; omega
      have hs9 := ((hs9.awayG ed_any (p := ⟨VL.heap.size, 0, none⟩) hs9Xne (.int .i64 la.n)).awayG ed_any (p := ⟨VL.heap.size, 1, none⟩) hs9Xne (.slice A9 la.es.length c9))
      obtain ⟨VL_2_3, qqVL_2_3⟩ : ∃ W', ((VL_2.setCell ⟨VL.heap.size, 0, none⟩ (.int .i64 la.n)).setCell ⟨VL.heap.size, 1, none⟩ (.slice A9 la.es.length c9)) = W' := ⟨_, rfl⟩
      rw [qqVL_2_3] at hV0_1_2_3 X hs9 ⊢
      clear qqVL_2_3 Xc0 Xf0 Xc1 Xf1
      iterate 1 (first
        | (refine ordB_skip rfl rfl ?_; simp only [Act.put, List.setIfInBounds_toArray, List.set_cons_zero, List.set_cons_succ])
        | (refine ordB_take (v := ?_) rfl rfl ?_ ?_
           rotate_left 1
           focus (intro W hW; obtain ⟨hcW, hfW⟩ := bcell hW; (go_simp <;> with_reducible rfl))
           simp only [Act.put, List.setIfInBounds_toArray, List.set_cons_zero, List.set_cons_succ]))
      refine ordB_nil ?_
      go_wp2_with fail
      go_meet
      exact ⟨_, A9, c9, rfl, rfl, ⟨by simpa using X, hs9, hk9⟩, hV0_1_2_3⟩
    · go_simp
      refine hK.out _ _ (hV0.alloc hV0.size _) (fun hV0_1 => ?_)
      have X := Blk.new V0 38 #[.int .i64 0, .slice none 0 0]
      have Xb := nw (.cells #[.int .i64 0, .slice none 0 0] 38) (Below.refl V0.heap.size V0)
      have Xg := hV0.size
      obtain ⟨V0_1, qqV0_1⟩ : ∃ W', V0.alloc (.cells #[.int .i64 0, .slice none 0 0] 38) = W' := ⟨_, rfl⟩
      rw [qqV0_1] at hV0_1 X Xb ⊢
      have Xlt := X.lt
      clear qqV0_1
      refine ordB_only (opB_call rfl rfl (fun K hK => ?_))
      go_simp
      go_at_call 11
      refine (HLaM.out _ (bthen HB4.out hV0_1)).mono ?_
      rintro e VL ⟨A9, c9, rfl, hs9, hk9, hb9, hown9⟩
      refine hK.out _ _ (hV0_1.trans (hb9.mono hV0_1.size)) (fun hV0_1_2 => ?_)
      have X := X.below hb9 X.lt
      have hz_2 := hb9.size
      have ho9 := own_ge hown9
      have hu9 := hs9.blkLt
      clear hown9
      refine ordB_only (opB_call rfl rfl (fun K hK => ?_))
      have Xc0 := X.cell 0
      have Xf0 := X.frozen 0
      have Xc1 := X.cell 1
      have Xf1 := X.frozen 1
      simp at Xc0 Xc1
      go_simp
      refine hK.out _ _ ((hV0_1_2.setCell (p := ⟨V0.heap.size, 0, none⟩) Xg _).setCell (p := ⟨V0.heap.size, 1, none⟩) Xg _) (fun hV0_1_2_3 => ?_)
      have X := ((X.set_ 0 (.int .i64 la.n)).set_ 1 (.slice A9 la.es.length c9))
      have hs9Xne : ∀ a, A9 = some a → la.es ≠ [] → a.block ≠ V0.heap.size := fun a h hn => by have h1 := ho9 a h; have h2 := hu9 hn a h; omega
      have hs9 := ((hs9.awayG ed_any (p := ⟨V0.heap.size, 0, none⟩) hs9Xne (.int .i64 la.n)).awayG ed_any (p := ⟨V0.heap.size, 1, none⟩) hs9Xne (.slice A9 la.es.length c9))
      obtain ⟨VL_3, qqVL_3⟩ : ∃ W', ((VL.setCell ⟨V0.heap.size, 0, none⟩ (.int .i64 la.n)).setCell ⟨V0.heap.size, 1, none⟩ (.slice A9 la.es.length c9)) = W' := ⟨_, rfl⟩
      rw [qqVL_3] at hV0_1_2_3 X hs9 ⊢
      clear qqVL_3 Xc0 Xf0 Xc1 Xf1
      iterate 1 (first
        | (refine ordB_skip rfl rfl ?_; simp only [Act.put, List.setIfInBounds_toArray, List.set_cons_zero, List.set_cons_succ])
        | (refine ordB_take (v := ?_) rfl rfl ?_ ?_
           rotate_left 1
           focus (intro W hW; obtain ⟨hcW, hfW⟩ := bcell hW; (go_simp <;> with_reducible rfl))
           simp only [Act.put, List.setIfInBounds_toArray, List.set_cons_zero, List.set_cons_succ]))
      refine ordB_nil ?_
      go_wp2_with fail
      go_meet
      exact ⟨_, A9, c9, rfl, rfl, ⟨by simpa using X, hs9, hk9⟩, hV0_1_2_3⟩
  case rest =>
    obtain ⟨W5, rfl⟩ : ∃ W, W = wc := ⟨wc, rfl⟩
    obtain ⟨gX, A9, c9, rfl, rfl, hX, hb5⟩ := hcut
    have HX5 := Lib.hid hX
    have HM5 := Lib.hid (HM4.out.below hb5)
    have HK5 := Lib.hid (HK4.out.below hb5 HK4.out.lt)
    have HB5 := Lib.hid (bthen HB4.out hb5)
    clear m0 m1 m2 m3 ml y0 y1 yl hwu hwn htm hr1 hr2 hwq hwp hX hb5 HM4 HK4 HB4
    have x0 := HX5.out.b.cell 0
    have x1 := HX5.out.b.cell 1
    have xl := HX5.out.b.lt
    have m0 := HM5.out.b.cell 0
    have m1 := HM5.out.b.cell 1
    have m2 := HM5.out.b.cell 2
    have m3 := HM5.out.b.cell 3
    have ml := HM5.out.b.lt
    simp at x0 x1 m0 m1 m2 m3
    obtain ⟨nl, hnl⟩ : ∃ n, (nodesL la prev).length = n := ⟨_, rfl⟩
    obtain ⟨G, hG⟩ : ∃ G, lksL la m prev = G := ⟨_, rfl⟩
    obtain ⟨L, hL⟩ : ∃ L, lastL la prev = L := ⟨_, rfl⟩
    have HNL := Lib.hid hnl
    have HG := Lib.hid hG
    have HL := Lib.hid hL
    clear hnl hG hL
    go_upto_region 5 with (go_at_call 13; go_loud (refine (lawbuild_ok la A9 c9 m B1 B2 B3 d1 d2 d3 prev W5 HX5.out.s q3 HM5.out.r HM5.out.k.2.2.1 HM5.out.k.2.2.2 HOK.out HF.out hpv HNL.out HG.out HL.out).mono ?_; rintro e w6 ⟨LA, LB, cA, cB, rfl, hsG, hsL, hkG, hb6⟩))
    obtain ⟨W6, hW6⟩ : ∃ V, w6.alloc (.cells #[.int .i64 (nl : Int), .slice LA G.length cA, .slice LB nl cB, .int .i64 0] 49) = V := ⟨_, rfl⟩
    have hb66 : Below w6.heap.size w6 W6 := by rw [← hW6]; exact nw _ (Below.refl _ _)
    have HA : Hid (Blk W6 w6.heap.size 49 #[.int .i64 (nl : Int), .slice LA G.length cA, .slice LB nl cB, .int .i64 0]) := by rw [← hW6]; exact Blk.new _ _ _
    have hb56 := bthen hb6 hb66
    have HX := Lib.hid (HX5.out.below hb56)
    have HM := Lib.hid (HM5.out.below hb56)
    have HK := Lib.hid (HK5.out.below hb56 HK5.out.lt)
    have HB := Lib.hid (bthen HB5.out hb56)
    have HGS := Lib.hid (hsG.below keeps_lk hb66)
    have HLS := Lib.hid (hsL.below keeps_int hb66)
    rw [hW6]
    obtain ⟨gA, hgA⟩ : ∃ b, w6.heap.size = b := ⟨_, rfl⟩
    rw [hgA] at HA ⊢
    clear x0 x1 xl m0 m1 m2 m3 ml hb6 hb66 hb56 hW6 hgA hsG hsL HX5 HM5 HK5 HB5
    have HC : Hid (∀ W, Below W6.heap.size W6 W → (W.cell? ⟨gX, 0, none⟩ = some (.int .i64 la.n) ∧ W.cell? ⟨gX, 1, none⟩ = some (.slice A9 la.es.length c9) ∧ gX < W.heap.size) ∧ (W.cell? ⟨gM, 0, none⟩ = some (.slice B1 m.ws.length d1) ∧ W.cell? ⟨gM, 1, none⟩ = some (.slice B2 m.cs.length d2) ∧ W.cell? ⟨gM, 2, none⟩ = some (.slice B3 m.ps.length d3) ∧ W.cell? ⟨gM, 3, none⟩ = some (.int .i64 m.back) ∧ gM < W.heap.size) ∧ (W.cell? ⟨gW, 0, none⟩ = some (.int .u8 u0) ∧ W.cell? ⟨gW, 1, none⟩ = some (.int .u8 u1) ∧ gW < W.heap.size) ∧ (W.cell? ⟨gA, 0, none⟩ = some (.int .i64 (nl : Int)) ∧ W.cell? ⟨gA, 1, none⟩ = some (.slice LA G.length cA) ∧ W.cell? ⟨gA, 2, none⟩ = some (.slice LB nl cB) ∧ W.cell? ⟨gA, 3, none⟩ = some (.int .i64 0) ∧ gA < W.heap.size)) := fun W hW => by
      have f1 := (HX.out.below hW).b
      have f2 := (HM.out.below hW).b
      have f3 := HK.out.below hW HK.out.lt
      have f4 := HA.out.below hW HA.out.lt
      exact ⟨⟨by rw [f1.cell]; rfl, by rw [f1.cell]; rfl, f1.lt⟩, ⟨by rw [f2.cell]; rfl, by rw [f2.cell]; rfl, by rw [f2.cell]; rfl, by rw [f2.cell]; rfl, f2.lt⟩, ⟨by rw [f3.cell]; rfl, by rw [f3.cell]; rfl, f3.lt⟩, ⟨by rw [f4.cell]; rfl, by rw [f4.cell]; rfl, by rw [f4.cell]; rfl, by rw [f4.cell]; rfl, f4.lt⟩⟩
    have hx0 : Below W6.heap.size W6 W6 := Below.refl _ _
    have hln : L.length = nl := by rw [← HL.out, lastL_len]; exact HNL.out
    have hGl : G.length ≤ 20000 := by
      have := (grL_ok (prev := prev) HOK.out HF.out HCO.out (by omega)).len
      rw [← HG.out]
      exact this
    have hnl1 := nodesL_len la prev
    rw [HNL.out] at hnl1
    obtain ⟨bl, ol, l0, hLB, _, hl0, hlc⟩ := HLS.out.int (k := 0) (by omega)
    have hlp : l0 = prev := by
      have := lastL_first la prev
      rw [HL.out, hl0] at this
      exact Option.some.inj this
    subst hlp
    subst hLB
    have HN0 : Hid (∀ W, Below W6.heap.size W6 W → W.cell? ⟨bl, ol, none⟩ = some (.int .i64 l0)) := fun W hW => by
      obtain ⟨b', o', x', hA', hb', hx', hc'⟩ := (HLS.out.below keeps_int hW).int (k := 0) (by omega)
      injection hA' with hA'
      injection hA' with e1 e2
      subst e1 e2
      rw [hl0] at hx'
      rw [Option.some.inj hx']
      simpa using hc'
    have HRN : Hid (∀ W, Below W6.heap.size W6 W → Calls Try.prog 21 #[.agg #[.int .i64 la.n, .slice A9 la.es.length c9], .int .i64 (m.ws.length : Int), .int .i64 l0] W fun e w' => ∃ B c', e = .returned (.slice B nl c') ∧ Below W.heap.size W w') := fun W hW => by
      have := rnodes_any la A9 c9 m.ws.length l0 W (HX.out.below hW).s HF.out (by omega)
      rw [HNL.out] at this
      exact this.mono fun e w' ⟨B, c', e1, _, e2⟩ => ⟨B, c', e1, e2⟩
    have hnlI : ¬ ((nl : Int) = 0) := by omega
    have hnlN : ¬ (nl = 0) := by omega
    have hnlp : (0 : Int) < (nl : Int) := by omega
    have hnlq : 0 < nl := by omega
    have hnlz : ((nl : Int) == 0) = false := by simp; omega
    obtain ⟨⟨x0, x1, xl⟩, ⟨m0, m1, m2, m3, ml⟩, ⟨y0, y1, yl⟩, ⟨a0, a1, a2, a3, al⟩⟩ := HC.out _ hx0
    have v0 := HN0.out _ hx0
    clear hl0 hlc
    go_upto_region 5 with fail
    refine ordB_below (.quiet 0 (.quiet 1 (.quiet 2 (.quiet 3 (.quiet 4 (.quiet 5 (.quiet 6 (.quiet 7 (.quiet 8 (.quiet 9 (.quiet 10 (.quiet 11 (.quiet 12 (.quiet 13 (.quiet 14 (.quiet 15 (.quiet 16 (.quiet 17 (.quiet 18 (.quiet 19 (.quiet 20 (.quiet 21 (.quiet 22 (.quiet 23 (.quiet 24 (.quiet 25 (.quiet 26 (.only 27 (.quiet 28 (.quiet 29 (.quiet 30 (.quiet 31 (.quiet 32 (.quiet 33 (.quiet 34 (.quiet 35 (.quiet 36 (.quiet 37 (.quiet 38 .done))))))))))))))))))))))))))))))))))))))) (by kernel_rfl) (by kernel_rfl) (by kernel_rfl) (fun _ _ _ _ _ h => h) ?_
    intro V1 hV1
    iterate 27 (first
      | (refine ordB_skip rfl rfl ?_; simp only [Act.put, List.setIfInBounds_toArray, List.set_cons_zero, List.set_cons_succ])
      | (refine ordB_take (v := ?_) rfl rfl ?_ ?_
         rotate_left 1
         focus (intro W hW; obtain ⟨hcW, hfW⟩ := bcell hW; (go_simp <;> with_reducible rfl))
         simp only [Act.put, List.setIfInBounds_toArray, List.set_cons_zero, List.set_cons_succ]))
    refine ordB_only (opB_call rfl rfl (fun K hK => ?_))
    go_simp
    go_at_call 21
    refine (HRN.out _ hV1).mono ?_
    rintro e V1_1 ⟨B28, c28, rfl, hb28⟩
    refine hK.out _ _ (hV1.trans (hb28.mono hV1.size)) (fun hV1_1 => ?_)
    iterate 11 (first
      | (refine ordB_skip rfl rfl ?_; simp only [Act.put, List.setIfInBounds_toArray, List.set_cons_zero, List.set_cons_succ])
      | (refine ordB_take (v := ?_) rfl rfl ?_ ?_
         rotate_left 1
         focus (intro W hW; obtain ⟨hcW, hfW⟩ := bcell hW; (go_simp <;> with_reducible rfl))
         simp only [Act.put, List.setIfInBounds_toArray, List.set_cons_zero, List.set_cons_succ]))
    refine ordB_nil ?_
    obtain ⟨W7, hW7⟩ : ∃ V, V1_1 = V := ⟨_, rfl⟩
    rw [hW7] at hV1_1 ⊢
    have HBE := Lib.hid hV1_1
    clear hW7 hV1_1 x0 x1 xl m0 m1 m2 m3 ml y0 y1 yl a0 a1 a2 a3 al v0 hnlI hnlN hnlp hnlz hnlq
    go_wp2_with fail
    go_loopw [12] (fun i wr => ∃ j : Nat, j ≤ G.length ∧ i = .int .i64 j ∧ Below W6.heap.size W6 wr) (fun i _ => G.length - (intOf i).toNat)
    case atStart => exact ⟨0, by omega, rfl, HBE.out⟩
    case round =>
      obtain ⟨j, hj, rfl, hbr⟩ := hrel
      have HBR := Lib.hid hbr
      obtain ⟨⟨x0, x1, xl⟩, ⟨m0, m1, m2, m3, ml⟩, ⟨y0, y1, yl⟩, ⟨a0, a1, a2, a3, al⟩⟩ := HC.out _ hbr
      by_cases hlt : j < G.length
      · obtain ⟨b, off, l, rfl, hbb, hll, d0, d1, d2, d3⟩ := (HGS.out.below keeps_lk hbr).lk hlt
        have hlm := List.mem_of_getElem? hll
        rw [← HG.out] at hlm
        obtain ⟨q, t, e, hk⟩ := lk_fact HOK.out HF.out HCO.out hlm
        rw [HNL.out, HL.out] at hk
        have HKF := Lib.hid hk
        have HLL := Lib.hid hll
        have hjI : (j : Int) < (G.length : Int) := by omega
        have hj0 : (0 : Int) ≤ (j : Int) := by omega
        rw [hk.tq] at d1
        rw [hk.lb] at d2
        have hqn := (List.getElem?_eq_some_iff.1 hk.ed).1
        obtain ⟨b2, off2, e', hA2, hbb2, hee, f0, f1, f2, f3⟩ := ((HX.out.below hbr).s).ed hqn
        obtain rfl : e = e' := Option.some.inj (hk.ed.symm.trans hee)
        subst hA2
        obtain ⟨W8, hW8⟩ : ∃ V, (wr.alloc (.cells #[.int .i64 l.fr, .int .i64 (t : Int), .int .i64 (q : Int), .int .i64 l.cost] 66)) = V := ⟨_, rfl⟩
        have hb8 : Below wr.heap.size wr W8 := by rw [← hW8]; exact nw _ (Below.refl _ _)
        have hk8 : Blk W8 wr.heap.size 66 #[.int .i64 l.fr, .int .i64 (t : Int), .int .i64 (q : Int), .int .i64 l.cost] := by rw [← hW8]; exact Blk.new _ _ _
        have HW8 := Lib.hid hW8
        clear hW8 hlm hee hll
        go_upto_region 11 with fail
        rw [HW8.out]
        have hb8' := bthen hbr hb8
        clear x0 x1 xl m0 m1 m2 m3 ml y0 y1 yl a0 a1 a2 a3 al d0 d1 d2 d3 f0 f1 f2 f3
        obtain ⟨⟨x0, x1, xl⟩, ⟨m0, m1, m2, m3, ml⟩, ⟨y0, y1, yl⟩, ⟨a0, a1, a2, a3, al⟩⟩ := HC.out _ hb8'
        have k0 := hk8.cell 0
        have k1 := hk8.cell 1
        have k2 := hk8.cell 2
        have k3 := hk8.cell 3
        have kl := hk8.lt
        simp at k0 k1 k2 k3
        obtain ⟨gL, hgL⟩ : ∃ b, wr.heap.size = b := ⟨_, rfl⟩
        rw [hgL] at hk8 k0 k1 k2 k3 kl ⊢
        have hfr := hk.fr
        have hflt := hk.lt
        have htl : (t : Int) < (nl : Int) := by have := hk.tl; omega
        have hq0 : (0 : Int) ≤ (q : Int) := by omega
        have hqI : (q : Int) < (la.es.length : Int) := by omega
        go_upto_region 13 with fail
        obtain ⟨b3, off3, e', hA3, hbb3, hee, f0, f1, f2, f3⟩ := ((HX.out.below hb8').s).ed hqn
        obtain rfl : e = e' := Option.some.inj (hk.ed.symm.trans hee)
        injection hA3 with hA3
        injection hA3 with e1 e2
        subst e1 e2
        obtain ⟨W9, hW9⟩ : ∃ V, (W8.alloc (.cells #[.int .i64 e.fr, .int .i64 e.to, .int .i64 e.wd, .int .i64 e.co] 43)) = V := ⟨_, rfl⟩
        have hb9 : Below W8.heap.size W8 W9 := by rw [← hW9]; exact nw _ (Below.refl _ _)
        have hk9 : Blk W9 W8.heap.size 43 #[.int .i64 e.fr, .int .i64 e.to, .int .i64 e.wd, .int .i64 e.co] := by rw [← hW9]; exact Blk.new _ _ _
        have HW9 := Lib.hid hW9
        clear hW9 hee
        go_upto_region 14 with fail
        rw [HW9.out]
        have hb9' := bthen hb8' hb9
        have hk8 := hk8.below hb9 hk8.lt
        clear x0 x1 xl m0 m1 m2 m3 ml y0 y1 yl a0 a1 a2 a3 al f0 f1 f2 f3 k0 k1 k2 k3 kl hbb hbb2 hbb3 hgL hfr hflt
        obtain ⟨gE, hgE⟩ : ∃ b, W8.heap.size = b := ⟨_, rfl⟩
        rw [hgE] at hk9 ⊢
        have HE : Hid (∀ W, Below W9.heap.size W9 W → (W.cell? ⟨gL, 0, none⟩ = some (.int .i64 l.fr) ∧ W.cell? ⟨gL, 1, none⟩ = some (.int .i64 (t : Int)) ∧ W.cell? ⟨gL, 2, none⟩ = some (.int .i64 (q : Int)) ∧ W.cell? ⟨gL, 3, none⟩ = some (.int .i64 l.cost) ∧ gL < W.heap.size) ∧ (W.cell? ⟨gE, 0, none⟩ = some (.int .i64 e.fr) ∧ W.cell? ⟨gE, 1, none⟩ = some (.int .i64 e.to) ∧ W.cell? ⟨gE, 2, none⟩ = some (.int .i64 e.wd) ∧ W.cell? ⟨gE, 3, none⟩ = some (.int .i64 e.co) ∧ gE < W.heap.size)) := fun W hW => by
          have f1 := hk8.below hW hk8.lt
          have f2 := hk9.below hW hk9.lt
          exact ⟨⟨by rw [f1.cell]; rfl, by rw [f1.cell]; rfl, by rw [f1.cell]; rfl, by rw [f1.cell]; rfl, f1.lt⟩, ⟨by rw [f2.cell]; rfl, by rw [f2.cell]; rfl, by rw [f2.cell]; rfl, by rw [f2.cell]; rfl, f2.lt⟩⟩
        have HB9 := Lib.hid hb9'
        have hco : ¬ l.cost < e.co := by have := hk.co; omega
        have hw1 : IntKind.i64.wrap ((nl : Int) - 1) = (nl : Int) - 1 := IntWalk.i64_in _ (by omega)
        clear hk8 hk9 hb9 hb8 hbr hgE HW8 HW9 hk
        obtain ⟨⟨x0, x1, xl⟩, ⟨m0, m1, m2, m3, ml⟩, ⟨y0, y1, yl⟩, ⟨a0, a1, a2, a3, al⟩⟩ := HC.out _ hb9'
        obtain ⟨⟨k0, k1, k2, k3, kl⟩, ⟨f0, f1, f2, f3, fl⟩⟩ := HE.out _ (Below.refl _ _)
        go_cut [165] (fun tv W => tv = .bool false ∧ Below W9.heap.size W9 W)
        case first => as_aux_lemma =>
          by_cases hlast : e.to = la.n
          · have ht : (t : Int) = (nl : Int) - 1 := HKF.out.last.1 hlast
            have z1 : (e.to == la.n) = true := by simpa using hlast
            have z2 : ((t : Int) == (nl : Int) - 1) = true := by simpa using ht
            have z3 : ¬ e.to < la.n := by omega
            clear hlast ht
            refine ordB_below (.quiet 0 (.quiet 1 (.quiet 2 (.quiet 3 (.quiet 4 (.quiet 5 (.quiet 6 (.quiet 7 (.quiet 8 (.quiet 9 (.quiet 10 (.quiet 11 (.quiet 12 (.quiet 13 (.quiet 14 (.quiet 15 (.quiet 16 (.quiet 17 (.quiet 18 (.quiet 19 (.quiet 20 (.quiet 21 (.quiet 22 (.quiet 23 (.quiet 24 (.quiet 25 (.quiet 26 (.quiet 27 (.quiet 28 (.quiet 29 (.quiet 30 (.quiet 31 (.quiet 32 (.quiet 33 (.quiet 34 (.quiet 35 (.quiet 36 (.quiet 37 .done)))))))))))))))))))))))))))))))))))))) (by kernel_rfl) (by kernel_rfl) (by kernel_rfl) (fun _ _ _ _ _ h => h) ?_
            intro V2 hV2
            iterate 38 (first
              | (refine ordB_skip rfl rfl ?_; simp only [Act.put, List.setIfInBounds_toArray, List.set_cons_zero, List.set_cons_succ])
              | (refine ordB_take (v := ?_) rfl rfl ?_ ?_
                 rotate_left 1
                 focus (intro W hW; obtain ⟨hcW, hfW⟩ := bcell hW; (go_simp <;> with_reducible rfl))
                 simp only [Act.put, List.setIfInBounds_toArray, List.set_cons_zero, List.set_cons_succ]))
            refine ordB_nil ?_
            go_wp2_with fail
            go_meet
            exact ⟨rfl, hV2⟩
          · have hto : e.to < la.n := by have := HKF.out.top; omega
            have ht : ¬ (t : Int) = (nl : Int) - 1 := fun h => hlast (HKF.out.last.2 h)
            have z1 : (e.to == la.n) = false := by simpa using hlast
            have z2 : ((t : Int) == (nl : Int) - 1) = false := by simpa using ht
            obtain ⟨b5, o5, wd, hA5, hbb5, hxx, g5⟩ := (HLS.out.below keeps_int hb9').int (k := t) (by have := HKF.out.tl; omega)
            obtain rfl : e.wd = wd := by
              have := HKF.out.word hto
              rw [this] at hxx
              exact Option.some.inj hxx
            injection hA5 with hA5
            injection hA5 with e1 e2
            subst e1 e2
            have ht0 : (0 : Int) ≤ (t : Int) := by omega
            clear hlast ht hxx
            refine ordB_below (.quiet 0 (.quiet 1 (.quiet 2 (.quiet 3 (.quiet 4 (.quiet 5 (.quiet 6 (.quiet 7 (.quiet 8 (.quiet 9 (.quiet 10 (.quiet 11 (.quiet 12 (.quiet 13 (.quiet 14 (.quiet 15 (.quiet 16 (.quiet 17 (.quiet 18 (.quiet 19 (.quiet 20 (.quiet 21 (.quiet 22 (.quiet 23 (.quiet 24 (.quiet 25 (.quiet 26 (.quiet 27 (.quiet 28 (.quiet 29 (.quiet 30 (.quiet 31 (.quiet 32 (.quiet 33 (.quiet 34 (.quiet 35 (.quiet 36 (.quiet 37 .done)))))))))))))))))))))))))))))))))))))) (by kernel_rfl) (by kernel_rfl) (by kernel_rfl) (fun _ _ _ _ _ h => h) ?_
            intro V3 hV3
            iterate 38 (first
              | (refine ordB_skip rfl rfl ?_; simp only [Act.put, List.setIfInBounds_toArray, List.set_cons_zero, List.set_cons_succ])
              | (refine ordB_take (v := ?_) rfl rfl ?_ ?_
                 rotate_left 1
                 focus (intro W hW; obtain ⟨hcW, hfW⟩ := bcell hW; (go_simp <;> with_reducible rfl))
                 simp only [Act.put, List.setIfInBounds_toArray, List.set_cons_zero, List.set_cons_succ]))
            refine ordB_nil ?_
            go_wp2_with fail
            go_meet
            exact ⟨rfl, hV3⟩
        case rest =>
          obtain ⟨WA, rfl⟩ : ∃ W, W = wc := ⟨wc, rfl⟩
          obtain ⟨rfl, hcut⟩ := hcut
          have HBA := Lib.hid (bthen HB9.out hcut)
          have hbA := bthen HB9.out hcut
          clear x0 x1 xl m0 m1 m2 m3 ml y0 y1 yl a0 a1 a2 a3 al k0 k1 k2 k3 kl f0 f1 f2 f3 fl
          obtain ⟨⟨x0, x1, xl⟩, ⟨m0, m1, m2, m3, ml⟩, ⟨y0, y1, yl⟩, ⟨a0, a1, a2, a3, al⟩⟩ := HC.out _ hbA
          obtain ⟨⟨k0, k1, k2, k3, kl⟩, ⟨f0, f1, f2, f3, fl⟩⟩ := HE.out _ hcut
          clear hco hw1 hcut
          go_upto_region 16 with fail
          go_cut [206] (fun tv W => tv = .bool false ∧ Below WA.heap.size WA W)
          case first => as_aux_lemma =>
            by_cases hz : j = 0
            · subst hz
              refine ordB_below (.quiet 0 (.quiet 1 (.quiet 2 (.quiet 3 (.quiet 4 (.quiet 5 (.quiet 6 (.quiet 7 (.quiet 8 (.quiet 9 (.quiet 10 (.quiet 11 (.quiet 12 (.quiet 13 (.quiet 14 (.quiet 15 (.quiet 16 (.quiet 17 (.quiet 18 (.quiet 19 (.quiet 20 (.quiet 21 (.quiet 22 (.quiet 23 (.quiet 24 (.quiet 25 (.quiet 26 (.quiet 27 (.quiet 28 (.quiet 29 (.quiet 30 (.quiet 31 (.quiet 32 (.quiet 33 (.quiet 34 (.quiet 35 (.quiet 36 (.quiet 37 (.quiet 38 (.quiet 39 (.quiet 40 .done))))))))))))))))))))))))))))))))))))))))) (by kernel_rfl) (by kernel_rfl) (by kernel_rfl) (fun _ _ _ _ _ h => h) ?_
              intro V4 hV4
              iterate 41 (first
                | (refine ordB_skip rfl rfl ?_; simp only [Act.put, List.setIfInBounds_toArray, List.set_cons_zero, List.set_cons_succ])
                | (refine ordB_take (v := ?_) rfl rfl ?_ ?_
                   rotate_left 1
                   focus (intro W hW; obtain ⟨hcW, hfW⟩ := bcell hW; (go_simp <;> with_reducible rfl))
                   simp only [Act.put, List.setIfInBounds_toArray, List.set_cons_zero, List.set_cons_succ]))
              refine ordB_nil ?_
              go_wp2_with fail
              go_meet
              exact ⟨rfl, hV4⟩
            · obtain ⟨i, rfl⟩ : ∃ i, j = i + 1 := ⟨j - 1, by omega⟩
              obtain ⟨b6, o6, l', hA6, hbb6, hl', g0, g1, g2, g3⟩ := (HGS.out.below keeps_lk hbA).lk (k := i) (by omega)
              injection hA6 with hA6
              injection hA6 with e1 e2
              subst e1 e2
              have hnx : l'.fr < l.fr ∨ l'.fr = l.fr ∧ l'.lb < l.lb := lks_next (x := la) (m := m) (prev := l0) (j := i) (by rw [HG.out]; exact hl') (by rw [HG.out]; exact HLL.out)
              rw [HKF.out.lb] at hnx
              have hip : (0 : Int) < ((i + 1 : Nat) : Int) := by omega
              have hwi : IntKind.i64.wrap (i : Int) = (i : Int) := IntWalk.i64_in _ (by omega)
              have hi0 : (0 : Int) ≤ (i : Int) := by omega
              have hiI : (i : Int) < (G.length : Int) := by omega
              clear hl'
              rcases hnx with hnx | ⟨hnx, hnx2⟩
              · have z1 : ¬ l.fr < l'.fr := by omega
                have z2 : (l'.fr == l.fr) = false := by simp; omega
                clear hnx
                refine ordB_below (.quiet 0 (.quiet 1 (.quiet 2 (.quiet 3 (.quiet 4 (.quiet 5 (.quiet 6 (.quiet 7 (.quiet 8 (.quiet 9 (.quiet 10 (.quiet 11 (.quiet 12 (.quiet 13 (.quiet 14 (.quiet 15 (.quiet 16 (.quiet 17 (.quiet 18 (.quiet 19 (.quiet 20 (.quiet 21 (.quiet 22 (.quiet 23 (.quiet 24 (.quiet 25 (.quiet 26 (.quiet 27 (.quiet 28 (.quiet 29 (.quiet 30 (.quiet 31 (.quiet 32 (.quiet 33 (.quiet 34 (.quiet 35 (.quiet 36 (.quiet 37 (.quiet 38 (.quiet 39 (.quiet 40 .done))))))))))))))))))))))))))))))))))))))))) (by kernel_rfl) (by kernel_rfl) (by kernel_rfl) (fun _ _ _ _ _ h => h) ?_
                intro V5 hV5
                iterate 41 (first
                  | (refine ordB_skip rfl rfl ?_; simp only [Act.put, List.setIfInBounds_toArray, List.set_cons_zero, List.set_cons_succ])
                  | (refine ordB_take (v := ?_) rfl rfl ?_ ?_
                     rotate_left 1
                     focus (intro W hW; obtain ⟨hcW, hfW⟩ := bcell hW; (go_simp <;> with_reducible rfl))
                     simp only [Act.put, List.setIfInBounds_toArray, List.set_cons_zero, List.set_cons_succ]))
                refine ordB_nil ?_
                go_wp2_with fail
                go_meet
                exact ⟨rfl, hV5⟩
              · have z1 : ¬ l.fr < l'.fr := by omega
                have z2 : (l'.fr == l.fr) = true := by simpa using hnx
                have z3 : ¬ (q : Int) ≤ l'.lb := by omega
                clear hnx hnx2
                refine ordB_below (.quiet 0 (.quiet 1 (.quiet 2 (.quiet 3 (.quiet 4 (.quiet 5 (.quiet 6 (.quiet 7 (.quiet 8 (.quiet 9 (.quiet 10 (.quiet 11 (.quiet 12 (.quiet 13 (.quiet 14 (.quiet 15 (.quiet 16 (.quiet 17 (.quiet 18 (.quiet 19 (.quiet 20 (.quiet 21 (.quiet 22 (.quiet 23 (.quiet 24 (.quiet 25 (.quiet 26 (.quiet 27 (.quiet 28 (.quiet 29 (.quiet 30 (.quiet 31 (.quiet 32 (.quiet 33 (.quiet 34 (.quiet 35 (.quiet 36 (.quiet 37 (.quiet 38 (.quiet 39 (.quiet 40 .done))))))))))))))))))))))))))))))))))))))))) (by kernel_rfl) (by kernel_rfl) (by kernel_rfl) (fun _ _ _ _ _ h => h) ?_
                intro V6 hV6
                iterate 41 (first
                  | (refine ordB_skip rfl rfl ?_; simp only [Act.put, List.setIfInBounds_toArray, List.set_cons_zero, List.set_cons_succ])
                  | (refine ordB_take (v := ?_) rfl rfl ?_ ?_
                     rotate_left 1
                     focus (intro W hW; obtain ⟨hcW, hfW⟩ := bcell hW; (go_simp <;> with_reducible rfl))
                     simp only [Act.put, List.setIfInBounds_toArray, List.set_cons_zero, List.set_cons_succ]))
                refine ordB_nil ?_
                go_wp2_with fail
                go_meet
                exact ⟨rfl, hV6⟩
          case rest =>
            obtain ⟨rfl, hcut⟩ := hcut
            have HBF := Lib.hid (bthen HBA.out hcut)
            clear x0 x1 xl m0 m1 m2 m3 ml y0 y1 yl a0 a1 a2 a3 al k0 k1 k2 k3 kl f0 f1 f2 f3 fl hcut
            go_wp2_with fail
            go_roundw
            case rel => exact ⟨j + 1, by omega, by go_num, HBF.out⟩
            case measure => simp [intOf]; omega
      · go_wp2_with fail
        go_ret
        exact ⟨rfl, bthen HB.out HBR.out⟩

end Go.Proofs.Ytcimnkijpifkjaa
