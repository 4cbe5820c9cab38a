/-
  The walk of ContextBest.
-/
import Derived.Test.YtfjkmgjjifhdkaaZ45
import Derived.Test.YtfjkmgjjifhdkaaZ47
namespace Go.Proofs.Ytfjkmgjjifhdkaa
open Go Go.RowKit

set_option maxRecDepth 100000 in
set_option maxHeartbeats 16000000 in
theorem contextBest_any (AR : Option Addr) (rl : List R4) (cr : Nat) (x : Raw) (A1 A2 A3 : Option Addr) (c1 c2 c3 : Nat) (u0 u1 u2 u3 u4 u5 : Int) (w : World) (hrl : SlR 4 RR4 w AR rl) (hrn : rl.length ≤ maxLen) (hrok : ∀ r ∈ rl, R4OK r) (hraw : RawR w x A1 A2 A3) (h0 : 0 ≤ u0 ∧ u0 ≤ 255) (h1 : 0 ≤ u1 ∧ u1 ≤ 255) (h2 : 0 ≤ u2 ∧ u2 ≤ 255) (h3 : 0 ≤ u3 ∧ u3 ≤ 255) (h4 : 0 ≤ u4 ∧ u4 ≤ 255) (h5 : 0 ≤ u5 ∧ u5 ≤ 255) :
    Calls Try.prog 3 #[.slice AR rl.length cr, .agg #[.slice A1 x.words.length c1, .slice A2 x.counts.length c2, .slice A3 x.uses.length c3, .int .u8 x.back], .agg #[.int .u8 u0, .int .u8 u1, .int .u8 u2, .int .u8 u3, .int .u8 u4, .int .u8 u5]] w fun e w' => e = .returned (.bool true) ∧ Below w.heap.size w w' := by
  obtain ⟨hlm, hw2, hw8⟩ := made_lim x hraw.b2 hraw.b3 hraw.bk
  have HMade : Hid (∀ W, Below w.heap.size w W → Calls Try.prog 6 #[.agg #[.slice A1 x.words.length c1, .slice A2 x.counts.length c2, .slice A3 x.uses.length c3, .int .u8 x.back]] W (GivesMo (madeM x) W)) := fun W hW => co_made_any x A1 A2 A3 c1 c2 c3 W (hraw.below hW)
  generalize madeM x = m at *
  have HOK := Lib.hid hlm.ok
  have HLim := Lib.hid hlm
  have HLaM : Hid (∀ W, Below w.heap.size w W → Calls Try.prog 7 #[.slice AR rl.length cr, .int .u8 u0, .int .i64 (m.ws.length : Int)] W (GivesLa (latM rl u0 (m.ws.length : Int)) W)) := fun W hW => lat_any AR rl cr u0 _ W (hrl.below keeps_r4 hW) hrn hrok h0 ⟨by omega, by omega⟩
  obtain ⟨q1, q2, q3, q4, q5⟩ := latM_ok (l := rl) (pl := u0) (n := (m.ws.length : Int)) h0.1 (by omega) (by omega) hrok
  generalize latM rl u0 (m.ws.length : Int) = la at *
  have HF : Hid (FitsL la m.ws.length) := ⟨q1, fun e he => (q2 e he).1⟩
  have HCO : Hid (∀ e ∈ la.es, e.co ≤ 1000) := fun e he => by have := (q2 e he).2; omega
  have HFull := Lib.hid q5
  have hq0 := q1.1.1
  obtain ⟨w1, hw1⟩ : ∃ V, (w.alloc (.cells #[.slice A1 x.words.length c1, .slice A2 x.counts.length c2, .slice A3 x.uses.length c3, .int .u8 x.back] 27)).alloc (.cells #[.int .u8 u0, .int .u8 u1, .int .u8 u2, .int .u8 u3, .int .u8 u4, .int .u8 u5] 28) = V := ⟨_, rfl⟩
  have hb1 : Below w.heap.size w w1 := by rw [← hw1]; exact nw _ (nw _ (Below.refl _ _))
  have hK0 : Blk w1 w.heap.size 27 #[.slice A1 x.words.length c1, .slice A2 x.counts.length c2, .slice A3 x.uses.length c3, .int .u8 x.back] := by rw [← hw1]; exact (Blk.new _ _ _).alloc _
  have hK1 : Blk w1 (w.heap.size + 1) 28 #[.int .u8 u0, .int .u8 u1, .int .u8 u2, .int .u8 u3, .int .u8 u4, .int .u8 u5] := by rw [← hw1]; exact Blk.new_ (by simp)
  have HW1 := Lib.hid hw1
  clear hw1 hlm hrl hrok hraw q1 q2 q5
  go_enter Try.func3, Try.ntmps3
  go_upto_region 3 with (first
    | (go_at_call 5; go_loud (rw [HW1.out]; refine (sanity20_any w1).mono ?_; rintro e w2 ⟨rfl, hb2⟩; have hkr := hK0.below hb2 hK0.lt; have rw0 := hkr.cell 0; have rw1 := hkr.cell 1; have rw2 := hkr.cell 2; have rw3 := hkr.cell 3; have rwl := hkr.lt; simp at rw0 rw1 rw2 rw3))
    | (go_at_call 6; go_loud (refine (HMade.out _ (bthen hb1 hb2)).mono ?_; rintro e w3 ⟨B1, B2, B3, d1, d2, d3, rfl, hmor, hcaps, hb3⟩; clear rw0 rw1 rw2 rw3 rwl)))
  obtain ⟨W4, hW4⟩ : ∃ V, w3.alloc (.cells #[.slice B1 m.ws.length d1, .slice B2 m.cs.length d2, .slice B3 m.ps.length d3, .int .i64 m.back] 34) = V := ⟨_, rfl⟩
  have hM : MB m w3.heap.size B1 B2 B3 d1 d2 d3 W4 := by rw [← hW4]; exact mb_new hmor hcaps
  have hb34 : Below w3.heap.size w3 W4 := by rw [← hW4]; exact nw _ (Below.refl _ _)
  have hK4 := hK1.below (bthen (bthen hb2 hb3) hb34) hK1.lt
  have HB4 := Lib.hid (bthen hb1 (bthen (bthen hb2 hb3) hb34))
  rw [hW4]
  obtain ⟨gM, hgM⟩ : ∃ b, w3.heap.size = b := ⟨_, rfl⟩
  rw [hgM] at hM ⊢
  obtain ⟨gW, hgW⟩ : ∃ b, w.heap.size + 1 = b := ⟨_, rfl⟩
  have hgWge : w.heap.size ≤ gW := by omega
  have hgMw : w.heap.size ≤ gM := by have := (bthen hb1 (bthen hb2 hb3)).size; omega
  have hgne : gW ≠ gM := by have h1 := hK1.below (bthen hb2 hb3) hK1.lt; have := h1.lt; omega
  rw [hgW] at hK4 ⊢
  have HM4 := Lib.hid hM
  have HK4 := Lib.hid hK4
  have hb34' : Below gM w3 W4 := by rw [← hgM]; exact hb34
  have HR3 := Lib.hid (And.intro hmor (And.intro hb34' hgM))
  clear hb34' hb1 hb2 hb3 hb34 hkr hK0 hK1 hW4 hmor hcaps hgM hgW HW1
  have m0 := hM.b.cell 0
  have m1 := hM.b.cell 1
  have m2 := hM.b.cell 2
  have m3 := hM.b.cell 3
  have ml := hM.b.lt
  have y0 := hK4.cell 0
  have y1 := hK4.cell 1
  have y2 := hK4.cell 2
  have y3 := hK4.cell 3
  have y4 := hK4.cell 4
  have y5 := hK4.cell 5
  have yl := hK4.lt
  simp at m0 m1 m2 m3 y0 y1 y2 y3 y4 y5
  clear hM hK4
  have hwu : IntKind.i64.wrap u1 = u1 := IntWalk.i64_in _ (by omega)
  have hwn : IntKind.i64.wrap ((m.ws.length : Int) + 1) = (m.ws.length : Int) + 1 := IntWalk.i64_in _ (by omega)
  have htm : u1.tmod ((m.ws.length : Int) + 1) = u1 % ((m.ws.length : Int) + 1) := Int.tmod_eq_emod_of_nonneg h1.1
  have hr1 := Int.emod_nonneg u1 (show (m.ws.length : Int) + 1 ≠ 0 by omega)
  have hr2 := Int.emod_lt_of_pos u1 (show 0 < (m.ws.length : Int) + 1 by omega)
  obtain ⟨pq, hpq⟩ : ∃ q, u1 % ((m.ws.length : Int) + 1) = q := ⟨_, rfl⟩
  rw [hpq] at htm hr1 hr2
  have hwq : IntKind.i64.wrap pq = pq := IntWalk.i64_in _ (by omega)
  obtain ⟨prev, hprev⟩ : ∃ q, pq - 1 = q := ⟨_, rfl⟩
  have hwp : IntKind.i64.wrap (pq - 1) = prev := by rw [hprev]; exact IntWalk.i64_in _ (by omega)
  have hpv : -1 ≤ prev ∧ prev < (m.ws.length : Int) := by omega
  have hne : ¬ m.ws = [] := fun e => by rw [e] at hw2; simp at hw2
  have hn0 : ¬ ((m.ws.length : Int) + 1 = 0) := by omega
  clear hpq hprev
  go_cut [9, 10] (fun s9 s10 W => ∃ (g9 : Nat) (A9 : Option Addr) (c9 : Nat), s9 = .pointer (some ⟨g9, 0, none⟩) ∧ s10 = .int .i64 prev ∧ LB la g9 A9 c9 W ∧ Below W4.heap.size W4 W)
  case first =>
    refine ordB_below (.quiet 0 (.quiet 1 (.quiet 2 (.quiet 3 (.quiet 4 (.quiet 5 (.quiet 7 (.quiet 8 (.quiet 9 (.quiet 10 (.quiet 11 (.quiet 12 (.quiet 13 (.quiet 14 (.quiet 15 (.fork 6 16 (.only 16 (.only 17 (.quiet 18 .done))) (.only 6 (.only 17 (.quiet 18 .done))))))))))))))))))) (by kernel_rfl) (by kernel_rfl) (by kernel_rfl) (fun _ _ _ _ _ h => h) ?_
    intro V0 hV0
    iterate 15 (first
      | (refine ordB_skip rfl rfl ?_; simp only [Act.put, List.setIfInBounds_toArray, List.set_cons_zero, List.set_cons_succ])
      | (refine ordB_take (v := ?_) rfl rfl ?_ ?_
         rotate_left 1
         focus (intro W hW; obtain ⟨hcW, hfW⟩ := bcell hW; (go_simp <;> with_reducible rfl))
         simp only [Act.put, List.setIfInBounds_toArray, List.set_cons_zero, List.set_cons_succ]))
    refine ordB_fork (opB_call rfl rfl (fun K hK => ?_)) (opB_call rfl rfl (fun K hK => ?_))
    · go_simp
      go_at_call 7
      refine (HLaM.out _ (bthen HB4.out hV0)).mono ?_
      rintro e VL ⟨A9, c9, rfl, hs9, hk9, hb9, hown9⟩
      refine hK.out _ _ (hV0.trans (hb9.mono hV0.size)) (fun hV0_1 => ?_)
      have hz_1 := hb9.size
      have ho9 := own_ge hown9
      have hu9 := hs9.blkLt
      clear hown9
      refine ordB_only (opB_call rfl rfl (fun K hK => ?_))
      go_simp
      refine hK.out _ _ (hV0_1.alloc hV0_1.size _) (fun hV0_1_2 => ?_)
      have X := Blk.new VL 38 #[.int .i64 0, .slice none 0 0]
      have Xb := nw (.cells #[.int .i64 0, .slice none 0 0] 38) (Below.refl VL.heap.size VL)
      have Xg := hV0_1.size
      obtain ⟨VL_2, qqVL_2⟩ : ∃ W', VL.alloc (.cells #[.int .i64 0, .slice none 0 0] 38) = W' := ⟨_, rfl⟩
      rw [qqVL_2] at hV0_1_2 X Xb ⊢
      have hs9 := hs9.below keeps_ed Xb
      have Xlt := X.lt
      clear qqVL_2
      refine ordB_only (opB_call rfl rfl (fun K hK => ?_))
      have Xc0 := X.cell 0
      have Xf0 := X.frozen 0
      have Xc1 := X.cell 1
      have Xf1 := X.frozen 1
      simp at Xc0 Xc1
      go_simp
      refine hK.out _ _ ((hV0_1_2.setCell (p := ⟨VL.heap.size, 0, none⟩) Xg _).setCell (p := ⟨VL.heap.size, 1, none⟩) Xg _) (fun hV0_1_2_3 => ?_)
      have X := ((X.set_ 0 (.int .i64 la.n)).set_ 1 (.slice A9 la.es.length c9))
      have hs9Xne : ∀ a, A9 = some a → la.es ≠ [] → a.block ≠ VL.heap.size := fun a h hn => by have h1 := ho9 a h; have h2 := hu9 hn a h; omega
      have hs9 := ((hs9.awayG ed_any (p := ⟨VL.heap.size, 0, none⟩) hs9Xne (.int .i64 la.n)).awayG ed_any (p := ⟨VL.heap.size, 1, none⟩) hs9Xne (.slice A9 la.es.length c9))
      obtain ⟨VL_2_3, qqVL_2_3⟩ : ∃ W', ((VL_2.setCell ⟨VL.heap.size, 0, none⟩ (.int .i64 la.n)).setCell ⟨VL.heap.size, 1, none⟩ (.slice A9 la.es.length c9)) = W' := ⟨_, rfl⟩
      rw [qqVL_2_3] at hV0_1_2_3 X hs9 ⊢
      clear qqVL_2_3 Xc0 Xf0 Xc1 Xf1
      iterate 1 (first
        | (refine ordB_skip rfl rfl ?_; simp only [Act.put, List.setIfInBounds_toArray, List.set_cons_zero, List.set_cons_succ])
        | (refine ordB_take (v := ?_) rfl rfl ?_ ?_
           rotate_left 1
           focus (intro W hW; obtain ⟨hcW, hfW⟩ := bcell hW; (go_simp <;> with_reducible rfl))
           simp only [Act.put, List.setIfInBounds_toArray, List.set_cons_zero, List.set_cons_succ]))
      refine ordB_nil ?_
      go_wp2_with fail
      go_meet
      exact ⟨_, A9, c9, rfl, rfl, ⟨by simpa using X, hs9, hk9⟩, hV0_1_2_3⟩
    · go_simp
      refine hK.out _ _ (hV0.alloc hV0.size _) (fun hV0_1 => ?_)
      have X := Blk.new V0 38 #[.int .i64 0, .slice none 0 0]
      have Xb := nw (.cells #[.int .i64 0, .slice none 0 0] 38) (Below.refl V0.heap.size V0)
      have Xg := hV0.size
      obtain ⟨V0_1, qqV0_1⟩ : ∃ W', V0.alloc (.cells #[.int .i64 0, .slice none 0 0] 38) = W' := ⟨_, rfl⟩
      rw [qqV0_1] at hV0_1 X Xb ⊢
      have Xlt := X.lt
      clear qqV0_1
      refine ordB_only (opB_call rfl rfl (fun K hK => ?_))
      go_simp
      go_at_call 7
      refine (HLaM.out _ (bthen HB4.out hV0_1)).mono ?_
      rintro e VL ⟨A9, c9, rfl, hs9, hk9, hb9, hown9⟩
      refine hK.out _ _ (hV0_1.trans (hb9.mono hV0_1.size)) (fun hV0_1_2 => ?_)
      have X := X.below hb9 X.lt
      have hz_2 := hb9.size
      have ho9 := own_ge hown9
      have hu9 := hs9.blkLt
      clear hown9
      refine ordB_only (opB_call rfl rfl (fun K hK => ?_))
      have Xc0 := X.cell 0
      have Xf0 := X.frozen 0
      have Xc1 := X.cell 1
      have Xf1 := X.frozen 1
      simp at Xc0 Xc1
      go_simp
      refine hK.out _ _ ((hV0_1_2.setCell (p := ⟨V0.heap.size, 0, none⟩) Xg _).setCell (p := ⟨V0.heap.size, 1, none⟩) Xg _) (fun hV0_1_2_3 => ?_)
      have X := ((X.set_ 0 (.int .i64 la.n)).set_ 1 (.slice A9 la.es.length c9))
      have hs9Xne : ∀ a, A9 = some a → la.es ≠ [] → a.block ≠ V0.heap.size := fun a h hn => by have h1 := ho9 a h; have h2 := hu9 hn a h; omega
      have hs9 := ((hs9.awayG ed_any (p := ⟨V0.heap.size, 0, none⟩) hs9Xne (.int .i64 la.n)).awayG ed_any (p := ⟨V0.heap.size, 1, none⟩) hs9Xne (.slice A9 la.es.length c9))
      obtain ⟨VL_3, qqVL_3⟩ : ∃ W', ((VL.setCell ⟨V0.heap.size, 0, none⟩ (.int .i64 la.n)).setCell ⟨V0.heap.size, 1, none⟩ (.slice A9 la.es.length c9)) = W' := ⟨_, rfl⟩
      rw [qqVL_3] at hV0_1_2_3 X hs9 ⊢
      clear qqVL_3 Xc0 Xf0 Xc1 Xf1
      iterate 1 (first
        | (refine ordB_skip rfl rfl ?_; simp only [Act.put, List.setIfInBounds_toArray, List.set_cons_zero, List.set_cons_succ])
        | (refine ordB_take (v := ?_) rfl rfl ?_ ?_
           rotate_left 1
           focus (intro W hW; obtain ⟨hcW, hfW⟩ := bcell hW; (go_simp <;> with_reducible rfl))
           simp only [Act.put, List.setIfInBounds_toArray, List.set_cons_zero, List.set_cons_succ]))
      refine ordB_nil ?_
      go_wp2_with fail
      go_meet
      exact ⟨_, A9, c9, rfl, rfl, ⟨by simpa using X, hs9, hk9⟩, hV0_1_2_3⟩
  case rest =>
    obtain ⟨W5, rfl⟩ : ∃ W, W = wc := ⟨wc, rfl⟩
    obtain ⟨gX, A9, c9, rfl, rfl, hX, hb5⟩ := hcut
    have HX5 := Lib.hid hX
    have HM5 := Lib.hid (HM4.out.below hb5)
    have HK5 := Lib.hid (HK4.out.below hb5 HK4.out.lt)
    have HB5 := Lib.hid (bthen HB4.out hb5)
    clear m0 m1 m2 m3 ml y0 y1 y2 y3 y4 y5 yl hwu hwn htm hr1 hr2 hwq hwp hX hb5 HM4 HK4 HB4
    have x0 := HX5.out.b.cell 0
    have x1 := HX5.out.b.cell 1
    have xl := HX5.out.b.lt
    have m0 := HM5.out.b.cell 0
    have m1 := HM5.out.b.cell 1
    have m2 := HM5.out.b.cell 2
    have m3 := HM5.out.b.cell 3
    have ml := HM5.out.b.lt
    simp at x0 x1 m0 m1 m2 m3
    obtain ⟨nl, hnl⟩ : ∃ n, (nodesL la prev).length = n := ⟨_, rfl⟩
    obtain ⟨G, hG⟩ : ∃ G, lksL la m prev = G := ⟨_, rfl⟩
    obtain ⟨L, hL⟩ : ∃ L, lastL la prev = L := ⟨_, rfl⟩
    have HNL := Lib.hid hnl
    have HG := Lib.hid hG
    have HL := Lib.hid hL
    clear hnl hG hL
    go_upto_region 5 with (go_at_call 8; go_loud (refine (lawbuild_ok la A9 c9 m B1 B2 B3 d1 d2 d3 prev W5 HX5.out.s q3 HM5.out.r HM5.out.k.2.2.1 HM5.out.k.2.2.2 HOK.out HF.out hpv HNL.out HG.out HL.out).mono ?_; rintro e w6 ⟨LA, LB, cA, cB, rfl, hsG, hsL, hkG, hb6⟩))
    obtain ⟨W6, hW6⟩ : ∃ V, w6.alloc (.cells #[.int .i64 (nl : Int), .slice LA G.length cA, .slice LB nl cB, .int .i64 0] 45) = V := ⟨_, rfl⟩
    have hb66 : Below w6.heap.size w6 W6 := by rw [← hW6]; exact nw _ (Below.refl _ _)
    have HA : Hid (Blk W6 w6.heap.size 45 #[.int .i64 (nl : Int), .slice LA G.length cA, .slice LB nl cB, .int .i64 0]) := by rw [← hW6]; exact Blk.new _ _ _
    have hb56 := bthen hb6 hb66
    have HX := Lib.hid (HX5.out.below hb56)
    have HM := Lib.hid (HM5.out.below hb56)
    have HK := Lib.hid (HK5.out.below hb56 HK5.out.lt)
    have HB := Lib.hid (bthen HB5.out hb56)
    have HGS := Lib.hid (hsG.below keeps_lk hb66)
    have HLS := Lib.hid (hsL.below keeps_int hb66)
    rw [hW6]
    obtain ⟨gA, hgA⟩ : ∃ b, w6.heap.size = b := ⟨_, rfl⟩
    rw [hgA] at HA ⊢
    clear x0 x1 xl m0 m1 m2 m3 ml hb6 hb66 hb56 hW6 hgA hsG hsL HX5 HM5 HK5 HB5
    have HC : Hid (∀ W, Below W6.heap.size W6 W → (W.cell? ⟨gX, 0, none⟩ = some (.int .i64 la.n) ∧ W.cell? ⟨gX, 1, none⟩ = some (.slice A9 la.es.length c9) ∧ gX < W.heap.size) ∧ (W.cell? ⟨gM, 0, none⟩ = some (.slice B1 m.ws.length d1) ∧ W.cell? ⟨gM, 1, none⟩ = some (.slice B2 m.cs.length d2) ∧ W.cell? ⟨gM, 2, none⟩ = some (.slice B3 m.ps.length d3) ∧ W.cell? ⟨gM, 3, none⟩ = some (.int .i64 m.back) ∧ gM < W.heap.size) ∧ (W.cell? ⟨gW, 0, none⟩ = some (.int .u8 u0) ∧ W.cell? ⟨gW, 1, none⟩ = some (.int .u8 u1) ∧ W.cell? ⟨gW, 2, none⟩ = some (.int .u8 u2) ∧ W.cell? ⟨gW, 3, none⟩ = some (.int .u8 u3) ∧ W.cell? ⟨gW, 4, none⟩ = some (.int .u8 u4) ∧ W.cell? ⟨gW, 5, none⟩ = some (.int .u8 u5) ∧ gW < W.heap.size) ∧ (W.cell? ⟨gA, 0, none⟩ = some (.int .i64 (nl : Int)) ∧ W.cell? ⟨gA, 1, none⟩ = some (.slice LA G.length cA) ∧ W.cell? ⟨gA, 2, none⟩ = some (.slice LB nl cB) ∧ W.cell? ⟨gA, 3, none⟩ = some (.int .i64 0) ∧ gA < W.heap.size)) := fun W hW => by
      have f1 := (HX.out.below hW).b
      have f2 := (HM.out.below hW).b
      have f3 := HK.out.below hW HK.out.lt
      have f4 := HA.out.below hW HA.out.lt
      exact ⟨⟨by rw [f1.cell]; rfl, by rw [f1.cell]; rfl, f1.lt⟩, ⟨by rw [f2.cell]; rfl, by rw [f2.cell]; rfl, by rw [f2.cell]; rfl, by rw [f2.cell]; rfl, f2.lt⟩, ⟨by rw [f3.cell]; rfl, by rw [f3.cell]; rfl, by rw [f3.cell]; rfl, by rw [f3.cell]; rfl, by rw [f3.cell]; rfl, by rw [f3.cell]; rfl, f3.lt⟩, ⟨by rw [f4.cell]; rfl, by rw [f4.cell]; rfl, by rw [f4.cell]; rfl, by rw [f4.cell]; rfl, f4.lt⟩⟩
    have hx0 : Below W6.heap.size W6 W6 := Below.refl _ _
    have HGK : Hid (GrOK (grL la m prev)) := grL_ok HOK.out HF.out HCO.out (by omega)
    have hnl1 := nodesL_len la prev
    rw [HNL.out] at hnl1
    have HN2 : Hid ((nodesL la prev).length ≤ 200) := by show _ ≤ _; rw [HNL.out]; omega
    have HFA : Hid (FitsAll la m prev) := ⟨HOK.out, hpv, HF.out⟩
    obtain ⟨kr, hkr⟩ : ∃ q, u5 % 6 = q := ⟨_, rfl⟩
    have hkr2 : 0 ≤ kr ∧ kr ≤ 5 := by omega
    have htm5 : u5.tmod 6 = kr := by rw [Int.tmod_eq_emod_of_nonneg h5.1]; exact hkr
    have hwk1 : IntKind.u8.wrap kr = kr := by rw [IntKind.wrap_u8]; omega
    have hwk2 : IntKind.i64.wrap kr = kr := IntWalk.i64_in _ (by omega)
    obtain ⟨kn, hkn⟩ : ∃ kn : Nat, 1 + kr = (kn : Int) := ⟨(1 + kr).toNat, by omega⟩
    have hwk3 : IntKind.i64.wrap (1 + kr) = (kn : Int) := by rw [hkn]; exact IntWalk.i64_in _ (by omega)
    have hkn1 : 1 ≤ kn := by omega
    have hkn2 : kn ≤ 50 := by omega
    clear hkr hkn
    have HLI : Hid (∀ W, Below W6.heap.size W6 W → Calls Try.prog 9 #[.agg #[.int .i64 (nl : Int), .slice LA G.length cA], .int .i64 (kn : Int)] W fun e w' => ∃ (LS : List Can) (B : Option Addr) (d : Nat), e = .returned (.tuple #[.slice B LS.length d, .int .i64 0]) ∧ SlR 2 RCan w' B LS ∧ Hid (IsList (grL la m prev) kn LS) ∧ Below W.heap.size W w') := fun W hW => list20_any la m prev LA cA kn W HNL.out HG.out HGK.out hkn2 (HGS.out.below keeps_lk hW)
    obtain ⟨⟨x0, x1, xl⟩, ⟨m0, m1, m2, m3, ml⟩, ⟨y0, y1, y2, y3, y4, y5, yl⟩, ⟨a0, a1, a2, a3, al⟩⟩ := HC.out _ hx0
    go_upto_region 6 with fail
    clear htm5 hwk1 hwk2 hwk3
    go_upto_region 7 with (go_at_call 9; go_loud (refine (HLI.out _ hx0).mono ?_; rintro e W7 ⟨LS, B12, d12, rfl, hls, hil, hb7⟩))
    have HLS7 := Lib.hid hls
    have HIL := Lib.hid hil.out
    have HB7 := Lib.hid hb7
    clear hx0 hls hil x0 x1 xl m0 m1 m2 m3 ml y0 y1 y2 y3 y4 y5 yl a0 a1 a2 a3 al
    obtain ⟨⟨x0, x1, xl⟩, ⟨m0, m1, m2, m3, ml⟩, ⟨y0, y1, y2, y3, y4, y5, yl⟩, ⟨a0, a1, a2, a3, al⟩⟩ := HC.out _ hb7
    have HLX := HX.out.below hb7
    clear hb7
    go_upto_region 8 with (go_at_call 10; go_loud (refine (way20_any HLX HF.out.1 q3 HFull.out h2 h3 h4).mono ?_; rintro e W8 ⟨B15, c15, o, rfl, hso, hway, ho40, hoc, hcm, hb8⟩))
    have HSO := Lib.hid hso
    have HWay := Lib.hid hway
    have HB8 := Lib.hid (bthen HB7.out hb8)
    have HLS8 := Lib.hid (HLS7.out.below keeps_can hb8)
    obtain ⟨hB1, hB2, hB3⟩ := best20 HGK.out HF.out.1 hkn1 HIL.out hway
    have hLn : LS.length ≠ 0 := fun e => hB1 (List.length_eq_zero_iff.1 e)
    have HB2 := Lib.hid hB2
    have HB3 := Lib.hid hB3
    have HCost : Hid (∀ W, Below W8.heap.size W8 W → Calls Try.prog 11 #[.agg #[.int .i64 la.n, .slice A9 la.es.length c9], .agg #[.slice B1 m.ws.length d1, .slice B2 m.cs.length d2, .slice B3 m.ps.length d3, .int .i64 m.back], .int .i64 prev, .slice B15 o.length c15] W fun e w' => e = .returned (.tuple #[.int .i64 (wsum la m prev o), .bool true]) ∧ Below W.heap.size W w') := fun W hW => by
      have hb := bthen HB8.out hW
      have h := ccost_any la A9 c9 m B1 B2 B3 d1 d2 d3 prev B15 o c15 W (HX.out.below hb).s (by unfold maxLen; omega) (HM.out.below hb).r HM.out.k.2.2.1 HM.out.k.2.2.2 (HSO.out.below keeps_int hW) (by omega)
      rw [way_costM HFA.out HWay.out] at h
      exact h
    have HLI2 := HIL.out.len
    clear HLX hso hway hb8 hB1 hB2 hB3 x0 x1 xl m0 m1 m2 m3 ml y0 y1 y2 y3 y4 y5 yl a0 a1 a2 a3 al
    obtain ⟨⟨x0, x1, xl⟩, ⟨m0, m1, m2, m3, ml⟩, ⟨y0, y1, y2, y3, y4, y5, yl⟩, ⟨a0, a1, a2, a3, al⟩⟩ := HC.out _ HB8.out
    have hLz : ((LS.length : Int) == 0) = false := by simp only [beq_eq_false_iff_ne, ne_eq]; omega
    have hLp : 0 < LS.length := by omega
    have hLpI : (0 : Int) < (LS.length : Int) := by omega
    obtain ⟨S, hS⟩ : ∃ s, wsum la m prev o = s := ⟨_, rfl⟩
    rw [hS] at HCost HB2 HB3
    clear hS
    go_upto_region 10 with fail
    go_upto_region 11 with (go_at_call 11; go_loud (refine (HCost.out _ (Below.refl _ _)).mono ?_; rintro e W9 ⟨rfl, hb9⟩))
    have HB9 := Lib.hid (bthen HB8.out hb9)
    have HLS9 := Lib.hid (HLS8.out.below keeps_can hb9)
    have HSO9 := Lib.hid (HSO.out.below keeps_int hb9)
    clear hb9 x0 x1 xl m0 m1 m2 m3 ml y0 y1 y2 y3 y4 y5 yl a0 a1 a2 a3 al
    obtain ⟨⟨x0, x1, xl⟩, ⟨m0, m1, m2, m3, ml⟩, ⟨y0, y1, y2, y3, y4, y5, yl⟩, ⟨a0, a1, a2, a3, al⟩⟩ := HC.out _ HB9.out
    obtain ⟨bL, oL, c0, AC0, cC0, hA0, hbb0, hcc0, t0, t1, _, _, _⟩ := HLS9.out.can hLp
    simp only [Nat.zero_mul, Nat.add_zero] at t0 t1
    subst hA0
    have hS0 : ¬ S < c0.cost := by have := HB2.out c0 hcc0; omega
    clear hcc0 hLz
    go_wp2_with fail
    go_loopw [19, 20] (fun s i wr => ∃ j : Nat, j ≤ LS.length ∧ s = .bool (amongB la m prev (LS.take j) o) ∧ i = .int .i64 j ∧ Below W9.heap.size W9 wr) (fun _ i _ => LS.length - (intOf i).toNat)
    case atStart => exact ⟨0, by omega, rfl, rfl, Below.refl _ _⟩
    case round =>
      obtain ⟨j, hj, rfl, rfl, hbr⟩ := hrel
      have HBR9 := Lib.hid hbr
      have HBR := Lib.hid (bthen HB9.out hbr)
      clear t0 t1 hbb0 hS0 x0 x1 xl m0 m1 m2 m3 ml y0 y1 y2 y3 y4 y5 yl a0 a1 a2 a3 al
      obtain ⟨⟨x0, x1, xl⟩, ⟨m0, m1, m2, m3, ml⟩, ⟨y0, y1, y2, y3, y4, y5, yl⟩, ⟨a0, a1, a2, a3, al⟩⟩ := HC.out _ HBR.out
      by_cases hlt : j < LS.length
      · obtain ⟨b, off, c, AC, cC, hA1, hbb, hcc, t0, t1, hlk, _, _⟩ := (HLS9.out.below keeps_can hbr).can hlt
        injection hA1 with hA1
        injection hA1 with e1 e2
        subst e1 e2
        have hAS := among_succ (x := la) (m := m) (prev := prev) (o := o) hcc
        have hcan := HIL.out.can c (List.mem_of_getElem? hcc)
        have hcf := canF HGK.out HF.out.1 HN2.out hcan
        rw [HG.out] at hcf
        obtain ⟨E, hE⟩ : ∃ l, labL (grL la m prev) c.links = l := ⟨_, rfl⟩
        rw [hE] at hcf hAS
        have HAS := Lib.hid hAS
        have HCF := Lib.hid hcf
        have HLK := Lib.hid hlk
        have hE2 : E.length ≤ 200 := by have h1 := hcf.same; have h2 := hcf.len; omega
        have hjI : (j : Int) < (LS.length : Int) := by omega
        have hj0 : (0 : Int) ≤ (j : Int) := by omega
        have HLA : Hid (∀ W, Below wr.heap.size wr W → Calls Try.prog 13 #[.agg #[.int .i64 (nl : Int), .slice LA G.length cA], .agg #[.slice AC c.links.length cC, .int .i64 c.cost]] W (GivesIs E W)) := fun W hW => by
          have h := labels_any (nl : Int) LA G cA AC c.links cC c.cost W (HGS.out.below keeps_lk (bthen HBR.out hW)) (HLK.out.below keeps_int hW) (by have := HCF.out.len; omega) (fun i hi => lkIn_lab (HCF.out.lk i hi))
          rw [HCF.out.lab] at h
          exact h
        have HIN : Hid (∀ W B d, Below wr.heap.size wr W → SlR 1 RInt W B E → Calls Try.prog 12 #[.slice B E.length d, .slice B15 o.length c15] W fun e w' => e = .returned (.bool (decide (E = o))) ∧ Below W.heap.size W w') := fun W B d hW hB =>
          co_ints_any B B15 E o d c15 W hB (HSO9.out.below keeps_int (bthen hbr hW)) (by omega)
        obtain ⟨am, ham⟩ : ∃ a, amongB la m prev (LS.take j) o = a := ⟨_, rfl⟩
        rw [ham] at HAS ⊢
        clear hAS hcan hcf hE hcc hlk ham hbr
        obtain ⟨de, hde⟩ : ∃ a, decide (E = o) = a := ⟨_, rfl⟩
        rw [hde] at HAS HIN
        clear hde
        go_upto_region 17 with fail
        cases am
        · cases de
          · refine ordB_below (.quiet 0 (.quiet 1 (.quiet 2 (.quiet 3 (.quiet 4 (.quiet 5 (.quiet 6 (.quiet 7 (.quiet 9 (.only 8 (.only 10 (.quiet 11 (.quiet 12 .done))))))))))))) (by kernel_rfl) (by kernel_rfl) (by kernel_rfl) (fun _ _ _ _ _ h => h) ?_
            intro V5 hV5
            iterate 9 (first
              | (refine ordB_skip rfl rfl ?_; simp only [Act.put, List.setIfInBounds_toArray, List.set_cons_zero, List.set_cons_succ])
              | (refine ordB_take (v := ?_) rfl rfl ?_ ?_
                 rotate_left 1
                 focus (intro W hW; obtain ⟨hcW, hfW⟩ := bcell hW; (go_simp <;> with_reducible rfl))
                 simp only [Act.put, List.setIfInBounds_toArray, List.set_cons_zero, List.set_cons_succ]))
            refine ordB_only (opB_call rfl rfl (fun K hK => ?_))
            go_simp
            go_at_call 13
            refine (HLA.out _ hV5).mono ?_
            rintro e V5_1 ⟨B61, c61, rfl, hs61, hk61, hb61⟩
            refine hK.out _ _ (hV5.trans (hb61.mono hV5.size)) (fun hV5_1 => ?_)
            refine ordB_only (opB_call rfl rfl (fun K hK => ?_))
            go_simp
            go_at_call 12
            refine (HIN.out _ _ _ hV5_1 hs61).mono ?_
            rintro e V5_1_2 ⟨rfl, hb62⟩
            refine hK.out _ _ (hV5_1.trans (hb62.mono hV5_1.size)) (fun hV5_1_2 => ?_)
            iterate 2 (first
              | (refine ordB_skip rfl rfl ?_; simp only [Act.put, List.setIfInBounds_toArray, List.set_cons_zero, List.set_cons_succ])
              | (refine ordB_take (v := ?_) rfl rfl ?_ ?_
                 rotate_left 1
                 focus (intro W hW; obtain ⟨hcW, hfW⟩ := bcell hW; (go_simp <;> with_reducible rfl))
                 simp only [Act.put, List.setIfInBounds_toArray, List.set_cons_zero, List.set_cons_succ]))
            refine ordB_nil ?_
            have HBF := Lib.hid (bthen HBR9.out hV5_1_2)
            go_wp2_with fail
            go_roundw
            case rel => exact ⟨j + 1, by omega, by rw [HAS.out]; rfl, by go_num, HBF.out⟩
            case measure => simp [intOf]; omega
          · refine ordB_below (.quiet 0 (.quiet 1 (.quiet 2 (.quiet 3 (.quiet 4 (.quiet 5 (.quiet 6 (.quiet 7 (.quiet 9 (.only 8 (.only 10 (.quiet 11 (.quiet 12 .done))))))))))))) (by kernel_rfl) (by kernel_rfl) (by kernel_rfl) (fun _ _ _ _ _ h => h) ?_
            intro V6 hV6
            iterate 9 (first
              | (refine ordB_skip rfl rfl ?_; simp only [Act.put, List.setIfInBounds_toArray, List.set_cons_zero, List.set_cons_succ])
              | (refine ordB_take (v := ?_) rfl rfl ?_ ?_
                 rotate_left 1
                 focus (intro W hW; obtain ⟨hcW, hfW⟩ := bcell hW; (go_simp <;> with_reducible rfl))
                 simp only [Act.put, List.setIfInBounds_toArray, List.set_cons_zero, List.set_cons_succ]))
            refine ordB_only (opB_call rfl rfl (fun K hK => ?_))
            go_simp
            go_at_call 13
            refine (HLA.out _ hV6).mono ?_
            rintro e V6_1 ⟨B61, c61, rfl, hs61, hk61, hb61⟩
            refine hK.out _ _ (hV6.trans (hb61.mono hV6.size)) (fun hV6_1 => ?_)
            refine ordB_only (opB_call rfl rfl (fun K hK => ?_))
            go_simp
            go_at_call 12
            refine (HIN.out _ _ _ hV6_1 hs61).mono ?_
            rintro e V6_1_2 ⟨rfl, hb62⟩
            refine hK.out _ _ (hV6_1.trans (hb62.mono hV6_1.size)) (fun hV6_1_2 => ?_)
            iterate 2 (first
              | (refine ordB_skip rfl rfl ?_; simp only [Act.put, List.setIfInBounds_toArray, List.set_cons_zero, List.set_cons_succ])
              | (refine ordB_take (v := ?_) rfl rfl ?_ ?_
                 rotate_left 1
                 focus (intro W hW; obtain ⟨hcW, hfW⟩ := bcell hW; (go_simp <;> with_reducible rfl))
                 simp only [Act.put, List.setIfInBounds_toArray, List.set_cons_zero, List.set_cons_succ]))
            refine ordB_nil ?_
            have HBF := Lib.hid (bthen HBR9.out hV6_1_2)
            go_wp2_with fail
            go_roundw
            case rel => exact ⟨j + 1, by omega, by rw [HAS.out]; rfl, by go_num, HBF.out⟩
            case measure => simp [intOf]; omega
        · refine ordB_below (.quiet 0 (.quiet 1 (.quiet 2 (.quiet 3 (.quiet 4 (.quiet 5 (.quiet 6 (.quiet 7 (.quiet 9 (.only 8 (.only 10 (.quiet 11 (.quiet 12 .done))))))))))))) (by kernel_rfl) (by kernel_rfl) (by kernel_rfl) (fun _ _ _ _ _ h => h) ?_
          intro V7 hV7
          iterate 9 (first
            | (refine ordB_skip rfl rfl ?_; simp only [Act.put, List.setIfInBounds_toArray, List.set_cons_zero, List.set_cons_succ])
            | (refine ordB_take (v := ?_) rfl rfl ?_ ?_
               rotate_left 1
               focus (intro W hW; obtain ⟨hcW, hfW⟩ := bcell hW; (go_simp <;> with_reducible rfl))
               simp only [Act.put, List.setIfInBounds_toArray, List.set_cons_zero, List.set_cons_succ]))
          refine ordB_only (opB_cskip rfl rfl hV7 ?_)
          simp only [Act.put, List.setIfInBounds_toArray, List.set_cons_zero, List.set_cons_succ]
          refine ordB_only (opB_cskip rfl rfl hV7 ?_)
          simp only [Act.put, List.setIfInBounds_toArray, List.set_cons_zero, List.set_cons_succ]
          iterate 2 (first
            | (refine ordB_skip rfl rfl ?_; simp only [Act.put, List.setIfInBounds_toArray, List.set_cons_zero, List.set_cons_succ])
            | (refine ordB_take (v := ?_) rfl rfl ?_ ?_
               rotate_left 1
               focus (intro W hW; obtain ⟨hcW, hfW⟩ := bcell hW; (go_simp <;> with_reducible rfl))
               simp only [Act.put, List.setIfInBounds_toArray, List.set_cons_zero, List.set_cons_succ]))
          refine ordB_nil ?_
          have HBF := Lib.hid (bthen HBR9.out hV7)
          go_wp2_with fail
          go_roundw
          case rel => exact ⟨j + 1, by omega, by rw [HAS.out]; rfl, by go_num, HBF.out⟩
          case measure => simp [intOf]; omega
      · obtain rfl : j = LS.length := by omega
        rw [List.take_length]
        obtain ⟨am, ham⟩ : ∃ a, amongB la m prev LS o = a := ⟨_, rfl⟩
        rw [ham] at HB3 ⊢
        have HBE := Lib.hid (bthen HB.out HBR.out)
        clear ham hbr
        cases am
        · obtain ⟨hl, hc⟩ := HB3.out rfl
          obtain ⟨bL', oL', cL, ACL, cCL, hA2, hbb2, hcc2, t0, t1, _, _, _⟩ := (HLS9.out.below keeps_can HBR9.out).can (k := LS.length - 1) (by omega)
          injection hA2 with hA2
          injection hA2 with e1 e2
          subst e1 e2
          have hS1 : cL.cost ≤ S := hc cL (List.mem_of_getElem? hcc2)
          have hlk1 : LS.length = kn := hl
          obtain ⟨km, hkm⟩ : ∃ km, kn = km + 1 := ⟨kn - 1, by omega⟩
          have HKK : Hid (LS.length = km + 1) := hl.trans hkm
          have hkm2 : LS.length - 1 = km := by omega
          rw [hkm2] at t0 t1
          have z1 : ((LS.length : Int) == (kn : Int)) = true := by simp; omega
          have hw1 : IntKind.i64.wrap ((kn : Int) - 1) = (km : Int) := by rw [IntWalk.i64_in _ (by omega)]; omega
          have hk0 : (0 : Int) ≤ (km : Int) := by omega
          have hkI : (km : Int) < (LS.length : Int) := by omega
          clear hcc2 hc hl hkm hkm2 hlk1
          go_wp2_with fail
          go_ret
          exact ⟨rfl, HBE.out⟩
        · go_wp2_with fail
          go_ret
          exact ⟨rfl, HBE.out⟩

end Go.Proofs.Ytfjkmgjjifhdkaa
