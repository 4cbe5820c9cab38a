/-
  The walk of ContextWays.
-/
import Derived.Test.YtfjkmgjjifhdkaaZ43
import Derived.Test.YtfjkmgjjifhdkaaZ47
import Derived.Test.YtfjkmgjjifhdkaaZ45
namespace Go.Proofs.Ytfjkmgjjifhdkaa
open Go Go.RowKit

set_option maxRecDepth 100000 in
set_option maxHeartbeats 16000000 in
theorem contextWays_any (AR : Option Addr) (rl : List R4) (cr : Nat) (x : Raw) (A1 A2 A3 : Option Addr) (c1 c2 c3 : Nat) (u0 u1 : Int) (w : World) (hrl : SlR 4 RR4 w AR rl) (hrn : rl.length ≤ maxLen) (hrok : ∀ r ∈ rl, R4OK r) (hraw : RawR w x A1 A2 A3) (h0 : 0 ≤ u0 ∧ u0 ≤ 255) (h1 : 0 ≤ u1 ∧ u1 ≤ 255) :
    Calls Try.prog 4 #[.slice AR rl.length cr, .agg #[.slice A1 x.words.length c1, .slice A2 x.counts.length c2, .slice A3 x.uses.length c3, .int .u8 x.back], .agg #[.int .u8 u0, .int .u8 u1]] w fun e w' => e = .returned (.bool true) ∧ Below w.heap.size w w' := by
  obtain ⟨hlm, hw2, hw8⟩ := made_lim x hraw.b2 hraw.b3 hraw.bk
  have HMade : Hid (∀ W, Below w.heap.size w W → Calls Try.prog 6 #[.agg #[.slice A1 x.words.length c1, .slice A2 x.counts.length c2, .slice A3 x.uses.length c3, .int .u8 x.back]] W (GivesMo (madeM x) W)) := fun W hW => co_made_any x A1 A2 A3 c1 c2 c3 W (hraw.below hW)
  generalize madeM x = m at *
  have HOK := Lib.hid hlm.ok
  have HLim := Lib.hid hlm
  have HLaM : Hid (∀ W, Below w.heap.size w W → Calls Try.prog 7 #[.slice AR rl.length cr, .int .u8 u0, .int .i64 (m.ws.length : Int)] W (GivesLa (latM rl u0 (m.ws.length : Int)) W)) := fun W hW => lat_any AR rl cr u0 _ W (hrl.below keeps_r4 hW) hrn hrok h0 ⟨by omega, by omega⟩
  obtain ⟨q1, q2, q3, q4, q5⟩ := latM_ok (l := rl) (pl := u0) (n := (m.ws.length : Int)) h0.1 (by omega) (by omega) hrok
  generalize latM rl u0 (m.ws.length : Int) = la at *
  have HF : Hid (FitsL la m.ws.length) := ⟨q1, fun e he => (q2 e he).1⟩
  have HCO : Hid (∀ e ∈ la.es, e.co ≤ 1000) := fun e he => by have := (q2 e he).2; omega
  have HFull := Lib.hid q5
  have hq0 := q1.1.1
  obtain ⟨w1, hw1⟩ : ∃ V, (w.alloc (.cells #[.slice A1 x.words.length c1, .slice A2 x.counts.length c2, .slice A3 x.uses.length c3, .int .u8 x.back] 27)).alloc (.cells #[.int .u8 u0, .int .u8 u1] 59) = V := ⟨_, rfl⟩
  have hb1 : Below w.heap.size w w1 := by rw [← hw1]; exact nw _ (nw _ (Below.refl _ _))
  have hK0 : Blk w1 w.heap.size 27 #[.slice A1 x.words.length c1, .slice A2 x.counts.length c2, .slice A3 x.uses.length c3, .int .u8 x.back] := by rw [← hw1]; exact (Blk.new _ _ _).alloc _
  have hK1 : Blk w1 (w.heap.size + 1) 59 #[.int .u8 u0, .int .u8 u1] := by rw [← hw1]; exact Blk.new_ (by simp)
  have HW1 := Lib.hid hw1
  clear hw1 hlm hrl hrok hraw q1 q2 q5
  go_enter Try.func4, Try.ntmps4
  go_upto_region 3 with (first
    | (go_at_call 5; go_loud (rw [HW1.out]; refine (sanity20_any w1).mono ?_; rintro e w2 ⟨rfl, hb2⟩; have hkr := hK0.below hb2 hK0.lt; have rw0 := hkr.cell 0; have rw1 := hkr.cell 1; have rw2 := hkr.cell 2; have rw3 := hkr.cell 3; have rwl := hkr.lt; simp at rw0 rw1 rw2 rw3))
    | (go_at_call 6; go_loud (refine (HMade.out _ (bthen hb1 hb2)).mono ?_; rintro e w3 ⟨B1, B2, B3, d1, d2, d3, rfl, hmor, hcaps, hb3⟩; clear rw0 rw1 rw2 rw3 rwl)))
  obtain ⟨W4, hW4⟩ : ∃ V, w3.alloc (.cells #[.slice B1 m.ws.length d1, .slice B2 m.cs.length d2, .slice B3 m.ps.length d3, .int .i64 m.back] 34) = V := ⟨_, rfl⟩
  have hM : MB m w3.heap.size B1 B2 B3 d1 d2 d3 W4 := by rw [← hW4]; exact mb_new hmor hcaps
  have hb34 : Below w3.heap.size w3 W4 := by rw [← hW4]; exact nw _ (Below.refl _ _)
  have hK4 := hK1.below (bthen (bthen hb2 hb3) hb34) hK1.lt
  have HB4 := Lib.hid (bthen hb1 (bthen (bthen hb2 hb3) hb34))
  rw [hW4]
  obtain ⟨gM, hgM⟩ : ∃ b, w3.heap.size = b := ⟨_, rfl⟩
  rw [hgM] at hM ⊢
  obtain ⟨gW, hgW⟩ : ∃ b, w.heap.size + 1 = b := ⟨_, rfl⟩
  have hgWge : w.heap.size ≤ gW := by omega
  have hgMw : w.heap.size ≤ gM := by have := (bthen hb1 (bthen hb2 hb3)).size; omega
  have hgne : gW ≠ gM := by have h1 := hK1.below (bthen hb2 hb3) hK1.lt; have := h1.lt; omega
  rw [hgW] at hK4 ⊢
  have HM4 := Lib.hid hM
  have HK4 := Lib.hid hK4
  have hb34' : Below gM w3 W4 := by rw [← hgM]; exact hb34
  have HR3 := Lib.hid (And.intro hmor (And.intro hb34' hgM))
  clear hb34' hb1 hb2 hb3 hb34 hkr hK0 hK1 hW4 hmor hcaps hgM hgW HW1
  have m0 := hM.b.cell 0
  have m1 := hM.b.cell 1
  have m2 := hM.b.cell 2
  have m3 := hM.b.cell 3
  have ml := hM.b.lt
  have y0 := hK4.cell 0
  have y1 := hK4.cell 1
  have yl := hK4.lt
  simp at m0 m1 m2 m3 y0 y1
  clear hM hK4
  have hwu : IntKind.i64.wrap u1 = u1 := IntWalk.i64_in _ (by omega)
  have hwn : IntKind.i64.wrap ((m.ws.length : Int) + 1) = (m.ws.length : Int) + 1 := IntWalk.i64_in _ (by omega)
  have htm : u1.tmod ((m.ws.length : Int) + 1) = u1 % ((m.ws.length : Int) + 1) := Int.tmod_eq_emod_of_nonneg h1.1
  have hr1 := Int.emod_nonneg u1 (show (m.ws.length : Int) + 1 ≠ 0 by omega)
  have hr2 := Int.emod_lt_of_pos u1 (show 0 < (m.ws.length : Int) + 1 by omega)
  obtain ⟨pq, hpq⟩ : ∃ q, u1 % ((m.ws.length : Int) + 1) = q := ⟨_, rfl⟩
  rw [hpq] at htm hr1 hr2
  have hwq : IntKind.i64.wrap pq = pq := IntWalk.i64_in _ (by omega)
  obtain ⟨prev, hprev⟩ : ∃ q, pq - 1 = q := ⟨_, rfl⟩
  have hwp : IntKind.i64.wrap (pq - 1) = prev := by rw [hprev]; exact IntWalk.i64_in _ (by omega)
  have hpv : -1 ≤ prev ∧ prev < (m.ws.length : Int) := by omega
  have hne : ¬ m.ws = [] := fun e => by rw [e] at hw2; simp at hw2
  have hn0 : ¬ ((m.ws.length : Int) + 1 = 0) := by omega
  clear hpq hprev
  go_cut [9, 10] (fun s9 s10 W => ∃ (g9 : Nat) (A9 : Option Addr) (c9 : Nat), s9 = .pointer (some ⟨g9, 0, none⟩) ∧ s10 = .int .i64 prev ∧ LB la g9 A9 c9 W ∧ Below W4.heap.size W4 W)
  case first =>
    refine ordB_below (.quiet 0 (.quiet 1 (.quiet 2 (.quiet 3 (.quiet 4 (.quiet 5 (.quiet 7 (.quiet 8 (.quiet 9 (.quiet 10 (.quiet 11 (.quiet 12 (.quiet 13 (.quiet 14 (.quiet 15 (.fork 6 16 (.only 16 (.only 17 (.quiet 18 .done))) (.only 6 (.only 17 (.quiet 18 .done))))))))))))))))))) (by kernel_rfl) (by kernel_rfl) (by kernel_rfl) (fun _ _ _ _ _ h => h) ?_
    intro V0 hV0
    iterate 15 (first
      | (refine ordB_skip rfl rfl ?_; simp only [Act.put, List.setIfInBounds_toArray, List.set_cons_zero, List.set_cons_succ])
      | (refine ordB_take (v := ?_) rfl rfl ?_ ?_
         rotate_left 1
         focus (intro W hW; obtain ⟨hcW, hfW⟩ := bcell hW; (go_simp <;> with_reducible rfl))
         simp only [Act.put, List.setIfInBounds_toArray, List.set_cons_zero, List.set_cons_succ]))
    refine ordB_fork (opB_call rfl rfl (fun K hK => ?_)) (opB_call rfl rfl (fun K hK => ?_))
    · go_simp
      go_at_call 7
      refine (HLaM.out _ (bthen HB4.out hV0)).mono ?_
      rintro e VL ⟨A9, c9, rfl, hs9, hk9, hb9, hown9⟩
      refine hK.out _ _ (hV0.trans (hb9.mono hV0.size)) (fun hV0_1 => ?_)
      have hz_1 := hb9.size
      have ho9 := own_ge hown9
      have hu9 := hs9.blkLt
      clear hown9
      refine ordB_only (opB_call rfl rfl (fun K hK => ?_))
      go_simp
      refine hK.out _ _ (hV0_1.alloc hV0_1.size _) (fun hV0_1_2 => ?_)
      have X := Blk.new VL 38 #[.int .i64 0, .slice none 0 0]
      have Xb := nw (.cells #[.int .i64 0, .slice none 0 0] 38) (Below.refl VL.heap.size VL)
      have Xg := hV0_1.size
      obtain ⟨VL_2, qqVL_2⟩ : ∃ W', VL.alloc (.cells #[.int .i64 0, .slice none 0 0] 38) = W' := ⟨_, rfl⟩
      rw [qqVL_2] at hV0_1_2 X Xb ⊢
      have hs9 := hs9.below keeps_ed Xb
      have Xlt := X.lt
      clear qqVL_2
      refine ordB_only (opB_call rfl rfl (fun K hK => ?_))
      have Xc0 := X.cell 0
      have Xf0 := X.frozen 0
      have Xc1 := X.cell 1
      have Xf1 := X.frozen 1
      simp at Xc0 Xc1
      go_simp
      refine hK.out _ _ ((hV0_1_2.setCell (p := ⟨VL.heap.size, 0, none⟩) Xg _).setCell (p := ⟨VL.heap.size, 1, none⟩) Xg _) (fun hV0_1_2_3 => ?_)
      have X := ((X.set_ 0 (.int .i64 la.n)).set_ 1 (.slice A9 la.es.length c9))
      have hs9Xne : ∀ a, A9 = some a → la.es ≠ [] → a.block ≠ VL.heap.size := fun a h hn => by have h1 := ho9 a h; have h2 := hu9 hn a h; omega
      have hs9 := ((hs9.awayG ed_any (p := ⟨VL.heap.size, 0, none⟩) hs9Xne (.int .i64 la.n)).awayG ed_any (p := ⟨VL.heap.size, 1, none⟩) hs9Xne (.slice A9 la.es.length c9))
      obtain ⟨VL_2_3, qqVL_2_3⟩ : ∃ W', ((VL_2.setCell ⟨VL.heap.size, 0, none⟩ (.int .i64 la.n)).setCell ⟨VL.heap.size, 1, none⟩ (.slice A9 la.es.length c9)) = W' := ⟨_, rfl⟩
      rw [qqVL_2_3] at hV0_1_2_3 X hs9 ⊢
      clear qqVL_2_3 Xc0 Xf0 Xc1 Xf1
      iterate 1 (first
        | (refine ordB_skip rfl rfl ?_; simp only [Act.put, List.setIfInBounds_toArray, List.set_cons_zero, List.set_cons_succ])
        | (refine ordB_take (v := ?_) rfl rfl ?_ ?_
           rotate_left 1
           focus (intro W hW; obtain ⟨hcW, hfW⟩ := bcell hW; (go_simp <;> with_reducible rfl))
           simp only [Act.put, List.setIfInBounds_toArray, List.set_cons_zero, List.set_cons_succ]))
      refine ordB_nil ?_
      go_wp2_with fail
      go_meet
      exact ⟨_, A9, c9, rfl, rfl, ⟨by simpa using X, hs9, hk9⟩, hV0_1_2_3⟩
    · go_simp
      refine hK.out _ _ (hV0.alloc hV0.size _) (fun hV0_1 => ?_)
      have X := Blk.new V0 38 #[.int .i64 0, .slice none 0 0]
      have Xb := nw (.cells #[.int .i64 0, .slice none 0 0] 38) (Below.refl V0.heap.size V0)
      have Xg := hV0.size
      obtain ⟨V0_1, qqV0_1⟩ : ∃ W', V0.alloc (.cells #[.int .i64 0, .slice none 0 0] 38) = W' := ⟨_, rfl⟩
      rw [qqV0_1] at hV0_1 X Xb ⊢
      have Xlt := X.lt
      clear qqV0_1
      refine ordB_only (opB_call rfl rfl (fun K hK => ?_))
      go_simp
      go_at_call 7
      refine (HLaM.out _ (bthen HB4.out hV0_1)).mono ?_
      rintro e VL ⟨A9, c9, rfl, hs9, hk9, hb9, hown9⟩
      refine hK.out _ _ (hV0_1.trans (hb9.mono hV0_1.size)) (fun hV0_1_2 => ?_)
      have X := X.below hb9 X.lt
      have hz_2 := hb9.size
      have ho9 := own_ge hown9
      have hu9 := hs9.blkLt
      clear hown9
      refine ordB_only (opB_call rfl rfl (fun K hK => ?_))
      have Xc0 := X.cell 0
      have Xf0 := X.frozen 0
      have Xc1 := X.cell 1
      have Xf1 := X.frozen 1
      simp at Xc0 Xc1
      go_simp
      refine hK.out _ _ ((hV0_1_2.setCell (p := ⟨V0.heap.size, 0, none⟩) Xg _).setCell (p := ⟨V0.heap.size, 1, none⟩) Xg _) (fun hV0_1_2_3 => ?_)
      have X := ((X.set_ 0 (.int .i64 la.n)).set_ 1 (.slice A9 la.es.length c9))
      have hs9Xne : ∀ a, A9 = some a → la.es ≠ [] → a.block ≠ V0.heap.size := fun a h hn => by have h1 := ho9 a h; have h2 := hu9 hn a h; omega
      have hs9 := ((hs9.awayG ed_any (p := ⟨V0.heap.size, 0, none⟩) hs9Xne (.int .i64 la.n)).awayG ed_any (p := ⟨V0.heap.size, 1, none⟩) hs9Xne (.slice A9 la.es.length c9))
      obtain ⟨VL_3, qqVL_3⟩ : ∃ W', ((VL.setCell ⟨V0.heap.size, 0, none⟩ (.int .i64 la.n)).setCell ⟨V0.heap.size, 1, none⟩ (.slice A9 la.es.length c9)) = W' := ⟨_, rfl⟩
      rw [qqVL_3] at hV0_1_2_3 X hs9 ⊢
      clear qqVL_3 Xc0 Xf0 Xc1 Xf1
      iterate 1 (first
        | (refine ordB_skip rfl rfl ?_; simp only [Act.put, List.setIfInBounds_toArray, List.set_cons_zero, List.set_cons_succ])
        | (refine ordB_take (v := ?_) rfl rfl ?_ ?_
           rotate_left 1
           focus (intro W hW; obtain ⟨hcW, hfW⟩ := bcell hW; (go_simp <;> with_reducible rfl))
           simp only [Act.put, List.setIfInBounds_toArray, List.set_cons_zero, List.set_cons_succ]))
      refine ordB_nil ?_
      go_wp2_with fail
      go_meet
      exact ⟨_, A9, c9, rfl, rfl, ⟨by simpa using X, hs9, hk9⟩, hV0_1_2_3⟩
  case rest =>
    obtain ⟨W5, rfl⟩ : ∃ W, W = wc := ⟨wc, rfl⟩
    obtain ⟨gX, A9, c9, rfl, rfl, hX, hb5⟩ := hcut
    have HX5 := Lib.hid hX
    have HM5 := Lib.hid (HM4.out.below hb5)
    have HK5 := Lib.hid (HK4.out.below hb5 HK4.out.lt)
    have HB5 := Lib.hid (bthen HB4.out hb5)
    clear m0 m1 m2 m3 ml y0 y1 yl hwu hwn htm hr1 hr2 hwq hwp hX hb5 HM4 HK4 HB4
    have x0 := HX5.out.b.cell 0
    have x1 := HX5.out.b.cell 1
    have xl := HX5.out.b.lt
    have m0 := HM5.out.b.cell 0
    have m1 := HM5.out.b.cell 1
    have m2 := HM5.out.b.cell 2
    have m3 := HM5.out.b.cell 3
    have ml := HM5.out.b.lt
    simp at x0 x1 m0 m1 m2 m3
    obtain ⟨nl, hnl⟩ : ∃ n, (nodesL la prev).length = n := ⟨_, rfl⟩
    obtain ⟨G, hG⟩ : ∃ G, lksL la m prev = G := ⟨_, rfl⟩
    obtain ⟨L, hL⟩ : ∃ L, lastL la prev = L := ⟨_, rfl⟩
    have HNL := Lib.hid hnl
    have HG := Lib.hid hG
    have HL := Lib.hid hL
    clear hnl hG hL
    go_upto_region 5 with (go_at_call 8; go_loud (refine (lawbuild_ok la A9 c9 m B1 B2 B3 d1 d2 d3 prev W5 HX5.out.s q3 HM5.out.r HM5.out.k.2.2.1 HM5.out.k.2.2.2 HOK.out HF.out hpv HNL.out HG.out HL.out).mono ?_; rintro e w6 ⟨LA, LB, cA, cB, rfl, hsG, hsL, hkG, hb6⟩))
    obtain ⟨W6, hW6⟩ : ∃ V, w6.alloc (.cells #[.int .i64 (nl : Int), .slice LA G.length cA, .slice LB nl cB, .int .i64 0] 45) = V := ⟨_, rfl⟩
    have hb66 : Below w6.heap.size w6 W6 := by rw [← hW6]; exact nw _ (Below.refl _ _)
    have HA : Hid (Blk W6 w6.heap.size 45 #[.int .i64 (nl : Int), .slice LA G.length cA, .slice LB nl cB, .int .i64 0]) := by rw [← hW6]; exact Blk.new _ _ _
    have hb56 := bthen hb6 hb66
    have HX := Lib.hid (HX5.out.below hb56)
    have HM := Lib.hid (HM5.out.below hb56)
    have HK := Lib.hid (HK5.out.below hb56 HK5.out.lt)
    have HB := Lib.hid (bthen HB5.out hb56)
    have HGS := Lib.hid (hsG.below keeps_lk hb66)
    have HLS := Lib.hid (hsL.below keeps_int hb66)
    rw [hW6]
    obtain ⟨gA, hgA⟩ : ∃ b, w6.heap.size = b := ⟨_, rfl⟩
    rw [hgA] at HA ⊢
    clear x0 x1 xl m0 m1 m2 m3 ml hb6 hb66 hb56 hW6 hgA hsG hsL HX5 HM5 HK5 HB5
    have HC : Hid (∀ W, Below W6.heap.size W6 W → (W.cell? ⟨gX, 0, none⟩ = some (.int .i64 la.n) ∧ W.cell? ⟨gX, 1, none⟩ = some (.slice A9 la.es.length c9) ∧ gX < W.heap.size) ∧ (W.cell? ⟨gM, 0, none⟩ = some (.slice B1 m.ws.length d1) ∧ W.cell? ⟨gM, 1, none⟩ = some (.slice B2 m.cs.length d2) ∧ W.cell? ⟨gM, 2, none⟩ = some (.slice B3 m.ps.length d3) ∧ W.cell? ⟨gM, 3, none⟩ = some (.int .i64 m.back) ∧ gM < W.heap.size) ∧ (W.cell? ⟨gW, 0, none⟩ = some (.int .u8 u0) ∧ W.cell? ⟨gW, 1, none⟩ = some (.int .u8 u1) ∧ gW < W.heap.size) ∧ (W.cell? ⟨gA, 0, none⟩ = some (.int .i64 (nl : Int)) ∧ W.cell? ⟨gA, 1, none⟩ = some (.slice LA G.length cA) ∧ W.cell? ⟨gA, 2, none⟩ = some (.slice LB nl cB) ∧ W.cell? ⟨gA, 3, none⟩ = some (.int .i64 0) ∧ gA < W.heap.size)) := fun W hW => by
      have f1 := (HX.out.below hW).b
      have f2 := (HM.out.below hW).b
      have f3 := HK.out.below hW HK.out.lt
      have f4 := HA.out.below hW HA.out.lt
      exact ⟨⟨by rw [f1.cell]; rfl, by rw [f1.cell]; rfl, f1.lt⟩, ⟨by rw [f2.cell]; rfl, by rw [f2.cell]; rfl, by rw [f2.cell]; rfl, by rw [f2.cell]; rfl, f2.lt⟩, ⟨by rw [f3.cell]; rfl, by rw [f3.cell]; rfl, f3.lt⟩, ⟨by rw [f4.cell]; rfl, by rw [f4.cell]; rfl, by rw [f4.cell]; rfl, by rw [f4.cell]; rfl, f4.lt⟩⟩
    have hx0 : Below W6.heap.size W6 W6 := Below.refl _ _
    have HGK : Hid (GrOK (grL la m prev)) := grL_ok HOK.out HF.out HCO.out (by omega)
    have hnl1 := nodesL_len la prev
    rw [HNL.out] at hnl1
    have HN2 : Hid ((nodesL la prev).length ≤ 200) := by show _ ≤ _; rw [HNL.out]; omega
    have HFA : Hid (FitsAll la m prev) := ⟨HOK.out, hpv, HF.out⟩
    have HLI : Hid (∀ W, Below W6.heap.size W6 W → Calls Try.prog 9 #[.agg #[.int .i64 (nl : Int), .slice LA G.length cA], .int .i64 50] W fun e w' => ∃ (LS : List Can) (B : Option Addr) (d : Nat), e = .returned (.tuple #[.slice B LS.length d, .int .i64 0]) ∧ SlR 2 RCan w' B LS ∧ Hid (IsList (grL la m prev) 50 LS) ∧ Below W.heap.size W w') := fun W hW => list20_any la m prev LA cA 50 W HNL.out HG.out HGK.out (by omega) (HGS.out.below keeps_lk hW)
    have HNU : Hid (∀ W, Below W6.heap.size W6 W → Calls Try.prog 15 #[.agg #[.int .i64 (nl : Int), .slice LA G.length cA]] W fun e w' => e = .returned (.int .i64 (cntM la)) ∧ Below W.heap.size W w') := fun W hW => num20_any la m prev LA cA W HNL.out HG.out HGK.out HF.out.1 q3 (HGS.out.below keeps_lk hW)
    have HCN : Hid (∀ W, Below W6.heap.size W6 W → Calls Try.prog 14 #[.agg #[.int .i64 la.n, .slice A9 la.es.length c9]] W fun e w' => e = .returned (.int .i64 (cntM la)) ∧ Below W.heap.size W w') := fun W hW => count20_any la A9 c9 W (HX.out.below hW).s HF.out.1 (by omega)
    obtain ⟨⟨x0, x1, xl⟩, ⟨m0, m1, m2, m3, ml⟩, ⟨y0, y1, yl⟩, ⟨a0, a1, a2, a3, al⟩⟩ := HC.out _ hx0
    go_upto_region 6 with (go_at_call 9; go_loud (refine (HLI.out _ hx0).mono ?_; rintro e W7 ⟨LS, B12, d12, rfl, hls, hil, hb7⟩))
    have HLS7 := Lib.hid hls
    have HIL := Lib.hid hil.out
    have HB7 := Lib.hid hb7
    have hmn : min (cntM la) 50 = (LS.length : Int) := list_count HGK.out HF.out.1 hil.out
    have hl50 := hil.out.len
    generalize cntM la = cn at *
    clear hx0 hls hil x0 x1 xl m0 m1 m2 m3 ml y0 y1 yl a0 a1 a2 a3 al
    obtain ⟨⟨x0, x1, xl⟩, ⟨m0, m1, m2, m3, ml⟩, ⟨y0, y1, yl⟩, ⟨a0, a1, a2, a3, al⟩⟩ := HC.out _ hb7
    clear hb7
    refine ordB_below (.quiet 0 (.quiet 1 (.quiet 2 (.quiet 3 (.quiet 4 (.quiet 5 (.quiet 6 (.quiet 7 (.quiet 8 (.quiet 9 (.quiet 10 (.only 11 (.quiet 12 (.quiet 13 (.quiet 14 (.quiet 15 (.quiet 16 (.quiet 17 (.quiet 19 (.only 18 (.only 20 (.quiet 21 (.quiet 22 .done))))))))))))))))))))))) (by kernel_rfl) (by kernel_rfl) (by kernel_rfl) (fun _ _ _ _ _ h => h) ?_
    intro V1 hV1
    iterate 11 (first
      | (refine ordB_skip rfl rfl ?_; simp only [Act.put, List.setIfInBounds_toArray, List.set_cons_zero, List.set_cons_succ])
      | (refine ordB_take (v := ?_) rfl rfl ?_ ?_
         rotate_left 1
         focus (intro W hW; obtain ⟨hcW, hfW⟩ := bcell hW; (go_simp <;> with_reducible rfl))
         simp only [Act.put, List.setIfInBounds_toArray, List.set_cons_zero, List.set_cons_succ]))
    refine ordB_only (opB_call rfl rfl (fun K hK => ?_))
    go_simp
    go_at_call 14
    refine (HCN.out _ (bthen HB7.out hV1)).mono ?_
    rintro e V1_1 ⟨rfl, hba⟩
    refine hK.out _ _ (hV1.trans (hba.mono hV1.size)) (fun hV1_1 => ?_)
    iterate 7 (first
      | (refine ordB_skip rfl rfl ?_; simp only [Act.put, List.setIfInBounds_toArray, List.set_cons_zero, List.set_cons_succ])
      | (refine ordB_take (v := ?_) rfl rfl ?_ ?_
         rotate_left 1
         focus (intro W hW; obtain ⟨hcW, hfW⟩ := bcell hW; (go_simp <;> with_reducible rfl))
         simp only [Act.put, List.setIfInBounds_toArray, List.set_cons_zero, List.set_cons_succ]))
    refine ordB_only (opB_call rfl rfl (fun K hK => ?_))
    go_simp
    go_at_call 15
    refine (HNU.out _ (bthen HB7.out hV1_1)).mono ?_
    rintro e V1_1_2 ⟨rfl, hbb⟩
    refine hK.out _ _ (hV1_1.trans (hbb.mono hV1_1.size)) (fun hV1_1_2 => ?_)
    refine ordB_only (opB_call rfl rfl (fun K hK => ?_))
    go_simp
    go_at_call 14
    refine (HCN.out _ (bthen HB7.out hV1_1_2)).mono ?_
    rintro e V1_1_2_3 ⟨rfl, hbc⟩
    refine hK.out _ _ (hV1_1_2.trans (hbc.mono hV1_1_2.size)) (fun hV1_1_2_3 => ?_)
    iterate 2 (first
      | (refine ordB_skip rfl rfl ?_; simp only [Act.put, List.setIfInBounds_toArray, List.set_cons_zero, List.set_cons_succ])
      | (refine ordB_take (v := ?_) rfl rfl ?_ ?_
         rotate_left 1
         focus (intro W hW; obtain ⟨hcW, hfW⟩ := bcell hW; (go_simp <;> with_reducible rfl))
         simp only [Act.put, List.setIfInBounds_toArray, List.set_cons_zero, List.set_cons_succ]))
    refine ordB_nil ?_
    obtain ⟨W8, hW8⟩ : ∃ V, V1_1_2_3 = V := ⟨_, rfl⟩
    rw [hW8] at hV1_1_2_3 ⊢
    have HB8 := Lib.hid hV1_1_2_3
    clear hW8 hV1_1_2_3 hmn x0 x1 xl m0 m1 m2 m3 ml y0 y1 yl a0 a1 a2 a3 al
    go_wp2_with fail
    go_loopw [14] (fun i wr => ∃ j : Nat, j ≤ LS.length ∧ i = .int .i64 j ∧ Below W7.heap.size W7 wr) (fun i _ => LS.length - (intOf i).toNat)
    case atStart => exact ⟨0, by omega, rfl, HB8.out⟩
    case round =>
      obtain ⟨wR, rfl⟩ : ∃ W, W = wr := ⟨wr, rfl⟩
      obtain ⟨j, hj, rfl, hbr⟩ := hrel
      have hbr6 := bthen HB7.out hbr
      have HBR := Lib.hid hbr6
      have HBR7 := Lib.hid hbr
      by_cases hlt : j < LS.length
      · obtain ⟨b, off, c, AC, cC, rfl, hbb, hcc, t0, t1, hlk, _, _⟩ := (HLS7.out.below keeps_can hbr).can hlt
        have hcan := HIL.out.can c (List.mem_of_getElem? hcc)
        have hcf := canF HGK.out HF.out.1 HN2.out hcan
        rw [HG.out] at hcf
        obtain ⟨E, hE⟩ : ∃ l, labL (grL la m prev) c.links = l := ⟨_, rfl⟩
        rw [hE] at hcf
        have HE := Lib.hid hE
        have HCF := Lib.hid hcf
        have HCAN := Lib.hid hcan
        have HCJ := Lib.hid hcc
        have HLK := Lib.hid hlk
        have HEL : Hid (E.length = c.links.length) := hcf.same
        have hE2 : E.length ≤ 200 := by have h1 := hcf.same; have h2 := hcf.len; omega
        have hELz : ((E.length : Int) == (c.links.length : Int)) = true := by have := HEL.out; simp; omega
        have hjI : (j : Int) < (LS.length : Int) := by omega
        have hj0 : (0 : Int) ≤ (j : Int) := by omega
        have HLA : Hid (∀ W, Below wR.heap.size wR W → Calls Try.prog 13 #[.agg #[.int .i64 (nl : Int), .slice LA G.length cA], .agg #[.slice AC c.links.length cC, .int .i64 c.cost]] W (GivesIs E W)) := fun W hW => by
          have h := labels_any (nl : Int) LA G cA AC c.links cC c.cost W (HGS.out.below keeps_lk (bthen HBR.out hW)) (HLK.out.below keeps_int hW) (by have := HCF.out.len; omega) (fun i hi => lkIn_lab (HCF.out.lk i hi))
          rw [HCF.out.lab] at h
          exact h
        obtain ⟨WS, hWS⟩ : ∃ l, c.links.map (wdAt la.es G) = l := ⟨_, rfl⟩
        have HWS := Lib.hid hWS
        have HWSL : Hid (WS.length = E.length) := by show _ = _; rw [← hWS, List.length_map]; exact HEL.out.symm
        have hWSz : ((WS.length : Int) == (E.length : Int)) = true := by have := HWSL.out; simp; omega
        have hWSn : WS.length ≤ 200 := by have := HWSL.out; omega
        clear hWS
        have HWO : Hid (∀ W, Below wR.heap.size wR W → Calls Try.prog 16 #[.agg #[.int .i64 la.n, .slice A9 la.es.length c9], .agg #[.int .i64 (nl : Int), .slice LA G.length cA], .agg #[.slice AC c.links.length cC, .int .i64 c.cost]] W (GivesIs WS W)) := fun W hW => by
          rw [← HWS.out]
          exact cxwords_any la A9 c9 (nl : Int) LA G cA AC c.links cC c.cost W (HX.out.below (bthen HBR.out hW)).s (HGS.out.below keeps_lk (bthen HBR.out hW)) (HLK.out.below keeps_int hW) (by have := HCF.out.len; omega) HCF.out.lk
        have HCO2 : Hid (∀ W B d, Below wR.heap.size wR W → SlR 1 RInt W B E → Calls Try.prog 11 #[.agg #[.int .i64 la.n, .slice A9 la.es.length c9], .agg #[.slice B1 m.ws.length d1, .slice B2 m.cs.length d2, .slice B3 m.ps.length d3, .int .i64 m.back], .int .i64 prev, .slice B E.length d] W fun e w' => e = .returned (.tuple #[.int .i64 c.cost, .bool true]) ∧ Below W.heap.size W w') := fun W B d hW hB => by
          have hb := bthen HBR.out hW
          have h := ccost_any la A9 c9 m B1 B2 B3 d1 d2 d3 prev B E d W (HX.out.below hb).s (by unfold maxLen; omega) (HM.out.below hb).r HM.out.k.2.2.1 HM.out.k.2.2.2 hB (by omega)
          rw [way_costM HFA.out HCF.out.way, ← HCF.out.cost] at h
          exact h
        clear hcan hcf hE hcc hlk hbr hbr6
        have HD : Hid (∀ W, Below wR.heap.size wR W → W.cell? ⟨b, off + j * 2, none⟩ = some (.slice AC c.links.length cC) ∧ W.cell? ⟨b, off + j * 2 + 1, none⟩ = some (.int .i64 c.cost) ∧ b < W.heap.size) := fun W hW => ⟨(hW.cell (p := ⟨b, off + j * 2, none⟩) hbb).trans t0, (hW.cell (p := ⟨b, off + j * 2 + 1, none⟩) hbb).trans t1, Nat.lt_of_lt_of_le hbb hW.size⟩
        obtain ⟨⟨x0, x1, xl⟩, ⟨m0, m1, m2, m3, ml⟩, ⟨y0, y1, yl⟩, ⟨a0, a1, a2, a3, al⟩⟩ := HC.out _ HBR.out
        go_upto_region 11 with fail
        refine ordB_below (.quiet 0 (.quiet 1 (.quiet 2 (.quiet 3 (.quiet 4 (.quiet 5 (.only 6 (.quiet 7 .done)))))))) (by kernel_rfl) (by kernel_rfl) (by kernel_rfl) (fun _ _ _ _ _ h => h) ?_
        intro V2 hV2
        iterate 6 (first
          | (refine ordB_skip rfl rfl ?_; simp only [Act.put, List.setIfInBounds_toArray, List.set_cons_zero, List.set_cons_succ])
          | (refine ordB_take (v := ?_) rfl rfl ?_ ?_
             rotate_left 1
             focus (intro W hW; obtain ⟨hcW, hfW⟩ := bcell hW; (go_simp <;> with_reducible rfl))
             simp only [Act.put, List.setIfInBounds_toArray, List.set_cons_zero, List.set_cons_succ]))
        refine ordB_only (opB_call rfl rfl (fun K hK => ?_))
        go_simp
        go_at_call 13
        refine (HLA.out _ hV2).mono ?_
        rintro e V2_1 ⟨B15, c15, rfl, hs15, hk15, hb15⟩
        refine hK.out _ _ (hV2.trans (hb15.mono hV2.size)) (fun hV2_1 => ?_)
        iterate 1 (first
          | (refine ordB_skip rfl rfl ?_; simp only [Act.put, List.setIfInBounds_toArray, List.set_cons_zero, List.set_cons_succ])
          | (refine ordB_take (v := ?_) rfl rfl ?_ ?_
             rotate_left 1
             focus (intro W hW; obtain ⟨hcW, hfW⟩ := bcell hW; (go_simp <;> with_reducible rfl))
             simp only [Act.put, List.setIfInBounds_toArray, List.set_cons_zero, List.set_cons_succ]))
        refine ordB_nil ?_
        obtain ⟨W9, hW9⟩ : ∃ V, V2_1 = V := ⟨_, rfl⟩
        rw [hW9] at hV2_1 hs15 ⊢
        have HB9 := Lib.hid hV2_1
        have HS15 := Lib.hid hs15
        clear hW9 hV2_1 hs15 hk15 t0 t1 hbb x0 x1 xl m0 m1 m2 m3 ml y0 y1 yl a0 a1 a2 a3 al 
        obtain ⟨⟨x0, x1, xl⟩, ⟨m0, m1, m2, m3, ml⟩, ⟨y0, y1, yl⟩, ⟨a0, a1, a2, a3, al⟩⟩ := HC.out _ (bthen HBR.out HB9.out)
        obtain ⟨t0, t1, hbb⟩ := HD.out _ HB9.out
        go_upto_region 13 with (go_at_call 11; go_loud (refine (HCO2.out _ _ _ HB9.out HS15.out).mono ?_; rintro e W10 ⟨rfl, hb10⟩; have hb10' := bthen HB9.out hb10; clear t0 t1 hbb x0 x1 xl m0 m1 m2 m3 ml y0 y1 yl a0 a1 a2 a3 al))
        obtain ⟨⟨x0, x1, xl⟩, ⟨m0, m1, m2, m3, ml⟩, ⟨y0, y1, yl⟩, ⟨a0, a1, a2, a3, al⟩⟩ := HC.out _ (bthen HBR.out hb10')
        obtain ⟨t0, t1, hbb⟩ := HD.out _ hb10'
        have HB10 := Lib.hid hb10'
        have HS16 := Lib.hid (HS15.out.below keeps_int hb10)
        clear hb10 hb10' HB9 HS15
        go_upto_region 15 with fail
        refine ordB_below (.quiet 0 (.quiet 1 (.quiet 2 (.quiet 3 (.quiet 4 (.quiet 5 (.quiet 6 (.only 7 (.quiet 8 .done))))))))) (by kernel_rfl) (by kernel_rfl) (by kernel_rfl) (fun _ _ _ _ _ h => h) ?_
        intro V3 hV3
        iterate 7 (first
          | (refine ordB_skip rfl rfl ?_; simp only [Act.put, List.setIfInBounds_toArray, List.set_cons_zero, List.set_cons_succ])
          | (refine ordB_take (v := ?_) rfl rfl ?_ ?_
             rotate_left 1
             focus (intro W hW; obtain ⟨hcW, hfW⟩ := bcell hW; (go_simp <;> with_reducible rfl))
             simp only [Act.put, List.setIfInBounds_toArray, List.set_cons_zero, List.set_cons_succ]))
        refine ordB_only (opB_call rfl rfl (fun K hK => ?_))
        go_simp
        go_at_call 16
        refine (HWO.out _ (bthen HB10.out hV3)).mono ?_
        rintro e V3_1 ⟨B18, c18, rfl, hs18, hk18, hb18⟩
        refine hK.out _ _ (hV3.trans (hb18.mono hV3.size)) (fun hV3_1 => ?_)
        iterate 1 (first
          | (refine ordB_skip rfl rfl ?_; simp only [Act.put, List.setIfInBounds_toArray, List.set_cons_zero, List.set_cons_succ])
          | (refine ordB_take (v := ?_) rfl rfl ?_ ?_
             rotate_left 1
             focus (intro W hW; obtain ⟨hcW, hfW⟩ := bcell hW; (go_simp <;> with_reducible rfl))
             simp only [Act.put, List.setIfInBounds_toArray, List.set_cons_zero, List.set_cons_succ]))
        refine ordB_nil ?_
        obtain ⟨W11, hW11⟩ : ∃ V, V3_1 = V := ⟨_, rfl⟩
        rw [hW11] at hV3_1 hs18 ⊢
        have HB11 := Lib.hid (bthen HB10.out hV3_1)
        have HS18 := Lib.hid hs18
        have HS15 := Lib.hid (HS16.out.below keeps_int hV3_1)
        clear hW11 hV3_1 hs18 hk18 HB10 HS16 t0 t1 hbb x0 x1 xl m0 m1 m2 m3 ml y0 y1 yl a0 a1 a2 a3 al
        go_wp2_with fail
        go_loopw [19] (fun i wv => ∃ k : Nat, k ≤ WS.length ∧ i = .int .i64 k ∧ Below W11.heap.size W11 wv) (fun i _ => WS.length - (intOf i).toNat)
        case atStart => exact ⟨0, by omega, rfl, Below.refl _ _⟩
        case round =>
          obtain ⟨wv, rfl⟩ : ∃ W, W = wr := ⟨wr, rfl⟩
          obtain ⟨k, hk, rfl, hbv⟩ := hrel
          have HBV := Lib.hid hbv
          have hbv6 := bthen HBR.out (bthen HB11.out hbv)
          by_cases hlk : k < WS.length
          · obtain ⟨b8, o8, w8, hA8, hbb8, hw8', g8⟩ := (HS18.out.below keeps_int hbv).int hlk
            obtain ⟨b9, o9, k9, hA9, hbb9, hk9', g9⟩ := (HS15.out.below keeps_int hbv).int (k := k) (by have := HWSL.out; omega)
            obtain ⟨q, e, rfl, hq, rfl⟩ := wd_at (G := G) HCF.out.lk (by rw [HCF.out.lab]; exact hk9') (by rw [HWS.out]; exact hw8')
            have hqn := (List.getElem?_eq_some_iff.1 hq).1
            obtain ⟨b7, o7, e', hA7, hbb7, hee, f0, f1, f2, f3⟩ := ((HX.out.below hbv6).s).ed hqn
            obtain rfl : e = e' := Option.some.inj (hq.symm.trans hee)
            subst hA8 hA9 hA7
            have hkI : (k : Int) < (WS.length : Int) := by omega
            have hkE : (k : Int) < (E.length : Int) := by have := HWSL.out; omega
            have hk0 : (0 : Int) ≤ (k : Int) := by omega
            have hqI : (q : Int) < (la.es.length : Int) := by omega
            have hq0 : (0 : Int) ≤ (q : Int) := by omega
            clear hw8' hk9' hq hee hbv
            obtain ⟨⟨x0, x1, xl⟩, ⟨m0, m1, m2, m3, ml⟩, ⟨y0, y1, yl⟩, ⟨a0, a1, a2, a3, al⟩⟩ := HC.out _ hbv6
            clear hbv6
            go_upto_region 21 with fail
            refine ordB_below (.quiet 0 (.quiet 1 (.quiet 2 (.quiet 3 (.quiet 4 (.quiet 5 (.quiet 6 (.quiet 7 (.quiet 8 (.quiet 9 (.quiet 10 (.quiet 11 (.quiet 12 (.quiet 13 .done)))))))))))))) (by kernel_rfl) (by kernel_rfl) (by kernel_rfl) (fun _ _ _ _ _ h => h) ?_
            intro V4 hV4
            iterate 14 (first
              | (refine ordB_skip rfl rfl ?_; simp only [Act.put, List.setIfInBounds_toArray, List.set_cons_zero, List.set_cons_succ])
              | (refine ordB_take (v := ?_) rfl rfl ?_ ?_
                 rotate_left 1
                 focus (intro W hW; obtain ⟨hcW, hfW⟩ := bcell hW; (go_simp <;> with_reducible rfl))
                 simp only [Act.put, List.setIfInBounds_toArray, List.set_cons_zero, List.set_cons_succ]))
            refine ordB_nil ?_
            have HBF := Lib.hid (bthen HBV.out hV4)
            go_wp2_with fail
            go_roundw
            case rel => exact ⟨k + 1, by omega, by go_num, HBF.out⟩
            case measure => simp [intOf]; omega
          · clear hbv6 hbv
            have HBS : Hid (Below wR.heap.size wR wv) := bthen HB11.out HBV.out
            go_wp2_with fail
            go_loopw [20] (fun i wy => ∃ k : Nat, k ≤ j ∧ i = .int .i64 k ∧ Below wv.heap.size wv wy) (fun i _ => j - (intOf i).toNat)
            case atStart => exact ⟨0, by omega, rfl, Below.refl _ _⟩
            case round =>
              obtain ⟨wy, rfl⟩ : ∃ W, W = wr := ⟨wr, rfl⟩
              obtain ⟨k2, hk2, rfl, hby⟩ := hrel
              have HBY := Lib.hid (bthen HBS.out hby)
              have hb6y := bthen HBR.out HBY.out
              by_cases hl2 : k2 < j
              · obtain ⟨b3, o3, c', AC3, cC3, hA3, hbb3, hcc3, i0, i1, hlk3, _, _⟩ := (HLS7.out.below keeps_can (bthen HBR7.out HBY.out)).can (k := k2) (by omega)
                injection hA3 with hA3
                injection hA3 with e1 e2
                subst e1 e2
                have hcan' := HIL.out.can c' (List.mem_of_getElem? hcc3)
                have hne : c ≠ c' := fun e => by
                  obtain ⟨l1, q1⟩ := List.getElem?_eq_some_iff.1 HCJ.out
                  obtain ⟨l2, q2⟩ := List.getElem?_eq_some_iff.1 hcc3
                  have := (List.getElem_inj HIL.out.sorted.nodup (h₀ := l1) (h₁ := l2)).1 (by rw [q1, q2]; exact e)
                  omega
                have hcf' := canF HGK.out HF.out.1 HN2.out hcan'
                rw [HG.out] at hcf'
                obtain ⟨E', hE'⟩ : ∃ l, labL (grL la m prev) c'.links = l := ⟨_, rfl⟩
                rw [hE'] at hcf'
                have HNE : Hid (decide (E = E') = false) := by
                  show _ = _
                  exact decide_eq_false fun e => hne (can_labs HCAN.out hcan' (by rw [HE.out, hE']; exact e))
                have HCF' := Lib.hid hcf'
                have HLK' := Lib.hid hlk3
                have HLA' : Hid (∀ W, Below wy.heap.size wy W → Calls Try.prog 13 #[.agg #[.int .i64 (nl : Int), .slice LA G.length cA], .agg #[.slice AC3 c'.links.length cC3, .int .i64 c'.cost]] W (GivesIs E' W)) := fun W hW => by
                  have h := labels_any (nl : Int) LA G cA AC3 c'.links cC3 c'.cost W (HGS.out.below keeps_lk (bthen HBR.out (bthen HBY.out hW))) (HLK'.out.below keeps_int hW) (by have := HCF'.out.len; omega) (fun i hi => lkIn_lab (HCF'.out.lk i hi))
                  rw [HCF'.out.lab] at h
                  exact h
                have HIN : Hid (∀ W B d, Below wy.heap.size wy W → SlR 1 RInt W B E' → Calls Try.prog 12 #[.slice B15 E.length c15, .slice B E'.length d] W fun e w' => e = .returned (.bool false) ∧ Below W.heap.size W w') := fun W B d hW hB => by
                  have h := co_ints_any B15 B E E' c15 d W (HS15.out.below keeps_int (bthen HBV.out (bthen hby hW))) hB (by omega)
                  rw [HNE.out] at h
                  exact h
                have hk2I : (k2 : Int) < (j : Int) := by omega
                have hk2L : (k2 : Int) < (LS.length : Int) := by omega
                have hk20 : (0 : Int) ≤ (k2 : Int) := by omega
                have HBYv := Lib.hid hby
                clear hcan' hcf' hE' hcc3 hlk3 hne hby
                obtain ⟨⟨x0, x1, xl⟩, ⟨m0, m1, m2, m3, ml⟩, ⟨y0, y1, yl⟩, ⟨a0, a1, a2, a3, al⟩⟩ := HC.out _ hb6y
                clear hb6y
                go_upto_region 26 with fail
                refine ordB_below (.quiet 0 (.quiet 1 (.quiet 2 (.quiet 3 (.quiet 4 (.quiet 5 (.quiet 6 (.only 7 (.only 8 .done))))))))) (by kernel_rfl) (by kernel_rfl) (by kernel_rfl) (fun _ _ _ _ _ h => h) ?_
                intro V5 hV5
                iterate 7 (first
                  | (refine ordB_skip rfl rfl ?_; simp only [Act.put, List.setIfInBounds_toArray, List.set_cons_zero, List.set_cons_succ])
                  | (refine ordB_take (v := ?_) rfl rfl ?_ ?_
                     rotate_left 1
                     focus (intro W hW; obtain ⟨hcW, hfW⟩ := bcell hW; (go_simp <;> with_reducible rfl))
                     simp only [Act.put, List.setIfInBounds_toArray, List.set_cons_zero, List.set_cons_succ]))
                refine ordB_only (opB_call rfl rfl (fun K hK => ?_))
                go_simp
                go_at_call 13
                refine (HLA'.out _ hV5).mono ?_
                rintro e V5_1 ⟨B61, c61, rfl, hs61, hk61, hb61⟩
                refine hK.out _ _ (hV5.trans (hb61.mono hV5.size)) (fun hV5_1 => ?_)
                refine ordB_only (opB_call rfl rfl (fun K hK => ?_))
                go_simp
                go_at_call 12
                refine (HIN.out _ _ _ hV5_1 hs61).mono ?_
                rintro e V5_1_2 ⟨rfl, hb62⟩
                refine hK.out _ _ (hV5_1.trans (hb62.mono hV5_1.size)) (fun hV5_1_2 => ?_)
                refine ordB_nil ?_
                have HBF := Lib.hid hV5_1_2
                clear hs61 hk61
                go_wp2_with fail
                go_roundw
                case rel => exact ⟨k2 + 1, by omega, by go_num, bthen HBYv.out HBF.out⟩
                case measure => simp [intOf]; omega
              · clear hb6y
                have HBZ := Lib.hid (bthen HBR7.out HBY.out)
                go_wp2_with fail
                go_roundw
                case rel => exact ⟨j + 1, by omega, by go_num, HBZ.out⟩
                case measure => simp [intOf]; omega

      · go_wp2_with fail
        go_ret
        exact ⟨rfl, bthen HB.out hbr6⟩

end Go.Proofs.Ytfjkmgjjifhdkaa
