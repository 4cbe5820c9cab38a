/-
  The walk of ContextLearns.
-/
import Derived.Test.YtcimnkijpifkjaaQCxLearn
import Derived.Test.YtcimnkijpifkjaaQ34
import Derived.Test.YtcimnkijpifkjaaQ32
namespace Go.Proofs.Ytcimnkijpifkjaa
open Go Go.RowKit

set_option maxRecDepth 100000 in
set_option maxHeartbeats 16000000 in
theorem contextLearns_any (AR : Option Addr) (rl : List R4) (cr : Nat) (x : Raw) (A1 A2 A3 : Option Addr) (c1 c2 c3 : Nat) (u0 u1 u2 u3 u4 u5 : Int) (w : World) (hrl : SlR 4 RR4 w AR rl) (hrn : rl.length ≤ maxLen) (hrok : ∀ r ∈ rl, R4OK r) (hraw : RawR w x A1 A2 A3) (h0 : 0 ≤ u0 ∧ u0 ≤ 255) (h1 : 0 ≤ u1 ∧ u1 ≤ 255) (h2 : 0 ≤ u2 ∧ u2 ≤ 255) (h3 : 0 ≤ u3 ∧ u3 ≤ 255) (h4 : 0 ≤ u4 ∧ u4 ≤ 255) (h5 : 0 ≤ u5 ∧ u5 ≤ 255) :
    Calls Try.prog 6 #[.slice AR rl.length cr, .agg #[.slice A1 x.words.length c1, .slice A2 x.counts.length c2, .slice A3 x.uses.length c3, .int .u8 x.back], .agg #[.int .u8 u0, .int .u8 u1, .int .u8 u2, .int .u8 u3, .int .u8 u4, .int .u8 u5]] w fun e w' => e = .returned (.bool true) ∧ Below w.heap.size w w' := by
  obtain ⟨hlm, hw2, hw8⟩ := made_lim x hraw.b2 hraw.b3 hraw.bk
  have HMade : Hid (∀ W, Below w.heap.size w W → Calls Try.prog 10 #[.agg #[.slice A1 x.words.length c1, .slice A2 x.counts.length c2, .slice A3 x.uses.length c3, .int .u8 x.back]] W (GivesMo (madeM x) W)) := fun W hW => co_made_any x A1 A2 A3 c1 c2 c3 W (hraw.below hW)
  generalize madeM x = m at *
  have HOK := Lib.hid hlm.ok
  have HLim := Lib.hid hlm
  have HLaM : Hid (∀ W, Below w.heap.size w W → Calls Try.prog 11 #[.slice AR rl.length cr, .int .u8 u2, .int .i64 (m.ws.length : Int)] W (GivesLa (latM rl u2 (m.ws.length : Int)) W)) := fun W hW => lat_any AR rl cr u2 _ W (hrl.below keeps_r4 hW) hrn hrok h2 ⟨by omega, by omega⟩
  obtain ⟨q1, q2, q3, q4, q5⟩ := latM_ok (l := rl) (pl := u2) (n := (m.ws.length : Int)) h2.1 (by omega) (by omega) hrok
  generalize latM rl u2 (m.ws.length : Int) = la at *
  have HF : Hid (FitsL la m.ws.length) := ⟨q1, fun e he => (q2 e he).1⟩
  have HCO : Hid (∀ e ∈ la.es, e.co ≤ 1000) := fun e he => by have := (q2 e he).2; omega
  have HFull := Lib.hid q5
  have hq0 := q1.1.1
  obtain ⟨w1, hw1⟩ : ∃ V, (w.alloc (.cells #[.slice A1 x.words.length c1, .slice A2 x.counts.length c2, .slice A3 x.uses.length c3, .int .u8 x.back] 27)).alloc (.cells #[.int .u8 u0, .int .u8 u1, .int .u8 u2, .int .u8 u3, .int .u8 u4, .int .u8 u5] 71) = V := ⟨_, rfl⟩
  have hb1 : Below w.heap.size w w1 := by rw [← hw1]; exact nw _ (nw _ (Below.refl _ _))
  have hK0 : Blk w1 w.heap.size 27 #[.slice A1 x.words.length c1, .slice A2 x.counts.length c2, .slice A3 x.uses.length c3, .int .u8 x.back] := by rw [← hw1]; exact (Blk.new _ _ _).alloc _
  have hK1 : Blk w1 (w.heap.size + 1) 71 #[.int .u8 u0, .int .u8 u1, .int .u8 u2, .int .u8 u3, .int .u8 u4, .int .u8 u5] := by rw [← hw1]; exact Blk.new_ (by simp)
  have HW1 := Lib.hid hw1
  clear hw1 hlm hrl hrok hraw q1 q2 q5
  go_enter Try.func6, Try.ntmps6
  go_upto_region 3 with (first
    | (go_at_call 9; go_loud (rw [HW1.out]; refine (sanity20_any w1).mono ?_; rintro e w2 ⟨rfl, hb2⟩; have hkr := hK0.below hb2 hK0.lt; have rw0 := hkr.cell 0; have rw1 := hkr.cell 1; have rw2 := hkr.cell 2; have rw3 := hkr.cell 3; have rwl := hkr.lt; simp at rw0 rw1 rw2 rw3))
    | (go_at_call 10; go_loud (refine (HMade.out _ (bthen hb1 hb2)).mono ?_; rintro e w3 ⟨B1, B2, B3, d1, d2, d3, rfl, hmor, hcaps, hb3⟩; clear rw0 rw1 rw2 rw3 rwl)))
  obtain ⟨W4, hW4⟩ : ∃ V, w3.alloc (.cells #[.slice B1 m.ws.length d1, .slice B2 m.cs.length d2, .slice B3 m.ps.length d3, .int .i64 m.back] 34) = V := ⟨_, rfl⟩
  have hM : MB m w3.heap.size B1 B2 B3 d1 d2 d3 W4 := by rw [← hW4]; exact mb_new hmor hcaps
  have hb34 : Below w3.heap.size w3 W4 := by rw [← hW4]; exact nw _ (Below.refl _ _)
  have hK4 := hK1.below (bthen (bthen hb2 hb3) hb34) hK1.lt
  have HB4 := Lib.hid (bthen hb1 (bthen (bthen hb2 hb3) hb34))
  rw [hW4]
  obtain ⟨gM, hgM⟩ : ∃ b, w3.heap.size = b := ⟨_, rfl⟩
  rw [hgM] at hM ⊢
  obtain ⟨gW, hgW⟩ : ∃ b, w.heap.size + 1 = b := ⟨_, rfl⟩
  have hgWge : w.heap.size ≤ gW := by omega
  have hgMw : w.heap.size ≤ gM := by have := (bthen hb1 (bthen hb2 hb3)).size; omega
  have hgne : gW ≠ gM := by have h1 := hK1.below (bthen hb2 hb3) hK1.lt; have := h1.lt; omega
  rw [hgW] at hK4 ⊢
  have HM4 := Lib.hid hM
  have HK4 := Lib.hid hK4
  have hb34' : Below gM w3 W4 := by rw [← hgM]; exact hb34
  have HR3 := Lib.hid (And.intro hmor (And.intro hb34' hgM))
  clear hb34' hb1 hb2 hb3 hb34 hkr hK0 hK1 hW4 hmor hcaps hgM hgW HW1
  have m0 := hM.b.cell 0
  have m1 := hM.b.cell 1
  have m2 := hM.b.cell 2
  have m3 := hM.b.cell 3
  have ml := hM.b.lt
  have y0 := hK4.cell 0
  have y1 := hK4.cell 1
  have y2 := hK4.cell 2
  have y3 := hK4.cell 3
  have y4 := hK4.cell 4
  have y5 := hK4.cell 5
  have yl := hK4.lt
  simp at m0 m1 m2 m3 y0 y1 y2 y3 y4 y5
  clear hM hK4
  have hwu : IntKind.i64.wrap u0 = u0 := IntWalk.i64_in _ (by omega)
  have hwn : IntKind.i64.wrap ((m.ws.length : Int) + 1) = (m.ws.length : Int) + 1 := IntWalk.i64_in _ (by omega)
  have htm : u0.tmod ((m.ws.length : Int) + 1) = u0 % ((m.ws.length : Int) + 1) := Int.tmod_eq_emod_of_nonneg h0.1
  have hr1 := Int.emod_nonneg u0 (show (m.ws.length : Int) + 1 ≠ 0 by omega)
  have hr2 := Int.emod_lt_of_pos u0 (show 0 < (m.ws.length : Int) + 1 by omega)
  obtain ⟨pq, hpq⟩ : ∃ q, u0 % ((m.ws.length : Int) + 1) = q := ⟨_, rfl⟩
  rw [hpq] at htm hr1 hr2
  have hwq : IntKind.i64.wrap pq = pq := IntWalk.i64_in _ (by omega)
  obtain ⟨prev, hprev⟩ : ∃ q, pq - 1 = q := ⟨_, rfl⟩
  have hwp : IntKind.i64.wrap (pq - 1) = prev := by rw [hprev]; exact IntWalk.i64_in _ (by omega)
  have hpv : -1 ≤ prev ∧ prev < (m.ws.length : Int) := by omega
  have hne : ¬ m.ws = [] := fun e => by rw [e] at hw2; simp at hw2
  have hn0 : ¬ ((m.ws.length : Int) + 1 = 0) := by omega
  clear hpq hprev
  have hwa : IntKind.i64.wrap u1 = u1 := IntWalk.i64_in _ (by omega)
  have hta : u1.tmod (m.ws.length : Int) = u1 % (m.ws.length : Int) := Int.tmod_eq_emod_of_nonneg h1.1
  have hra := Int.emod_nonneg u1 (show (m.ws.length : Int) ≠ 0 by omega)
  have hrb := Int.emod_lt_of_pos u1 (show 0 < (m.ws.length : Int) by omega)
  obtain ⟨aq, haq⟩ : ∃ q, u1 % (m.ws.length : Int) = q := ⟨_, rfl⟩
  rw [haq] at hta hra hrb
  obtain ⟨an, rfl⟩ : ∃ n : Nat, aq = (n : Int) := ⟨aq.toNat, by omega⟩
  have hwaq : IntKind.i64.wrap (an : Int) = (an : Int) := IntWalk.i64_in _ (by omega)
  have hn1 : ¬ ((m.ws.length : Int) = 0) := by omega
  clear haq hr1 hr2
  have hanc : an < m.cs.length := by have : m.cs.length = m.ws.length := HOK.out.1.1.2.1; omega
  have HAN := Lib.hid hanc
  have hanw : (an : Int) < (m.ws.length : Int) := hrb
  clear hra hrb hanc
  go_upto_region 4 with fail
  refine ordB_below (.quiet 0 (.quiet 1 (.quiet 2 (.quiet 3 (.quiet 4 (.quiet 5 (.quiet 6 (.quiet 7 (.quiet 8 (.quiet 9 (.quiet 10 (.quiet 11 (.quiet 12 (.quiet 13 .done)))))))))))))) (by kernel_rfl) (by kernel_rfl) (by kernel_rfl) (fun _ _ _ _ _ h => h) ?_
  intro V1 hV1
  iterate 14 (first
    | (refine ordB_skip rfl rfl ?_; simp only [Act.put, List.setIfInBounds_toArray, List.set_cons_zero, List.set_cons_succ])
    | (refine ordB_take (v := ?_) rfl rfl ?_ ?_
       rotate_left 1
       focus (intro W hW; obtain ⟨hcW, hfW⟩ := bcell hW; (go_simp <;> with_reducible rfl))
       simp only [Act.put, List.setIfInBounds_toArray, List.set_cons_zero, List.set_cons_succ]))
  refine ordB_nil ?_
  have HB5 := Lib.hid (bthen HB4.out hV1)
  have HM5 := Lib.hid (HM4.out.below hV1)
  have HK5 := Lib.hid (HK4.out.below hV1 HK4.out.lt)
  clear m0 m1 m2 m3 ml y0 y1 y2 y3 y4 y5 yl hwu hwn htm hwq hwp hwa hta hwaq hV1
  have m0 := HM5.out.b.cell 0
  have ml := HM5.out.b.lt
  have y2 := HK5.out.cell 2
  have yl := HK5.out.lt
  simp at m0 y2
  go_upto_region 6 with (go_at_call 11; go_loud (refine (HLaM.out _ HB5.out).mono ?_; rintro e w6 ⟨A9, c9, rfl, hs9, hk9, hb6, _⟩))
  obtain ⟨W6, hW6⟩ : ∃ V, w6.alloc (.cells #[.int .i64 la.n, .slice A9 la.es.length c9] 38) = V := ⟨_, rfl⟩
  have hX6 : LB la w6.heap.size A9 c9 W6 := by rw [← hW6]; exact lb_new hs9 hk9
  have hb66 : Below w6.heap.size w6 W6 := by rw [← hW6]; exact nw _ (Below.refl _ _)
  have hb56 := bthen hb6 hb66
  have HM := Lib.hid (HM5.out.below hb56)
  have HK := Lib.hid (HK5.out.below hb56 HK5.out.lt)
  have HB := Lib.hid (bthen HB5.out hb56)
  rw [hW6]
  obtain ⟨gX, hgX⟩ : ∃ b, w6.heap.size = b := ⟨_, rfl⟩
  rw [hgX] at hX6 ⊢
  have HX := Lib.hid hX6
  clear m0 ml y2 yl hs9 hk9 hb6 hb66 hb56 hW6 hgX hX6 HM5 HK5 HB5 HM4 HK4 HB4
  have HC : Hid (∀ W, Below W6.heap.size W6 W → (W.cell? ⟨gX, 0, none⟩ = some (.int .i64 la.n) ∧ W.cell? ⟨gX, 1, none⟩ = some (.slice A9 la.es.length c9) ∧ gX < W.heap.size) ∧ (W.cell? ⟨gM, 0, none⟩ = some (.slice B1 m.ws.length d1) ∧ W.cell? ⟨gM, 1, none⟩ = some (.slice B2 m.cs.length d2) ∧ W.cell? ⟨gM, 2, none⟩ = some (.slice B3 m.ps.length d3) ∧ W.cell? ⟨gM, 3, none⟩ = some (.int .i64 m.back) ∧ gM < W.heap.size) ∧ (W.cell? ⟨gW, 0, none⟩ = some (.int .u8 u0) ∧ W.cell? ⟨gW, 1, none⟩ = some (.int .u8 u1) ∧ W.cell? ⟨gW, 2, none⟩ = some (.int .u8 u2) ∧ W.cell? ⟨gW, 3, none⟩ = some (.int .u8 u3) ∧ W.cell? ⟨gW, 4, none⟩ = some (.int .u8 u4) ∧ W.cell? ⟨gW, 5, none⟩ = some (.int .u8 u5) ∧ gW < W.heap.size)) := fun W hW => by
    have f1 := (HX.out.below hW).b
    have f2 := (HM.out.below hW).b
    have f3 := HK.out.below hW HK.out.lt
    exact ⟨⟨by rw [f1.cell]; rfl, by rw [f1.cell]; rfl, f1.lt⟩, ⟨by rw [f2.cell]; rfl, by rw [f2.cell]; rfl, by rw [f2.cell]; rfl, by rw [f2.cell]; rfl, f2.lt⟩, ⟨by rw [f3.cell]; rfl, by rw [f3.cell]; rfl, by rw [f3.cell]; rfl, by rw [f3.cell]; rfl, by rw [f3.cell]; rfl, by rw [f3.cell]; rfl, f3.lt⟩⟩
  have hx0 : Below W6.heap.size W6 W6 := Below.refl _ _
  obtain ⟨⟨x0, x1, xl⟩, ⟨m0, m1, m2, m3, ml⟩, ⟨y0, y1, y2, y3, y4, y5, yl⟩⟩ := HC.out _ hx0
  go_upto_region 7 with (go_at_call 12; go_loud (refine (way20_any HX.out HF.out.1 q3 HFull.out h3 h4 h5).mono ?_; rintro e W7 ⟨B13, c13, o, rfl, hso, hway, ho40, hoc, hcm, hb7⟩))
  have HSO := Lib.hid hso
  have HWay := Lib.hid hway
  have HB7 := Lib.hid hb7
  have hw3 : IntKind.i64.wrap u3 = u3 := IntWalk.i64_in _ (by omega)
  have hw4 : IntKind.i64.wrap (1 + u3) = 1 + u3 := IntWalk.i64_in _ (by omega)
  have hnl := next_lim HLim.out prev (an : Int) (1 + u3) (by omega) (by omega) hanw hpv.2 (by omega) (by omega)
  have hLC := next_lessC HOK.out prev (n := 1 + u3) (by omega) HAN.out
  have HLN : Hid (∀ W, Below W7.heap.size W7 W → Calls Try.prog 23 #[.agg #[.slice B1 m.ws.length d1, .slice B2 m.cs.length d2, .slice B3 m.ps.length d3, .int .i64 m.back], .agg #[.int .i64 prev, .int .i64 (an : Int), .int .i64 (1 + u3)]] W (GivesRK (some (nextM m prev (an : Int) (1 + u3))) W)) := fun W hW => by
    have hm := HM.out.below (bthen HB7.out hW)
    obtain ⟨_, _, _, hA2, _⟩ := hm.r.h2.int HAN.out
    have h := reflearn_goK m B1 B3 _ d1 d2 d3 prev (1 + u3) an W (by rw [hA2] at hm; exact hm.r) HOK.out HAN.out hpv.2 (by omega) (by omega) hm.k.2.2
    rw [hnl.2] at h
    rw [hA2]
    exact h
  have hws2 : (nextM m prev (an : Int) (1 + u3)).ws.length = m.ws.length := rfl
  generalize nextM m prev (an : Int) (1 + u3) = mo2 at *
  have HOK2 := Lib.hid hnl.1.ok
  have HLC := Lib.hid hLC
  have HWS2 := Lib.hid hws2
  clear hx0 hso hway hb7 hnl hLC hws2 x0 x1 xl m0 m1 m2 m3 ml y0 y1 y2 y3 y4 y5 yl
  obtain ⟨⟨x0, x1, xl⟩, ⟨m0, m1, m2, m3, ml⟩, ⟨y0, y1, y2, y3, y4, y5, yl⟩⟩ := HC.out _ HB7.out
  go_upto_region 8 with (go_at_call 23; go_loud (refine (HLN.out _ (Below.refl _ _)).mono ?_; rintro e w8 ⟨C1, C2, C3, f1, f2, f3, rfl, hm2, hk2, hb8⟩))
  obtain ⟨W8, hW8⟩ : ∃ V, w8.alloc (.cells #[.slice C1 mo2.ws.length f1, .slice C2 mo2.cs.length f2, .slice C3 mo2.ps.length f3, .int .i64 mo2.back] 34) = V := ⟨_, rfl⟩
  have hb88 : Below w8.heap.size w8 W8 := by rw [← hW8]; exact nw _ (Below.refl _ _)
  have hk8 : Blk W8 w8.heap.size 34 #[.slice C1 mo2.ws.length f1, .slice C2 mo2.cs.length f2, .slice C3 mo2.ps.length f3, .int .i64 mo2.back] := by rw [← hW8]; exact Blk.new _ _ _
  have hm8 := hm2.below hb88
  rw [hW8]
  obtain ⟨gN, hgN⟩ : ∃ b, w8.heap.size = b := ⟨_, rfl⟩
  rw [hgN] at hk8 ⊢
  have HN := Lib.hid (And.intro hk8 hm8)
  have HK2 := Lib.hid hk2
  have HB8 := Lib.hid (bthen HB7.out (bthen hb8 hb88))
  have HSO8 := Lib.hid (HSO.out.below keeps_int (bthen hb8 hb88))
  clear hW8 hb88 hk8 hm8 hm2 hk2 hb8 hgN hw3 hw4 x0 x1 xl m0 m1 m2 m3 ml y0 y1 y2 y3 y4 y5 yl
  obtain ⟨⟨x0, x1, xl⟩, ⟨m0, m1, m2, m3, ml⟩, ⟨y0, y1, y2, y3, y4, y5, yl⟩⟩ := HC.out _ HB8.out
  have HD : Hid (∀ W, Below W8.heap.size W8 W → W.cell? ⟨gN, 0, none⟩ = some (.slice C1 mo2.ws.length f1) ∧ W.cell? ⟨gN, 1, none⟩ = some (.slice C2 mo2.cs.length f2) ∧ W.cell? ⟨gN, 2, none⟩ = some (.slice C3 mo2.ps.length f3) ∧ W.cell? ⟨gN, 3, none⟩ = some (.int .i64 mo2.back) ∧ gN < W.heap.size) := fun W hW => by
    have f1 := HN.out.1.below hW HN.out.1.lt
    exact ⟨by rw [f1.cell]; rfl, by rw [f1.cell]; rfl, by rw [f1.cell]; rfl, by rw [f1.cell]; rfl, f1.lt⟩
  have HFA : Hid (∀ p, -1 ≤ p ∧ p < (m.ws.length : Int) → FitsAll la m p ∧ FitsAll la mo2 p) := fun p hp => ⟨⟨HOK.out, hp, HF.out⟩, ⟨HOK2.out, by rw [HWS2.out]; exact hp, by rw [HWS2.out]; exact HF.out⟩⟩
  have HCA : Hid (∀ W p, Below W8.heap.size W8 W → -1 ≤ p ∧ p < (m.ws.length : Int) → Calls Try.prog 15 #[.agg #[.int .i64 la.n, .slice A9 la.es.length c9], .agg #[.slice B1 m.ws.length d1, .slice B2 m.cs.length d2, .slice B3 m.ps.length d3, .int .i64 m.back], .int .i64 p, .slice B13 o.length c13] W fun e w' => e = .returned (.tuple #[.int .i64 (wsum la m p o), .bool true]) ∧ Below W.heap.size W w') := fun W p hW hp => by
    have hb := bthen HB8.out hW
    have h := ccost_any la A9 c9 m B1 B2 B3 d1 d2 d3 p B13 o c13 W (HX.out.below hb).s (by unfold maxLen; omega) (HM.out.below hb).r HM.out.k.2.2.1 HM.out.k.2.2.2 (HSO8.out.below keeps_int hW) (by omega)
    rw [way_costM (HFA.out p hp).1 HWay.out] at h
    exact h
  have HCB : Hid (∀ W p, Below W8.heap.size W8 W → -1 ≤ p ∧ p < (m.ws.length : Int) → Calls Try.prog 15 #[.agg #[.int .i64 la.n, .slice A9 la.es.length c9], .agg #[.slice C1 mo2.ws.length f1, .slice C2 mo2.cs.length f2, .slice C3 mo2.ps.length f3, .int .i64 mo2.back], .int .i64 p, .slice B13 o.length c13] W fun e w' => e = .returned (.tuple #[.int .i64 (wsum la mo2 p o), .bool true]) ∧ Below W.heap.size W w') := fun W p hW hp => by
    have hb := bthen HB8.out hW
    have h := ccost_any la A9 c9 mo2 C1 C2 C3 f1 f2 f3 p B13 o c13 W (HX.out.below hb).s (by unfold maxLen; omega) (HN.out.2.below hW) HK2.out.1 HK2.out.2 (HSO8.out.below keeps_int hW) (by omega)
    rw [way_costM (HFA.out p hp).2 HWay.out] at h
    exact h
  go_wp2_with fail
  go_loopw [17] (fun i wr => ∃ j : Nat, j ≤ o.length ∧ Hid (∀ k ∈ o.take j, ∀ e, la.es[k.toNat]? = some e → e.wd ≠ (an : Int)) ∧ i = .int .i64 j ∧ Below W8.heap.size W8 wr) (fun i _ => o.length - (intOf i).toNat)
  case atStart => exact ⟨0, by omega, (by show ∀ k ∈ o.take 0, _; simp), rfl, Below.refl _ _⟩
  case round =>
    obtain ⟨wR, rfl⟩ : ∃ W, W = wr := ⟨wr, rfl⟩
    obtain ⟨j, hj, HNO, rfl, hbr⟩ := hrel
    have HBR8 := Lib.hid hbr
    have HBR := Lib.hid (bthen HB8.out hbr)
    clear x0 x1 xl m0 m1 m2 m3 ml y0 y1 y2 y3 y4 y5 yl
    obtain ⟨⟨x0, x1, xl⟩, ⟨m0, m1, m2, m3, ml⟩, ⟨y0, y1, y2, y3, y4, y5, yl⟩⟩ := HC.out _ HBR.out
    by_cases hlt : j < o.length
    · obtain ⟨b, off, k, rfl, hbb, hkk, g0⟩ := (HSO8.out.below keeps_int hbr).int hlt
      obtain ⟨hk0, e, he⟩ := wayTo_mem HWay.out k (List.mem_of_getElem? hkk)
      obtain ⟨kn, rfl⟩ : ∃ kn : Nat, k = (kn : Int) := ⟨k.toNat, by omega⟩
      rw [Int.toNat_natCast] at he
      have hkn := (List.getElem?_eq_some_iff.1 he).1
      obtain ⟨b2, off2, e', rfl, hbb2, he', f0, f1', f2', f3'⟩ := ((HX.out.below HBR.out).s).ed hkn
      obtain rfl : e = e' := Option.some.inj (he.symm.trans he')
      have hjI : (j : Int) < (o.length : Int) := by omega
      have hj0 : (0 : Int) ≤ (j : Int) := by omega
      have hkI : (kn : Int) < (la.es.length : Int) := by omega
      have hk0' : (0 : Int) ≤ (kn : Int) := by omega
      have HNS : Hid (e.wd ≠ (an : Int) → ∀ k ∈ o.take (j + 1), ∀ e, la.es[k.toNat]? = some e → e.wd ≠ (an : Int)) := fun hne k' hk' e2 he2 => by
        rw [take_snoc_of hkk] at hk'
        rcases List.mem_append.1 hk' with h | h
        · exact HNO.out k' h e2 he2
        · rw [List.mem_singleton.1 h, Int.toNat_natCast, he] at he2
          rw [← Option.some.inj he2]
          exact hne
      clear hkk he he' hk0 hbr
      by_cases hwe : e.wd = (an : Int)
      · have z1 : (e.wd == (an : Int)) = true := by simpa using hwe
        rw [hwe] at f2'
        have z2 : ((an : Int) == (an : Int)) = true := by simp
        clear hwe z1
        go_upto_region 13 with fail
        refine ordB_below (.quiet 0 (.quiet 1 (.quiet 2 (.quiet 3 (.quiet 4 (.quiet 5 (.quiet 6 (.quiet 7 (.quiet 8 (.quiet 9 (.quiet 10 .done))))))))))) (by kernel_rfl) (by kernel_rfl) (by kernel_rfl) (fun _ _ _ _ _ h => h) ?_
        intro V2 hV2
        iterate 11 (first
          | (refine ordB_skip rfl rfl ?_; simp only [Act.put, List.setIfInBounds_toArray, List.set_cons_zero, List.set_cons_succ])
          | (refine ordB_take (v := ?_) rfl rfl ?_ ?_
             rotate_left 1
             focus (intro W hW; obtain ⟨hcW, hfW⟩ := bcell hW; (go_simp <;> with_reducible rfl))
             simp only [Act.put, List.setIfInBounds_toArray, List.set_cons_zero, List.set_cons_succ]))
        refine ordB_nil ?_
        have HBE := Lib.hid (bthen HB.out (bthen HBR.out hV2))
        go_wp2_with fail
        go_ret
        exact ⟨rfl, HBE.out⟩
      · have z1 : (e.wd == (an : Int)) = false := by simpa using hwe
        have HNX := Lib.hid (HNS.out hwe)
        clear hwe
        go_upto_region 13 with fail
        refine ordB_below (.quiet 0 (.quiet 1 (.quiet 2 (.quiet 3 (.quiet 4 (.quiet 5 (.quiet 6 (.quiet 7 (.quiet 8 (.quiet 9 (.quiet 10 .done))))))))))) (by kernel_rfl) (by kernel_rfl) (by kernel_rfl) (fun _ _ _ _ _ h => h) ?_
        intro V3 hV3
        iterate 11 (first
          | (refine ordB_skip rfl rfl ?_; simp only [Act.put, List.setIfInBounds_toArray, List.set_cons_zero, List.set_cons_succ])
          | (refine ordB_take (v := ?_) rfl rfl ?_ ?_
             rotate_left 1
             focus (intro W hW; obtain ⟨hcW, hfW⟩ := bcell hW; (go_simp <;> with_reducible rfl))
             simp only [Act.put, List.setIfInBounds_toArray, List.set_cons_zero, List.set_cons_succ]))
        refine ordB_nil ?_
        have HBF := Lib.hid (bthen HBR8.out hV3)
        go_wp2_with fail
        go_roundw
        case rel => exact ⟨j + 1, by omega, HNX.out, by go_num, HBF.out⟩
        case measure => simp [intOf]; omega
    · obtain rfl : j = o.length := by omega
      have HNA : Hid (∀ k ∈ o, ∀ e, la.es[k.toNat]? = some e → e.wd ≠ (an : Int)) := by
        have := HNO.out
        rw [List.take_length] at this
        exact this
      clear hbr
      have hwsl : IntKind.i64.wrap (m.ws.length : Int) = (m.ws.length : Int) := IntWalk.i64_in _ (by omega)
      go_wp2_with fail
      go_loopw [18] (fun i wr => ∃ p : Nat, p ≤ m.ws.length + 1 ∧ i = .int .i64 ((p : Int) - 1) ∧ Below wR.heap.size wR wr) (fun i _ => (m.ws.length - intOf i).toNat)
      case atStart => exact ⟨0, by omega, vint (by omega), Below.refl _ _⟩
      case round =>
        obtain ⟨wv, rfl⟩ : ∃ W, W = wr := ⟨wr, rfl⟩
        obtain ⟨p, hp, rfl, hbv⟩ := hrel
        have HBV := Lib.hid hbv
        have HBV8 := Lib.hid (bthen HBR8.out hbv)
        have HBV6 := Lib.hid (bthen HBR.out hbv)
        clear hbv x0 x1 xl m0 m1 m2 m3 ml y0 y1 y2 y3 y4 y5 yl
        obtain ⟨⟨x0, x1, xl⟩, ⟨m0, m1, m2, m3, ml⟩, ⟨y0, y1, y2, y3, y4, y5, yl⟩⟩ := HC.out _ HBV6.out
        obtain ⟨n0, n1', n2', n3', nl0⟩ := HD.out _ HBV8.out
        obtain ⟨pv, hpvv⟩ : ∃ q, (p : Int) - 1 = q := ⟨_, rfl⟩
        rw [hpvv]
        have hp1 : -1 ≤ pv := by omega
        by_cases hlp : pv < (m.ws.length : Int)
        · have hle := wsum_less HLC.out HF.out (p := pv) HWay.out HNA.out
          have HQA := Lib.hid (fun W hW => HCA.out W pv hW ⟨hp1, hlp⟩)
          have HQB := Lib.hid (fun W hW => HCB.out W pv hW ⟨hp1, hlp⟩)
          generalize wsum la m pv o = S1 at *
          generalize wsum la mo2 pv o = S2 at *
          have hle2 : ¬ S2 < S1 := by omega
          have hwp1 : IntKind.i64.wrap (pv + 1) = pv + 1 := IntWalk.i64_in _ (by omega)
          clear hle
          go_upto_region 19 with (go_at_call 15; go_loud (refine (HQA.out _ HBV8.out).mono ?_; rintro e W9 ⟨rfl, hb9⟩))
          have HB9 := Lib.hid (bthen HBV8.out hb9)
          have HB9v := Lib.hid (bthen HBV.out hb9)
          clear x0 x1 xl m0 m1 m2 m3 ml y0 y1 y2 y3 y4 y5 yl n0 n1' n2' n3' nl0
          obtain ⟨⟨x0, x1, xl⟩, ⟨m0, m1, m2, m3, ml⟩, ⟨y0, y1, y2, y3, y4, y5, yl⟩⟩ := HC.out _ (bthen HBV6.out hb9)
          obtain ⟨n0, n1', n2', n3', nl0⟩ := HD.out _ HB9.out
          clear hb9
          go_upto_region 20 with (go_at_call 15; go_loud (refine (HQB.out _ HB9.out).mono ?_; rintro e W10 ⟨rfl, hb10⟩))
          have HB10v := Lib.hid (bthen HB9v.out hb10)
          clear hb10
          go_wp2_with fail
          go_roundw
          case rel => exact ⟨p + 1, by omega, vint (by omega), HB10v.out⟩
          case measure => simp [intOf]; omega
        · go_wp2_with fail
          go_ret
          exact ⟨rfl, bthen HB.out HBV6.out⟩
end Go.Proofs.Ytcimnkijpifkjaa
