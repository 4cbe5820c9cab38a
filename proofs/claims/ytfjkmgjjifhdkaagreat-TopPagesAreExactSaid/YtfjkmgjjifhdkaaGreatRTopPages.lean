/-
  The walk of TopPagesAreExact.
-/
import Derived.Test.YtfjkmgjjifhdkaaGreatR50
import Derived.Test.YtfjkmgjjifhdkaaGreatR49
import Derived.Test.YtfjkmgjjifhdkaaGreatR48
import Derived.Test.YtfjkmgjjifhdkaaGreatR46
import Derived.Test.YtfjkmgjjifhdkaaGreatR22
import Derived.Test.YtfjkmgjjifhdkaaGreatR05
import Derived.Deep.DeepCutAuto
import Derived.Deep.CutBlock
namespace Go.Proofs.YtfjkmgjjifhdkaaGreat
open Go Go.RowKit

set_option maxRecDepth 100000 in
set_option maxHeartbeats 16000000 in
theorem topPages_any (AR : Option Addr) (rl : List R4) (cr : Nat) (x : Raw) (A1 A2 A3 : Option Addr) (c1 c2 c3 : Nat) (u0 u1 u2 : Int) (w : World) (hrl : SlR 4 RR4 w AR rl) (hrn : rl.length ≤ maxLen) (hrok : ∀ r ∈ rl, R4OK r) (hraw : RawR w x A1 A2 A3) (h0 : 0 ≤ u0 ∧ u0 ≤ 255) (h1 : 0 ≤ u1 ∧ u1 ≤ 255) (h2 : 0 ≤ u2 ∧ u2 ≤ 255) :
    Calls Tryz.prog 4 #[.slice AR rl.length cr, .agg #[.slice A1 x.words.length c1, .slice A2 x.counts.length c2, .slice A3 x.uses.length c3, .int .u8 x.back], .agg #[.int .u8 u0, .int .u8 u1, .int .u8 u2]] w fun e w' => e = .returned (.bool true) ∧ Below w.heap.size w w' := by
  obtain ⟨hlm, hw2, hw8⟩ := made_lim x hraw.b2 hraw.b3 hraw.bk
  have HMade : Hid (∀ W, Below w.heap.size w W → Calls Tryz.prog 12 #[.agg #[.slice A1 x.words.length c1, .slice A2 x.counts.length c2, .slice A3 x.uses.length c3, .int .u8 x.back]] W (GivesMo (madeM x) W)) := fun W hW => co_made_any x A1 A2 A3 c1 c2 c3 W (hraw.below hW)
  generalize madeM x = m at *
  have HOK := Lib.hid hlm.ok
  have HLim := Lib.hid hlm
  have HLaM : Hid (∀ W, Below w.heap.size w W → Calls Tryz.prog 7 #[.slice AR rl.length cr, .int .u8 u0, .int .i64 (m.ws.length : Int)] W (GivesLa (latM rl u0 (m.ws.length : Int)) W)) := fun W hW => lat_any AR rl cr u0 _ W (hrl.below keeps_r4 hW) hrn hrok h0 ⟨by omega, by omega⟩
  obtain ⟨q1, q2, q3, q4, q5⟩ := latM_ok (l := rl) (pl := u0) (n := (m.ws.length : Int)) h0.1 (by omega) (by omega) hrok
  generalize latM rl u0 (m.ws.length : Int) = la at *
  have HF : Hid (FitsL la m.ws.length) := ⟨q1, fun e he => (q2 e he).1⟩
  have HCO : Hid (∀ e ∈ la.es, e.co ≤ 1000) := fun e he => by have := (q2 e he).2; omega
  have HFull := Lib.hid q5
  have hq0 := q1.1.1
  obtain ⟨w1, hw1⟩ : ∃ V, (w.alloc (.cells #[.slice A1 x.words.length c1, .slice A2 x.counts.length c2, .slice A3 x.uses.length c3, .int .u8 x.back] 51)).alloc (.cells #[.int .u8 u0, .int .u8 u1, .int .u8 u2] 52) = V := ⟨_, rfl⟩
  have hb1 : Below w.heap.size w w1 := by rw [← hw1]; exact nw _ (nw _ (Below.refl _ _))
  have hK0 : Blk w1 w.heap.size 51 #[.slice A1 x.words.length c1, .slice A2 x.counts.length c2, .slice A3 x.uses.length c3, .int .u8 x.back] := by rw [← hw1]; exact (Blk.new _ _ _).alloc _
  have hK1 : Blk w1 (w.heap.size + 1) 52 #[.int .u8 u0, .int .u8 u1, .int .u8 u2] := by rw [← hw1]; exact Blk.new_ (by simp)
  have HW1 := Lib.hid hw1
  clear hw1 hlm hrl hrok hraw q1 q2 q5
  go_enter Tryz.func4, Tryz.ntmps4
  go_upto_region 3 with (first
    | (go_at_call 6; go_loud (rw [HW1.out]; refine (sanity20t_any w1).mono ?_; rintro e w2 ⟨rfl, hb2⟩; have hkr := hK0.below hb2 hK0.lt; have rw0 := hkr.cell 0; have rw1 := hkr.cell 1; have rw2 := hkr.cell 2; have rw3 := hkr.cell 3; have rwl := hkr.lt; simp at rw0 rw1 rw2 rw3))
    | (go_at_call 12; go_loud (refine (HMade.out _ (bthen hb1 hb2)).mono ?_; rintro e w3 ⟨B1, B2, B3, d1, d2, d3, rfl, hmor, hcaps, hb3⟩; clear rw0 rw1 rw2 rw3 rwl)))
  obtain ⟨W4, hW4⟩ : ∃ V, w3.alloc (.cells #[.slice B1 m.ws.length d1, .slice B2 m.cs.length d2, .slice B3 m.ps.length d3, .int .i64 m.back] 56) = V := ⟨_, rfl⟩
  have hM : MB m w3.heap.size B1 B2 B3 d1 d2 d3 W4 := by rw [← hW4]; exact mb_new hmor hcaps
  have hb34 : Below w3.heap.size w3 W4 := by rw [← hW4]; exact nw _ (Below.refl _ _)
  have hK4 := hK1.below (bthen (bthen hb2 hb3) hb34) hK1.lt
  have HB4 := Lib.hid (bthen hb1 (bthen (bthen hb2 hb3) hb34))
  rw [hW4]
  obtain ⟨gM, hgM⟩ : ∃ b, w3.heap.size = b := ⟨_, rfl⟩
  rw [hgM] at hM ⊢
  obtain ⟨gW, hgW⟩ : ∃ b, w.heap.size + 1 = b := ⟨_, rfl⟩
  have hgWge : w.heap.size ≤ gW := by omega
  have hgMw : w.heap.size ≤ gM := by have := (bthen hb1 (bthen hb2 hb3)).size; omega
  have hgne : gW ≠ gM := by have h1 := hK1.below (bthen hb2 hb3) hK1.lt; have := h1.lt; omega
  rw [hgW] at hK4 ⊢
  have HM4 := Lib.hid hM
  have HK4 := Lib.hid hK4
  have hb34' : Below gM w3 W4 := by rw [← hgM]; exact hb34
  have HR3 := Lib.hid (And.intro hmor (And.intro hb34' hgM))
  clear hb34' hb1 hb2 hb3 hb34 hkr hK0 hK1 hW4 hmor hcaps hgM hgW HW1
  have m0 := hM.b.cell 0
  have m1 := hM.b.cell 1
  have m2 := hM.b.cell 2
  have m3 := hM.b.cell 3
  have ml := hM.b.lt
  have y0 := hK4.cell 0
  have y1 := hK4.cell 1
  have y2 := hK4.cell 2
  have yl := hK4.lt
  simp at m0 m1 m2 m3 y0 y1 y2
  clear hM hK4
  have hwu : IntKind.i64.wrap u1 = u1 := IntWalk.i64_in _ (by omega)
  have hwn : IntKind.i64.wrap ((m.ws.length : Int) + 1) = (m.ws.length : Int) + 1 := IntWalk.i64_in _ (by omega)
  have htm : u1.tmod ((m.ws.length : Int) + 1) = u1 % ((m.ws.length : Int) + 1) := Int.tmod_eq_emod_of_nonneg h1.1
  have hr1 := Int.emod_nonneg u1 (show (m.ws.length : Int) + 1 ≠ 0 by omega)
  have hr2 := Int.emod_lt_of_pos u1 (show 0 < (m.ws.length : Int) + 1 by omega)
  obtain ⟨pq, hpq⟩ : ∃ q, u1 % ((m.ws.length : Int) + 1) = q := ⟨_, rfl⟩
  rw [hpq] at htm hr1 hr2
  have hwq : IntKind.i64.wrap pq = pq := IntWalk.i64_in _ (by omega)
  obtain ⟨prev, hprev⟩ : ∃ q, pq - 1 = q := ⟨_, rfl⟩
  have hwp : IntKind.i64.wrap (pq - 1) = prev := by rw [hprev]; exact IntWalk.i64_in _ (by omega)
  have hpv : -1 ≤ prev ∧ prev < (m.ws.length : Int) := by omega
  have hne : ¬ m.ws = [] := fun e => by rw [e] at hw2; simp at hw2
  have hn0 : ¬ ((m.ws.length : Int) + 1 = 0) := by omega
  clear hpq hprev
  have hwu2 : IntKind.i64.wrap u2 = u2 := IntWalk.i64_in _ (by omega)
  have htm2 : u2.tmod 51 = u2 % 51 := Int.tmod_eq_emod_of_nonneg h2.1
  have hk : 0 ≤ u2 % 51 ∧ u2 % 51 ≤ 50 := by omega
  obtain ⟨k, hkq⟩ : ∃ k, u2 % 51 = k := ⟨_, rfl⟩
  rw [hkq] at htm2 hk
  have hwk : IntKind.i64.wrap k = k := IntWalk.i64_in _ (by omega)
  clear hkq
  go_upto_region 4 with (go_at_call 7; go_loud (refine (HLaM.out _ HB4.out).mono ?_; rintro e w5 ⟨A9, c9, rfl, hs9, hk9, hb9, hown9⟩))
  obtain ⟨W5, hW5⟩ : ∃ V, w5.alloc (.cells #[.int .i64 la.n, .slice A9 la.es.length c9] 27) = V := ⟨_, rfl⟩
  have hX : LB la w5.heap.size A9 c9 W5 := by rw [← hW5]; exact lb_new hs9 hk9
  have hb5a : Below w5.heap.size w5 W5 := by rw [← hW5]; exact nw _ (Below.refl _ _)
  have hb5 := bthen hb9 hb5a
  have HX5 := Lib.hid hX
  have HM5 := Lib.hid (HM4.out.below hb5)
  have HK5 := Lib.hid (HK4.out.below hb5 HK4.out.lt)
  have HB5 := Lib.hid (bthen HB4.out hb5)
  rw [hW5]
  obtain ⟨gX, hgX⟩ : ∃ b, w5.heap.size = b := ⟨_, rfl⟩
  rw [hgX] at HX5 ⊢
  clear hW5 hgX hX hb5a hb5 hb9 hs9 hk9 hown9 m0 m1 m2 m3 ml y0 y1 y2 yl HM4 HK4 HB4 HLaM
  have x0 := HX5.out.b.cell 0
  have x1 := HX5.out.b.cell 1
  have xl := HX5.out.b.lt
  have m0 := HM5.out.b.cell 0
  have m1 := HM5.out.b.cell 1
  have m2 := HM5.out.b.cell 2
  have m3 := HM5.out.b.cell 3
  have ml := HM5.out.b.lt
  have y1 := HK5.out.cell 1
  have yl := HK5.out.lt
  simp at x0 x1 m0 m1 m2 m3 y1
  go_upto_region 5 with fail
  have hnl1 := nodesL_len la prev
  have hgr := grL_ok (prev := prev) HOK.out HF.out HCO.out (by omega)
  have h14 := grL_small hgr HF.out.1 q3
  have hn15 := grL_nodes la m prev q3
  have hEX := exF hgr HF.out.1 (by omega) hk
  obtain ⟨gn, hgn⟩ : ∃ n, (grL la m prev).n = n := ⟨_, rfl⟩
  obtain ⟨GL, hGL⟩ : ∃ n, (grL la m prev).ls.length = n := ⟨_, rfl⟩
  have HBU : Hid (Calls Tryz.prog 13 #[.agg #[.int .i64 la.n, .slice A9 la.es.length c9], .agg #[.slice B1 m.ws.length d1, .slice B2 m.cs.length d2, .slice B3 m.ps.length d3, .int .i64 m.back], .int .i64 prev] W5 fun e w' => ∃ (LA LB : Option Addr) (cA lB cB : Nat), e = .returned (.tuple #[.agg #[.int .i64 gn, .slice LA GL cA], .slice LB lB cB, .int .i64 0]) ∧ SlR 4 RLk w' LA (grL la m prev).ls ∧ Below W5.heap.size W5 w') := buildL_any la A9 c9 m B1 B2 B3 d1 d2 d3 prev W5 HX5.out.s q3 HM5.out.r HM5.out.k.2.2.1 HM5.out.k.2.2.2 HOK.out HF.out hpv hgn hGL
  have HEDS : Hid (∀ e ∈ la.es, (0 ≤ e.wd ∧ e.wd < (m.ws.length : Int)) ∧ 0 ≤ e.co ∧ e.co ≤ 1000000) := fun e he => by
    have h1 := HF.out.1.2.2.1 e he
    have h2 := HF.out.2 e he
    have h3 := HCO.out e he
    exact ⟨⟨h1.2.1.1, h2⟩, h1.2.2.1, by omega⟩
  obtain ⟨e1, e2, e3, e4, e5, e6⟩ := hEX
  have HWE : Hid (∀ E ∈ waysTo la 100 0, E.length ≤ 100 ∧ ∀ e ∈ E, (0 ≤ e.wd ∧ e.wd < (m.ws.length : Int)) ∧ 0 ≤ e.co ∧ e.co ≤ 1000000) := fun E hE => ⟨(e6 E hE).1, fun e he => HEDS.out e ((e6 E hE).2 e he)⟩
  have HPV := Lib.hid hpv
  have HWY : Hid (∀ W, Below W5.heap.size W5 W → Calls Tryz.prog 16 #[.agg #[.int .i64 la.n, .slice A9 la.es.length c9], .int .i64 0] W (IsWys (waysTo la 100 0) W)) := fun W hW => rways_any la HF.out.1 A9 c9 (by omega) 100 0 W (HX5.out.below hW).s (by have := HF.out.1.1; omega) (by have := HF.out.1.1; omega) (by omega)
  generalize hgg : grL la m prev = g at *
  obtain ⟨lp, hlp⟩ : ∃ n, (potL g).length = n := ⟨_, rfl⟩
  obtain ⟨n, hn⟩ : ∃ n, k.toNat = n := ⟨_, rfl⟩
  rw [hn] at e1 e2 e4 e5
  have hwn := want_all hn15 hk
  rw [hn] at hwn
  obtain ⟨L, hL⟩ : ∃ L, pgL g n = L := ⟨_, rfl⟩
  obtain ⟨l, hl⟩ : ∃ l, L.length = l := ⟨_, rfl⟩
  obtain ⟨wb, hwb⟩ : ∃ b, pgWh g n = b := ⟨_, rfl⟩
  obtain ⟨WW, hWW⟩ : ∃ v, waysTo la 100 0 = v := ⟨_, rfl⟩
  obtain ⟨lw, hlw⟩ : ∃ v, WW.length = v := ⟨_, rfl⟩
  rw [hWW] at e1 e2 e3 e4 HWE HWY
  rw [hL, hl, hlw, hwb] at e1
  have hWB := e1.symm
  rw [hL, hl, hlw] at e2
  rw [hL] at e4 e5
  rw [hlw] at e3 e4
  have HMK : Hid (∀ W A c, SlR 4 RLk W A g.ls → Calls Tryz.prog 14 #[.agg #[.int .i64 gn, .slice A GL c], .int .i64 k, .int .i64 100000] W fun e w' => ∃ A c B d, e = .returned (.tuple #[.agg #[.slice A l c, .bool wb], .slice B lp d, .int .i64 0]) ∧ PgIn w' A c L ∧ SlR 1 RInt w' B (potL g) ∧ Below W.heap.size W w') := fun W A c hx => mkS_any hgr h14 hgn hGL hlp hL hl hwb hk (by omega) hwn A c W hx
  have HCK : Hid (∀ W A c B d C e, SlR 4 RLk W A g.ls → SlR 1 RInt W B (potL g) → PgIn W C e L → Calls Tryz.prog 15 #[.agg #[.int .i64 gn, .slice A GL c], .slice B lp d, .agg #[.slice C l e, .bool wb]] W fun r w' => r = .returned (.tuple #[.int .i64 (l : Int), .int .i64 0]) ∧ Below W.heap.size W w') := fun W A c B d C e hx hh hp => ckS_any hgr h14 hgn hGL hlp hL hl hwb A c B d C e W hx hh hp
  have HGL := Lib.hid hGL
  have HLL := Lib.hid hl
  have HLW := Lib.hid hlw
  have HCAN := Lib.hid e5
  have HAT := Lib.hid e4
  have hl50 : l ≤ 50 := by omega
  clear hgr h14 hn15 hgn hGL hlp hn hL hl hwb hWW hlw q3 e1 e5 e4 e6 hwn hgg hnl1 hpv
  go_upto_region 6 with (go_at_call 13; go_loud (refine HBU.out.mono ?_; rintro e w6 ⟨LA, LB, cA, lB, cB, rfl, hg, hb6⟩))
  obtain ⟨W6, hW6⟩ : ∃ V, w6.alloc (.cells #[.int .i64 gn, .slice LA GL cA] 38) = V := ⟨_, rfl⟩
  have hb66 : Below w6.heap.size w6 W6 := by rw [← hW6]; exact nw _ (Below.refl _ _)
  have hG : Blk W6 w6.heap.size 38 #[.int .i64 gn, .slice LA GL cA] := by rw [← hW6]; exact Blk.new _ _ _
  have hb56 := bthen hb6 hb66
  have HB6 := Lib.hid (bthen HB5.out hb56)
  have HB56 := Lib.hid hb56
  have HX6 := Lib.hid (HX5.out.below hb56)
  have HM6 := Lib.hid (HM5.out.below hb56)
  have HK6 := Lib.hid (HK5.out.below hb56 HK5.out.lt)
  have HGS := Lib.hid (hg.below keeps_lk hb66)
  rw [hW6]
  obtain ⟨gG, hgG⟩ : ∃ b, w6.heap.size = b := ⟨_, rfl⟩
  rw [hgG] at hG ⊢
  have HG := Lib.hid hG
  clear hW6 hgG hb6 hb66 hb56 hg hG x0 x1 xl m0 m1 m2 m3 ml y1 yl HX5 HM5 HK5 HB5 HBU
  have g0 := HG.out.cell 0
  have g1 := HG.out.cell 1
  have gl := HG.out.lt
  have y2 := HK6.out.cell 2
  have yl := HK6.out.lt
  simp at g0 g1 y2
  go_upto_region 7 with (go_at_call 14; go_loud (refine (HMK.out W6 LA cA HGS.out).mono ?_; rintro e w7 ⟨C1, e1, P1, f1, rfl, hp1, hh1, hb7⟩))
  obtain ⟨W7, hW7⟩ : ∃ V, w7.alloc (.cells #[.slice C1 l e1, .bool wb] 61) = V := ⟨_, rfl⟩
  have hb77 : Below w7.heap.size w7 W7 := by rw [← hW7]; exact nw _ (Below.refl _ _)
  have hP : Blk W7 w7.heap.size 61 #[.slice C1 l e1, .bool wb] := by rw [← hW7]; exact Blk.new _ _ _
  have hb67 := bthen hb7 hb77
  have HB7 := Lib.hid (bthen HB6.out hb67)
  have HB57 := Lib.hid (bthen HB56.out hb67)
  have HX7 := Lib.hid (HX6.out.below hb67)
  have HM7 := Lib.hid (HM6.out.below hb67)
  have HK7 := Lib.hid (HK6.out.below hb67 HK6.out.lt)
  have HG7 := Lib.hid (HG.out.below hb67 HG.out.lt)
  have HGS7 := Lib.hid (HGS.out.below keeps_lk hb67)
  have HP7 := Lib.hid (hp1.mono hb77)
  have HH7 := Lib.hid (hh1.below keeps_int hb77)
  rw [hW7]
  obtain ⟨gP, hgP⟩ : ∃ b, w7.heap.size = b := ⟨_, rfl⟩
  rw [hgP] at hP ⊢
  have HPB := Lib.hid hP
  clear hW7 hgP hb7 hb77 hb67 hp1 hh1 hP g0 g1 gl y2 yl HB6 HG HGS HK6 HM6 HX6 HB56
  have HC : Hid (∀ W, Below W7.heap.size W7 W → (W.cell? ⟨gG, 0, none⟩ = some (.int .i64 gn) ∧ W.cell? ⟨gG, 1, none⟩ = some (.slice LA GL cA) ∧ gG < W.heap.size) ∧ (W.cell? ⟨gP, 0, none⟩ = some (.slice C1 l e1) ∧ W.cell? ⟨gP, 1, none⟩ = some (.bool wb) ∧ gP < W.heap.size) ∧ (W.cell? ⟨gX, 0, none⟩ = some (.int .i64 la.n) ∧ W.cell? ⟨gX, 1, none⟩ = some (.slice A9 la.es.length c9) ∧ gX < W.heap.size) ∧
      (W.cell? ⟨gM, 0, none⟩ = some (.slice B1 m.ws.length d1) ∧ W.cell? ⟨gM, 1, none⟩ = some (.slice B2 m.cs.length d2) ∧ W.cell? ⟨gM, 2, none⟩ = some (.slice B3 m.ps.length d3) ∧ W.cell? ⟨gM, 3, none⟩ = some (.int .i64 m.back) ∧ gM < W.heap.size) ∧ (W.cell? ⟨gW, 2, none⟩ = some (.int .u8 u2) ∧ gW < W.heap.size)) := fun W hW => by
    have h1 := HG7.out.below hW HG7.out.lt
    have h2 := HPB.out.below hW HPB.out.lt
    have h3 := (HX7.out.below hW).b
    have h4 := (HM7.out.below hW).b
    have h5 := HK7.out.below hW HK7.out.lt
    exact ⟨⟨by rw [h1.cell]; rfl, by rw [h1.cell]; rfl, h1.lt⟩, ⟨by rw [h2.cell]; rfl, by rw [h2.cell]; rfl, h2.lt⟩, ⟨by rw [h3.cell]; rfl, by rw [h3.cell]; rfl, h3.lt⟩, ⟨by rw [h4.cell]; rfl, by rw [h4.cell]; rfl, by rw [h4.cell]; rfl, by rw [h4.cell]; rfl, h4.lt⟩, ⟨by rw [h5.cell]; rfl, h5.lt⟩⟩
  obtain ⟨⟨g0, g1, gl⟩, ⟨p0, p1, pl⟩, ⟨x0, x1, xl⟩, ⟨m0, m1, m2, m3, ml⟩, ⟨y2, yl⟩⟩ := HC.out W7 (Below.refl _ _)
  go_upto_region 10 with (go_at_call 15; go_loud (refine (HCK.out W7 LA cA P1 f1 C1 e1 HGS7.out HH7.out HP7.out).mono ?_; rintro e w8 ⟨rfl, hb8⟩))
  clear g0 g1 gl p0 p1 pl x0 x1 xl m0 m1 m2 m3 ml y2 yl
  obtain ⟨⟨g0, g1, gl⟩, ⟨p0, p1, pl⟩, ⟨x0, x1, xl⟩, ⟨m0, m1, m2, m3, ml⟩, ⟨y2, yl⟩⟩ := HC.out w8 hb8
  go_upto_region 11 with (go_at_call 16; go_loud (refine (HWY.out w8 (bthen HB57.out hb8)).mono ?_; rintro e W9 ⟨v9, ms, rfl, hor, hmr, HME, hb9⟩))
  clear g0 g1 gl p0 p1 pl x0 x1 xl m0 m1 m2 m3 ml y2 yl
  obtain ⟨AW, cW, rfl, hcW, hcWm, hsW⟩ := own_slr (R := RWy) hor (fun _ => rfl) (fun _ => rfl) rfl
  obtain rfl : ms.length = lw := by rw [← HLW.out, ← HME.out, List.length_map]
  have HB79 := Lib.hid (bthen hb8 hb9)
  have HSW := Lib.hid hsW
  have HMR := Lib.hid hmr
  have hWBn : decide (ms.length ≤ l) = wb := by rw [← hWB]; simp
  clear hor hmr hsW hb8 hb9 HLW hWB
  obtain ⟨⟨g0, g1, gl⟩, ⟨p0, p1, pl⟩, ⟨x0, x1, xl⟩, ⟨m0, m1, m2, m3, ml⟩, ⟨y2, yl⟩⟩ := HC.out W9 HB79.out
  go_upto_region 14 with fail
  clear g0 g1 gl p0 p1 pl x0 x1 xl m0 m1 m2 m3 ml y2 yl
  obtain ⟨j0, hj, hy0, hy1, hy2⟩ := info_parts bint_inf
  obtain ⟨W10, hW10⟩ : ∃ V, W9.alloc (.cells #[] 3) = V := ⟨_, rfl⟩
  have ho10 : W10.ownsRow W9.heap.size 3 1 (.slice (some ⟨W9.heap.size, 0, none⟩) 0 0) 0 [] := by rw [← hW10]; exact own_empty W9 _ 1 _ (Nat.le_refl _)
  have hb910 : Below W9.heap.size W9 W10 := by rw [← hW10]; exact nw _ (Below.refl _ _)
  rw [hW10]
  clear hW10
  go_wp2_with fail
  go_loopw [20, 21] (fun ov iv wr => ∃ (j gv cv : Nat) (os : List Int), j ≤ ms.length ∧ iv = .int .i64 (j : Int) ∧ ov = .slice (some ⟨gv, 0, none⟩) os.length cv ∧ (os.length ≤ j ∧ j ≤ os.length) ∧ wr.ownsRow W9.heap.size 3 1 (.slice (some ⟨gv, 0, none⟩) os.length cv) os.length (os.flatMap (fun x => [Value.int .i64 x])) ∧ Hid (os = sortS ((WW.take j).map (ctxC m prev))) ∧ Below W9.heap.size W9 wr) (fun _ iv _ => ms.length - (intOf iv).toNat)
  case atStart => exact ⟨0, W9.heap.size, 0, [], by omega, rfl, rfl, by simp, ho10, (by show [] = _; rfl), hb910⟩
  case round =>
    obtain ⟨wR, rfl⟩ : ∃ W, W = wr := ⟨wr, rfl⟩
    obtain ⟨j, gv, cv, os, hj', rfl, rfl, hol, hown, HOX, hbr⟩ := hrel
    have HBR := Lib.hid hbr
    have HB7R := Lib.hid (bthen HB79.out hbr)
    have HOWN := Lib.hid hown
    by_cases hlt : j < ms.length
    · clear hbr hown
      obtain ⟨b, off, wy, rfl, hbb, hmj, t0⟩ := (HSW.out.below keeps_wy HBR.out).wy hlt
      have hEj : WW[j]? = some wy.E := by rw [← HME.out, List.getElem?_map, hmj]; rfl
      obtain ⟨hE1, hE2⟩ := HWE.out wy.E (List.mem_of_getElem? hEj)
      obtain ⟨hmt, hmc, hmm⟩ := HMR.out wy (List.mem_of_getElem? hmj)
      have HCC : Hid (∀ W, Below wR.heap.size wR W → Calls Tryz.prog 17 #[.slice wy.A wy.E.length wy.c, .agg #[.slice B1 m.ws.length d1, .slice B2 m.cs.length d2, .slice B3 m.ps.length d3, .int .i64 m.back], .int .i64 prev] W fun e w' => e = .returned (.int .i64 (ctxC m prev wy.E)) ∧ Below W.heap.size W w') := fun W hW => by
        have hb := bthen HBR.out hW
        have hM := HM7.out.below (bthen HB79.out hb)
        exact ctxcost_any wy.A wy.E wy.c m B1 B2 B3 d1 d2 d3 prev W (hmt.below hb).slr hE1 hM.r HOK.out hM.k.2.2.1 hM.k.2.2.2 HPV.out hE2
      obtain ⟨cc, hcc⟩ : ∃ v, ctxC m prev wy.E = v := ⟨_, rfl⟩
      obtain ⟨T, hT⟩ : ∃ T, (os.takeWhile (fun a => decide (a ≤ cc))).length = T := ⟨_, rfl⟩
      have hTl := tpW_le hT
      have HTA : Hid (∀ (t : Nat) (y : Int), t < T → os[t]? = some y → y ≤ cc) := fun t y ht hy => tpW_at hT ht hy
      have HTE : Hid (∀ y : Int, os[T]? = some y → ¬ y ≤ cc) := fun y hy => tpW_end hT hy
      have HIN : Hid (os.take T ++ [cc] ++ os.drop T = sortS ((WW.take (j + 1)).map (ctxC m prev))) := by
        show _ = _
        rw [sortS_step hEj, ← HOX.out, insC_take hT, hcc]
      rw [hcc] at HCC
      have hjI : (j : Int) < (ms.length : Int) := by omega
      have hj0 : (0 : Int) ≤ (j : Int) := by omega
      clear hmt hE2 hmj hEj hT hcc HOX
      obtain ⟨⟨g0, g1, gl⟩, ⟨p0, p1, pl⟩, ⟨x0, x1, xl⟩, ⟨m0, m1, m2, m3, ml⟩, ⟨y2, yl⟩⟩ := HC.out wR HB7R.out
      go_upto_region 17 with fail
      go_cut [22, 23] (fun s22 s23 W => s22 = .int .i64 cc ∧ s23 = .int .i64 0 ∧ Below wR.heap.size wR W)
      case first =>
        refine ordB_below (.quiet 0 (.quiet 1 (.quiet 2 (.quiet 3 (.quiet 4 (.quiet 5 (.only 6 (.quiet 7 (.quiet 8 .done))))))))) (by kernel_rfl) (by kernel_rfl) (by kernel_rfl) (fun _ _ _ _ _ h => h) ?_
        intro V0 hV0
        iterate 6 (first
          | (refine ordB_skip rfl rfl ?_; simp only [Act.put, List.setIfInBounds_toArray, List.set_cons_zero, List.set_cons_succ])
          | (refine ordB_take (v := ?_) rfl rfl ?_ ?_
             rotate_left 1
             focus (intro W hW; obtain ⟨hcW, hfW⟩ := bcell hW; (go_simp <;> with_reducible rfl))
             simp only [Act.put, List.setIfInBounds_toArray, List.set_cons_zero, List.set_cons_succ]))
        refine ordB_only (opB_call rfl rfl (fun K hK => ?_))
        go_simp
        go_at_call 17
        refine (HCC.out V0 hV0).mono ?_
        rintro e V0_1 ⟨rfl, hx9⟩
        refine hK.out _ _ (hV0.trans (hx9.mono hV0.size)) (fun hV0_1 => ?_)
        iterate 2 (first
          | (refine ordB_skip rfl rfl ?_; simp only [Act.put, List.setIfInBounds_toArray, List.set_cons_zero, List.set_cons_succ])
          | (refine ordB_take (v := ?_) rfl rfl ?_ ?_
             rotate_left 1
             focus (intro W hW; obtain ⟨hcW, hfW⟩ := bcell hW; (go_simp <;> with_reducible rfl))
             simp only [Act.put, List.setIfInBounds_toArray, List.set_cons_zero, List.set_cons_succ]))
        refine ordB_nil ?_
        go_wp2_with fail
        go_meet
        exact ⟨rfl, rfl, hV0_1⟩
      case rest =>
        obtain ⟨W4, rfl⟩ : ∃ W, W = wc := ⟨wc, rfl⟩
        obtain ⟨rfl, rfl, hb4⟩ := hcut
        have HB4 := Lib.hid hb4
        clear hb4 hbb t0 g0 g1 gl p0 p1 pl x0 x1 xl m0 m1 m2 m3 ml y2 yl
        go_upto_block 2 with fail
        go_cut [23] (fun s23 W => s23 = .int .i64 (T : Nat) ∧ Below W4.heap.size W4 W)
        case first =>
          obtain ⟨A9', c9', he9, _, _, hs9⟩ := own_slr (R := RInt) (own_below HOWN.out HB4.out) (fun _ => rfl) (fun _ => rfl) rfl
          injection he9 with he1 he2 he3
          subst he1
          subst he3
          go_wp2_with fail
          go_loopw [23] (fun tv wi => ∃ t : Nat, t ≤ T ∧ tv = .int .i64 t ∧ Below W4.heap.size W4 wi) (fun tv _ => T - (intOf tv).toNat)
          case atStart => exact ⟨0, by omega, rfl, Below.refl _ _⟩
          case round =>
            obtain ⟨t, ht, rfl, hbi⟩ := hrel
            have HBI := Lib.hid hbi
            have hosm : os.length ≤ 9223372036854775807 := by omega
            by_cases htl : t < os.length
            · obtain ⟨b3, o3, y, hA3, hb3, hy, e0⟩ := (hs9.below keeps_int hbi).int htl
              obtain ⟨rfl, rfl⟩ : gv = b3 ∧ 0 = o3 := by injection hA3 with hA3; injection hA3 with h1 h2; exact ⟨h1, h2⟩
              rw [Nat.zero_add] at e0
              have htl' : decide (t < os.length) = true := decide_eq_true htl
              have htl2 : (t : Int) < (os.length : Int) := by omega
              by_cases htT : t < T
              · have hq := HTA.out t y htT hy
                clear hy hA3 hbi
                go_wp2_with fail
                go_roundw
                case rel => exact ⟨t + 1, by omega, by go_num, HBI.out⟩
                case measure => simp [intOf]; omega
              · have hq := HTE.out y (by rw [show T = t by omega]; exact hy)
                obtain rfl : T = t := by omega
                have hq2 : cc < y := by omega
                clear hy hA3 hbi
                go_wp2_with fail
                go_meet
                exact ⟨rfl, HBI.out⟩
            · obtain rfl : T = t := by omega
              have htl' : decide (T < os.length) = false := decide_eq_false htl
              clear hbi
              go_wp2_with fail
              go_meet
              exact ⟨rfl, HBI.out⟩
        case rest =>
          obtain ⟨W5', rfl⟩ : ∃ W, W = wc := ⟨wc, rfl⟩
          obtain ⟨rfl, hb5⟩ := hcut
          have HB4 := Lib.hid (bthen HB4.out hb5)
          clear hb5
          have hown5 := own_below HOWN.out HB4.out
          obtain ⟨A9', c9', he9, hcv1, hcv2, hs9⟩ := own_slr (R := RInt) hown5 (fun _ => rfl) (fun _ => rfl) rfl
          injection he9 with he1 he2 he3
          subst he1
          subst he3
          have hTc : T ≤ cv := by omega
          have hTc' : (T : Int) ≤ (cv : Int) := by omega
          have hTl' : (T : Int) ≤ (os.length : Int) := by omega
          have hgvlt : gv < W5'.heap.size := by
            rcases Nat.lt_or_ge gv W5'.heap.size with h | h
            · exact h
            · exact absurd rfl (own_lt hown5 h)
          obtain ⟨W6', hW6⟩ : ∃ W, W5'.alloc (.cells #[] 3) = W := ⟨_, rfl⟩
          have hb6 : Below W5'.heap.size W5' W6' := by rw [← hW6]; exact nw _ (Below.refl _ _)
          have ho6 : W6'.ownsRow W5'.heap.size 3 1 (.slice (some ⟨W5'.heap.size, 0, none⟩) 0 0) 0 [] := by rw [← hW6]; exact own_empty W5' _ 1 _ (Nat.le_refl _)
          have hs6 := slr_preS (hs9.below keeps_int hb6) T
          have htl6 : (os.take T).length = T := by rw [List.length_take]; omega
          have hs56 := hb6.size
          have HB6 := Lib.hid hb6
          have HS9 := Lib.hid hs9
          have HTL6 := Lib.hid htl6
          have HBR5 : Hid (Below W9.heap.size W9 W5') := bthen HBR.out HB4.out
          have hosn : os.length ≤ 300 := by omega
          clear hown5 hs9 hb6
          go_upto_region 21 with (at_builtin; go_loud (refine wpList_appS (enc := fun x : Int => [Value.int .i64 x]) (R := RInt) rfl _ _ 40 rfl W5'.heap.size 3 j0 _ 1 8 Tryz.underlying40 hj hy0 hy1 hy2 rfl (by decide) (.slice (some ⟨W5'.heap.size, 0, none⟩) 0 0) 0 [] rfl ho6 (some ⟨gv, 0, none⟩) cv (os.take T) (by rw [HTL6.out]; rfl) hs6 (fun _ _ _ h => h) (fun _ => rfl) (fun u hu => one_int hu) (by rw [HTL6.out]; omega) (by decide) hs56 ?_; intro v7 W7' h71 h72 h73))
          have h71' : W7'.ownsRow W5'.heap.size 3 1 v7 (os.take T).length ((os.take T).flatMap (fun x => [Value.int .i64 x])) := by simpa using h71
          have hb57 : Below W5'.heap.size W5' W7' := HB6.out.trans h72
          have hs57 := hb57.size
          have hs57' : W5'.heap.size ≤ (W7'.alloc (.cells #[.int .i64 cc] 3)).heap.size := by simp; omega
          have h71a := h71'.alloc (.cells #[.int .i64 cc] 3)
          have HB57 := Lib.hid hb57
          clear h71 h71' h72 h73 hb57 ho6 hs6
          go_upto_region 22 with (at_builtin; go_loud (refine wpList_appS (enc := fun x : Int => [Value.int .i64 x]) (R := RInt) rfl _ _ 40 rfl W5'.heap.size 3 j0 _ 1 8 Tryz.underlying40 hj hy0 hy1 hy2 rfl (by decide) v7 _ _ rfl h71a (some ⟨W7'.heap.size, 0, none⟩) 1 [cc] rfl (slr_blk (enc := fun x : Int => [Value.int .i64 x]) (Blk.new_ rfl) (fun _ => rfl) (fun _ => rfl)) (fun _ _ _ h => h) (fun _ => rfl) (fun u hu => one_int hu) (by simp; omega) (by decide) hs57' ?_; intro v8 W8' h81 h82 h83))
          have h81' : W8'.ownsRow W5'.heap.size 3 1 v8 (os.take T ++ [cc]).length ((os.take T ++ [cc]).flatMap (fun x => [Value.int .i64 x])) := by rw [List.length_append, List.flatMap_append]; exact h81
          have hb58 : Below W5'.heap.size W5' W8' := HB57.out.trans (((Below.refl W7'.heap.size W7').alloc (Nat.le_refl _) (.cells #[.int .i64 cc] 3)).mono hs57 |>.trans h82)
          have hs8 := HS9.out.below keeps_int hb58
          have hs58 := hb58.size
          have HEX : Hid (∃ A', (if cv = T then some (Addr.mk gv 0 none) else some (Addr.mk gv T none)) = A' ∧ SlR 1 RInt W8' A' (os.drop T)) := by
            show ∃ _, _
            by_cases hct : cv = T
            · refine ⟨_, rfl, ?_⟩
              rw [List.drop_eq_nil_of_le (by omega)]
              exact SlR.nil
            · refine ⟨_, rfl, ?_⟩
              rw [if_neg hct]
              have := slr_dropS hs8 T
              rwa [Nat.zero_add, Nat.mul_one] at this
          obtain ⟨A', hA', hsA⟩ := HEX.out
          have hdl : (os.drop T).length = os.length - T := List.length_drop
          have HDL := Lib.hid hdl
          have HBW8 : Hid (Below W9.heap.size W9 W8') := bthen HBR5.out hb58
          have HWS : Hid (W9.heap.size ≤ W5'.heap.size) := HBR5.out.size
          clear h81 h82 h83 hb58 hs8 hdl
          go_upto_region 16 with (at_builtin; go_loud (refine wpList_appS (enc := fun x : Int => [Value.int .i64 x]) (R := RInt) rfl _ _ 40 rfl W5'.heap.size 3 j0 _ 1 8 Tryz.underlying40 hj hy0 hy1 hy2 rfl (by decide) v8 _ _ rfl h81' A' (cv - T) (os.drop T) (by rw [HDL.out]; rfl) hsA (fun _ _ _ h => h) (fun _ => rfl) (fun u hu => one_int hu) (by rw [HDL.out]; simp; omega) (by decide) hs58 ?_; intro v9 W9' h91 h92 h93))
          have h91' : W9'.ownsRow W5'.heap.size 3 1 v9 (os.take T ++ [cc] ++ os.drop T).length ((os.take T ++ [cc] ++ os.drop T).flatMap (fun x => [Value.int .i64 x])) := by
            rw [List.length_append, List.flatMap_append]; exact h91
          obtain ⟨gv', cv', rfl, _, _, _, _⟩ := own_some h91' (fun _ => rfl) (by simp)
          have HO9 := Lib.hid (own_base h91' HWS.out)
          have HB9 := Lib.hid (HBW8.out.trans (h92.mono HWS.out))
          have hlen : (os.take T ++ [cc] ++ os.drop T).length = os.length + 1 := by simp; omega
          have HLEN := Lib.hid hlen
          generalize os.take T ++ [cc] ++ os.drop T = ns at *
          clear h91 h91' h92 h93 hlen hsA hA' h81' HEX
          go_wp2_with fail
          go_roundw
          case rel => exact ⟨j + 1, gv', cv', ns, by omega, by go_num, rfl, by rw [HLEN.out]; omega, HO9.out, HIN, HB9.out⟩
          case measure => simp [intOf]; omega
    · obtain ⟨jn, hjn⟩ : ∃ q, q = j := ⟨j, rfl⟩
      obtain rfl : j = ms.length := by omega
      obtain ⟨A9', c9', he9, hcv1, hcv2, hs9⟩ := own_slr (R := RInt) hown (fun _ => rfl) (fun _ => rfl) rfl
      injection he9 with he1 he2 he3
      subst he1
      subst he3
      have HSO := Lib.hid hs9
      clear hs9 hown hbr hjn
      have HOS : Hid (os = sortS (WW.map (ctxC m prev))) := by
        show _ = _
        rw [HOX.out, List.take_of_length_le (by rw [← HME.out, List.length_map]; omega)]
      have hosl : os.length = ms.length := by omega
      have HOL := Lib.hid hosl
      obtain ⟨⟨g0, g1, gl⟩, ⟨p0, p1, pl⟩, ⟨x0, x1, xl⟩, ⟨m0, m1, m2, m3, ml⟩, ⟨y2, yl⟩⟩ := HC.out wR HB7R.out
      clear hol hosl
      by_cases h300 : ms.length = 300
      · go_wp2_with fail
        go_ret
        exact ⟨rfl, bthen HB7.out HB7R.out⟩
      · have HJC : Hid (∀ (i : Nat) (c : Can), L[i]? = some c → os[i]? = some c.cost) := by
          rw [HOS.out]
          exact HAT.out h300
        have h300' : ((ms.length : Int) == 300) = false := by simp; omega
        go_wp2_with fail
        go_loopw [25] (fun iv wr => ∃ i : Nat, i ≤ l ∧ iv = .int .i64 (i : Int) ∧ Below wR.heap.size wR wr) (fun iv _ => l - (intOf iv).toNat)
        case atStart => exact ⟨0, by omega, rfl, Below.refl _ _⟩
        case round =>
          obtain ⟨wV, rfl⟩ : ∃ W, W = wr := ⟨wr, rfl⟩
          obtain ⟨i, hi, rfl, hbv⟩ := hrel
          have HBV := Lib.hid hbv
          have HB7V := Lib.hid (bthen HB7R.out hbv)
          clear hbv g0 g1 gl p0 p1 pl x0 x1 xl m0 m1 m2 m3 ml y2 yl
          by_cases hil : i < l
          · obtain ⟨b, off, c, AC, cC, hAC, hbb, hcc, t0, t1, hlk, _, _⟩ := (HP7.out.s.below keeps_can HB7V.out).can (k := i) (by rw [HLL.out]; exact hil)
            subst hAC
            have hci := HJC.out i c hcc
            obtain ⟨hc2, hc3⟩ := HCAN.out c (List.mem_of_getElem? hcc)
            have hio : i < os.length := (List.getElem?_eq_some_iff.1 hci).1
            obtain ⟨b3, o3, y, hA3, hb3, hy, e0⟩ := (HSO.out.below keeps_int HBV.out).int hio
            obtain ⟨rfl, rfl⟩ : gv = b3 ∧ 0 = o3 := by injection hA3 with hA3; injection hA3 with h1 h2; exact ⟨h1, h2⟩
            obtain rfl : y = c.cost := Option.some.inj (hy.symm.trans hci)
            rw [Nat.zero_add] at e0
            have HLK := Lib.hid hlk
            have HWD : Hid (∀ W, Below wV.heap.size wV W → Calls Tryz.prog 18 #[.agg #[.int .i64 la.n, .slice A9 la.es.length c9], .agg #[.int .i64 gn, .slice LA GL cA], .agg #[.slice AC c.links.length cC, .int .i64 c.cost]] W fun e w' => ∃ B d, e = .returned (.slice B c.links.length d) ∧ Below W.heap.size W w') := fun W hW => by
              have hb := bthen HB7V.out hW
              have h := cxwords_any la A9 c9 gn LA g.ls cA AC c.links cC c.cost W (HX7.out.below hb).s (HGS7.out.below keeps_lk hb) (HLK.out.below keeps_int hW) (by omega) hc3
              rw [HGL.out] at h
              refine h.mono ?_
              rintro e w' ⟨B, d, rfl, _, _, hb⟩
              rw [List.length_map]
              exact ⟨B, d, rfl, hb⟩
            have HD : Hid (∀ W, Below wV.heap.size wV W → W.cell? ⟨b, off + i * 2, none⟩ = some (.slice AC c.links.length cC) ∧ W.cell? ⟨b, off + i * 2 + 1, none⟩ = some (.int .i64 c.cost) ∧ b < W.heap.size ∧ W.cell? ⟨gv, i, none⟩ = some (.int .i64 c.cost) ∧ gv < W.heap.size) := fun W hW => ⟨(hW.cell (p := ⟨b, off + i * 2, none⟩) hbb).trans t0, (hW.cell (p := ⟨b, off + i * 2 + 1, none⟩) hbb).trans t1, Nat.lt_of_lt_of_le hbb hW.size, (hW.cell (p := ⟨gv, i, none⟩) hb3).trans e0, Nat.lt_of_lt_of_le hb3 hW.size⟩
            have hiI : (i : Int) < (l : Int) := by omega
            have hiO : (i : Int) < (os.length : Int) := by omega
            have hi0 : (0 : Int) ≤ (i : Int) := by omega
            have hzn : decide (os.length ≤ i) = false := decide_eq_false (by omega)
            have hzi : decide ((os.length : Int) ≤ (i : Int)) = false := decide_eq_false (by omega)
            clear hci hc3 hcc hy hA3 hlk
            obtain ⟨⟨g0, g1, gl⟩, ⟨p0, p1, pl⟩, ⟨x0, x1, xl⟩, ⟨m0, m1, m2, m3, ml⟩, ⟨y2, yl⟩⟩ := HC.out wV HB7V.out
            go_upto_region 28 with fail
            go_cut [26] (fun s26 W => (∃ B d, s26 = .slice B c.links.length d) ∧ Below wV.heap.size wV W)
            case first =>
              refine ordB_below (.quiet 0 (.quiet 1 (.quiet 2 (.quiet 3 (.quiet 4 (.quiet 5 (.quiet 6 (.only 7 (.quiet 8 .done))))))))) (by kernel_rfl) (by kernel_rfl) (by kernel_rfl) (fun _ _ _ _ _ h => h) ?_
              intro V1 hV1
              iterate 7 (first
                | (refine ordB_skip rfl rfl ?_; simp only [Act.put, List.setIfInBounds_toArray, List.set_cons_zero, List.set_cons_succ])
                | (refine ordB_take (v := ?_) rfl rfl ?_ ?_
                   rotate_left 1
                   focus (intro W hW; obtain ⟨hcW, hfW⟩ := bcell hW; (go_simp <;> with_reducible rfl))
                   simp only [Act.put, List.setIfInBounds_toArray, List.set_cons_zero, List.set_cons_succ]))
              refine ordB_only (opB_call rfl rfl (fun K hK => ?_))
              go_simp
              go_at_call 18
              refine (HWD.out V1 hV1).mono ?_
              rintro e V1_1 ⟨BQ, dQ, rfl, hx9⟩
              refine hK.out _ _ (hV1.trans (hx9.mono hV1.size)) (fun hV1_1 => ?_)
              iterate 1 (first
                | (refine ordB_skip rfl rfl ?_; simp only [Act.put, List.setIfInBounds_toArray, List.set_cons_zero, List.set_cons_succ])
                | (refine ordB_take (v := ?_) rfl rfl ?_ ?_
                   rotate_left 1
                   focus (intro W hW; obtain ⟨hcW, hfW⟩ := bcell hW; (go_simp <;> with_reducible rfl))
                   simp only [Act.put, List.setIfInBounds_toArray, List.set_cons_zero, List.set_cons_succ]))
              refine ordB_nil ?_
              go_wp2_with fail
              go_meet
              exact ⟨⟨BQ, dQ, rfl⟩, hV1_1⟩
            case rest =>
              obtain ⟨wQ, rfl⟩ : ∃ W, W = wc := ⟨wc, rfl⟩
              obtain ⟨⟨BQ, dQ, rfl⟩, hbq⟩ := hcut
              have HBQ := Lib.hid hbq
              clear t0 t1 hbb e0 hb3 g0 g1 gl p0 p1 pl x0 x1 xl m0 m1 m2 m3 ml y2 yl
              obtain ⟨⟨g0, g1, gl⟩, ⟨p0, p1, pl⟩, ⟨x0, x1, xl⟩, ⟨m0, m1, m2, m3, ml⟩, ⟨y2, yl⟩⟩ := HC.out wQ (bthen HB7V.out hbq)
              obtain ⟨t0, t1, hbb, e0, hb3⟩ := HD.out _ hbq
              clear hbq
              go_upto_region 29 with fail
              refine ordB_below (.quiet 0 (.quiet 1 (.quiet 2 (.quiet 3 (.quiet 4 (.quiet 5 (.quiet 6 (.quiet 7 (.quiet 8 (.quiet 9 (.quiet 10 (.quiet 11 (.quiet 12 (.quiet 13 (.quiet 14 (.quiet 15 (.quiet 16 (.quiet 17 (.quiet 18 (.quiet 19 (.quiet 20 (.quiet 21 (.quiet 22 (.quiet 23 (.quiet 24 (.quiet 25 (.quiet 26 (.quiet 27 (.quiet 28 .done))))))))))))))))))))))))))))) (by kernel_rfl) (by kernel_rfl) (by kernel_rfl) (fun _ _ _ _ _ h => h) ?_
              intro V2 hV2
              iterate 29 (first
                | (refine ordB_skip rfl rfl ?_; simp only [Act.put, List.setIfInBounds_toArray, List.set_cons_zero, List.set_cons_succ])
                | (refine ordB_take (v := ?_) rfl rfl ?_ ?_
                   rotate_left 1
                   focus (intro W hW; obtain ⟨hcW, hfW⟩ := bcell hW; (go_simp <;> with_reducible rfl))
                   simp only [Act.put, List.setIfInBounds_toArray, List.set_cons_zero, List.set_cons_succ]))
              refine ordB_nil ?_
              have HBF := Lib.hid (bthen HBQ.out hV2)
              go_wp2_with fail
              go_roundw
              case rel => exact ⟨i + 1, by omega, by go_num, bthen HBV.out HBF.out⟩
              case measure => simp [intOf]; omega
          · obtain rfl : i = l := by omega
            obtain ⟨⟨g0, g1, gl⟩, ⟨p0, p1, pl⟩, ⟨x0, x1, xl⟩, ⟨m0, m1, m2, m3, ml⟩, ⟨y2, yl⟩⟩ := HC.out wV HB7V.out
            go_wp2_with fail
            go_ret
            exact ⟨rfl, bthen HB7.out HB7V.out⟩
end Go.Proofs.YtfjkmgjjifhdkaaGreat
