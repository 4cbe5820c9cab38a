/-
  The walk of TopShortBudgetsTellTheTruth.
-/
import Derived.Test.YtfjkmgjjifhdkaaGreatQ03
import Derived.Deep.DeepCutAuto
namespace Go.Proofs.YtfjkmgjjifhdkaaGreat
open Go Go.RowKit

set_option maxRecDepth 100000 in
set_option maxHeartbeats 16000000 in
theorem topShort_any (AR : Option Addr) (rl : List R4) (cr : Nat) (x : Raw) (A1 A2 A3 : Option Addr) (c1 c2 c3 : Nat) (u0 u1 u2 : Int) (w : World) (hrl : SlR 4 RR4 w AR rl) (hrn : rl.length ≤ maxLen) (hrok : ∀ r ∈ rl, R4OK r) (hraw : RawR w x A1 A2 A3) (h0 : 0 ≤ u0 ∧ u0 ≤ 255) (h1 : 0 ≤ u1 ∧ u1 ≤ 255) (h2 : 0 ≤ u2 ∧ u2 ≤ 255) :
    Calls Tryz.prog 5 #[.slice AR rl.length cr, .agg #[.slice A1 x.words.length c1, .slice A2 x.counts.length c2, .slice A3 x.uses.length c3, .int .u8 x.back], .agg #[.int .u8 u0, .int .u8 u1, .int .u8 u2]] w fun e w' => e = .returned (.bool true) ∧ Below w.heap.size w w' := by
  obtain ⟨hlm, hw2, hw8⟩ := made_lim x hraw.b2 hraw.b3 hraw.bk
  have HMade : Hid (∀ W, Below w.heap.size w W → Calls Tryz.prog 12 #[.agg #[.slice A1 x.words.length c1, .slice A2 x.counts.length c2, .slice A3 x.uses.length c3, .int .u8 x.back]] W (GivesMo (madeM x) W)) := fun W hW => co_made_any x A1 A2 A3 c1 c2 c3 W (hraw.below hW)
  generalize madeM x = m at *
  have HOK := Lib.hid hlm.ok
  have HLim := Lib.hid hlm
  have HLaM : Hid (∀ W, Below w.heap.size w W → Calls Tryz.prog 7 #[.slice AR rl.length cr, .int .u8 u0, .int .i64 (m.ws.length : Int)] W (GivesLa (latM rl u0 (m.ws.length : Int)) W)) := fun W hW => lat_any AR rl cr u0 _ W (hrl.below keeps_r4 hW) hrn hrok h0 ⟨by omega, by omega⟩
  obtain ⟨q1, q2, q3, q4, q5⟩ := latM_ok (l := rl) (pl := u0) (n := (m.ws.length : Int)) h0.1 (by omega) (by omega) hrok
  generalize latM rl u0 (m.ws.length : Int) = la at *
  have HF : Hid (FitsL la m.ws.length) := ⟨q1, fun e he => (q2 e he).1⟩
  have HCO : Hid (∀ e ∈ la.es, e.co ≤ 1000) := fun e he => by have := (q2 e he).2; omega
  have HFull := Lib.hid q5
  have hq0 := q1.1.1
  obtain ⟨w1, hw1⟩ : ∃ V, (w.alloc (.cells #[.slice A1 x.words.length c1, .slice A2 x.counts.length c2, .slice A3 x.uses.length c3, .int .u8 x.back] 51)).alloc (.cells #[.int .u8 u0, .int .u8 u1, .int .u8 u2] 52) = V := ⟨_, rfl⟩
  have hb1 : Below w.heap.size w w1 := by rw [← hw1]; exact nw _ (nw _ (Below.refl _ _))
  have hK0 : Blk w1 w.heap.size 51 #[.slice A1 x.words.length c1, .slice A2 x.counts.length c2, .slice A3 x.uses.length c3, .int .u8 x.back] := by rw [← hw1]; exact (Blk.new _ _ _).alloc _
  have hK1 : Blk w1 (w.heap.size + 1) 52 #[.int .u8 u0, .int .u8 u1, .int .u8 u2] := by rw [← hw1]; exact Blk.new_ (by simp)
  have HW1 := Lib.hid hw1
  clear hw1 hlm hrl hrok hraw q1 q2 q5
  go_enter Tryz.func5, Tryz.ntmps5
  go_upto_region 3 with (first
    | (go_at_call 6; go_loud (rw [HW1.out]; refine (sanity20t_any w1).mono ?_; rintro e w2 ⟨rfl, hb2⟩; have hkr := hK0.below hb2 hK0.lt; have rw0 := hkr.cell 0; have rw1 := hkr.cell 1; have rw2 := hkr.cell 2; have rw3 := hkr.cell 3; have rwl := hkr.lt; simp at rw0 rw1 rw2 rw3))
    | (go_at_call 12; go_loud (refine (HMade.out _ (bthen hb1 hb2)).mono ?_; rintro e w3 ⟨B1, B2, B3, d1, d2, d3, rfl, hmor, hcaps, hb3⟩; clear rw0 rw1 rw2 rw3 rwl)))
  obtain ⟨W4, hW4⟩ : ∃ V, w3.alloc (.cells #[.slice B1 m.ws.length d1, .slice B2 m.cs.length d2, .slice B3 m.ps.length d3, .int .i64 m.back] 56) = V := ⟨_, rfl⟩
  have hM : MB m w3.heap.size B1 B2 B3 d1 d2 d3 W4 := by rw [← hW4]; exact mb_new hmor hcaps
  have hb34 : Below w3.heap.size w3 W4 := by rw [← hW4]; exact nw _ (Below.refl _ _)
  have hK4 := hK1.below (bthen (bthen hb2 hb3) hb34) hK1.lt
  have HB4 := Lib.hid (bthen hb1 (bthen (bthen hb2 hb3) hb34))
  rw [hW4]
  obtain ⟨gM, hgM⟩ : ∃ b, w3.heap.size = b := ⟨_, rfl⟩
  rw [hgM] at hM ⊢
  obtain ⟨gW, hgW⟩ : ∃ b, w.heap.size + 1 = b := ⟨_, rfl⟩
  have hgWge : w.heap.size ≤ gW := by omega
  have hgMw : w.heap.size ≤ gM := by have := (bthen hb1 (bthen hb2 hb3)).size; omega
  have hgne : gW ≠ gM := by have h1 := hK1.below (bthen hb2 hb3) hK1.lt; have := h1.lt; omega
  rw [hgW] at hK4 ⊢
  have HM4 := Lib.hid hM
  have HK4 := Lib.hid hK4
  have hb34' : Below gM w3 W4 := by rw [← hgM]; exact hb34
  have HR3 := Lib.hid (And.intro hmor (And.intro hb34' hgM))
  clear hb34' hb1 hb2 hb3 hb34 hkr hK0 hK1 hW4 hmor hcaps hgM hgW HW1
  have m0 := hM.b.cell 0
  have m1 := hM.b.cell 1
  have m2 := hM.b.cell 2
  have m3 := hM.b.cell 3
  have ml := hM.b.lt
  have y0 := hK4.cell 0
  have y1 := hK4.cell 1
  have y2 := hK4.cell 2
  have yl := hK4.lt
  simp at m0 m1 m2 m3 y0 y1 y2
  clear hM hK4
  go_upto_region 4 with (go_at_call 7; go_loud (refine (HLaM.out _ HB4.out).mono ?_; rintro e w5 ⟨A9, c9, rfl, hs9, hk9, hb9, hown9⟩))
  obtain ⟨W5, hW5⟩ : ∃ V, w5.alloc (.cells #[.int .i64 la.n, .slice A9 la.es.length c9] 27) = V := ⟨_, rfl⟩
  have hX : LB la w5.heap.size A9 c9 W5 := by rw [← hW5]; exact lb_new hs9 hk9
  have hb5a : Below w5.heap.size w5 W5 := by rw [← hW5]; exact nw _ (Below.refl _ _)
  have hb5 := bthen hb9 hb5a
  have HX5 := Lib.hid hX
  have HM5 := Lib.hid (HM4.out.below hb5)
  have HK5 := Lib.hid (HK4.out.below hb5 HK4.out.lt)
  have HB5 := Lib.hid (bthen HB4.out hb5)
  rw [hW5]
  obtain ⟨gX, hgX⟩ : ∃ b, w5.heap.size = b := ⟨_, rfl⟩
  rw [hgX] at HX5 ⊢
  clear hW5 hgX hX hb5a hb5 hb9 hs9 hk9 hown9 m0 m1 m2 m3 ml y0 y1 y2 yl HM4 HK4 HB4 HLaM
  have x0 := HX5.out.b.cell 0
  have x1 := HX5.out.b.cell 1
  have xl := HX5.out.b.lt
  have m0 := HM5.out.b.cell 0
  have m1 := HM5.out.b.cell 1
  have m2 := HM5.out.b.cell 2
  have m3 := HM5.out.b.cell 3
  have ml := HM5.out.b.lt
  simp at x0 x1 m0 m1 m2 m3
  have hgr := grL_ok (prev := -1) HOK.out HF.out HCO.out (by omega)
  have h14 := grL_small hgr HF.out.1 q3
  have hn15 := grL_nodes la m (-1) q3
  obtain ⟨gn, hgn⟩ : ∃ n, (grL la m (-1)).n = n := ⟨_, rfl⟩
  obtain ⟨GL, hGL⟩ : ∃ n, (grL la m (-1)).ls.length = n := ⟨_, rfl⟩
  have HBU : Hid (Calls Tryz.prog 13 #[.agg #[.int .i64 la.n, .slice A9 la.es.length c9], .agg #[.slice B1 m.ws.length d1, .slice B2 m.cs.length d2, .slice B3 m.ps.length d3, .int .i64 m.back], .int .i64 (-1)] W5 fun e w' => ∃ (LA LB : Option Addr) (cA lB cB : Nat), e = .returned (.tuple #[.agg #[.int .i64 gn, .slice LA GL cA], .slice LB lB cB, .int .i64 0]) ∧ SlR 4 RLk w' LA (grL la m (-1)).ls ∧ Below W5.heap.size W5 w') := buildL_any la A9 c9 m B1 B2 B3 d1 d2 d3 (-1) W5 HX5.out.s q3 HM5.out.r HM5.out.k.2.2.1 HM5.out.k.2.2.2 HOK.out HF.out (by omega) hgn hGL
  generalize grL la m (-1) = g at *
  obtain ⟨lp, hlp⟩ : ∃ n, (potL g).length = n := ⟨_, rfl⟩
  obtain ⟨n, hn⟩ : ∃ n, wantN g 20 u1 = n := ⟨_, rfl⟩
  have hn20 : n ≤ 20 := by rw [← hn]; exact want_le20 u1
  have hw20 : wantN g 20 100000 = 20 := want_all hn15 (by omega)
  obtain ⟨L, hL⟩ : ∃ L, pgL g n = L := ⟨_, rfl⟩
  obtain ⟨M, hM⟩ : ∃ L, pgL g 20 = L := ⟨_, rfl⟩
  obtain ⟨l, hl⟩ : ∃ l, L.length = l := ⟨_, rfl⟩
  obtain ⟨l2, hl2⟩ : ∃ l, M.length = l := ⟨_, rfl⟩
  obtain ⟨wb, hwb⟩ : ∃ b, pgWh g n = b := ⟨_, rfl⟩
  obtain ⟨wd, hwd⟩ : ∃ b, pgWh g 20 = b := ⟨_, rfl⟩
  obtain ⟨k, hk⟩ : ∃ k, 20 - (l : Int) = k := ⟨_, rfl⟩
  obtain ⟨K, hK⟩ : ∃ K, ((allG g).length : Int) = K := ⟨_, rfl⟩
  have hll : l ≤ l2 ∧ l2 ≤ 20 := by
    rw [← hl, ← hl2, ← hL, ← hM, pgL_len, pgL_len]
    omega
  have hKW : (K == (l : Int)) = wb := by rw [← hK, ← hl, ← hL, ← hwb]; exact wh_eq g n
  have hws : IntKind.i64.wrap (20 - (l : Int)) = k := by rw [hk]; exact IntWalk.i64_in _ (by omega)
  have HMK1 : Hid (∀ W A c, SlR 4 RLk W A g.ls → Calls Tryz.prog 14 #[.agg #[.int .i64 gn, .slice A GL c], .int .i64 20, .int .i64 u1] W fun e w' => ∃ A c B d, e = .returned (.tuple #[.agg #[.slice A l c, .bool wb], .slice B lp d, .int .i64 0]) ∧ PgIn w' A c L ∧ SlR 1 RInt w' B (potL g) ∧ Below W.heap.size W w') := fun W A c hx => mkS_any hgr h14 hgn hGL hlp hL hl hwb (by omega) (by omega) hn A c W hx
  have HMK2 : Hid (∀ W A c, SlR 4 RLk W A g.ls → Calls Tryz.prog 14 #[.agg #[.int .i64 gn, .slice A GL c], .int .i64 20, .int .i64 100000] W fun e w' => ∃ A c B d, e = .returned (.tuple #[.agg #[.slice A l2 c, .bool wd], .slice B lp d, .int .i64 0]) ∧ PgIn w' A c M ∧ SlR 1 RInt w' B (potL g) ∧ Below W.heap.size W w') := fun W A c hx => mkS_any hgr h14 hgn hGL hlp hM hl2 hwd (by omega) (by omega) hw20 A c W hx
  have HCK : Hid (∀ W A c B d C e, SlR 4 RLk W A g.ls → SlR 1 RInt W B (potL g) → PgIn W C e L → Calls Tryz.prog 15 #[.agg #[.int .i64 gn, .slice A GL c], .slice B lp d, .agg #[.slice C l e, .bool wb]] W fun r w' => r = .returned (.tuple #[.int .i64 (l : Int), .int .i64 0]) ∧ Below W.heap.size W w') := fun W A c B d C e hx hh hp => ckS_any hgr h14 hgn hGL hlp hL hl hwb A c B d C e W hx hh hp
  have HMR : Hid (∀ W A c C e, SlR 4 RLk W A g.ls → PgIn W C e L → Calls Tryz.prog 19 #[.agg #[.int .i64 gn, .slice A GL c], .agg #[.slice C l e, .bool wb], .int .i64 k, .int .i64 100000] W fun e w' => ∃ A c, e = .returned (.tuple #[.agg #[.slice A l2 c, .bool wd], .int .i64 0]) ∧ PgIn w' A c M ∧ Below W.heap.size W w') := fun W A c C e hx hp => mrS_any hgr h14 hgn hGL hL hl hwb hM hl2 hwd hn15 hn20 hk A c C e W hx hp
  have HNU : Hid (∀ W A c, SlR 4 RLk W A g.ls → Calls Tryz.prog 20 #[.agg #[.int .i64 gn, .slice A GL c]] W fun e w' => e = .returned (.int .i64 K) ∧ Below W.heap.size W w') := fun W A c hx => nuS_any hgr h14 hgn hGL hK A c W hx
  have HPF : Hid (∀ W C e D f, PgIn W C e L → PgIn W D f M → Calls Tryz.prog 21 #[.agg #[.slice C l e, .bool wb], .agg #[.slice D l2 f, .bool wd]] W fun r w' => r = .returned (.bool true) ∧ Below W.heap.size W w') := fun W C e D f h1 h2 => by
    have h := prefix_any C D L M e f wb wd W h1.s h2.s h1.l h1.m h2.l h2.m
    have hp := pg_pre (g := g) hn20
    rw [hL, hM, hwb, hwd] at hp
    rw [hp, hl, hl2] at h
    exact h
  have HSM : Hid (∀ W C e D f, PgIn W C e M → PgIn W D f M → Calls Tryz.prog 22 #[.agg #[.slice C l2 e, .bool wd], .agg #[.slice D l2 f, .bool wd]] W fun r w' => r = .returned (.bool true) ∧ Below W.heap.size W w') := fun W C e D f h1 h2 => by
    have h := psame_any C D M M e f wd wd W h1.s h2.s (Nat.le_trans h1.l h1.m) (Nat.le_trans h2.l h2.m)
    rw [hl2, show (decide (M = M) && (wd == wd)) = true by simp] at h
    exact h
  have HSS : Hid (∀ W C e D f, PgIn W C e M → PgIn W D f L → Calls Tryz.prog 23 #[.slice C l e, .slice D l f] W fun r w' => r = .returned (.bool true) ∧ Below W.heap.size W w') := fun W C e D f h1 h2 => by
    have hs : SlR 2 RCan W C L := by
      have h3 := slr_pre h1.s l
      have h4 := pgL_take g (n := n) hn20
      rw [hL, hM, hl] at h4
      rwa [h4] at h3
    have h := same_any C D L L e f W hs h2.s (Nat.le_trans h2.l h2.m) (Nat.le_trans h2.l h2.m)
    rw [hl, show decide (L = L) = true by simp] at h
    exact h
  have HPL1 : Hid (∀ W C e, PgIn W C e M → l ≤ e) := fun W C e h => by have := h.l; omega
  clear hgr h14 hn15 hgn hGL hlp hn hn20 hw20 hL hM hl hl2 hwb hwd hk hK q3
  go_upto_region 5 with (go_at_call 13; go_loud (refine HBU.out.mono ?_; rintro e w6 ⟨LA, LB, cA, lB, cB, rfl, hg, hb6⟩))
  obtain ⟨W6, hW6⟩ : ∃ V, w6.alloc (.cells #[.int .i64 gn, .slice LA GL cA] 38) = V := ⟨_, rfl⟩
  have hb66 : Below w6.heap.size w6 W6 := by rw [← hW6]; exact nw _ (Below.refl _ _)
  have hG : Blk W6 w6.heap.size 38 #[.int .i64 gn, .slice LA GL cA] := by rw [← hW6]; exact Blk.new _ _ _
  have hb56 := bthen hb6 hb66
  have HB6 := Lib.hid (bthen HB5.out hb56)
  have HK6 := Lib.hid (HK5.out.below hb56 HK5.out.lt)
  have HGS := Lib.hid (hg.below keeps_lk hb66)
  rw [hW6]
  obtain ⟨gG, hgG⟩ : ∃ b, w6.heap.size = b := ⟨_, rfl⟩
  rw [hgG] at hG ⊢
  have HG := Lib.hid hG
  clear hW6 hgG hb6 hb66 hb56 hg hG x0 x1 xl m0 m1 m2 m3 ml HX5 HM5 HK5 HB5 HBU
  have hwu1 : IntKind.i64.wrap u1 = u1 := IntWalk.i64_in _ (by omega)
  have g0 := HG.out.cell 0
  have g1 := HG.out.cell 1
  have gl := HG.out.lt
  have y1 := HK6.out.cell 1
  have yl := HK6.out.lt
  simp at g0 g1 y1
  go_upto_region 6 with (go_at_call 14; go_loud (refine (HMK1.out W6 LA cA HGS.out).mono ?_; rintro e w7 ⟨C1, e1, P1, f1, rfl, hp1, hh1, hb7⟩))
  obtain ⟨W7, hW7⟩ : ∃ V, w7.alloc (.cells #[.slice C1 l e1, .bool wb] 61) = V := ⟨_, rfl⟩
  have hb77 : Below w7.heap.size w7 W7 := by rw [← hW7]; exact nw _ (Below.refl _ _)
  have hP : Blk W7 w7.heap.size 61 #[.slice C1 l e1, .bool wb] := by rw [← hW7]; exact Blk.new _ _ _
  have hb67 := bthen hb7 hb77
  have HB7 := Lib.hid (bthen HB6.out hb67)
  have HG7 := Lib.hid (HG.out.below hb67 HG.out.lt)
  have HGS7 := Lib.hid (HGS.out.below keeps_lk hb67)
  have HP7 := Lib.hid (hp1.mono hb77)
  have HH7 := Lib.hid (hh1.below keeps_int hb77)
  rw [hW7]
  obtain ⟨gP, hgP⟩ : ∃ b, w7.heap.size = b := ⟨_, rfl⟩
  rw [hgP] at hP ⊢
  have HPB := Lib.hid hP
  clear hW7 hgP hb7 hb77 hb67 hp1 hh1 hP g0 g1 gl y1 yl HB6 HG HGS HK6
  have g0 := HG7.out.cell 0
  have g1 := HG7.out.cell 1
  have gl := HG7.out.lt
  simp at g0 g1
  go_upto_region 7 with (go_at_call 14; go_loud (refine (HMK2.out W7 LA cA HGS7.out).mono ?_; rintro e w8 ⟨C2, e2, P2, f2, rfl, hp2, hh2, hb8⟩))
  obtain ⟨W8, hW8⟩ : ∃ V, w8.alloc (.cells #[.slice C2 l2 e2, .bool wd] 61) = V := ⟨_, rfl⟩
  have hb88 : Below w8.heap.size w8 W8 := by rw [← hW8]; exact nw _ (Below.refl _ _)
  have hQ : Blk W8 w8.heap.size 61 #[.slice C2 l2 e2, .bool wd] := by rw [← hW8]; exact Blk.new _ _ _
  have hb78 := bthen hb8 hb88
  have HB8 := Lib.hid (bthen HB7.out hb78)
  have HG8 := Lib.hid (HG7.out.below hb78 HG7.out.lt)
  have HGS8 := Lib.hid (HGS7.out.below keeps_lk hb78)
  have HP8 := Lib.hid (HP7.out.mono hb78)
  have HH8 := Lib.hid (HH7.out.below keeps_int hb78)
  have HPB8 := Lib.hid (HPB.out.below hb78 HPB.out.lt)
  have HQ8 := Lib.hid (hp2.mono hb88)
  rw [hW8]
  obtain ⟨gQ, hgQ⟩ : ∃ b, w8.heap.size = b := ⟨_, rfl⟩
  rw [hgQ] at hQ ⊢
  have HQB8 := Lib.hid hQ
  clear hW8 hgQ hb8 hb88 hb78 hp2 hh2 hQ g0 g1 gl HB7 HG7 HGS7 HP7 HH7 HPB
  have HC : Hid (∀ W, Below W8.heap.size W8 W → (W.cell? ⟨gG, 0, none⟩ = some (.int .i64 gn) ∧ W.cell? ⟨gG, 1, none⟩ = some (.slice LA GL cA) ∧ gG < W.heap.size) ∧ (W.cell? ⟨gP, 0, none⟩ = some (.slice C1 l e1) ∧ W.cell? ⟨gP, 1, none⟩ = some (.bool wb) ∧ gP < W.heap.size) ∧ (W.cell? ⟨gQ, 0, none⟩ = some (.slice C2 l2 e2) ∧ W.cell? ⟨gQ, 1, none⟩ = some (.bool wd) ∧ gQ < W.heap.size)) := fun W hW => by
    have h1 := HG8.out.below hW HG8.out.lt
    have h2 := HPB8.out.below hW HPB8.out.lt
    have h3 := HQB8.out.below hW HQB8.out.lt
    exact ⟨⟨by rw [h1.cell]; rfl, by rw [h1.cell]; rfl, h1.lt⟩, ⟨by rw [h2.cell]; rfl, by rw [h2.cell]; rfl, h2.lt⟩, ⟨by rw [h3.cell]; rfl, by rw [h3.cell]; rfl, h3.lt⟩⟩
  obtain ⟨⟨g0, g1, gl⟩, ⟨p0, p1, pl⟩, ⟨r0, r1, rl'⟩⟩ := HC.out W8 (Below.refl _ _)
  go_upto_region 10 with (go_at_call 15; go_loud (refine (HCK.out W8 LA cA P1 f1 C1 e1 HGS8.out HH8.out HP8.out).mono ?_; rintro e w9 ⟨rfl, hb9⟩))
  clear g0 g1 gl p0 p1 pl r0 r1 rl'
  obtain ⟨⟨g0, g1, gl⟩, ⟨p0, p1, pl⟩, ⟨r0, r1, rl'⟩⟩ := HC.out w9 hb9
  go_upto_region 11 with (go_at_call 19; go_loud (refine (HMR.out w9 LA cA C1 e1 (HGS8.out.below keeps_lk hb9) (HP8.out.mono hb9)).mono ?_; rintro e wA ⟨C3, e3, rfl, hp3, hbA⟩))
  obtain ⟨WA, hWA⟩ : ∃ V, wA.alloc (.cells #[.slice C3 l2 e3, .bool wd] 61) = V := ⟨_, rfl⟩
  have hbAA : Below wA.heap.size wA WA := by rw [← hWA]; exact nw _ (Below.refl _ _)
  have hR : Blk WA wA.heap.size 61 #[.slice C3 l2 e3, .bool wd] := by rw [← hWA]; exact Blk.new _ _ _
  have hb8A := bthen hb9 (bthen hbA hbAA)
  have HP3 := Lib.hid (hp3.mono hbAA)
  have HBA := Lib.hid hb8A
  rw [hWA]
  obtain ⟨gR, hgR⟩ : ∃ b, wA.heap.size = b := ⟨_, rfl⟩
  rw [hgR] at hR ⊢
  have HR := Lib.hid hR
  clear hWA hgR hbA hbAA hb9 hb8A hp3 hR g0 g1 gl p0 p1 pl r0 r1 rl'
  have HCA : Hid (∀ W, Below WA.heap.size WA W → (W.cell? ⟨gR, 0, none⟩ = some (.slice C3 l2 e3) ∧ W.cell? ⟨gR, 1, none⟩ = some (.bool wd) ∧ gR < W.heap.size)) := fun W hW => by
    have h1 := HR.out.below hW HR.out.lt
    exact ⟨by rw [h1.cell]; rfl, by rw [h1.cell]; rfl, h1.lt⟩
  obtain ⟨⟨g0, g1, gl⟩, ⟨p0, p1, pl⟩, ⟨r0, r1, rl'⟩⟩ := HC.out WA HBA.out
  go_upto_region 11 with fail
  go_cut [23] (fun s W => s = .bool wb ∧ Below WA.heap.size WA W)
  case first =>
    refine ordB_below (.quiet 0 (.quiet 2 (.quiet 3 (.quiet 4 (.only 1 (.quiet 5 (.quiet 6 .done))))))) (by kernel_rfl) (by kernel_rfl) (by kernel_rfl) (fun _ _ _ _ _ h => h) ?_
    intro V0 hV0
    iterate 4 (first
      | (refine ordB_skip rfl rfl ?_; simp only [Act.put, List.setIfInBounds_toArray, List.set_cons_zero, List.set_cons_succ])
      | (refine ordB_take (v := ?_) rfl rfl ?_ ?_
         rotate_left 1
         focus (intro W hW; obtain ⟨hcW, hfW⟩ := bcell hW; (go_simp <;> with_reducible rfl))
         simp only [Act.put, List.setIfInBounds_toArray, List.set_cons_zero, List.set_cons_succ]))
    refine ordB_only (opB_call rfl rfl (fun K hK => ?_))
    go_simp
    go_at_call 20
    refine (HNU.out V0 LA cA (HGS8.out.below keeps_lk (bthen HBA.out hV0))).mono ?_
    rintro e V0_1 ⟨rfl, hx9⟩
    refine hK.out _ _ (hV0.trans (hx9.mono hV0.size)) (fun hV0_1 => ?_)
    iterate 2 (first
      | (refine ordB_skip rfl rfl ?_; simp only [Act.put, List.setIfInBounds_toArray, List.set_cons_zero, List.set_cons_succ])
      | (refine ordB_take (v := ?_) rfl rfl ?_ ?_
         rotate_left 1
         focus (intro W hW; obtain ⟨hcW, hfW⟩ := bcell hW; (go_simp <;> with_reducible rfl))
         simp only [Act.put, List.setIfInBounds_toArray, List.set_cons_zero, List.set_cons_succ]))
    refine ordB_nil ?_
    go_wp2_with fail
    go_meet
    exact ⟨by rw [← hKW], hV0_1⟩
  case rest =>
    obtain ⟨WB, rfl⟩ : ∃ W, W = wc := ⟨wc, rfl⟩
    obtain ⟨rfl, hbB⟩ := hcut
    have HBB := Lib.hid hbB
    clear g0 g1 gl p0 p1 pl r0 r1 rl' hbB
    obtain ⟨⟨g0, g1, gl⟩, ⟨p0, p1, pl⟩, ⟨r0, r1, rl'⟩⟩ := HC.out WB (bthen HBA.out HBB.out)
    obtain ⟨t0, t1, tl⟩ := HCA.out WB HBB.out
    have hle2 : (l : Int) ≤ (e2 : Int) := by have := HPL1.out _ _ _ HQ8.out; omega
    have hl0 : (0 : Int) ≤ (l : Int) := by omega
    go_upto_region 12 with fail
    refine ordB_below (.quiet 0 (.quiet 1 (.quiet 2 (.quiet 3 (.only 4 (.quiet 5 (.quiet 6 (.quiet 7 (.quiet 8 (.quiet 9 (.quiet 10 (.quiet 11 (.quiet 12 (.quiet 13 (.quiet 14 (.quiet 15 (.quiet 16 (.quiet 17 (.quiet 18 (.quiet 19 (.quiet 20 (.quiet 21 (.quiet 22 (.quiet 23 (.quiet 24 (.quiet 25 (.quiet 26 (.quiet 27 (.quiet 28 (.quiet 29 (.only 30 (.quiet 31 (.quiet 32 (.quiet 33 (.quiet 34 (.quiet 35 (.quiet 36 (.quiet 37 (.quiet 38 (.quiet 39 (.quiet 40 (.only 41 (.quiet 42 (.quiet 43 .done)))))))))))))))))))))))))))))))))))))))))))) (by kernel_rfl) (by kernel_rfl) (by kernel_rfl) (fun _ _ _ _ _ h => h) ?_
    intro V1 hV1
    iterate 4 (first
      | (refine ordB_skip rfl rfl ?_; simp only [Act.put, List.setIfInBounds_toArray, List.set_cons_zero, List.set_cons_succ])
      | (refine ordB_take (v := ?_) rfl rfl ?_ ?_
         rotate_left 1
         focus (intro W hW; obtain ⟨hcW, hfW⟩ := bcell hW; (go_simp <;> with_reducible rfl))
         simp only [Act.put, List.setIfInBounds_toArray, List.set_cons_zero, List.set_cons_succ]))
    refine ordB_only (opB_call rfl rfl (fun K hK => ?_))
    go_simp
    go_at_call 21
    refine (HPF.out V1 C1 e1 C2 e2 (HP8.out.mono (bthen HBA.out (bthen HBB.out hV1))) (HQ8.out.mono (bthen HBA.out (bthen HBB.out hV1)))).mono ?_
    rintro e V1_1 ⟨rfl, hx9⟩
    refine hK.out _ _ (hV1.trans (hx9.mono hV1.size)) (fun hV1_1 => ?_)
    iterate 25 (first
      | (refine ordB_skip rfl rfl ?_; simp only [Act.put, List.setIfInBounds_toArray, List.set_cons_zero, List.set_cons_succ])
      | (refine ordB_take (v := ?_) rfl rfl ?_ ?_
         rotate_left 1
         focus (intro W hW; obtain ⟨hcW, hfW⟩ := bcell hW; (go_simp <;> with_reducible rfl))
         simp only [Act.put, List.setIfInBounds_toArray, List.set_cons_zero, List.set_cons_succ]))
    refine ordB_only (opB_call rfl rfl (fun K hK => ?_))
    go_simp
    go_at_call 22
    refine (HSM.out V1_1 C3 e3 C2 e2 (HP3.out.mono (bthen HBB.out hV1_1)) (HQ8.out.mono (bthen HBA.out (bthen HBB.out hV1_1)))).mono ?_
    rintro e V1_1_2 ⟨rfl, hx8⟩
    refine hK.out _ _ (hV1_1.trans (hx8.mono hV1_1.size)) (fun hV1_1_2 => ?_)
    iterate 10 (first
      | (refine ordB_skip rfl rfl ?_; simp only [Act.put, List.setIfInBounds_toArray, List.set_cons_zero, List.set_cons_succ])
      | (refine ordB_take (v := ?_) rfl rfl ?_ ?_
         rotate_left 1
         focus (intro W hW; obtain ⟨hcW, hfW⟩ := bcell hW; (go_simp <;> with_reducible rfl))
         simp only [Act.put, List.setIfInBounds_toArray, List.set_cons_zero, List.set_cons_succ]))
    refine ordB_only (opB_call rfl rfl (fun K hK => ?_))
    go_simp
    go_at_call 23
    refine (HSS.out V1_1_2 C2 e2 C1 e1 (HQ8.out.mono (bthen HBA.out (bthen HBB.out hV1_1_2))) (HP8.out.mono (bthen HBA.out (bthen HBB.out hV1_1_2)))).mono ?_
    rintro e V1_1_2_3 ⟨rfl, hx7⟩
    refine hK.out _ _ (hV1_1_2.trans (hx7.mono hV1_1_2.size)) (fun hV1_1_2_3 => ?_)
    iterate 2 (first
      | (refine ordB_skip rfl rfl ?_; simp only [Act.put, List.setIfInBounds_toArray, List.set_cons_zero, List.set_cons_succ])
      | (refine ordB_take (v := ?_) rfl rfl ?_ ?_
         rotate_left 1
         focus (intro W hW; obtain ⟨hcW, hfW⟩ := bcell hW; (go_simp <;> with_reducible rfl))
         simp only [Act.put, List.setIfInBounds_toArray, List.set_cons_zero, List.set_cons_succ]))
    refine ordB_nil ?_
    go_wp2_with fail
    go_ret
    exact ⟨rfl, bthen HB8.out (bthen HBA.out (bthen HBB.out hV1_1_2_3))⟩
end Go.Proofs.YtfjkmgjjifhdkaaGreat
