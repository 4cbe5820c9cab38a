/-
  The walk of ContextPlain.
-/
import Derived.Test.YtcimnkijpifkjaaQ32
import Derived.Test.YtcimnkijpifkjaaQ34
namespace Go.Proofs.Ytcimnkijpifkjaa
open Go Go.RowKit

set_option maxRecDepth 100000 in
set_option maxHeartbeats 16000000 in
theorem contextPlain_any (AR : Option Addr) (rl : List R4) (cr : Nat) (x : Raw) (A1 A2 A3 : Option Addr) (c1 c2 c3 : Nat) (u0 u1 u2 u3 u4 : Int) (w : World) (hrl : SlR 4 RR4 w AR rl) (hrn : rl.length ≤ maxLen) (hrok : ∀ r ∈ rl, R4OK r) (hraw : RawR w x A1 A2 A3) (h0 : 0 ≤ u0 ∧ u0 ≤ 255) (h1 : 0 ≤ u1 ∧ u1 ≤ 255) (h2 : 0 ≤ u2 ∧ u2 ≤ 255) (h3 : 0 ≤ u3 ∧ u3 ≤ 255) (h4 : 0 ≤ u4 ∧ u4 ≤ 255) :
    Calls Try.prog 5 #[.slice AR rl.length cr, .agg #[.slice A1 x.words.length c1, .slice A2 x.counts.length c2, .slice A3 x.uses.length c3, .int .u8 x.back], .agg #[.int .u8 u0, .int .u8 u1, .int .u8 u2, .int .u8 u3, .int .u8 u4]] w fun e w' => e = .returned (.bool true) ∧ Below w.heap.size w w' := by
  obtain ⟨hlm, hw2, hw8⟩ := made_lim x hraw.b2 hraw.b3 hraw.bk
  have HMade : Hid (∀ W, Below w.heap.size w W → Calls Try.prog 10 #[.agg #[.slice A1 x.words.length c1, .slice A2 x.counts.length c2, .slice A3 x.uses.length c3, .int .u8 x.back]] W (GivesMo (madeM x) W)) := fun W hW => co_made_any x A1 A2 A3 c1 c2 c3 W (hraw.below hW)
  generalize madeM x = m at *
  have HOK := Lib.hid hlm.ok
  have HLim := Lib.hid hlm
  have HLaM : Hid (∀ W, Below w.heap.size w W → Calls Try.prog 11 #[.slice AR rl.length cr, .int .u8 u0, .int .i64 (m.ws.length : Int)] W (GivesLa (latM rl u0 (m.ws.length : Int)) W)) := fun W hW => lat_any AR rl cr u0 _ W (hrl.below keeps_r4 hW) hrn hrok h0 ⟨by omega, by omega⟩
  obtain ⟨q1, q2, q3, q4, q5⟩ := latM_ok (l := rl) (pl := u0) (n := (m.ws.length : Int)) h0.1 (by omega) (by omega) hrok
  generalize latM rl u0 (m.ws.length : Int) = la at *
  have HF : Hid (FitsL la m.ws.length) := ⟨q1, fun e he => (q2 e he).1⟩
  have HCO : Hid (∀ e ∈ la.es, e.co ≤ 1000) := fun e he => by have := (q2 e he).2; omega
  have HFull := Lib.hid q5
  have hq0 := q1.1.1
  obtain ⟨w1, hw1⟩ : ∃ V, (w.alloc (.cells #[.slice A1 x.words.length c1, .slice A2 x.counts.length c2, .slice A3 x.uses.length c3, .int .u8 x.back] 27)).alloc (.cells #[.int .u8 u0, .int .u8 u1, .int .u8 u2, .int .u8 u3, .int .u8 u4] 68) = V := ⟨_, rfl⟩
  have hb1 : Below w.heap.size w w1 := by rw [← hw1]; exact nw _ (nw _ (Below.refl _ _))
  have hK0 : Blk w1 w.heap.size 27 #[.slice A1 x.words.length c1, .slice A2 x.counts.length c2, .slice A3 x.uses.length c3, .int .u8 x.back] := by rw [← hw1]; exact (Blk.new _ _ _).alloc _
  have hK1 : Blk w1 (w.heap.size + 1) 68 #[.int .u8 u0, .int .u8 u1, .int .u8 u2, .int .u8 u3, .int .u8 u4] := by rw [← hw1]; exact Blk.new_ (by simp)
  have HW1 := Lib.hid hw1
  clear hw1 hlm hrl hrok hraw q1 q2 q5
  go_enter Try.func5, Try.ntmps5
  go_upto_region 3 with (first
    | (go_at_call 9; go_loud (rw [HW1.out]; refine (sanity20_any w1).mono ?_; rintro e w2 ⟨rfl, hb2⟩; have hkr := hK0.below hb2 hK0.lt; have rw0 := hkr.cell 0; have rw1 := hkr.cell 1; have rw2 := hkr.cell 2; have rw3 := hkr.cell 3; have rwl := hkr.lt; simp at rw0 rw1 rw2 rw3))
    | (go_at_call 10; go_loud (refine (HMade.out _ (bthen hb1 hb2)).mono ?_; rintro e w3 ⟨B1, B2, B3, d1, d2, d3, rfl, hmor, hcaps, hb3⟩; clear rw0 rw1 rw2 rw3 rwl)))
  obtain ⟨W4, hW4⟩ : ∃ V, w3.alloc (.cells #[.slice B1 m.ws.length d1, .slice B2 m.cs.length d2, .slice B3 m.ps.length d3, .int .i64 m.back] 34) = V := ⟨_, rfl⟩
  have hM : MB m w3.heap.size B1 B2 B3 d1 d2 d3 W4 := by rw [← hW4]; exact mb_new hmor hcaps
  have hb34 : Below w3.heap.size w3 W4 := by rw [← hW4]; exact nw _ (Below.refl _ _)
  have hK4 := hK1.below (bthen (bthen hb2 hb3) hb34) hK1.lt
  have HB4 := Lib.hid (bthen hb1 (bthen (bthen hb2 hb3) hb34))
  rw [hW4]
  obtain ⟨gM, hgM⟩ : ∃ b, w3.heap.size = b := ⟨_, rfl⟩
  rw [hgM] at hM ⊢
  obtain ⟨gW, hgW⟩ : ∃ b, w.heap.size + 1 = b := ⟨_, rfl⟩
  have hgWge : w.heap.size ≤ gW := by omega
  have hgMw : w.heap.size ≤ gM := by have := (bthen hb1 (bthen hb2 hb3)).size; omega
  have hgne : gW ≠ gM := by have h1 := hK1.below (bthen hb2 hb3) hK1.lt; have := h1.lt; omega
  rw [hgW] at hK4 ⊢
  have HM4 := Lib.hid hM
  have HK4 := Lib.hid hK4
  have hb34' : Below gM w3 W4 := by rw [← hgM]; exact hb34
  have HR3 := Lib.hid (And.intro hmor (And.intro hb34' hgM))
  clear hb34' hb1 hb2 hb3 hb34 hkr hK0 hK1 hW4 hmor hcaps hgM hgW HW1
  have m0 := hM.b.cell 0
  have m1 := hM.b.cell 1
  have m2 := hM.b.cell 2
  have m3 := hM.b.cell 3
  have ml := hM.b.lt
  have y0 := hK4.cell 0
  have y1 := hK4.cell 1
  have y2 := hK4.cell 2
  have y3 := hK4.cell 3
  have y4 := hK4.cell 4
  have yl := hK4.lt
  simp at m0 m1 m2 m3 y0 y1 y2 y3 y4
  clear hM hK4
  have mf2 := HM4.out.b.frozen 2
  have mf3 := HM4.out.b.frozen 3
  have hMB := (HM4.out.b.set_ 2 (.slice none 0 0)).set_ 3 (.int .i64 0)
  have hb45 : Below gM w3 ((W4.setCell ⟨gM, 2, none⟩ (.slice none 0 0)).setCell ⟨gM, 3, none⟩ (.int .i64 0)) := (HR3.out.2.1.setCell (p := ⟨gM, 2, none⟩) (Nat.le_refl _) _).setCell (p := ⟨gM, 3, none⟩) (Nat.le_refl _) _
  have hBw5 : Below w.heap.size w ((W4.setCell ⟨gM, 2, none⟩ (.slice none 0 0)).setCell ⟨gM, 3, none⟩ (.int .i64 0)) := (HB4.out.setCell (p := ⟨gM, 2, none⟩) hgMw _).setCell (p := ⟨gM, 3, none⟩) hgMw _
  have hK5 := (HK4.out.far (p := ⟨gM, 2, none⟩) hgne (.slice none 0 0)).far (p := ⟨gM, 3, none⟩) hgne (.int .i64 0)
  go_upto_region 4 with fail
  obtain ⟨W5, hW5⟩ : ∃ V, (W4.setCell ⟨gM, 2, none⟩ (.slice none 0 0)).setCell ⟨gM, 3, none⟩ (.int .i64 0) = V := ⟨_, rfl⟩
  rw [hW5] at hMB hb45 hBw5 hK5 ⊢
  clear hW5 mf2 mf3 m0 m1 m2 m3 ml y0 y1 y2 y3 y4 yl
  have hb45' : Below w3.heap.size w3 W5 := by rw [HR3.out.2.2]; exact hb45
  have hr5 := HR3.out.1.below hb45'
  have HM5 : Hid (Blk W5 gM 34 #[.slice B1 m.ws.length d1, .slice B2 m.cs.length d2, .slice none 0 0, .int .i64 0] ∧ MoR W5 (bareM m) B1 B2 none) := ⟨by simpa using hMB, hr5.h1, hr5.h2, SlR.nil, hr5.l1, hr5.l2, (by show (0 : Nat) ≤ 65536; omega), hr5.s, by simp [bareM, Within]⟩
  have HK5 := Lib.hid hK5
  have HB5 := Lib.hid hBw5
  have HOKB := Lib.hid (bareM_ok HOK.out)
  clear hMB hb45 hBw5 hK5 hb45' hr5 HM4 HK4 HB4 HR3 hgMw
  have m0 := HM5.out.1.cell 0
  have m1 := HM5.out.1.cell 1
  have m2 := HM5.out.1.cell 2
  have m3 := HM5.out.1.cell 3
  have ml := HM5.out.1.lt
  have y0 := HK5.out.cell 0
  have y1 := HK5.out.cell 1
  have y2 := HK5.out.cell 2
  have y3 := HK5.out.cell 3
  have y4 := HK5.out.cell 4
  have yl := HK5.out.lt
  simp at m0 m1 m2 m3 y0 y1 y2 y3 y4
  go_upto_region 5 with (go_at_call 11; go_loud (refine (HLaM.out _ HB5.out).mono ?_; rintro e w6 ⟨A9, c9, rfl, hs9, hk9, hb6, _⟩))
  obtain ⟨W6, hW6⟩ : ∃ V, w6.alloc (.cells #[.int .i64 la.n, .slice A9 la.es.length c9] 38) = V := ⟨_, rfl⟩
  have hX6 : LB la w6.heap.size A9 c9 W6 := by rw [← hW6]; exact lb_new hs9 hk9
  have hb66 : Below w6.heap.size w6 W6 := by rw [← hW6]; exact nw _ (Below.refl _ _)
  have hb56 := bthen hb6 hb66
  have HM : Hid (Blk W6 gM 34 #[.slice B1 m.ws.length d1, .slice B2 m.cs.length d2, .slice none 0 0, .int .i64 0] ∧ MoR W6 (bareM m) B1 B2 none) := ⟨HM5.out.1.below hb56 HM5.out.1.lt, HM5.out.2.below hb56⟩
  have HK := Lib.hid (HK5.out.below hb56 HK5.out.lt)
  have HB := Lib.hid (bthen HB5.out hb56)
  rw [hW6]
  obtain ⟨gX, hgX⟩ : ∃ b, w6.heap.size = b := ⟨_, rfl⟩
  rw [hgX] at hX6 ⊢
  have HX := Lib.hid hX6
  clear m0 m1 m2 m3 ml y0 y1 y2 y3 y4 yl hs9 hk9 hb6 hb66 hb56 hW6 hgX hX6 HM5 HK5 HB5
  have HC : Hid (∀ W, Below W6.heap.size W6 W → (W.cell? ⟨gX, 0, none⟩ = some (.int .i64 la.n) ∧ W.cell? ⟨gX, 1, none⟩ = some (.slice A9 la.es.length c9) ∧ gX < W.heap.size) ∧ (W.cell? ⟨gM, 0, none⟩ = some (.slice B1 m.ws.length d1) ∧ W.cell? ⟨gM, 1, none⟩ = some (.slice B2 m.cs.length d2) ∧ W.cell? ⟨gM, 2, none⟩ = some (.slice none 0 0) ∧ W.cell? ⟨gM, 3, none⟩ = some (.int .i64 0) ∧ gM < W.heap.size) ∧ (W.cell? ⟨gW, 0, none⟩ = some (.int .u8 u0) ∧ W.cell? ⟨gW, 1, none⟩ = some (.int .u8 u1) ∧ W.cell? ⟨gW, 2, none⟩ = some (.int .u8 u2) ∧ W.cell? ⟨gW, 3, none⟩ = some (.int .u8 u3) ∧ W.cell? ⟨gW, 4, none⟩ = some (.int .u8 u4) ∧ gW < W.heap.size)) := fun W hW => by
    have f1 := (HX.out.below hW).b
    have f2 := HM.out.1.below hW HM.out.1.lt
    have f3 := HK.out.below hW HK.out.lt
    exact ⟨⟨by rw [f1.cell]; rfl, by rw [f1.cell]; rfl, f1.lt⟩, ⟨by rw [f2.cell]; rfl, by rw [f2.cell]; rfl, by rw [f2.cell]; rfl, by rw [f2.cell]; rfl, f2.lt⟩, ⟨by rw [f3.cell]; rfl, by rw [f3.cell]; rfl, by rw [f3.cell]; rfl, by rw [f3.cell]; rfl, by rw [f3.cell]; rfl, f3.lt⟩⟩
  have hx0 : Below W6.heap.size W6 W6 := Below.refl _ _
  obtain ⟨⟨x0, x1, xl⟩, ⟨m0, m1, m2, m3, ml⟩, ⟨y0, y1, y2, y3, y4, yl⟩⟩ := HC.out _ hx0
  go_upto_region 6 with (go_at_call 12; go_loud (refine (way20_any HX.out HF.out.1 q3 HFull.out h2 h3 h4).mono ?_; rintro e w7 ⟨B10, c10, o, rfl, hso, hway, ho40, hoc, hcm, hb7⟩))
  have HSO := Lib.hid hso
  have HWay := Lib.hid hway
  have hb7' := Lib.hid hb7
  have HST : Hid (psum la (bareM m) o = psum la (bareM m) (o.take o.length)) := by show _ = _; rw [List.take_length]
  have HFA : Hid (∀ p, -1 ≤ p ∧ p < (m.ws.length : Int) → FitsAll la (bareM m) p) := fun p hp => ⟨HOKB.out, hp, HF.out⟩
  have HCost : Hid (∀ W p, Below w7.heap.size w7 W → -1 ≤ p ∧ p < (m.ws.length : Int) → Calls Try.prog 15 #[.agg #[.int .i64 la.n, .slice A9 la.es.length c9], .agg #[.slice B1 m.ws.length d1, .slice B2 m.cs.length d2, .slice none 0 0, .int .i64 0], .int .i64 p, .slice B10 o.length c10] W fun e w' => e = .returned (.tuple #[.int .i64 (psum la (bareM m) o), .bool true]) ∧ Below W.heap.size W w') := fun W p hW hp => by
    have hb := bthen hb7'.out hW
    have := ccost_any la A9 c9 (bareM m) B1 B2 none d1 d2 0 p B10 o c10 W (HX.out.below hb).s (by unfold maxLen; omega) (HM.out.2.below hb) (by show (0 : Nat) ≤ 0; omega) (by unfold maxLen; omega) (HSO.out.below keeps_int hW) (by omega)
    rw [way_costM (HFA.out p hp) HWay.out, wsum_bare HWay.out] at this
    exact this
  have HWd : Hid (∀ W (q : Nat), Below w7.heap.size w7 W → q < m.ws.length → Calls Try.prog 22 #[.agg #[.slice B1 m.ws.length d1, .slice B2 m.cs.length d2, .slice none 0 0, .int .i64 0], .int .i64 (q : Int)] W fun e w' => e = .returned (.int .i64 (wcost (bareM m) q)) ∧ Below W.heap.size W w') := fun W q hW hq => by
    have hb := bthen hb7'.out hW
    exact refwcost_any (bareM m) B1 B2 none d1 d2 0 q W (HM.out.2.below hb) HOKB.out.1.1.2 (by show q < m.cs.length; have : m.cs.length = m.ws.length := HOK.out.1.1.2.1; omega)
  clear x0 x1 xl m0 m1 m2 m3 ml y0 y1 y2 y3 y4 yl hso hway hb7 hx0
  have hps := psum_bd HOK.out HF.out HCO.out o
  go_wp2_with fail
  go_loopw [12, 13] (fun s i wr => ∃ j : Nat, j ≤ o.length ∧ s = .int .i64 (psum la (bareM m) (o.take j)) ∧ i = .int .i64 j ∧ Below w7.heap.size w7 wr) (fun _ i _ => o.length - (intOf i).toNat)
  case atStart => exact ⟨0, by omega, rfl, rfl, Below.refl _ _⟩
  case round =>
    obtain ⟨j, hj, rfl, rfl, hbr⟩ := hrel
    have HBR := Lib.hid hbr
    have hb6r := bthen hb7'.out hbr
    obtain ⟨⟨x0, x1, xl⟩, ⟨m0, m1, m2, m3, ml⟩, ⟨y0, y1, y2, y3, y4, yl⟩⟩ := HC.out _ hb6r
    by_cases hlt : j < o.length
    · obtain ⟨b, off, k, rfl, hbb, hkk, g0⟩ := (HSO.out.below keeps_int hbr).int hlt
      obtain ⟨hk0, e, he⟩ := wayTo_mem HWay.out k (List.mem_of_getElem? hkk)
      obtain ⟨kn, rfl⟩ : ∃ kn : Nat, k = (kn : Int) := ⟨k.toNat, by omega⟩
      rw [Int.toNat_natCast] at he
      have hkn := (List.getElem?_eq_some_iff.1 he).1
      obtain ⟨b2, off2, e', rfl, hbb2, he', f0, f1, f2, f3⟩ := ((HX.out.below hb6r).s).ed hkn
      obtain rfl : e = e' := Option.some.inj (he.symm.trans he')
      have hem := List.mem_of_getElem? he
      have hek := HF.out.1.2.2.1 e hem
      have hew := HF.out.2 e hem
      have heco := HCO.out e hem
      obtain ⟨q, hq⟩ : ∃ q : Nat, e.wd = (q : Int) := ⟨e.wd.toNat, by have := hek.2.1; omega⟩
      have hqn : q < m.ws.length := by omega
      have HSU : Hid (psum la (bareM m) (o.take (j + 1)) = psum la (bareM m) (o.take j) + (e.co + wcost (bareM m) q)) := by
        have := psum_succ (x := la) (m := bareM m) hkk (by rw [Int.toNat_natCast]; exact he)
        rw [hq, Int.toNat_natCast] at this
        exact this
      have hb1 := psum_bd HOK.out HF.out HCO.out (o.take j)
      rw [List.length_take] at hb1
      have hb2 := pcost_in HOKB.out (-1) (k := q) (by show q < m.cs.length; have : m.cs.length = m.ws.length := HOK.out.1.1.2.1; omega)
      rw [bareM_cost] at hb2
      rw [hq] at f2
      have HWq := Lib.hid (fun W hW => HWd.out W q hW hqn)
      generalize psum la (bareM m) (o.take j) = s0 at *
      generalize wcost (bareM m) q = wc at *
      have hco := hek.2.2
      have hw1 : IntKind.i64.wrap (e.co + wc) = e.co + wc := IntWalk.i64_in _ (by omega)
      have hw2' : IntKind.i64.wrap (s0 + (e.co + wc)) = s0 + (e.co + wc) := IntWalk.i64_in _ (by omega)
      have hjI : (j : Int) < (o.length : Int) := by omega
      have hj0 : (0 : Int) ≤ (j : Int) := by omega
      have hkI : (kn : Int) < (la.es.length : Int) := by omega
      have hk0' : (0 : Int) ≤ (kn : Int) := by omega
      clear hkk he he' hem hek hew heco hq hb1 hb2 hco hk0 hbr
      go_upto_region 10 with fail
      refine ordB_below (.quiet 0 (.quiet 1 (.quiet 2 (.quiet 3 (.quiet 4 (.quiet 5 (.quiet 6 (.quiet 7 (.only 8 (.only 9 .done)))))))))) (by kernel_rfl) (by kernel_rfl) (by kernel_rfl) (fun _ _ _ _ _ h => h) ?_
      intro V1 hV1
      iterate 8 (first
        | (refine ordB_skip rfl rfl ?_; simp only [Act.put, List.setIfInBounds_toArray, List.set_cons_zero, List.set_cons_succ])
        | (refine ordB_take (v := ?_) rfl rfl ?_ ?_
           rotate_left 1
           focus (intro W hW; obtain ⟨hcW, hfW⟩ := bcell hW; (go_simp <;> with_reducible rfl))
           simp only [Act.put, List.setIfInBounds_toArray, List.set_cons_zero, List.set_cons_succ]))
      refine ordB_only (opB_call rfl rfl (fun K hK => ?_))
      go_simp
      refine hK.out _ _ (hV1.alloc hV1.size _) (fun hV1_1 => ?_)
      have E := Blk.new V1 43 #[.int .i64 0, .int .i64 0, .int .i64 0, .int .i64 0]
      have Eb := nw (.cells #[.int .i64 0, .int .i64 0, .int .i64 0, .int .i64 0] 43) (Below.refl V1.heap.size V1)
      have Eg := hV1.size
      obtain ⟨V1_1, qqV1_1⟩ : ∃ W', V1.alloc (.cells #[.int .i64 0, .int .i64 0, .int .i64 0, .int .i64 0] 43) = W' := ⟨_, rfl⟩
      rw [qqV1_1] at hV1_1 E Eb ⊢
      clear qqV1_1 Eb
      refine ordB_only (opB_call rfl rfl (fun K hK => ?_))
      have Ec0 := E.cell 0
      have Ef0 := E.frozen 0
      have Ec1 := E.cell 1
      have Ef1 := E.frozen 1
      have Ec2 := E.cell 2
      have Ef2 := E.frozen 2
      have Ec3 := E.cell 3
      have Ef3 := E.frozen 3
      simp at Ec0 Ec1 Ec2 Ec3
      go_simp
      refine hK.out _ _ ((((hV1_1.setCell (p := ⟨V1.heap.size, 0, none⟩) Eg _).setCell (p := ⟨V1.heap.size, 1, none⟩) Eg _).setCell (p := ⟨V1.heap.size, 2, none⟩) Eg _).setCell (p := ⟨V1.heap.size, 3, none⟩) Eg _) (fun hV1_1_2 => ?_)
      have E := ((((E.set_ 0 (.int .i64 e.fr)).set_ 1 (.int .i64 e.to)).set_ 2 (.int .i64 (q : Int))).set_ 3 (.int .i64 e.co))
      obtain ⟨V1_1_2, qqV1_1_2⟩ : ∃ W', ((((V1_1.setCell ⟨V1.heap.size, 0, none⟩ (.int .i64 e.fr)).setCell ⟨V1.heap.size, 1, none⟩ (.int .i64 e.to)).setCell ⟨V1.heap.size, 2, none⟩ (.int .i64 (q : Int))).setCell ⟨V1.heap.size, 3, none⟩ (.int .i64 e.co)) = W' := ⟨_, rfl⟩
      rw [qqV1_1_2] at hV1_1_2 E  ⊢
      clear qqV1_1_2 Ec0 Ef0 Ec1 Ef1 Ec2 Ef2 Ec3 Ef3
      refine ordB_nil ?_
      obtain ⟨gE, hgE⟩ : ∃ b, V1.heap.size = b := ⟨_, rfl⟩
      have E2 : Blk V1_1_2 V1.heap.size 43 #[.int .i64 e.fr, .int .i64 e.to, .int .i64 (q : Int), .int .i64 e.co] := by simpa using E
      rw [hgE] at E2 ⊢
      obtain ⟨W10, hW10⟩ : ∃ V, V1_1_2 = V := ⟨_, rfl⟩
      rw [hW10] at hV1_1_2 E2 ⊢
      have HB10 := Lib.hid (bthen HBR.out hV1_1_2)
      have hE10 := E2
      clear hW10 hgE E E2
      clear x0 x1 xl m0 m1 m2 m3 ml y0 y1 y2 y3 y4 yl f0 f1 f2 f3 g0
      go_upto_region 11 with fail
      obtain ⟨⟨x0, x1, xl⟩, ⟨m0, m1, m2, m3, ml⟩, ⟨y0, y1, y2, y3, y4, yl⟩⟩ := HC.out _ (bthen hb7'.out HB10.out)
      have k0 := hE10.cell 0
      have k1 := hE10.cell 1
      have k2 := hE10.cell 2
      have k3 := hE10.cell 3
      have kl := hE10.lt
      simp at k0 k1 k2 k3
      refine ordB_below (.quiet 0 (.quiet 1 (.quiet 2 (.quiet 3 (.quiet 4 (.quiet 5 (.only 6 (.quiet 7 (.quiet 8 (.quiet 9 .done)))))))))) (by kernel_rfl) (by kernel_rfl) (by kernel_rfl) (fun _ _ _ _ _ h => h) ?_
      intro V2 hV2
      iterate 6 (first
        | (refine ordB_skip rfl rfl ?_; simp only [Act.put, List.setIfInBounds_toArray, List.set_cons_zero, List.set_cons_succ])
        | (refine ordB_take (v := ?_) rfl rfl ?_ ?_
           rotate_left 1
           focus (intro W hW; obtain ⟨hcW, hfW⟩ := bcell hW; (go_simp <;> with_reducible rfl))
           simp only [Act.put, List.setIfInBounds_toArray, List.set_cons_zero, List.set_cons_succ]))
      refine ordB_only (opB_call rfl rfl (fun K hK => ?_))
      go_simp
      go_at_call 22
      refine (HWq.out _ (bthen HB10.out hV2)).mono ?_
      rintro e V2_1 ⟨rfl, hbw⟩
      refine hK.out _ _ (hV2.trans (hbw.mono hV2.size)) (fun hV2_1 => ?_)
      iterate 3 (first
        | (refine ordB_skip rfl rfl ?_; simp only [Act.put, List.setIfInBounds_toArray, List.set_cons_zero, List.set_cons_succ])
        | (refine ordB_take (v := ?_) rfl rfl ?_ ?_
           rotate_left 1
           focus (intro W hW; obtain ⟨hcW, hfW⟩ := bcell hW; (go_simp <;> with_reducible rfl))
           simp only [Act.put, List.setIfInBounds_toArray, List.set_cons_zero, List.set_cons_succ]))
      refine ordB_nil ?_
      have HBF := Lib.hid (bthen HB10.out hV2_1)
      go_wp2_with fail
      go_roundw
      case rel => exact ⟨j + 1, by omega, by rw [HSU.out], by go_num, HBF.out⟩
      case measure => simp [intOf]; omega
    · obtain rfl : j = o.length := by omega
      have hbr' := HBR.out
      rw [← HST.out]
      have hwu : IntKind.i64.wrap u1 = u1 := IntWalk.i64_in _ (by omega)
      have htm : u1.tmod (m.ws.length : Int) = u1 % (m.ws.length : Int) := Int.tmod_eq_emod_of_nonneg h1.1
      have hr1 := Int.emod_nonneg u1 (show (m.ws.length : Int) ≠ 0 by omega)
      have hr2 := Int.emod_lt_of_pos u1 (show 0 < (m.ws.length : Int) by omega)
      obtain ⟨pq, hpq⟩ : ∃ q, u1 % (m.ws.length : Int) = q := ⟨_, rfl⟩
      rw [hpq] at htm hr1 hr2
      have hwq : IntKind.i64.wrap pq = pq := IntWalk.i64_in _ (by omega)
      have hne : ¬ m.ws = [] := fun e => by rw [e] at hw2; simp at hw2
      have hn0 : ¬ ((m.ws.length : Int) = 0) := by omega
      have HCA := Lib.hid (fun W hW => HCost.out W (-1) hW ⟨by omega, by omega⟩)
      have HCB := Lib.hid (fun W hW => HCost.out W pq hW ⟨by omega, hr2⟩)
      generalize psum la (bareM m) o = S at *
      clear hpq hbr hps
      go_upto_region 13 with (go_at_call 15; go_loud (refine (HCA.out _ hbr').mono ?_; rintro e w8 ⟨rfl, hb8⟩))
      have hb8' := bthen hbr' hb8
      clear x0 x1 xl m0 m1 m2 m3 ml y0 y1 y2 y3 y4 yl
      obtain ⟨⟨x0, x1, xl⟩, ⟨m0, m1, m2, m3, ml⟩, ⟨y0, y1, y2, y3, y4, yl⟩⟩ := HC.out _ (bthen hb7'.out hb8')
      refine ordB_below (.quiet 0 (.quiet 1 (.quiet 2 (.quiet 3 (.quiet 4 (.quiet 5 (.quiet 6 (.quiet 7 (.quiet 8 (.quiet 9 (.only 10 (.quiet 11 (.quiet 12 (.quiet 13 (.quiet 14 (.quiet 15 .done)))))))))))))))) (by kernel_rfl) (by kernel_rfl) (by kernel_rfl) (fun _ _ _ _ _ h => h) ?_
      intro V3 hV3
      iterate 10 (first
        | (refine ordB_skip rfl rfl ?_; simp only [Act.put, List.setIfInBounds_toArray, List.set_cons_zero, List.set_cons_succ])
        | (refine ordB_take (v := ?_) rfl rfl ?_ ?_
           rotate_left 1
           focus (intro W hW; obtain ⟨hcW, hfW⟩ := bcell hW; (go_simp <;> with_reducible rfl))
           simp only [Act.put, List.setIfInBounds_toArray, List.set_cons_zero, List.set_cons_succ]))
      refine ordB_only (opB_call rfl rfl (fun K hK => ?_))
      go_simp
      go_at_call 15
      refine (HCB.out _ (bthen hb8' hV3)).mono ?_
      rintro e V3_1 ⟨rfl, hbw⟩
      refine hK.out _ _ (hV3.trans (hbw.mono hV3.size)) (fun hV3_1 => ?_)
      iterate 5 (first
        | (refine ordB_skip rfl rfl ?_; simp only [Act.put, List.setIfInBounds_toArray, List.set_cons_zero, List.set_cons_succ])
        | (refine ordB_take (v := ?_) rfl rfl ?_ ?_
           rotate_left 1
           focus (intro W hW; obtain ⟨hcW, hfW⟩ := bcell hW; (go_simp <;> with_reducible rfl))
           simp only [Act.put, List.setIfInBounds_toArray, List.set_cons_zero, List.set_cons_succ]))
      refine ordB_nil ?_
      have HBF := Lib.hid (bthen hb7'.out (bthen hb8' hV3_1))
      go_wp2_with fail
      go_ret
      exact ⟨rfl, bthen HB.out HBF.out⟩
end Go.Proofs.Ytcimnkijpifkjaa
