/-
  The law PageScales: for all inputs it returns true.
-/
import Derived.Test.YtpajajffkbkeaaaPgScale
import Derived.Test.YtpajajffkbkeaaaGrWaysB
import Derived.Deep.DeepCutAuto
namespace Go.Proofs.Ytpajajffkbkeaaa
open Go Go.RowKit

set_option maxRecDepth 100000 in
set_option maxHeartbeats 16000000 in
theorem pageScales_any (A : Option Addr) (l : List T3) (c : Nat) (x ka lb : Int) (w : World) (hs : SlR 3 RT3 w A l) (hl : l.length ≤ maxLen) (hok : ∀ p ∈ l, T3OK p) (hx : 0 ≤ x ∧ x ≤ 255) (hka : 0 ≤ ka ∧ ka ≤ 255) (hlb : 0 ≤ lb ∧ lb ≤ 255) :
    Calls Try.prog 8 #[.agg #[.int .u8 x, .slice A l.length c], .int .u8 ka, .int .u8 lb] w fun e w' => e = .returned (.bool true) ∧ Below w.heap.size w w' := by
  obtain ⟨w1, hw1⟩ : ∃ w1, (w.alloc (.cells #[.int .u8 x, .slice A l.length c] 24)) = w1 := ⟨_, rfl⟩
  have hb1 : Below w.heap.size w w1 := by rw [← hw1]; exact nw _ (Below.refl _ _)
  have hX0 : Blk w1 (w.heap.size) 24 #[.int .u8 x, .slice A l.length c] := by rw [← hw1]; exact Blk.new _ _ _
  have HW1 := Lib.hid hw1
  have HMD : Hid (∀ W, Below w.heap.size w W → Calls Try.prog 10 #[.agg #[.int .u8 x, .slice A l.length c]] W fun e w' => ∃ A' c', e = .returned (.agg #[.int .i64 (madeG x l).n, .slice A' (madeG x l).ls.length c']) ∧ (madeG x l).ls.length ≤ c' ∧ c' ≤ maxLen ∧ SlR 4 RLk w' A' (madeG x l).ls ∧ Below W.heap.size W w') :=
    fun W hW => made_any A l c x W (hs.below keeps_t3 hW) hl hx hok
  have hg : GrOK (madeG x l) := madeG_ok hok
  have h14 : (madeG x l).ls.length ≤ 14 := madeG_len x l
  have hn7 : 1 ≤ (madeG x l).n ∧ (madeG x l).n ≤ 7 := madeG_n x l
  have hcm : ∀ q ∈ (madeG x l).ls, 0 ≤ q.cost ∧ q.cost ≤ 4 := fun q hq => (madeG_m hok q hq).cost
  generalize madeG x l = g at *
  obtain ⟨N, hN⟩ : ∃ N : Nat, g.n = (N : Int) := ⟨g.n.toNat, by omega⟩
  rw [hN] at HMD
  have HN := Lib.hid hN
  have HG := Lib.hid hg
  have hN1 : 1 ≤ N := by omega
  have hN7 : N ≤ 7 := by omega
  have hlt1 := hX0.lt
  have HN7 : Hid (1 ≤ g.n ∧ g.n ≤ 7) := by show _ ∧ _; omega
  have HCM := Lib.hid hcm
  clear hw1 hs hok hN hg hn7 hcm
  have hbx0 := hX0.cell 0
  have hbx1 := hX0.cell 1
  simp at hbx0 hbx1
  go_enter Try.func8, Try.ntmps8
  go_upto_region 1 with fail
  rw [HW1.out]
  go_upto_region 2 with (go_at_call 9; go_loud (refine (sanity19_any _).mono ?_; rintro e w2 ⟨rfl, hb2⟩))
  have hX0 := hX0.below hb2 hX0.lt
  have hbx0 := hX0.cell 0
  have hbx1 := hX0.cell 1
  simp at hbx0 hbx1
  have hbw2 := bthen hb1 hb2
  go_upto_region 3 with (go_at_call 10; go_loud (refine (HMD.out _ hbw2).mono ?_; rintro e w3 ⟨A3, c3, rfl, hc3, hcm3, hs3, hb3⟩))
  obtain ⟨W, hW⟩ : ∃ W, w3.alloc (.cells #[.int .i64 (N : Int), .slice A3 g.ls.length c3] 29) = W := ⟨_, rfl⟩
  have hb4 : Below w3.heap.size w3 W := by rw [← hW]; exact nw _ (Below.refl _ _)
  have hGB : Blk W w3.heap.size 29 #[.int .i64 (N : Int), .slice A3 g.ls.length c3] := by rw [← hW]; exact Blk.new _ _ _
  rw [hW]
  obtain ⟨bG, hbG⟩ : ∃ b, w3.heap.size = b := ⟨_, rfl⟩
  have hb34 := bthen hb3 hb4
  have hX0 := hX0.below hb34 hX0.lt
  have hbw := bthen hbw2 hb34
  have hls := hs3.below keeps_lk hb4
  have hwG : w.heap.size ≤ bG := by have := hbw2.size; have := hb3.size; omega
  rw [hbG] at hGB ⊢
  have hlm : g.ls.length ≤ maxLen := by unfold maxLen; omega
  clear hbx0 hbx1 hW hbG hb4 hb34 hbw2 hb2 hb3 hs3 hb1 HMD HW1
  have HG4 : Hid (∀ W', Below W.heap.size W W' → W'.cell? ⟨bG, 0, none⟩ = some (.int .i64 (N : Int)) ∧ W'.cell? ⟨bG, 1, none⟩ = some (.slice A3 g.ls.length c3) ∧ bG < W'.heap.size) := fun W' hW' => by
    have h1 := hGB.below hW' hGB.lt
    have e0 := h1.cell 0
    have e1 := h1.cell 1
    simp at e0 e1
    exact ⟨e0, e1, h1.lt⟩
  have HLS : Hid (∀ W', Below W.heap.size W W' → SlR 4 RLk W' A3 g.ls) := fun W' hW' => hls.below keeps_lk hW'
  have hpl : (potL g).length = N := by have := potL_len HG.out; have := HN.out; omega
  obtain ⟨p, hp⟩ : ∃ q : Nat, ka % 51 = (q : Int) := ⟨(ka % 51).toNat, by omega⟩
  have hp_b : p ≤ 50 := by omega
  have hp_t : ka.tmod 51 = (p : Int) := by rw [Int.tmod_eq_emod_of_nonneg (by omega)]; exact hp
  have hp_w : IntKind.u8.wrap (p : Int) = (p : Int) := by simp [IntKind.wrap, IntKind.bits, IntKind.signed]; omega
  have hp_v : IntKind.i64.wrap (p : Int) = (p : Int) := IntWalk.i64_in _ (by omega)
  clear hp
  obtain ⟨i0, hi, hz0, hz1, hz2⟩ := info_parts link_info
  have hwlb : IntKind.i64.wrap lb = lb := IntWalk.i64_in _ (by omega)
  have hG2 : GrOK (dblG lb g) := dbl_ok HG.out (fun q hq => by have := HCM.out q hq; omega) ⟨hlb.1, by omega⟩
  have hlen2 : (dblG lb g).ls.length = g.ls.length := by unfold dblG; rw [List.length_map]
  have hwp := want_k HN7.out (k := p) (by omega)
  have hwp2 : wantN (dblG lb g) (p : Int) 1000 = p := hwp
  obtain ⟨hpg1, hpg2⟩ := dbl_pg HG.out h14 hG2 p
  have hpot := dbl_pot (lb := lb) HG.out
  have HBD : Hid (∀ y ∈ pgL g p, 0 ≤ y.cost ∧ y.cost ≤ 2000000000) := pgL_bd HG.out h14 p
  have HPB : Hid (∀ y ∈ potL g, -1 ≤ y ∧ y ≤ 2000000000) := potL_bd HG.out
  have HMA : Hid (∀ W', Below W.heap.size W W' → Calls Try.prog 11 #[(.agg #[.int .i64 (N : Int), .slice A3 g.ls.length c3]), .int .i64 (p : Int), .int .i64 1000] W' fun e w' => ∃ A c B d, e = .returned (.agg #[.slice A (pgL g p).length c, .bool (pgWh g p), .slice B N d, .int .i64 0]) ∧ PgIn w' A c (pgL g p) ∧ SlR 1 RInt w' B (potL g) ∧ N ≤ d ∧ d ≤ maxLen ∧ Below W'.heap.size W' w') := fun W' hW' => by
    have h := lmade_any A3 c3 g (p : Int) 1000 p W' (HLS.out _ hW') HG.out h14 (by omega) (by omega) (by assumption)
    rw [HN.out, hpl] at h
    exact h
  have HMB : Hid (∀ W' A9 c9 (ks : List Lk), ks = g.ls.map (dblL lb) → SlR 4 RLk W' A9 ks → Calls Try.prog 11 #[(.agg #[.int .i64 (N : Int), .slice A9 ks.length c9]), .int .i64 (p : Int), .int .i64 1000] W' fun e w' => ∃ A c B d, e = .returned (.agg #[.slice A (pgL g p).length c, .bool (pgWh g p), .slice B N d, .int .i64 0]) ∧ PgIn w' A c ((pgL g p).map dblC) ∧ SlR 1 RInt w' B ((potL g).map dblP) ∧ N ≤ d ∧ d ≤ maxLen ∧ Below W'.heap.size W' w') := fun W' A9 c9 ks hks hs9 => by
    subst hks
    have h := lmade_any A9 c9 (dblG lb g) (p : Int) 1000 p W' hs9 hG2 (by rw [hlen2]; exact h14) (by omega) (by omega) hwp2
    rw [hpg1, hpg2, hpot, List.length_map, List.length_map, hpl, show (dblG lb g).n = (N : Int) from HN.out] at h
    exact h
  have HBW := Lib.hid hbw
  have HPL := Lib.hid hpl
  generalize pgL g p = L1 at *
  generalize pgWh g p = wh1 at *
  generalize potL g = ps at *
  have hm14 := h14
  have hb0 : Below W.heap.size W W := Below.refl _ _
  have hG0 := HG4.out _ hb0
  clear hX0 hGB hls hlm hbw hpl hwp hwp2 hpg1 hpg2 hpot hG2 hlen2 HN7
  obtain ⟨g0, g1, gl⟩ := hG0
  go_upto_region 4 with fail
  obtain ⟨D, hD⟩ : ∃ D, W.heap.size = D := ⟨_, rfl⟩
  obtain ⟨W4, hW4⟩ : ∃ V, W.alloc (.cells #[.int .i64 (N : Int), .slice none 0 0] 29) = V := ⟨_, rfl⟩
  have hb4 : Below D W W4 := by rw [← hW4, ← hD]; exact nw _ (Below.refl _ _)
  have hC0 : Blk W4 D 29 #[.int .i64 (N : Int), .slice none 0 0] := by rw [← hW4, ← hD]; exact Blk.new _ _ _
  rw [hW4, hD]
  have HD := Lib.hid hD
  have hDl : bG < D := by omega
  clear hW4 hb0 g0 g1 gl
  clear hD
  go_wp2_with fail
  go_loopw [10] (fun jv wr => ∃ (j : Nat) (v : Value) (ks : List Lk), j ≤ g.ls.length ∧ jv = .int .i64 (j : Int) ∧ Hid (ks = (g.ls.take j).map (dblL lb)) ∧ ks.length ≤ j ∧ wr.ownsRow D 59 4 v ks.length (ks.flatMap encLk) ∧ Blk wr D 29 #[.int .i64 (N : Int), v] ∧ Below D W wr) (fun jv _ => g.ls.length - (intOf jv).toNat)
  case atStart => exact ⟨0, .slice none 0 0, [], by omega, rfl, by show [] = _; simp, by simp, own_nil _ _ _ _, hC0, hb4⟩
  case round =>
    obtain ⟨wv, rfl⟩ : ∃ V, V = wr := ⟨wr, rfl⟩
    obtain ⟨j, v, ks, hj, rfl, HK, hkl, hown, hB, hbv⟩ := hrel
    clear hC0 hb4
    have hbW : Below W.heap.size W wv := by rw [HD.out]; exact hbv
    obtain ⟨g0, g1, gl⟩ := HG4.out _ hbW
    have s0 := hB.cell 0
    have s1' := hB.cell 1
    have bl0 := hB.lt
    simp at s0 s1'
    by_cases hlt : j < g.ls.length
    · obtain ⟨b', off', lj, hbe, hbb1, hlj, e0, e1, e2, e3⟩ := (HLS.out _ hbW).lk hlt
      subst hbe
      have hcj := HCM.out lj (List.mem_of_getElem? hlj)
      have hjI : (j : Int) < (g.ls.length : Int) := by omega
      have hj00 : (0 : Int) ≤ (j : Int) := by omega
      have HLJ := Lib.hid hlj
      obtain ⟨fj, tj, lbj, cj⟩ := lj
      simp only at e0 e1 e2 e3 hcj
      have hw2 : IntKind.i64.wrap (2 * cj) = 2 * cj := IntWalk.i64_in _ (by omega)
      have hsv : D ≤ wv.heap.size := Nat.le_of_lt bl0
      clear hlj
      go_upto_region 8 with fail
      obtain ⟨wO, hwO⟩ : ∃ V, wv.alloc (.cells #[.int .i64 fj, .int .i64 tj, .int .i64 lbj, .int .i64 cj] 59) = V := ⟨_, rfl⟩
      have hbO : Below D W wO := by rw [← hwO]; exact hbv.alloc hsv _
      have hownO : wO.ownsRow D 59 4 v ks.length (ks.flatMap encLk) := by rw [← hwO]; exact hown.alloc _
      have hBO : Blk wO D 29 #[.int .i64 (N : Int), v] := by rw [← hwO]; exact hB.alloc _
      have hXO : Blk wO wv.heap.size 59 #[.int .i64 fj, .int .i64 tj, .int .i64 lbj, .int .i64 cj] := by rw [← hwO]; exact Blk.new _ _ _
      rw [hwO]
      obtain ⟨bx, hbx2⟩ : ∃ b, wv.heap.size = b := ⟨_, rfl⟩
      rw [hbx2] at hXO ⊢
      have x0 := hXO.cell 0
      have x1 := hXO.cell 1
      have x2 := hXO.cell 2
      have x3 := hXO.cell 3
      have xl := hXO.lt
      simp at x0 x1 x2 x3
      have s0 := hBO.cell 0
      have s1' := hBO.cell 1
      have bl0 := hBO.lt
      simp at s0 s1'
      have hvne := own_blk_ne hownO hBO (by decide)
      have hsO : D ≤ wO.heap.size := Nat.le_of_lt bl0
      have HOO := Lib.hid hownO
      have HBO := Lib.hid hBO
      have HbO := Lib.hid hbO
      clear hwO hbO hownO hBO hXO hbx2 hown hB hbv hbW e0 e1 e2 e3 g0 g1 gl hsv
      go_upto_region 6 with (at_builtin; go_loud (refine wpList_app1 rfl _ _ 27 rfl D 59 i0 _ 4 32 Try.underlying27 hi hz0 hz1 hz2 rfl (by decide) v _ _ rfl _ [.int .i64 fj, .int .i64 tj, .int .i64 lb, .int .i64 (2 * cj)] rfl HOO.out _ rfl (by simp) rfl (by simp [Value.oneCell']) (by omega) (by decide) hsO ?_; intro v4 w4 hown4 hb4 ha4; have hown5 : w4.ownsRow D 59 4 v4 (ks ++ [Lk.mk fj tj lb (2 * cj)]).length ((ks ++ [Lk.mk fj tj lb (2 * cj)]).flatMap encLk) := (by rw [List.length_append, List.flatMap_append]; exact hown4); obtain ⟨A9, c9, rfl, hc9, hcm9, _⟩ := own_slr (R := RLk) hown5 (fun _ => rfl) (fun _ => rfl) rfl; have hB4 := HBO.out.apps ha4 hvne; have s2 := hB4.cell 1; have sf2 := hB4.frozen 1; have sl := hB4.lt; simp at s2; clear hown4))
      have hlen1 : (ks ++ [Lk.mk fj tj lb (2 * cj)]).length = ks.length + 1 := by simp
      rw [hlen1] at hown5
      have hne5 := own_blk_ne hown5 hB4 (by decide)
      have hown6 := own_set hown5 (a := ⟨D, 1, none⟩) hne5 (.slice A9 (ks.length + 1) c9)
      have hB6 := hB4.set_ 1 (.slice A9 (ks.length + 1) c9)
      have hb6 := (HbO.out.trans hb4).setCell (p := ⟨D, 1, none⟩) (Nat.le_refl _) (.slice A9 (ks.length + 1) c9)
      have HK2 : Hid (ks ++ [Lk.mk fj tj lb (2 * cj)] = (g.ls.take (j + 1)).map (dblL lb)) := by
        show _ = _
        rw [List.take_add_one, HLJ.out, List.map_append, ← HK.out]
        rfl
      obtain ⟨W5, hW5⟩ : ∃ V, w4.setCell ⟨D, 1, none⟩ (.slice A9 (ks.length + 1) c9) = V := ⟨_, rfl⟩
      rw [hW5] at hown6 hB6 hb6 ⊢
      clear hW5 hown5 hne5 hB4 hb4 ha4 s2 sf2 sl x0 x1 x2 x3 xl s0 s1' bl0
      go_wp2_with fail
      go_roundw
      case rel => exact ⟨j + 1, .slice A9 (ks.length + 1) c9, ks ++ [Lk.mk fj tj lb (2 * cj)], by omega, by go_num, HK2.out, by rw [hlen1]; omega, by rw [hlen1]; exact hown6, by simpa using hB6, hb6⟩
      case measure => simp [intOf]; omega
    · obtain rfl : j = g.ls.length := by omega
      obtain ⟨A9, c9, rfl, hc9, hcm9, hs9⟩ := own_slr (R := RLk) hown (fun _ => rfl) (fun _ => rfl) rfl
      have HKE : Hid (ks = g.ls.map (dblL lb)) := by have h := HK.out; rw [List.take_length] at h; exact h
      have HC5 : Hid (∀ W', Below wv.heap.size wv W' → W'.cell? ⟨D, 0, none⟩ = some (.int .i64 (N : Int)) ∧ W'.cell? ⟨D, 1, none⟩ = some (.slice A9 ks.length c9) ∧ D < W'.heap.size) := fun W' hW' => by
        have h1 := hB.below hW' hB.lt
        exact ⟨by rw [h1.cell]; rfl, by rw [h1.cell]; rfl, h1.lt⟩
      have HS9 := Lib.hid hs9
      have hd0 : Below wv.heap.size wv wv := Below.refl _ _
      clear hown hB hbv hs9 s0 s1' bl0 hlt hc9 hcm9 hj
      go_upto_region 10 with (go_at_call 11; go_loud (refine (HMA.out _ hbW).mono ?_; rintro e V1 ⟨Ap1, cp1, Bh1, dh1, rfl, hp1, hh1, hd1, hdm1, hv1⟩))
      obtain ⟨W1, hW1⟩ : ∃ V, V1.alloc (.cells #[.slice Ap1 L1.length cp1, .bool wh1, .slice Bh1 N dh1, .int .i64 0] 37) = V := ⟨_, rfl⟩
      have hx1 : Below V1.heap.size V1 W1 := by rw [← hW1]; exact nw _ (Below.refl _ _)
      have hX1 : Blk W1 V1.heap.size 37 #[.slice Ap1 L1.length cp1, .bool wh1, .slice Bh1 N dh1, .int .i64 0] := by rw [← hW1]; exact Blk.new _ _ _
      rw [hW1]
      obtain ⟨k1, hk1⟩ : ∃ b, V1.heap.size = b := ⟨_, rfl⟩
      rw [hk1] at hX1 ⊢
      have hp1 := hp1.mono hx1
      have hh1 := hh1.below keeps_int hx1
      have hs1 := bthen hv1 hx1
      have hb1 := bthen hbW hs1
      have HBX1 : Hid (∀ W', Below W1.heap.size W1 W' → W'.cell? ⟨k1, 0, none⟩ = some (.slice Ap1 L1.length cp1) ∧ W'.cell? ⟨k1, 1, none⟩ = some (.bool wh1) ∧ W'.cell? ⟨k1, 2, none⟩ = some (.slice Bh1 N dh1) ∧ W'.cell? ⟨k1, 3, none⟩ = some (.int .i64 0) ∧ k1 < W'.heap.size) := fun W' hW' => by
        have h1 := hX1.below hW' hX1.lt
        exact ⟨by rw [h1.cell]; rfl, by rw [h1.cell]; rfl, by rw [h1.cell]; rfl, by rw [h1.cell]; rfl, h1.lt⟩
      clear hW1 hv1 hx1 hX1 hk1
      have hd1 := bthen hd0 hs1
      have hr1 : Below W1.heap.size W1 W1 := Below.refl _ _
      obtain ⟨g0, g1, gl⟩ := HC5.out _ hd1
      have HMB2 := Lib.hid (HMB.out W1 A9 c9 ks HKE.out (HS9.out.below keeps_lk hd1))
      go_upto_region 11 with (go_at_call 11; go_loud (refine HMB2.out.mono ?_; rintro e V2 ⟨Ap2, cp2, Bh2, dh2, rfl, hp2, hh2, hdd2, hdm2, hv2⟩))
      obtain ⟨W2, hW2⟩ : ∃ V, V2.alloc (.cells #[.slice Ap2 L1.length cp2, .bool wh1, .slice Bh2 N dh2, .int .i64 0] 37) = V := ⟨_, rfl⟩
      have hx2 : Below V2.heap.size V2 W2 := by rw [← hW2]; exact nw _ (Below.refl _ _)
      have hX2 : Blk W2 V2.heap.size 37 #[.slice Ap2 L1.length cp2, .bool wh1, .slice Bh2 N dh2, .int .i64 0] := by rw [← hW2]; exact Blk.new _ _ _
      rw [hW2]
      obtain ⟨k2, hk2⟩ : ∃ b, V2.heap.size = b := ⟨_, rfl⟩
      rw [hk2] at hX2 ⊢
      have hs2 := bthen hv2 hx2
      have HP1 := Lib.hid (hp1.mono hs2)
      have HH1 := Lib.hid (hh1.below keeps_int hs2)
      have HP2 := Lib.hid (hp2.mono hx2)
      have HH2 := Lib.hid (hh2.below keeps_int hx2)
      have HB2 := Lib.hid (bthen hb1 hs2)
      have hr2 := bthen hr1 hs2
      have HBX2 : Hid (∀ W', Below W2.heap.size W2 W' → W'.cell? ⟨k1, 0, none⟩ = some (.slice Ap1 L1.length cp1) ∧ W'.cell? ⟨k1, 1, none⟩ = some (.bool wh1) ∧ W'.cell? ⟨k1, 2, none⟩ = some (.slice Bh1 N dh1) ∧ W'.cell? ⟨k1, 3, none⟩ = some (.int .i64 0) ∧ W'.cell? ⟨k2, 0, none⟩ = some (.slice Ap2 L1.length cp2) ∧ W'.cell? ⟨k2, 1, none⟩ = some (.bool wh1) ∧ W'.cell? ⟨k2, 2, none⟩ = some (.slice Bh2 N dh2) ∧ W'.cell? ⟨k2, 3, none⟩ = some (.int .i64 0) ∧ k1 < W'.heap.size ∧ k2 < W'.heap.size) := fun W' hW' => by
        have h1 := hX2.below hW' hX2.lt
        obtain ⟨q0, q1, q2, q3, q4⟩ := HBX1.out _ (bthen hr2 hW')
        exact ⟨q0, q1, q2, q3, by rw [h1.cell]; rfl, by rw [h1.cell]; rfl, by rw [h1.cell]; rfl, by rw [h1.cell]; rfl, q4, h1.lt⟩
      have hu0 : Below W2.heap.size W2 W2 := Below.refl _ _
      obtain ⟨m0, m1, m2, m3, n0, n1, n2, n3, ml, nl⟩ := HBX2.out _ hu0
      obtain ⟨g0, g1, gl⟩ := HG4.out _ HB2.out
      have hL50 : L1.length ≤ 9223372036854775807 := by have h1 := HP1.out.l; have h2 := HP1.out.m; unfold maxLen at h2; omega
      clear hW2 hx2 hX2 hk2 hv2 hs2 hp1 hp2 hh1 hh2 hd0 hd1 hr1 hr2 hb1 hs1 HMB2 hbW
      go_wp2_with fail
      clear g0 g1 gl m0 m1 m2 m3 n0 n1 n2 n3 ml nl
      go_loopw [14] (fun iv wr => ∃ i : Nat, i ≤ L1.length ∧ iv = .int .i64 (i : Int) ∧ Below W2.heap.size W2 wr) (fun iv _ => L1.length - (intOf iv).toNat)
      case atStart => exact ⟨0, by omega, rfl, hu0⟩
      case round =>
        obtain ⟨w8, rfl⟩ : ∃ V, V = wr := ⟨wr, rfl⟩
        obtain ⟨i, hi_, rfl, hbi⟩ := hrel
        obtain ⟨m0, m1, m2, m3, n0, n1, n2, n3, ml, nl⟩ := HBX2.out _ hbi
        by_cases hlt2 : i < L1.length
        · obtain ⟨b1, o1, y, A1, d1, rfl, hbb1, hyy, y0, y1, hys, hyl, hym⟩ := ((HP1.out.mono hbi).s).can hlt2
          obtain ⟨b2, o2, y', A2, d2, rfl, hbb2, hyy', z0_, z1_, hzs, hzl, hzm⟩ := ((HP2.out.mono hbi).s).can (k := i) (by rw [List.length_map]; exact hlt2)
          obtain rfl : y' = dblC y := by rw [List.getElem?_map, hyy] at hyy'; exact (Option.some.inj hyy').symm
          have hcb := HBD.out y (List.mem_of_getElem? hyy)
          obtain ⟨ly, cy⟩ := y
          have z1 : w8.cell? ⟨b2, o2 + i * 2 + 1, none⟩ = some (.int .i64 (2 * cy)) := z1_
          have z0 : w8.cell? ⟨b2, o2 + i * 2, none⟩ = some (.slice A2 ly.length d2) := z0_
          clear z0_ z1_
          simp only at y0 y1 hys hyl hcb
          have hzs : SlR 1 RInt w8 A2 ly := hzs
          have hzl : ly.length ≤ d2 := hzl
          have hw2 : IntKind.i64.wrap (2 * cy) = 2 * cy := IntWalk.i64_in _ (by omega)
          have HIN : Hid (∀ W', Below w8.heap.size w8 W' → Calls Try.prog 17 #[.slice A1 ly.length d1, .slice A2 ly.length d2] W' fun e w' => e = .returned (.bool true) ∧ Below W'.heap.size W' w') := fun W' hW' => by
            have h := ints_any A1 A2 ly ly d1 d2 W' (hys.below keeps_int hW') (hzs.below keeps_int hW') (by omega) (by omega)
            rw [decide_eq_true rfl] at h
            exact h
          have hiI : (i : Int) < (L1.length : Int) := by omega
          have hi00 : (0 : Int) ≤ (i : Int) := by omega
          have hwi : IntKind.i64.wrap ((i : Int) + 1) = (i : Int) + 1 := IntWalk.i64_in _ (by omega)
          have HBI := Lib.hid hbi
          clear hyy hyy' hys hzs hbi
          go_upto_region 16 with fail
          refine ordB_below (.quiet 0 (.quiet 1 (.quiet 2 (.quiet 3 (.quiet 4 (.quiet 5 (.quiet 6 (.quiet 7 (.quiet 8 (.quiet 9 (.quiet 10 (.quiet 11 (.quiet 12 (.quiet 13 (.only 14 (.quiet 15 (.quiet 16 (.quiet 17 (.quiet 18 (.quiet 19 (.quiet 20 (.quiet 21 (.quiet 22 (.quiet 23 (.quiet 24 (.quiet 25 (.quiet 26 (.quiet 27 (.quiet 28 (.quiet 29 (.quiet 30 (.quiet 31 (.quiet 32 (.quiet 33 .done)))))))))))))))))))))))))))))))))) (by kernel_rfl) (by kernel_rfl) (by kernel_rfl) (fun _ _ _ _ _ h => h) ?_
          intro Wf hWf
          iterate 14 (first
            | (refine ordB_skip rfl rfl ?_; simp only [Act.put, List.setIfInBounds_toArray, List.set_cons_zero, List.set_cons_succ])
            | (refine ordB_take (v := ?_) rfl rfl ?_ ?_
               rotate_left 1
               focus (intro W hW; obtain ⟨hcW, hfW⟩ := bcell hW; (go_simp <;> with_reducible rfl))
               simp only [Act.put, List.setIfInBounds_toArray, List.set_cons_zero, List.set_cons_succ]))
          refine ordB_only (opB_call rfl rfl (fun K hK => ?_))
          go_simp
          go_at_call 17
          refine (HIN.out _ hWf).mono ?_
          rintro e Wf_1 ⟨rfl, hx14⟩
          refine hK.out _ _ (hWf.trans (hx14.mono hWf.size)) (fun hWf_1 => ?_)
          iterate 19 (first
            | (refine ordB_skip rfl rfl ?_; simp only [Act.put, List.setIfInBounds_toArray, List.set_cons_zero, List.set_cons_succ])
            | (refine ordB_take (v := ?_) rfl rfl ?_ ?_
               rotate_left 1
               focus (intro W hW; obtain ⟨hcW, hfW⟩ := bcell hW; (go_simp <;> with_reducible rfl))
               simp only [Act.put, List.setIfInBounds_toArray, List.set_cons_zero, List.set_cons_succ]))
          refine ordB_nil ?_
          have HBE2 := Lib.hid (bthen HBI.out hWf_1)
          clear hWf_1
          generalize Wf_1 = wz at *
          go_wp2_with fail
          go_roundw
          case rel => exact ⟨i + 1, by omega, by go_num, HBE2.out⟩
          case measure => simp [intOf]; omega
        · obtain rfl : i = L1.length := by omega
          have HBL := Lib.hid hbi
          have hv0 : Below w8.heap.size w8 w8 := Below.refl _ _
          clear hbi hlt2
          go_wp2_with fail
          clear m0 m1 m2 m3 n0 n1 n2 n3 ml nl
          go_loopw [15] (fun iv wr => ∃ i : Nat, i ≤ N ∧ iv = .int .i64 (i : Int) ∧ Below w8.heap.size w8 wr) (fun iv _ => N - (intOf iv).toNat)
          case atStart => exact ⟨0, by omega, rfl, hv0⟩
          case round =>
            obtain ⟨w9, rfl⟩ : ∃ V, V = wr := ⟨wr, rfl⟩
            obtain ⟨i, hi_, rfl, hbi⟩ := hrel
            have hb29 := bthen HBL.out hbi
            obtain ⟨m0, m1, m2, m3, n0, n1, n2, n3, ml, nl⟩ := HBX2.out _ hb29
            obtain ⟨g0, g1, gl⟩ := HG4.out _ (bthen HB2.out hb29)
            by_cases hlt3 : i < N
            · obtain ⟨b1, o1, a, rfl, hbb1, haa, y0⟩ := (HH1.out.below keeps_int hb29).int (k := i) (by rw [HPL.out]; exact hlt3)
              obtain ⟨b2, o2, a', rfl, hbb2, haa', z0⟩ := (HH2.out.below keeps_int hb29).int (k := i) (by rw [List.length_map, HPL.out]; exact hlt3)
              obtain rfl : a' = dblP a := by rw [List.getElem?_map, haa] at haa'; exact (Option.some.inj haa').symm
              have hab := HPB.out a (List.mem_of_getElem? haa)
              have hiI : (i : Int) < (N : Int) := by omega
              have hi00 : (0 : Int) ≤ (i : Int) := by omega
              have hwi : IntKind.i64.wrap ((i : Int) + 1) = (i : Int) + 1 := IntWalk.i64_in _ (by omega)
              have HBI := Lib.hid hbi
              clear haa haa' hbi hb29
              by_cases ha : a < 0
              · rw [show dblP a = a by unfold dblP; rw [if_pos ha]] at z0
                have ha1 : decide (a < 0) = true := decide_eq_true ha
                have ha2 : decide (0 ≤ a) = false := decide_eq_false (by omega)
                have ha3 : ¬ 0 ≤ a := by omega
                go_upto_region 21 with fail
                refine ordB_below (.quiet 0 (.quiet 1 (.quiet 2 (.quiet 3 (.quiet 4 (.quiet 5 (.quiet 6 (.quiet 7 (.quiet 8 (.quiet 9 (.quiet 10 (.quiet 11 (.quiet 12 (.quiet 13 (.quiet 14 (.quiet 15 (.quiet 16 (.quiet 17 (.quiet 18 (.quiet 19 (.quiet 20 (.quiet 21 (.quiet 22 (.quiet 23 (.quiet 24 (.quiet 25 (.quiet 26 (.quiet 27 (.quiet 28 (.quiet 29 (.quiet 30 (.quiet 31 (.quiet 32 (.quiet 33 (.quiet 34 (.quiet 35 (.quiet 36 (.quiet 37 (.quiet 38 (.quiet 39 (.quiet 40 .done))))))))))))))))))))))))))))))))))))))))) (by kernel_rfl) (by kernel_rfl) (by kernel_rfl) (fun _ _ _ _ _ h => h) ?_
                intro Wg hWg
                iterate 41 (first
                  | (refine ordB_skip rfl rfl ?_; simp only [Act.put, List.setIfInBounds_toArray, List.set_cons_zero, List.set_cons_succ])
                  | (refine ordB_take (v := ?_) rfl rfl ?_ ?_
                     rotate_left 1
                     focus (intro W hW; obtain ⟨hcW, hfW⟩ := bcell hW; (go_simp <;> with_reducible rfl))
                     simp only [Act.put, List.setIfInBounds_toArray, List.set_cons_zero, List.set_cons_succ]))
                refine ordB_nil ?_
                have HBE2 := Lib.hid (bthen HBI.out hWg)
                clear hWg
                generalize Wg = wz at *
                go_wp2_with fail
                go_roundw
                case rel => exact ⟨i + 1, by omega, by go_num, HBE2.out⟩
                case measure => simp [intOf]; omega
              · rw [show dblP a = 2 * a by unfold dblP; rw [if_neg ha]] at z0
                have ha1 : decide (a < 0) = false := decide_eq_false ha
                have ha2 : decide (0 ≤ a) = true := decide_eq_true (by omega)
                have ha3 : 0 ≤ a := by omega
                have hw2 : IntKind.i64.wrap (2 * a) = 2 * a := IntWalk.i64_in _ (by omega)
                go_upto_region 21 with fail
                refine ordB_below (.quiet 0 (.quiet 1 (.quiet 2 (.quiet 3 (.quiet 4 (.quiet 5 (.quiet 6 (.quiet 7 (.quiet 8 (.quiet 9 (.quiet 10 (.quiet 11 (.quiet 12 (.quiet 13 (.quiet 14 (.quiet 15 (.quiet 16 (.quiet 17 (.quiet 18 (.quiet 19 (.quiet 20 (.quiet 21 (.quiet 22 (.quiet 23 (.quiet 24 (.quiet 25 (.quiet 26 (.quiet 27 (.quiet 28 (.quiet 29 (.quiet 30 (.quiet 31 (.quiet 32 (.quiet 33 (.quiet 34 (.quiet 35 (.quiet 36 (.quiet 37 (.quiet 38 (.quiet 39 (.quiet 40 .done))))))))))))))))))))))))))))))))))))))))) (by kernel_rfl) (by kernel_rfl) (by kernel_rfl) (fun _ _ _ _ _ h => h) ?_
                intro Wg hWg
                iterate 41 (first
                  | (refine ordB_skip rfl rfl ?_; simp only [Act.put, List.setIfInBounds_toArray, List.set_cons_zero, List.set_cons_succ])
                  | (refine ordB_take (v := ?_) rfl rfl ?_ ?_
                     rotate_left 1
                     focus (intro W hW; obtain ⟨hcW, hfW⟩ := bcell hW; (go_simp <;> with_reducible rfl))
                     simp only [Act.put, List.setIfInBounds_toArray, List.set_cons_zero, List.set_cons_succ]))
                refine ordB_nil ?_
                have HBE2 := Lib.hid (bthen HBI.out hWg)
                clear hWg
                generalize Wg = wz at *
                go_wp2_with fail
                go_roundw
                case rel => exact ⟨i + 1, by omega, by go_num, HBE2.out⟩
                case measure => simp [intOf]; omega
            · obtain rfl : i = N := by omega
              have hE := bthen HBW.out (bthen HB2.out hb29)
              clear hbi hb29
              go_wp2_with fail
              go_ret
              exact ⟨rfl, hE⟩
end Go.Proofs.Ytpajajffkbkeaaa
