/-
  The law PageBudgets: for all inputs it returns true.
-/
import Derived.Test.YtpajajffkbkeaaaPgLaw
import Derived.Deep.DeepCutAuto
namespace Go.Proofs.Ytpajajffkbkeaaa
open Go Go.RowKit

set_option maxRecDepth 100000 in
set_option maxHeartbeats 16000000 in
theorem pageBudgets_any (A : Option Addr) (l : List T3) (c : Nat) (x : Int) (pa pb pc pd : Int) (w : World) (hs : SlR 3 RT3 w A l) (hl : l.length ≤ maxLen) (hok : ∀ p ∈ l, T3OK p) (hx : 0 ≤ x ∧ x ≤ 255)
    (hpa : 0 ≤ pa ∧ pa ≤ 255) (hpb : 0 ≤ pb ∧ pb ≤ 255) (hpc : 0 ≤ pc ∧ pc ≤ 255) (hpd : 0 ≤ pd ∧ pd ≤ 255) :
    Calls Try.prog 4 #[.agg #[.int .u8 x, .slice A l.length c], .agg #[.int .u8 pa, .int .u8 pb, .int .u8 pc, .int .u8 pd]] w fun e w' => e = .returned (.bool true) ∧ Below w.heap.size w w' := by
  obtain ⟨w1, hw1⟩ : ∃ w1, ((w.alloc (.cells #[.int .u8 x, .slice A l.length c] 24)).alloc (.cells #[.int .u8 pa, .int .u8 pb, .int .u8 pc, .int .u8 pd] 25)) = w1 := ⟨_, rfl⟩
  have hb1 : Below w.heap.size w w1 := by rw [← hw1]; exact nw _ (nw _ (Below.refl _ _))
  have hX0 : Blk w1 (w.heap.size) 24 #[.int .u8 x, .slice A l.length c] := by rw [← hw1]; exact (Blk.new _ _ _).alloc _
  have hX1 : Blk w1 (w.heap.size + 1) 25 #[.int .u8 pa, .int .u8 pb, .int .u8 pc, .int .u8 pd] := by rw [← hw1]; exact Blk.new_ (by simp)
  have HW1 := Lib.hid hw1
  have HMD : Hid (∀ W, Below w.heap.size w W → Calls Try.prog 10 #[.agg #[.int .u8 x, .slice A l.length c]] W fun e w' => ∃ A' c', e = .returned (.agg #[.int .i64 (madeG x l).n, .slice A' (madeG x l).ls.length c']) ∧ (madeG x l).ls.length ≤ c' ∧ c' ≤ maxLen ∧ SlR 4 RLk w' A' (madeG x l).ls ∧ Below W.heap.size W w') :=
    fun W hW => made_any A l c x W (hs.below keeps_t3 hW) hl hx hok
  have hg : GrOK (madeG x l) := madeG_ok hok
  have h14 : (madeG x l).ls.length ≤ 14 := madeG_len x l
  have hn7 : 1 ≤ (madeG x l).n ∧ (madeG x l).n ≤ 7 := madeG_n x l
  generalize madeG x l = g at *
  obtain ⟨N, hN⟩ : ∃ N : Nat, g.n = (N : Int) := ⟨g.n.toNat, by omega⟩
  rw [hN] at HMD
  have HN := Lib.hid hN
  have HG := Lib.hid hg
  have hN1 : 1 ≤ N := by omega
  have hN7 : N ≤ 7 := by omega
  have hlt1 := hX0.lt
  clear hw1 hs hok hN hg hn7
  have hbx0 := hX0.cell 0
  have hbx1 := hX0.cell 1
  simp at hbx0 hbx1
  go_enter Try.func4, Try.ntmps4
  go_upto_region 1 with fail
  rw [HW1.out]
  go_upto_region 2 with (go_at_call 9; go_loud (refine (sanity19_any _).mono ?_; rintro e w2 ⟨rfl, hb2⟩))
  have hX0 := hX0.below hb2 hX0.lt
  have hX1 := hX1.below hb2 hX1.lt
  have hbx0 := hX0.cell 0
  have hbx1 := hX0.cell 1
  simp at hbx0 hbx1
  have hbw2 := bthen hb1 hb2
  go_upto_region 3 with (go_at_call 10; go_loud (refine (HMD.out _ hbw2).mono ?_; rintro e w3 ⟨A3, c3, rfl, hc3, hcm3, hs3, hb3⟩))
  obtain ⟨W, hW⟩ : ∃ W, w3.alloc (.cells #[.int .i64 (N : Int), .slice A3 g.ls.length c3] 29) = W := ⟨_, rfl⟩
  have hb4 : Below w3.heap.size w3 W := by rw [← hW]; exact nw _ (Below.refl _ _)
  have hGB : Blk W w3.heap.size 29 #[.int .i64 (N : Int), .slice A3 g.ls.length c3] := by rw [← hW]; exact Blk.new _ _ _
  rw [hW]
  obtain ⟨bG, hbG⟩ : ∃ b, w3.heap.size = b := ⟨_, rfl⟩
  have hb34 := bthen hb3 hb4
  have hX0 := hX0.below hb34 hX0.lt
  have hX1 := hX1.below hb34 hX1.lt
  have hbw := bthen hbw2 hb34
  have hls := hs3.below keeps_lk hb4
  have hwG : w.heap.size ≤ bG := by have := hbw2.size; have := hb3.size; omega
  rw [hbG] at hGB ⊢
  have hlm : g.ls.length ≤ maxLen := by unfold maxLen; omega
  clear hbx0 hbx1 hW hbG hb4 hb34 hbw2 hb2 hb3 hs3 hb1 HMD HW1
  have HG4 : Hid (∀ W', Below W.heap.size W W' → W'.cell? ⟨bG, 0, none⟩ = some (.int .i64 (N : Int)) ∧ W'.cell? ⟨bG, 1, none⟩ = some (.slice A3 g.ls.length c3) ∧ bG < W'.heap.size) := fun W' hW' => by
    have h1 := hGB.below hW' hGB.lt
    have e0 := h1.cell 0
    have e1 := h1.cell 1
    simp at e0 e1
    exact ⟨e0, e1, h1.lt⟩
  have HLS : Hid (∀ W', Below W.heap.size W W' → SlR 4 RLk W' A3 g.ls) := fun W' hW' => hls.below keeps_lk hW'
  have hpl : (potL g).length = N := by have := potL_len HG.out; have := HN.out; omega
  have HA4 : Hid (∀ W', Below W.heap.size W W' → W'.cell? ⟨w.heap.size + 1, 0, none⟩ = some (.int .u8 pa) ∧ W'.cell? ⟨w.heap.size + 1, 1, none⟩ = some (.int .u8 pb) ∧ W'.cell? ⟨w.heap.size + 1, 2, none⟩ = some (.int .u8 pc) ∧ W'.cell? ⟨w.heap.size + 1, 3, none⟩ = some (.int .u8 pd) ∧ w.heap.size + 1 < W'.heap.size) := fun W' hW' => by
    have h1 := hX1.below hW' hX1.lt
    exact ⟨by rw [h1.cell]; rfl, by rw [h1.cell]; rfl, by rw [h1.cell]; rfl, by rw [h1.cell]; rfl, h1.lt⟩
  obtain ⟨p, hp⟩ : ∃ q : Nat, pa % 26 = (q : Int) := ⟨(pa % 26).toNat, by omega⟩
  have hpb : p ≤ 25 := by omega
  have hpt : pa.tmod 26 = (p : Int) := by rw [Int.tmod_eq_emod_of_nonneg (by omega)]; exact hp
  have hpw : IntKind.u8.wrap (p : Int) = (p : Int) := by simp [IntKind.wrap, IntKind.bits, IntKind.signed]; omega
  have hpv : IntKind.i64.wrap (p : Int) = (p : Int) := IntWalk.i64_in _ (by omega)
  clear hp
  obtain ⟨q, hq⟩ : ∃ q : Nat, pc % 25 = (q : Int) := ⟨(pc % 25).toNat, by omega⟩
  have hqb : q ≤ 24 := by omega
  have hqt : pc.tmod 25 = (q : Int) := by rw [Int.tmod_eq_emod_of_nonneg (by omega)]; exact hq
  have hqw : IntKind.u8.wrap (q : Int) = (q : Int) := by simp [IntKind.wrap, IntKind.bits, IntKind.signed]; omega
  have hqv : IntKind.i64.wrap (q : Int) = (q : Int) := IntWalk.i64_in _ (by omega)
  clear hq
  obtain ⟨r, hr⟩ : ∃ r, p + q = r := ⟨_, rfl⟩
  obtain ⟨bd, hbd⟩ : ∃ r, pb + pd = r := ⟨_, rfl⟩
  have hadd1 : IntKind.i64.wrap ((p : Int) + (q : Int)) = (r : Int) := by rw [IntWalk.i64_in _ (by omega)]; omega
  have hadd2 : IntKind.i64.wrap (pb + pd) = bd := by rw [IntWalk.i64_in _ (by omega)]; omega
  have hwb : IntKind.i64.wrap pb = pb := IntWalk.i64_in _ (by omega)
  have hwd : IntKind.i64.wrap pd = pd := IntWalk.i64_in _ (by omega)
  obtain ⟨n1, hn1⟩ : ∃ n, wantN g (p : Int) pb = n := ⟨_, rfl⟩
  obtain ⟨n2, hn2⟩ : ∃ n, wantN g (r : Int) bd = n := ⟨_, rfl⟩
  have hle : n1 ≤ n2 := by rw [← hn1, ← hn2]; exact want_le HG.out (by omega) (by omega)
  have HMA : Hid (∀ W', Below W.heap.size W W' → Calls Try.prog 11 #[(.agg #[.int .i64 (N : Int), .slice A3 g.ls.length c3]), .int .i64 (p : Int), .int .i64 pb] W' fun e w' => ∃ A c B d, e = .returned (.agg #[.slice A (pgL g n1).length c, .bool (pgWh g n1), .slice B N d, .int .i64 0]) ∧ PgIn w' A c (pgL g n1) ∧ SlR 1 RInt w' B (potL g) ∧ N ≤ d ∧ d ≤ maxLen ∧ Below W'.heap.size W' w') := fun W' hW' => by
    have h := lmade_any A3 c3 g (p : Int) pb n1 W' (HLS.out _ hW') HG.out h14 (by omega) (by omega) (by assumption)
    rw [HN.out, hpl] at h
    exact h
  have HMB : Hid (∀ W', Below W.heap.size W W' → Calls Try.prog 11 #[(.agg #[.int .i64 (N : Int), .slice A3 g.ls.length c3]), .int .i64 (r : Int), .int .i64 bd] W' fun e w' => ∃ A c B d, e = .returned (.agg #[.slice A (pgL g n2).length c, .bool (pgWh g n2), .slice B N d, .int .i64 0]) ∧ PgIn w' A c (pgL g n2) ∧ SlR 1 RInt w' B (potL g) ∧ N ≤ d ∧ d ≤ maxLen ∧ Below W'.heap.size W' w') := fun W' hW' => by
    have h := lmade_any A3 c3 g (r : Int) bd n2 W' (HLS.out _ hW') HG.out h14 (by omega) (by omega) (by assumption)
    rw [HN.out, hpl] at h
    exact h
  have HPRE : Hid (prefB (pgL g n1) (pgWh g n1) (pgL g n2) (pgWh g n2) = true) := pg_pre hle
  have HBW := Lib.hid hbw
  generalize pgL g n1 = L1 at *
  generalize pgWh g n1 = wh1 at *
  generalize pgL g n2 = L2 at *
  generalize pgWh g n2 = wh2 at *
  have HPL := Lib.hid hpl
  generalize potL g = ps at *
  obtain ⟨g0, g1, gl⟩ := HG4.out _ (Below.refl _ _)
  obtain ⟨a0, a1, a2, a3, al⟩ := HA4.out _ (Below.refl _ _)
  have hb0 : Below W.heap.size W W := Below.refl _ _
  clear hX0 hX1 hGB hls hlm hbw hpl hn1 hn2 hle hr hbd
  go_upto_region 4 with fail
  go_upto_region 5 with (go_at_call 11; go_loud (refine (HMA.out _ hb0).mono ?_; rintro e V1 ⟨Ap1, cp1, Bh1, dh1, rfl, hp1, hh1, hd1, hdm1, hv1⟩))
  obtain ⟨W1, hW1⟩ : ∃ V, V1.alloc (.cells #[.slice Ap1 L1.length cp1, .bool wh1, .slice Bh1 N dh1, .int .i64 0] 37) = V := ⟨_, rfl⟩
  have hx1 : Below V1.heap.size V1 W1 := by rw [← hW1]; exact nw _ (Below.refl _ _)
  have hX1 : Blk W1 V1.heap.size 37 #[.slice Ap1 L1.length cp1, .bool wh1, .slice Bh1 N dh1, .int .i64 0] := by rw [← hW1]; exact Blk.new _ _ _
  rw [hW1]
  obtain ⟨k1, hk1⟩ : ∃ b, V1.heap.size = b := ⟨_, rfl⟩
  rw [hk1] at hX1 ⊢
  have hp1 := hp1.mono hx1
  have hh1 := hh1.below keeps_int hx1
  have hs1 := bthen hv1 hx1
  have hb1 := bthen hb0 hs1
  have HBX1 : Hid (∀ W', Below W1.heap.size W1 W' → W'.cell? ⟨k1, 0, none⟩ = some (.slice Ap1 L1.length cp1) ∧ W'.cell? ⟨k1, 1, none⟩ = some (.bool wh1) ∧ W'.cell? ⟨k1, 2, none⟩ = some (.slice Bh1 N dh1) ∧ W'.cell? ⟨k1, 3, none⟩ = some (.int .i64 0) ∧ k1 < W'.heap.size) := fun W' hW' => by
    have h1 := hX1.below hW' hX1.lt
    exact ⟨by rw [h1.cell]; rfl, by rw [h1.cell]; rfl, by rw [h1.cell]; rfl, by rw [h1.cell]; rfl, h1.lt⟩
  clear hW1 hv1 hx1 hX1 hk1
  obtain ⟨g0, g1, gl⟩ := HG4.out _ hb1
  obtain ⟨a0, a1, a2, a3, al⟩ := HA4.out _ hb1
  go_upto_region 6 with (go_at_call 11; go_loud (refine (HMB.out _ hb1).mono ?_; rintro e V2 ⟨Ap2, cp2, Bh2, dh2, rfl, hp2, hh2, hd2, hdm2, hv2⟩))
  obtain ⟨W2, hW2⟩ : ∃ V, V2.alloc (.cells #[.slice Ap2 L2.length cp2, .bool wh2, .slice Bh2 N dh2, .int .i64 0] 37) = V := ⟨_, rfl⟩
  have hx2 : Below V2.heap.size V2 W2 := by rw [← hW2]; exact nw _ (Below.refl _ _)
  have hX2 : Blk W2 V2.heap.size 37 #[.slice Ap2 L2.length cp2, .bool wh2, .slice Bh2 N dh2, .int .i64 0] := by rw [← hW2]; exact Blk.new _ _ _
  rw [hW2]
  obtain ⟨k2, hk2⟩ : ∃ b, V2.heap.size = b := ⟨_, rfl⟩
  rw [hk2] at hX2 ⊢
  have hp2 := hp2.mono hx2
  have hh2 := hh2.below keeps_int hx2
  have hs2 := bthen hv2 hx2
  have hb12 := hs2
  have hb2 := bthen hb1 hs2
  have HBX2 : Hid (∀ W', Below W2.heap.size W2 W' → W'.cell? ⟨k2, 0, none⟩ = some (.slice Ap2 L2.length cp2) ∧ W'.cell? ⟨k2, 1, none⟩ = some (.bool wh2) ∧ W'.cell? ⟨k2, 2, none⟩ = some (.slice Bh2 N dh2) ∧ W'.cell? ⟨k2, 3, none⟩ = some (.int .i64 0) ∧ k2 < W'.heap.size) := fun W' hW' => by
    have h1 := hX2.below hW' hX2.lt
    exact ⟨by rw [h1.cell]; rfl, by rw [h1.cell]; rfl, by rw [h1.cell]; rfl, by rw [h1.cell]; rfl, h1.lt⟩
  clear hW2 hv2 hx2 hX2 hk2
  have HP1 := Lib.hid (hp1.mono hb12)
  have HP2 := Lib.hid hp2
  have HH1 := Lib.hid (hh1.below keeps_int hb12)
  have HH2 := Lib.hid hh2
  have HC : Hid (∀ W', Below W2.heap.size W2 W' → (W'.cell? ⟨k1, 0, none⟩ = some (.slice Ap1 L1.length cp1) ∧ W'.cell? ⟨k1, 1, none⟩ = some (.bool wh1) ∧ W'.cell? ⟨k1, 2, none⟩ = some (.slice Bh1 N dh1) ∧ W'.cell? ⟨k1, 3, none⟩ = some (.int .i64 0) ∧ k1 < W'.heap.size) ∧
      (W'.cell? ⟨k2, 0, none⟩ = some (.slice Ap2 L2.length cp2) ∧ W'.cell? ⟨k2, 1, none⟩ = some (.bool wh2) ∧ W'.cell? ⟨k2, 2, none⟩ = some (.slice Bh2 N dh2) ∧ W'.cell? ⟨k2, 3, none⟩ = some (.int .i64 0) ∧ k2 < W'.heap.size)) := fun W' hW' => ⟨HBX1.out _ (bthen hb12 hW'), HBX2.out _ hW'⟩
  have HB2 := Lib.hid hb2
  have hy0 : Below W2.heap.size W2 W2 := Below.refl _ _
  obtain ⟨⟨c0, c1, c2, c3_, c4⟩, d0, d1, d2, d3, d4⟩ := HC.out _ hy0
  have HPR : Hid (∀ W', Below W2.heap.size W2 W' → Calls Try.prog 15 #[.agg #[.slice Ap1 L1.length cp1, .bool wh1], .agg #[.slice Ap2 L2.length cp2, .bool wh2]] W' fun e w' => e = .returned (.bool true) ∧ Below W'.heap.size W' w') := fun W' hW' => by
    have h1 := HP1.out.mono hW'
    have h2 := HP2.out.mono hW'
    have h := prefix_any Ap1 Ap2 L1 L2 cp1 cp2 wh1 wh2 W' h1.s h2.s h1.l h1.m h2.l h2.m
    rw [HPRE.out] at h
    exact h
  have HRP : Hid (∀ W', Below W2.heap.size W2 W' → Calls Try.prog 16 #[.agg #[.slice Ap1 L1.length cp1, .bool wh1], .agg #[.slice Ap2 L2.length cp2, .bool wh2]] W' fun e w' => e = .returned (.bool true) ∧ Below W'.heap.size W' w') := fun W' hW' => by
    have h1 := HP1.out.mono hW'
    have h2 := HP2.out.mono hW'
    have h := refprefix_any Ap1 Ap2 L1 L2 cp1 cp2 wh1 wh2 W' h1.s h2.s h1.l h1.m h2.l h2.m
    rw [HPRE.out] at h
    exact h
  have HIN : Hid (∀ W', Below W2.heap.size W2 W' → Calls Try.prog 17 #[.slice Bh1 N dh1, .slice Bh2 N dh2] W' fun e w' => e = .returned (.bool true) ∧ Below W'.heap.size W' w') := fun W' hW' => by
    have h := ints_any Bh1 Bh2 ps ps dh1 dh2 W' (HH1.out.below keeps_int hW') (HH2.out.below keeps_int hW') (by rw [HPL.out]; unfold maxLen; omega) (by rw [HPL.out]; unfold maxLen; omega)
    rw [HPL.out, decide_eq_true rfl] at h
    exact h
  clear hp1 hp2 hh1 hh2 hb1 hb2 hb12 hb0 g0 g1 gl a0 a1 a2 a3 al hd1 hd2 hdm1 hdm2
  go_wp2_with (first
    | (go_at_call 15; go_loud (refine (HPR.out _ hy0).mono ?_; rintro e X1 ⟨rfl, hy1⟩; have hx1 := bthen hy0 hy1; obtain ⟨⟨c0, c1, c2, c3_, c4⟩, d0, d1, d2, d3, d4⟩ := HC.out _ hx1))
    | (go_at_call 16; go_loud (refine (HRP.out _ hx1).mono ?_; rintro e X2 ⟨rfl, hy2⟩; have hx2 := bthen hx1 hy2; obtain ⟨⟨c0, c1, c2, c3_, c4⟩, d0, d1, d2, d3, d4⟩ := HC.out _ hx2))
    | (go_at_call 17; go_loud (refine (HIN.out _ hx2).mono ?_; rintro e X3 ⟨rfl, hy3⟩; have hx3 := bthen hx2 hy3)))
  go_ret
  exact ⟨rfl, bthen HBW.out (bthen HB2.out hx3)⟩
end Go.Proofs.Ytpajajffkbkeaaa
