/-
  The law PageGoesOn: for all inputs it returns true.
-/
import Derived.Test.YtpajajffkbkeaaaPgLaw
import Derived.Deep.DeepCutAuto
namespace Go.Proofs.Ytpajajffkbkeaaa
open Go Go.RowKit

set_option maxRecDepth 100000 in
set_option maxHeartbeats 16000000 in
theorem pageGoesOn_any (A : Option Addr) (l : List T3) (c : Nat) (x : Int) (pa pb pc : Int) (w : World) (hs : SlR 3 RT3 w A l) (hl : l.length ≤ maxLen) (hok : ∀ p ∈ l, T3OK p) (hx : 0 ≤ x ∧ x ≤ 255)
    (hpa : 0 ≤ pa ∧ pa ≤ 255) (hpb : 0 ≤ pb ∧ pb ≤ 255) (hpc : 0 ≤ pc ∧ pc ≤ 255) :
    Calls Try.prog 5 #[.agg #[.int .u8 x, .slice A l.length c], .agg #[.int .u8 pa, .int .u8 pb, .int .u8 pc]] w fun e w' => e = .returned (.bool true) ∧ Below w.heap.size w w' := by
  obtain ⟨w1, hw1⟩ : ∃ w1, ((w.alloc (.cells #[.int .u8 x, .slice A l.length c] 24)).alloc (.cells #[.int .u8 pa, .int .u8 pb, .int .u8 pc] 47)) = w1 := ⟨_, rfl⟩
  have hb1 : Below w.heap.size w w1 := by rw [← hw1]; exact nw _ (nw _ (Below.refl _ _))
  have hX0 : Blk w1 (w.heap.size) 24 #[.int .u8 x, .slice A l.length c] := by rw [← hw1]; exact (Blk.new _ _ _).alloc _
  have hX1 : Blk w1 (w.heap.size + 1) 47 #[.int .u8 pa, .int .u8 pb, .int .u8 pc] := by rw [← hw1]; exact Blk.new_ (by simp)
  have HW1 := Lib.hid hw1
  have HMD : Hid (∀ W, Below w.heap.size w W → Calls Try.prog 10 #[.agg #[.int .u8 x, .slice A l.length c]] W fun e w' => ∃ A' c', e = .returned (.agg #[.int .i64 (madeG x l).n, .slice A' (madeG x l).ls.length c']) ∧ (madeG x l).ls.length ≤ c' ∧ c' ≤ maxLen ∧ SlR 4 RLk w' A' (madeG x l).ls ∧ Below W.heap.size W w') :=
    fun W hW => made_any A l c x W (hs.below keeps_t3 hW) hl hx hok
  have hg : GrOK (madeG x l) := madeG_ok hok
  have h14 : (madeG x l).ls.length ≤ 14 := madeG_len x l
  have hn7 : 1 ≤ (madeG x l).n ∧ (madeG x l).n ≤ 7 := madeG_n x l
  generalize madeG x l = g at *
  obtain ⟨N, hN⟩ : ∃ N : Nat, g.n = (N : Int) := ⟨g.n.toNat, by omega⟩
  rw [hN] at HMD
  have HN := Lib.hid hN
  have HG := Lib.hid hg
  have hN1 : 1 ≤ N := by omega
  have hN7 : N ≤ 7 := by omega
  have hlt1 := hX0.lt
  have HN7 : Hid (1 ≤ g.n ∧ g.n ≤ 7) := by show _ ∧ _; omega
  clear hw1 hs hok hN hg hn7
  have hbx0 := hX0.cell 0
  have hbx1 := hX0.cell 1
  simp at hbx0 hbx1
  go_enter Try.func5, Try.ntmps5
  go_upto_region 1 with fail
  rw [HW1.out]
  go_upto_region 2 with (go_at_call 9; go_loud (refine (sanity19_any _).mono ?_; rintro e w2 ⟨rfl, hb2⟩))
  have hX0 := hX0.below hb2 hX0.lt
  have hX1 := hX1.below hb2 hX1.lt
  have hbx0 := hX0.cell 0
  have hbx1 := hX0.cell 1
  simp at hbx0 hbx1
  have hbw2 := bthen hb1 hb2
  go_upto_region 3 with (go_at_call 10; go_loud (refine (HMD.out _ hbw2).mono ?_; rintro e w3 ⟨A3, c3, rfl, hc3, hcm3, hs3, hb3⟩))
  obtain ⟨W, hW⟩ : ∃ W, w3.alloc (.cells #[.int .i64 (N : Int), .slice A3 g.ls.length c3] 29) = W := ⟨_, rfl⟩
  have hb4 : Below w3.heap.size w3 W := by rw [← hW]; exact nw _ (Below.refl _ _)
  have hGB : Blk W w3.heap.size 29 #[.int .i64 (N : Int), .slice A3 g.ls.length c3] := by rw [← hW]; exact Blk.new _ _ _
  rw [hW]
  obtain ⟨bG, hbG⟩ : ∃ b, w3.heap.size = b := ⟨_, rfl⟩
  have hb34 := bthen hb3 hb4
  have hX0 := hX0.below hb34 hX0.lt
  have hX1 := hX1.below hb34 hX1.lt
  have hbw := bthen hbw2 hb34
  have hls := hs3.below keeps_lk hb4
  have hwG : w.heap.size ≤ bG := by have := hbw2.size; have := hb3.size; omega
  rw [hbG] at hGB ⊢
  have hlm : g.ls.length ≤ maxLen := by unfold maxLen; omega
  clear hbx0 hbx1 hW hbG hb4 hb34 hbw2 hb2 hb3 hs3 hb1 HMD HW1
  have HG4 : Hid (∀ W', Below W.heap.size W W' → W'.cell? ⟨bG, 0, none⟩ = some (.int .i64 (N : Int)) ∧ W'.cell? ⟨bG, 1, none⟩ = some (.slice A3 g.ls.length c3) ∧ bG < W'.heap.size) := fun W' hW' => by
    have h1 := hGB.below hW' hGB.lt
    have e0 := h1.cell 0
    have e1 := h1.cell 1
    simp at e0 e1
    exact ⟨e0, e1, h1.lt⟩
  have HLS : Hid (∀ W', Below W.heap.size W W' → SlR 4 RLk W' A3 g.ls) := fun W' hW' => hls.below keeps_lk hW'
  have hpl : (potL g).length = N := by have := potL_len HG.out; have := HN.out; omega
  have a0 := hX1.cell 0
  have a1 := hX1.cell 1
  have a2 := hX1.cell 2
  have al := hX1.lt
  simp at a0 a1 a2
  obtain ⟨p, hp⟩ : ∃ q : Nat, pa % 20 = (q : Int) := ⟨(pa % 20).toNat, by omega⟩
  have hpb : p ≤ 19 := by omega
  have hpt : pa.tmod 20 = (p : Int) := by rw [Int.tmod_eq_emod_of_nonneg (by omega)]; exact hp
  have hpw : IntKind.u8.wrap (p : Int) = (p : Int) := by simp [IntKind.wrap, IntKind.bits, IntKind.signed]; omega
  have hpv : IntKind.i64.wrap (p : Int) = (p : Int) := IntWalk.i64_in _ (by omega)
  clear hp
  obtain ⟨q, hq⟩ : ∃ q : Nat, pb % 20 = (q : Int) := ⟨(pb % 20).toNat, by omega⟩
  have hqb : q ≤ 19 := by omega
  have hqt : pb.tmod 20 = (q : Int) := by rw [Int.tmod_eq_emod_of_nonneg (by omega)]; exact hq
  have hqw : IntKind.u8.wrap (q : Int) = (q : Int) := by simp [IntKind.wrap, IntKind.bits, IntKind.signed]; omega
  have hqv : IntKind.i64.wrap (q : Int) = (q : Int) := IntWalk.i64_in _ (by omega)
  clear hq
  obtain ⟨s, hs⟩ : ∃ q : Nat, pc % 20 = (q : Int) := ⟨(pc % 20).toNat, by omega⟩
  have hsb : s ≤ 19 := by omega
  have hst : pc.tmod 20 = (s : Int) := by rw [Int.tmod_eq_emod_of_nonneg (by omega)]; exact hs
  have hsw : IntKind.u8.wrap (s : Int) = (s : Int) := by simp [IntKind.wrap, IntKind.bits, IntKind.signed]; omega
  have hsv : IntKind.i64.wrap (s : Int) = (s : Int) := IntWalk.i64_in _ (by omega)
  clear hs
  obtain ⟨K, hK⟩ : ∃ K, (allR g).length = K := ⟨_, rfl⟩
  obtain ⟨pq, hpq⟩ : ∃ r, p + q = r := ⟨_, rfl⟩
  obtain ⟨qs, hqs⟩ : ∃ r, q + s = r := ⟨_, rfl⟩
  obtain ⟨pqs, hpqs⟩ : ∃ r, p + q + s = r := ⟨_, rfl⟩
  obtain ⟨t, ht⟩ : ∃ t, min pqs 50 = t := ⟨_, rfl⟩
  have hadd1 : IntKind.i64.wrap ((p : Int) + (q : Int)) = (pq : Int) := by rw [IntWalk.i64_in _ (by omega)]; omega
  have hadd2 : IntKind.i64.wrap ((q : Int) + (s : Int)) = (qs : Int) := by rw [IntWalk.i64_in _ (by omega)]; omega
  have hadd3 : IntKind.i64.wrap ((pq : Int) + (s : Int)) = (pqs : Int) := by rw [IntWalk.i64_in _ (by omega)]; omega
  have hmin : min (pqs : Int) 50 = (t : Int) := by omega
  have hwp := want_k HN7.out (k := p) (by omega)
  have hwq := want_k HN7.out (k := q) (by omega)
  have hws := want_k HN7.out (k := s) (by omega)
  have hwqs := want_k HN7.out (k := qs) (by omega)
  have hwt := want_k HN7.out (k := t) (by omega)
  have HMA : Hid (∀ W', Below W.heap.size W W' → Calls Try.prog 11 #[(.agg #[.int .i64 (N : Int), .slice A3 g.ls.length c3]), .int .i64 (p : Int), .int .i64 1000] W' fun e w' => ∃ A c B d, e = .returned (.agg #[.slice A (pgL g p).length c, .bool (pgWh g p), .slice B N d, .int .i64 0]) ∧ PgIn w' A c (pgL g p) ∧ SlR 1 RInt w' B (potL g) ∧ N ≤ d ∧ d ≤ maxLen ∧ Below W'.heap.size W' w') := fun W' hW' => by
    have h := lmade_any A3 c3 g (p : Int) 1000 p W' (HLS.out _ hW') HG.out h14 (by omega) (by omega) (by assumption)
    rw [HN.out, hpl] at h
    exact h
  have HMT : Hid (∀ W', Below W.heap.size W W' → Calls Try.prog 11 #[(.agg #[.int .i64 (N : Int), .slice A3 g.ls.length c3]), .int .i64 (t : Int), .int .i64 1000] W' fun e w' => ∃ A c B d, e = .returned (.agg #[.slice A (pgL g t).length c, .bool (pgWh g t), .slice B N d, .int .i64 0]) ∧ PgIn w' A c (pgL g t) ∧ SlR 1 RInt w' B (potL g) ∧ N ≤ d ∧ d ≤ maxLen ∧ Below W'.heap.size W' w') := fun W' hW' => by
    have h := lmade_any A3 c3 g (t : Int) 1000 t W' (HLS.out _ hW') HG.out h14 (by omega) (by omega) (by assumption)
    rw [HN.out, hpl] at h
    exact h
  have HM1 : Hid (∀ W' C e, Below W.heap.size W W' → PgIn W' C e (pgL g p) → Calls Try.prog 14 #[(.agg #[.int .i64 (N : Int), .slice A3 g.ls.length c3]), .agg #[.slice C (pgL g p).length e, .bool (pgWh g p)], .int .i64 (q : Int), .int .i64 1000] W' fun e w' => ∃ A c, e = .returned (.tuple #[.agg #[.slice A (pgL g pq).length c, .bool (pgWh g pq)], .int .i64 0]) ∧ PgIn w' A c (pgL g pq) ∧ Below W'.heap.size W' w') := fun W' C e hW' hp => by
    have h := lmore_any A3 c3 g C e p (q : Int) 1000 q W' (HLS.out _ hW') HG.out h14 (by omega) (by omega) hp hwq pq (by rw [hK]; omega)
    rw [HN.out] at h
    exact h
  have HM2 : Hid (∀ W' C e, Below W.heap.size W W' → PgIn W' C e (pgL g pq) → Calls Try.prog 14 #[(.agg #[.int .i64 (N : Int), .slice A3 g.ls.length c3]), .agg #[.slice C (pgL g pq).length e, .bool (pgWh g pq)], .int .i64 (s : Int), .int .i64 1000] W' fun e w' => ∃ A c, e = .returned (.tuple #[.agg #[.slice A (pgL g t).length c, .bool (pgWh g t)], .int .i64 0]) ∧ PgIn w' A c (pgL g t) ∧ Below W'.heap.size W' w') := fun W' C e hW' hp => by
    have h := lmore_any A3 c3 g C e pq (s : Int) 1000 s W' (HLS.out _ hW') HG.out h14 (by omega) (by omega) hp hws t (by rw [hK]; omega)
    rw [HN.out] at h
    exact h
  have HM3 : Hid (∀ W' C e, Below W.heap.size W W' → PgIn W' C e (pgL g p) → Calls Try.prog 14 #[(.agg #[.int .i64 (N : Int), .slice A3 g.ls.length c3]), .agg #[.slice C (pgL g p).length e, .bool (pgWh g p)], .int .i64 (qs : Int), .int .i64 1000] W' fun e w' => ∃ A c, e = .returned (.tuple #[.agg #[.slice A (pgL g t).length c, .bool (pgWh g t)], .int .i64 0]) ∧ PgIn w' A c (pgL g t) ∧ Below W'.heap.size W' w') := fun W' C e hW' hp => by
    have h := lmore_any A3 c3 g C e p (qs : Int) 1000 qs W' (HLS.out _ hW') HG.out h14 (by omega) (by omega) hp hwqs t (by rw [hK]; omega)
    rw [HN.out] at h
    exact h
  have HPR1 : Hid (prefB (pgL g p) (pgWh g p) (pgL g pq) (pgWh g pq) = true) := pg_pre (by omega)
  have HPR2 : Hid (prefB (pgL g pq) (pgWh g pq) (pgL g t) (pgWh g t) = true) := pg_pre (by omega)
  have HBW := Lib.hid hbw
  generalize pgL g p = L1 at *
  generalize pgWh g p = wh1 at *
  generalize pgL g pq = L2 at *
  generalize pgWh g pq = wh2 at *
  generalize pgL g t = Lt at *
  generalize pgWh g t = wht at *
  generalize potL g = ps at *
  have hb0 : Below W.heap.size W W := Below.refl _ _
  have hG0 := HG4.out _ hb0
  clear hX0 hX1 hGB hls hlm hbw hpl hK hpq hqs hpqs ht hwp hwq hws hwqs hwt HN7
  obtain ⟨g0, g1, gl⟩ := hG0
  go_upto_region 4 with fail
  obtain ⟨w5, hw5⟩ : ∃ V, W.alloc (.cells #[.int .i64 (p : Int), .int .i64 (q : Int), .int .i64 (s : Int)] 48) = V := ⟨_, rfl⟩
  have hb5 : Below W.heap.size W w5 := by rw [← hw5]; exact nw _ (Below.refl _ _)
  have hN5 : Blk w5 W.heap.size 48 #[.int .i64 (p : Int), .int .i64 (q : Int), .int .i64 (s : Int)] := by rw [← hw5]; exact Blk.new _ _ _
  rw [hw5]
  obtain ⟨bn, hbn⟩ : ∃ b, W.heap.size = b := ⟨_, rfl⟩
  have HNB : Hid (∀ W', Below w5.heap.size w5 W' → W'.cell? ⟨bn, 0, none⟩ = some (.int .i64 (p : Int)) ∧ W'.cell? ⟨bn, 1, none⟩ = some (.int .i64 (q : Int)) ∧ W'.cell? ⟨bn, 2, none⟩ = some (.int .i64 (s : Int)) ∧ bn < W'.heap.size) := fun W' hW' => by
    have h1 := hN5.below hW' hN5.lt
    rw [hbn] at h1
    exact ⟨by rw [h1.cell]; rfl, by rw [h1.cell]; rfl, by rw [h1.cell]; rfl, h1.lt⟩
  rw [hbn]
  clear hw5 hbn hN5 a0 a1 a2 al hb0
  have hd5 : Below w5.heap.size w5 w5 := Below.refl _ _
  obtain ⟨g0, g1, gl⟩ := HG4.out _ hb5
  obtain ⟨n0, n1, n2, nl⟩ := HNB.out _ hd5
  go_upto_region 5 with (go_at_call 11; go_loud (refine (HMA.out _ hb5).mono ?_; rintro e V1 ⟨Ap1, cp1, Bh1, dh1, rfl, hp1, hh1, hd1, hdm1, hv1⟩))
  obtain ⟨W1, hW1⟩ : ∃ V, V1.alloc (.cells #[.slice Ap1 L1.length cp1, .bool wh1, .slice Bh1 N dh1, .int .i64 0] 37) = V := ⟨_, rfl⟩
  have hx1 : Below V1.heap.size V1 W1 := by rw [← hW1]; exact nw _ (Below.refl _ _)
  have hX1 : Blk W1 V1.heap.size 37 #[.slice Ap1 L1.length cp1, .bool wh1, .slice Bh1 N dh1, .int .i64 0] := by rw [← hW1]; exact Blk.new _ _ _
  rw [hW1]
  obtain ⟨k1, hk1⟩ : ∃ b, V1.heap.size = b := ⟨_, rfl⟩
  rw [hk1] at hX1 ⊢
  have hp1 := hp1.mono hx1
  have hh1 := hh1.below keeps_int hx1
  have hs1 := bthen hv1 hx1
  have hb1 := bthen hb5 hs1
  have HBX1 : Hid (∀ W', Below W1.heap.size W1 W' → W'.cell? ⟨k1, 0, none⟩ = some (.slice Ap1 L1.length cp1) ∧ W'.cell? ⟨k1, 1, none⟩ = some (.bool wh1) ∧ W'.cell? ⟨k1, 2, none⟩ = some (.slice Bh1 N dh1) ∧ W'.cell? ⟨k1, 3, none⟩ = some (.int .i64 0) ∧ k1 < W'.heap.size) := fun W' hW' => by
    have h1 := hX1.below hW' hX1.lt
    exact ⟨by rw [h1.cell]; rfl, by rw [h1.cell]; rfl, by rw [h1.cell]; rfl, by rw [h1.cell]; rfl, h1.lt⟩
  clear hW1 hv1 hx1 hX1 hk1
  have hd1 := bthen hd5 hs1
  obtain ⟨g0, g1, gl⟩ := HG4.out _ hb1
  obtain ⟨n0, n1, n2, nl⟩ := HNB.out _ hd1
  have hr1 : Below W1.heap.size W1 W1 := Below.refl _ _
  obtain ⟨m0, m1, m2, m3, ml⟩ := HBX1.out _ hr1
  go_upto_region 6 with (go_at_call 14; go_loud (refine (HM1.out _ _ _ hb1 hp1).mono ?_; rintro e V2 ⟨Ap2, cp2, rfl, hp2, hv2⟩))
  obtain ⟨W2, hW2⟩ : ∃ V, V2.alloc (.cells #[.slice Ap2 L2.length cp2, .bool wh2] 33) = V := ⟨_, rfl⟩
  have hx2 : Below V2.heap.size V2 W2 := by rw [← hW2]; exact nw _ (Below.refl _ _)
  have hX2 : Blk W2 V2.heap.size 33 #[.slice Ap2 L2.length cp2, .bool wh2] := by rw [← hW2]; exact Blk.new _ _ _
  rw [hW2]
  obtain ⟨k2, hk2⟩ : ∃ b, V2.heap.size = b := ⟨_, rfl⟩
  rw [hk2] at hX2 ⊢
  have hp2 := hp2.mono hx2
  have hs2 := bthen hv2 hx2
  have hb2 := bthen hb1 hs2
  have HBX2 : Hid (∀ W', Below W2.heap.size W2 W' → W'.cell? ⟨k2, 0, none⟩ = some (.slice Ap2 L2.length cp2) ∧ W'.cell? ⟨k2, 1, none⟩ = some (.bool wh2) ∧ k2 < W'.heap.size) := fun W' hW' => by
    have h1 := hX2.below hW' hX2.lt
    exact ⟨by rw [h1.cell]; rfl, by rw [h1.cell]; rfl, h1.lt⟩
  clear hW2 hv2 hx2 hX2 hk2
  have hd2 := bthen hd1 hs2
  have hr2 := bthen hr1 hs2
  have ht2 : Below W2.heap.size W2 W2 := Below.refl _ _
  obtain ⟨g0, g1, gl⟩ := HG4.out _ hb2
  obtain ⟨n0, n1, n2, nl⟩ := HNB.out _ hd2
  obtain ⟨m0, m1, m2, m3, ml⟩ := HBX1.out _ hr2
  obtain ⟨o0, o1, ol⟩ := HBX2.out _ ht2
  go_upto_region 7 with (go_at_call 14; go_loud (refine (HM2.out _ _ _ hb2 hp2).mono ?_; rintro e V3 ⟨Ap3, cp3, rfl, hp3, hv3⟩))
  obtain ⟨W3, hW3⟩ : ∃ V, V3.alloc (.cells #[.slice Ap3 Lt.length cp3, .bool wht] 33) = V := ⟨_, rfl⟩
  have hx3 : Below V3.heap.size V3 W3 := by rw [← hW3]; exact nw _ (Below.refl _ _)
  have hX3 : Blk W3 V3.heap.size 33 #[.slice Ap3 Lt.length cp3, .bool wht] := by rw [← hW3]; exact Blk.new _ _ _
  rw [hW3]
  obtain ⟨k3, hk3⟩ : ∃ b, V3.heap.size = b := ⟨_, rfl⟩
  rw [hk3] at hX3 ⊢
  have hp3 := hp3.mono hx3
  have hs3 := bthen hv3 hx3
  have hb3 := bthen hb2 hs3
  have HBX3 : Hid (∀ W', Below W3.heap.size W3 W' → W'.cell? ⟨k3, 0, none⟩ = some (.slice Ap3 Lt.length cp3) ∧ W'.cell? ⟨k3, 1, none⟩ = some (.bool wht) ∧ k3 < W'.heap.size) := fun W' hW' => by
    have h1 := hX3.below hW' hX3.lt
    exact ⟨by rw [h1.cell]; rfl, by rw [h1.cell]; rfl, h1.lt⟩
  clear hW3 hv3 hx3 hX3 hk3
  have hd3 := bthen hd2 hs3
  have hr3 := bthen hr2 hs3
  have ht3 := bthen ht2 hs3
  have hu3 : Below W3.heap.size W3 W3 := Below.refl _ _
  obtain ⟨g0, g1, gl⟩ := HG4.out _ hb3
  obtain ⟨n0, n1, n2, nl⟩ := HNB.out _ hd3
  obtain ⟨m0, m1, m2, m3, ml⟩ := HBX1.out _ hr3
  go_upto_region 8 with (go_at_call 14; go_loud (refine (HM3.out _ _ _ hb3 (hp1.mono hr3)).mono ?_; rintro e V4 ⟨Ap4, cp4, rfl, hp4, hv4⟩))
  obtain ⟨W4, hW4⟩ : ∃ V, V4.alloc (.cells #[.slice Ap4 Lt.length cp4, .bool wht] 33) = V := ⟨_, rfl⟩
  have hx4 : Below V4.heap.size V4 W4 := by rw [← hW4]; exact nw _ (Below.refl _ _)
  have hX4 : Blk W4 V4.heap.size 33 #[.slice Ap4 Lt.length cp4, .bool wht] := by rw [← hW4]; exact Blk.new _ _ _
  rw [hW4]
  obtain ⟨k4, hk4⟩ : ∃ b, V4.heap.size = b := ⟨_, rfl⟩
  rw [hk4] at hX4 ⊢
  have hp4 := hp4.mono hx4
  have hs4 := bthen hv4 hx4
  have hb4 := bthen hb3 hs4
  have HBX4 : Hid (∀ W', Below W4.heap.size W4 W' → W'.cell? ⟨k4, 0, none⟩ = some (.slice Ap4 Lt.length cp4) ∧ W'.cell? ⟨k4, 1, none⟩ = some (.bool wht) ∧ k4 < W'.heap.size) := fun W' hW' => by
    have h1 := hX4.below hW' hX4.lt
    exact ⟨by rw [h1.cell]; rfl, by rw [h1.cell]; rfl, h1.lt⟩
  clear hW4 hv4 hx4 hX4 hk4
  have hd4 := bthen hd3 hs4
  have hr4 := bthen hr3 hs4
  have ht4 := bthen ht3 hs4
  have hu4 := bthen hu3 hs4
  have hv4 : Below W4.heap.size W4 W4 := Below.refl _ _
  obtain ⟨g0, g1, gl⟩ := HG4.out _ hb4
  obtain ⟨n0, n1, n2, nl⟩ := HNB.out _ hd4
  go_upto_region 9 with (go_at_call 11; go_loud (refine (HMT.out _ hb4).mono ?_; rintro e V5 ⟨Ap5, cp5, Bh5, dh5, rfl, hp5, hh5, hd5, hdm5, hv5⟩))
  obtain ⟨W5, hW5⟩ : ∃ V, V5.alloc (.cells #[.slice Ap5 Lt.length cp5, .bool wht, .slice Bh5 N dh5, .int .i64 0] 37) = V := ⟨_, rfl⟩
  have hx5 : Below V5.heap.size V5 W5 := by rw [← hW5]; exact nw _ (Below.refl _ _)
  have hX5 : Blk W5 V5.heap.size 37 #[.slice Ap5 Lt.length cp5, .bool wht, .slice Bh5 N dh5, .int .i64 0] := by rw [← hW5]; exact Blk.new _ _ _
  rw [hW5]
  obtain ⟨k5, hk5⟩ : ∃ b, V5.heap.size = b := ⟨_, rfl⟩
  rw [hk5] at hX5 ⊢
  have hp5 := hp5.mono hx5
  have hh5 := hh5.below keeps_int hx5
  have hs5 := bthen hv5 hx5
  have hb5_ := bthen hb4 hs5
  have HBX5 : Hid (∀ W', Below W5.heap.size W5 W' → W'.cell? ⟨k5, 0, none⟩ = some (.slice Ap5 Lt.length cp5) ∧ W'.cell? ⟨k5, 1, none⟩ = some (.bool wht) ∧ W'.cell? ⟨k5, 2, none⟩ = some (.slice Bh5 N dh5) ∧ W'.cell? ⟨k5, 3, none⟩ = some (.int .i64 0) ∧ k5 < W'.heap.size) := fun W' hW' => by
    have h1 := hX5.below hW' hX5.lt
    exact ⟨by rw [h1.cell]; rfl, by rw [h1.cell]; rfl, by rw [h1.cell]; rfl, by rw [h1.cell]; rfl, h1.lt⟩
  clear hW5 hv5 hx5 hX5 hk5
  have hr5 := bthen hr4 hs5
  have ht5 := bthen ht4 hs5
  have hu5 := bthen hu4 hs5
  have hv5 := bthen hv4 hs5
  have HP1 := Lib.hid (hp1.mono hr5)
  have HP2 := Lib.hid (hp2.mono ht5)
  have HP3 := Lib.hid (hp3.mono hu5)
  have HP4 := Lib.hid (hp4.mono hv5)
  have HP5 := Lib.hid hp5
  have HC : Hid (∀ W', Below W5.heap.size W5 W' → (W'.cell? ⟨k1, 0, none⟩ = some (.slice Ap1 L1.length cp1) ∧ W'.cell? ⟨k1, 1, none⟩ = some (.bool wh1) ∧ W'.cell? ⟨k1, 2, none⟩ = some (.slice Bh1 N dh1) ∧ W'.cell? ⟨k1, 3, none⟩ = some (.int .i64 0) ∧ k1 < W'.heap.size) ∧
      (W'.cell? ⟨k2, 0, none⟩ = some (.slice Ap2 L2.length cp2) ∧ W'.cell? ⟨k2, 1, none⟩ = some (.bool wh2) ∧ k2 < W'.heap.size) ∧ (W'.cell? ⟨k3, 0, none⟩ = some (.slice Ap3 Lt.length cp3) ∧ W'.cell? ⟨k3, 1, none⟩ = some (.bool wht) ∧ k3 < W'.heap.size) ∧ (W'.cell? ⟨k4, 0, none⟩ = some (.slice Ap4 Lt.length cp4) ∧ W'.cell? ⟨k4, 1, none⟩ = some (.bool wht) ∧ k4 < W'.heap.size) ∧
      (W'.cell? ⟨k5, 0, none⟩ = some (.slice Ap5 Lt.length cp5) ∧ W'.cell? ⟨k5, 1, none⟩ = some (.bool wht) ∧ W'.cell? ⟨k5, 2, none⟩ = some (.slice Bh5 N dh5) ∧ W'.cell? ⟨k5, 3, none⟩ = some (.int .i64 0) ∧ k5 < W'.heap.size)) := fun W' hW' => ⟨HBX1.out _ (bthen hr5 hW'), HBX2.out _ (bthen ht5 hW'), HBX3.out _ (bthen hu5 hW'), HBX4.out _ (bthen hv5 hW'), HBX5.out _ hW'⟩
  have HB5 := Lib.hid hb5_
  have hy0 : Below W5.heap.size W5 W5 := Below.refl _ _
  obtain ⟨⟨c0, c1, c2, c3_, c4⟩, ⟨d0, d1, d2⟩, ⟨e0, e1, e2⟩, ⟨f0, f1, f2⟩, h0, h1, h2, h3, h4⟩ := HC.out _ hy0
  have HS1 : Hid (∀ W', Below W5.heap.size W5 W' → Calls Try.prog 18 #[.agg #[.slice Ap3 Lt.length cp3, .bool wht], .agg #[.slice Ap5 Lt.length cp5, .bool wht]] W' fun e w' => e = .returned (.bool true) ∧ Below W'.heap.size W' w') := fun W' hW' => san_same (HP3.out.mono hW') (HP5.out.mono hW') wht wht (by simp) _ _ rfl rfl
  have HS2 : Hid (∀ W', Below W5.heap.size W5 W' → Calls Try.prog 18 #[.agg #[.slice Ap4 Lt.length cp4, .bool wht], .agg #[.slice Ap5 Lt.length cp5, .bool wht]] W' fun e w' => e = .returned (.bool true) ∧ Below W'.heap.size W' w') := fun W' hW' => san_same (HP4.out.mono hW') (HP5.out.mono hW') wht wht (by simp) _ _ rfl rfl
  have HS3 : Hid (∀ W', Below W5.heap.size W5 W' → Calls Try.prog 15 #[.agg #[.slice Ap1 L1.length cp1, .bool wh1], .agg #[.slice Ap2 L2.length cp2, .bool wh2]] W' fun e w' => e = .returned (.bool true) ∧ Below W'.heap.size W' w') := fun W' hW' => san_pre (HP1.out.mono hW') (HP2.out.mono hW') wh1 wh2 true HPR1.out _ _ rfl rfl
  have HS4 : Hid (∀ W', Below W5.heap.size W5 W' → Calls Try.prog 15 #[.agg #[.slice Ap2 L2.length cp2, .bool wh2], .agg #[.slice Ap3 Lt.length cp3, .bool wht]] W' fun e w' => e = .returned (.bool true) ∧ Below W'.heap.size W' w') := fun W' hW' => san_pre (HP2.out.mono hW') (HP3.out.mono hW') wh2 wht true HPR2.out _ _ rfl rfl
  clear hp1 hp2 hp3 hp4 hp5 hh1 hh5 hb1 hb2 hb3 hb4 hb5 hb5_ hd1 hd2 hd3 hd4 hd5 hr1 hr2 hr3 hr4 hr5 ht2 ht3 ht4 ht5 hu3 hu4 hu5 hv4 hv5 hs1 hs2 hs3 hs4 hs5 g0 g1 gl n0 n1 n2 nl m0 m1 m2 m3 ml o0 o1 ol
  go_wp2_with (first
    | (go_at_call 18; ((with_reducible refine (HS1.out _ hy0).mono ?_); rintro e X1 ⟨rfl, hy1⟩; have hx1 := bthen hy0 hy1; obtain ⟨⟨c0, c1, c2, c3_, c4⟩, ⟨d0, d1, d2⟩, ⟨e0, e1, e2⟩, ⟨f0, f1, f2⟩, h0, h1, h2, h3, h4⟩ := HC.out _ hx1))
    | (go_at_call 18; ((with_reducible refine (HS2.out _ hx1).mono ?_); rintro e X2 ⟨rfl, hy2⟩; have hx2 := bthen hx1 hy2; obtain ⟨⟨c0, c1, c2, c3_, c4⟩, ⟨d0, d1, d2⟩, ⟨e0, e1, e2⟩, ⟨f0, f1, f2⟩, h0, h1, h2, h3, h4⟩ := HC.out _ hx2))
    | (go_at_call 15; ((with_reducible refine (HS3.out _ hx2).mono ?_); rintro e X3 ⟨rfl, hy3⟩; have hx3 := bthen hx2 hy3; obtain ⟨⟨c0, c1, c2, c3_, c4⟩, ⟨d0, d1, d2⟩, ⟨e0, e1, e2⟩, ⟨f0, f1, f2⟩, h0, h1, h2, h3, h4⟩ := HC.out _ hx3))
    | (go_at_call 15; ((with_reducible refine (HS4.out _ hx3).mono ?_); rintro e X4 ⟨rfl, hy4⟩; have hx4 := bthen hx3 hy4)))
  go_ret
  exact ⟨rfl, bthen HBW.out (bthen HB5.out hx4)⟩
end Go.Proofs.Ytpajajffkbkeaaa
