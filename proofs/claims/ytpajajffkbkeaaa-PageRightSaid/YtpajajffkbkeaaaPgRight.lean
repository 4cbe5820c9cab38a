/-
  The law PageRight: for all inputs it returns true.
-/
import Derived.Test.YtpajajffkbkeaaaPgLaw
import Derived.Deep.DeepCutAuto
namespace Go.Proofs.Ytpajajffkbkeaaa
open Go Go.RowKit

set_option maxRecDepth 100000 in
set_option maxHeartbeats 16000000 in
theorem pageRight_any (A : Option Addr) (l : List T3) (c : Nat) (x : Int) (pa pb pc pd : Int) (w : World) (hs : SlR 3 RT3 w A l) (hl : l.length ≤ maxLen) (hok : ∀ p ∈ l, T3OK p) (hx : 0 ≤ x ∧ x ≤ 255)
    (hpa : 0 ≤ pa ∧ pa ≤ 255) (hpb : 0 ≤ pb ∧ pb ≤ 255) (hpc : 0 ≤ pc ∧ pc ≤ 255) (hpd : 0 ≤ pd ∧ pd ≤ 255) :
    Calls Try.prog 3 #[.agg #[.int .u8 x, .slice A l.length c], .agg #[.int .u8 pa, .int .u8 pb, .int .u8 pc, .int .u8 pd]] w fun e w' => e = .returned (.bool true) ∧ Below w.heap.size w w' := by
  obtain ⟨w1, hw1⟩ : ∃ w1, ((w.alloc (.cells #[.int .u8 x, .slice A l.length c] 24)).alloc (.cells #[.int .u8 pa, .int .u8 pb, .int .u8 pc, .int .u8 pd] 25)) = w1 := ⟨_, rfl⟩
  have hb1 : Below w.heap.size w w1 := by rw [← hw1]; exact nw _ (nw _ (Below.refl _ _))
  have hX0 : Blk w1 (w.heap.size) 24 #[.int .u8 x, .slice A l.length c] := by rw [← hw1]; exact (Blk.new _ _ _).alloc _
  have hX1 : Blk w1 (w.heap.size + 1) 25 #[.int .u8 pa, .int .u8 pb, .int .u8 pc, .int .u8 pd] := by rw [← hw1]; exact Blk.new_ (by simp)
  have HW1 := Lib.hid hw1
  have HMD : Hid (∀ W, Below w.heap.size w W → Calls Try.prog 10 #[.agg #[.int .u8 x, .slice A l.length c]] W fun e w' => ∃ A' c', e = .returned (.agg #[.int .i64 (madeG x l).n, .slice A' (madeG x l).ls.length c']) ∧ (madeG x l).ls.length ≤ c' ∧ c' ≤ maxLen ∧ SlR 4 RLk w' A' (madeG x l).ls ∧ Below W.heap.size W w') :=
    fun W hW => made_any A l c x W (hs.below keeps_t3 hW) hl hx hok
  have hg : GrOK (madeG x l) := madeG_ok hok
  have h14 : (madeG x l).ls.length ≤ 14 := madeG_len x l
  have hn7 : 1 ≤ (madeG x l).n ∧ (madeG x l).n ≤ 7 := madeG_n x l
  generalize madeG x l = g at *
  obtain ⟨N, hN⟩ : ∃ N : Nat, g.n = (N : Int) := ⟨g.n.toNat, by omega⟩
  rw [hN] at HMD
  have HN := Lib.hid hN
  have HG := Lib.hid hg
  have hN1 : 1 ≤ N := by omega
  have hN7 : N ≤ 7 := by omega
  have hlt1 := hX0.lt
  clear hw1 hs hok hN hg hn7
  have hbx0 := hX0.cell 0
  have hbx1 := hX0.cell 1
  simp at hbx0 hbx1
  go_enter Try.func3, Try.ntmps3
  go_upto_region 1 with fail
  rw [HW1.out]
  go_upto_region 2 with (go_at_call 9; go_loud (refine (sanity19_any _).mono ?_; rintro e w2 ⟨rfl, hb2⟩))
  have hX0 := hX0.below hb2 hX0.lt
  have hX1 := hX1.below hb2 hX1.lt
  have hbx0 := hX0.cell 0
  have hbx1 := hX0.cell 1
  simp at hbx0 hbx1
  have hbw2 := bthen hb1 hb2
  go_upto_region 3 with (go_at_call 10; go_loud (refine (HMD.out _ hbw2).mono ?_; rintro e w3 ⟨A3, c3, rfl, hc3, hcm3, hs3, hb3⟩))
  obtain ⟨W, hW⟩ : ∃ W, w3.alloc (.cells #[.int .i64 (N : Int), .slice A3 g.ls.length c3] 29) = W := ⟨_, rfl⟩
  have hb4 : Below w3.heap.size w3 W := by rw [← hW]; exact nw _ (Below.refl _ _)
  have hGB : Blk W w3.heap.size 29 #[.int .i64 (N : Int), .slice A3 g.ls.length c3] := by rw [← hW]; exact Blk.new _ _ _
  rw [hW]
  obtain ⟨bG, hbG⟩ : ∃ b, w3.heap.size = b := ⟨_, rfl⟩
  have hb34 := bthen hb3 hb4
  have hX0 := hX0.below hb34 hX0.lt
  have hX1 := hX1.below hb34 hX1.lt
  have hbw := bthen hbw2 hb34
  have hls := hs3.below keeps_lk hb4
  have hwG : w.heap.size ≤ bG := by have := hbw2.size; have := hb3.size; omega
  rw [hbG] at hGB ⊢
  have hlm : g.ls.length ≤ maxLen := by unfold maxLen; omega
  clear hbx0 hbx1 hW hbG hb4 hb34 hbw2 hb2 hb3 hs3 hb1 HMD HW1
  have HG4 : Hid (∀ W', Below W.heap.size W W' → W'.cell? ⟨bG, 0, none⟩ = some (.int .i64 (N : Int)) ∧ W'.cell? ⟨bG, 1, none⟩ = some (.slice A3 g.ls.length c3) ∧ bG < W'.heap.size) := fun W' hW' => by
    have h1 := hGB.below hW' hGB.lt
    have e0 := h1.cell 0
    have e1 := h1.cell 1
    simp at e0 e1
    exact ⟨e0, e1, h1.lt⟩
  have HLS : Hid (∀ W', Below W.heap.size W W' → SlR 4 RLk W' A3 g.ls) := fun W' hW' => hls.below keeps_lk hW'
  have hpl : (potL g).length = N := by have := potL_len HG.out; have := HN.out; omega
  have a0 := hX1.cell 0
  have a1 := hX1.cell 1
  have a2 := hX1.cell 2
  have a3 := hX1.cell 3
  have al := hX1.lt
  simp at a0 a1 a2 a3
  obtain ⟨p, hp⟩ : ∃ q : Nat, pa % 51 = (q : Int) := ⟨(pa % 51).toNat, by omega⟩
  have hp_b : p ≤ 50 := by omega
  have hp_t : pa.tmod 51 = (p : Int) := by rw [Int.tmod_eq_emod_of_nonneg (by omega)]; exact hp
  have hp_w : IntKind.u8.wrap (p : Int) = (p : Int) := by simp [IntKind.wrap, IntKind.bits, IntKind.signed]; omega
  have hp_v : IntKind.i64.wrap (p : Int) = (p : Int) := IntWalk.i64_in _ (by omega)
  clear hp
  obtain ⟨s, hs⟩ : ∃ q : Nat, pc % 51 = (q : Int) := ⟨(pc % 51).toNat, by omega⟩
  have hs_b : s ≤ 50 := by omega
  have hs_t : pc.tmod 51 = (s : Int) := by rw [Int.tmod_eq_emod_of_nonneg (by omega)]; exact hs
  have hs_w : IntKind.u8.wrap (s : Int) = (s : Int) := by simp [IntKind.wrap, IntKind.bits, IntKind.signed]; omega
  have hs_v : IntKind.i64.wrap (s : Int) = (s : Int) := IntWalk.i64_in _ (by omega)
  clear hs
  have hwb : IntKind.i64.wrap pb = pb := IntWalk.i64_in _ (by omega)
  have hwd : IntKind.i64.wrap pd = pd := IntWalk.i64_in _ (by omega)
  obtain ⟨K, hK⟩ : ∃ K, (allR g).length = K := ⟨_, rfl⟩
  have hK168 : K ≤ 168 := by have := (allR_nW HG.out h14).1; have := (allR_nW HG.out h14).2; omega
  have hgN := HN.out
  have hdb := Int.ediv_nonneg hpb.1 (show (0 : Int) ≤ (N : Int) by omega)
  have hdd := Int.ediv_nonneg hpd.1 (show (0 : Int) ≤ (N : Int) by omega)
  have hdb2 : pb / (N : Int) ≤ pb := Int.ediv_le_self _ hpb.1
  have hdd2 : pd / (N : Int) ≤ pd := Int.ediv_le_self _ hpd.1
  obtain ⟨qb, hqb⟩ : ∃ q : Nat, pb / (N : Int) = (q : Int) := ⟨(pb / (N : Int)).toNat, by omega⟩
  obtain ⟨qd, hqd⟩ : ∃ q : Nat, pd / (N : Int) = (q : Int) := ⟨(pd / (N : Int)).toNat, by omega⟩
  have htb : pb.tdiv (N : Int) = (qb : Int) := by rw [Int.tdiv_eq_ediv_of_nonneg hpb.1]; exact hqb
  have htd : pd.tdiv (N : Int) = (qd : Int) := by rw [Int.tdiv_eq_ediv_of_nonneg hpd.1]; exact hqd
  have hwqb : IntKind.i64.wrap (qb : Int) = (qb : Int) := IntWalk.i64_in _ (by omega)
  have hwqd : IntKind.i64.wrap (qd : Int) = (qd : Int) := IntWalk.i64_in _ (by omega)
  obtain ⟨n1, hn1⟩ : ∃ n, wantN g (p : Int) pb = n := ⟨_, rfl⟩
  obtain ⟨n2, hn2⟩ : ∃ n, wantN g (s : Int) pd = n := ⟨_, rfl⟩
  have hn1e : n1 = min qb p := by rw [← hn1]; unfold wantN; rw [hgN, hqb]; omega
  have hn2e : n2 = min qd s := by rw [← hn2]; unfold wantN; rw [hgN, hqd]; omega
  obtain ⟨m1, hm1⟩ : ∃ m, min n1 K = m := ⟨_, rfl⟩
  obtain ⟨t, ht⟩ : ∃ m, min (m1 + n2) 50 = m := ⟨_, rfl⟩
  obtain ⟨u, hu⟩ : ∃ m, min t K = m := ⟨_, rfl⟩
  have HUK : Hid (m1 = K → u = K) := fun h => by omega
  have hN0 : ¬ (N : Int) = 0 := by omega
  have hN0n : ¬ N = 0 := by omega
  obtain ⟨v, hv⟩ : ∃ v, m1 + n2 = v := ⟨_, rfl⟩
  have hmA : (if (K : Int) < (if qb < p then (qb : Int) else (p : Int)) then (K : Int) else if qb < p then (qb : Int) else (p : Int)) = (m1 : Int) := by
    by_cases h1 : qb < p
    · rw [if_pos h1]; split <;> omega
    · rw [if_neg h1]; split <;> omega
  have hmA2 : (if (K : Int) < (if (qb : Int) < (p : Int) then (qb : Int) else (p : Int)) then (K : Int) else if (qb : Int) < (p : Int) then (qb : Int) else (p : Int)) = (m1 : Int) := by
    by_cases h1 : (qb : Int) < (p : Int)
    · rw [if_pos h1]; split <;> omega
    · rw [if_neg h1]; split <;> omega
  have hmC : min (s : Int) (qd : Int) = (n2 : Int) := by omega
  have hwm : IntKind.i64.wrap ((m1 : Int) + (n2 : Int)) = (v : Int) := by rw [IntWalk.i64_in _ (by omega)]; omega
  have hmD : (if (K : Int) < (if (50 : Int) < (v : Int) then (50 : Int) else (v : Int)) then (K : Int) else if (50 : Int) < (v : Int) then (50 : Int) else (v : Int)) = (u : Int) := by
    by_cases h1 : (50 : Int) < (v : Int)
    · rw [if_pos h1]; split <;> omega
    · rw [if_neg h1]; split <;> omega
  have hmE : (if (K : Int) < (if 50 < v then (50 : Int) else (v : Int)) then (K : Int) else if 50 < v then (50 : Int) else (v : Int)) = (u : Int) := by
    by_cases h1 : 50 < v
    · rw [if_pos h1]; split <;> omega
    · rw [if_neg h1]; split <;> omega
  have HMA : Hid (∀ W', Below W.heap.size W W' → Calls Try.prog 11 #[(.agg #[.int .i64 (N : Int), .slice A3 g.ls.length c3]), .int .i64 (p : Int), .int .i64 pb] W' fun e w' => ∃ A c B d, e = .returned (.agg #[.slice A (pgL g n1).length c, .bool (pgWh g n1), .slice B N d, .int .i64 0]) ∧ PgIn w' A c (pgL g n1) ∧ SlR 1 RInt w' B (potL g) ∧ N ≤ d ∧ d ≤ maxLen ∧ Below W'.heap.size W' w') := fun W' hW' => by
    have h := lmade_any A3 c3 g (p : Int) pb n1 W' (HLS.out _ hW') HG.out h14 (by omega) (by omega) (by assumption)
    rw [HN.out, hpl] at h
    exact h
  have HMO : Hid (∀ W' C e, Below W.heap.size W W' → PgIn W' C e (pgL g n1) → Calls Try.prog 14 #[(.agg #[.int .i64 (N : Int), .slice A3 g.ls.length c3]), .agg #[.slice C (pgL g n1).length e, .bool (pgWh g n1)], .int .i64 (s : Int), .int .i64 pd] W' fun e w' => ∃ A c, e = .returned (.tuple #[.agg #[.slice A (pgL g t).length c, .bool (pgWh g t)], .int .i64 0]) ∧ PgIn w' A c (pgL g t) ∧ Below W'.heap.size W' w') := fun W' C e hW' hp => by
    have h := lmore_any A3 c3 g C e n1 (s : Int) pd n2 W' (HLS.out _ hW') HG.out h14 (by omega) (by omega) hp hn2 t (by rw [hK]; omega)
    rw [HN.out] at h
    exact h
  have HNU : Hid (∀ W', Below W.heap.size W W' → Calls Try.prog 12 #[(.agg #[.int .i64 (N : Int), .slice A3 g.ls.length c3])] W' fun e w' => e = .returned (.int .i64 (K : Int)) ∧ Below W'.heap.size W' w') := fun W' hW' => by
    have h := number_any A3 c3 g W' (HLS.out _ hW') hlm
    rw [HN.out, num_small HG.out h14, ← (allR_nW HG.out h14).1, hK] at h
    exact h
  have HCK1 : Hid (∀ W' B d C e, Below W.heap.size W W' → SlR 1 RInt W' B (potL g) → PgIn W' C e (pgL g n1) → Calls Try.prog 13 #[(.agg #[.int .i64 (N : Int), .slice A3 g.ls.length c3]), .slice B N d, .agg #[.slice C (pgL g n1).length e, .bool (pgWh g n1)]] W' fun r w' => r = .returned (.tuple #[.int .i64 (m1 : Int), .int .i64 0]) ∧ Below W'.heap.size W' w') := fun W' B d C e hW' h1 h2 => by
    have h := lcheck_any A3 c3 g B d C e n1 W' (HLS.out _ hW') HG.out h14 h1 h2
    rw [HN.out, hpl, hK, hm1] at h
    exact h
  have HCK2 : Hid (∀ W' B d C e, Below W.heap.size W W' → SlR 1 RInt W' B (potL g) → PgIn W' C e (pgL g t) → Calls Try.prog 13 #[(.agg #[.int .i64 (N : Int), .slice A3 g.ls.length c3]), .slice B N d, .agg #[.slice C (pgL g t).length e, .bool (pgWh g t)]] W' fun r w' => r = .returned (.tuple #[.int .i64 (u : Int), .int .i64 0]) ∧ Below W'.heap.size W' w') := fun W' B d C e hW' h1 h2 => by
    have h := lcheck_any A3 c3 g B d C e t W' (HLS.out _ hW') HG.out h14 h1 h2
    rw [HN.out, hpl, hK, hu] at h
    exact h
  have hl50 : (pgL g n1).length ≤ 50 := by rw [pgL_len, hK]; omega
  have hwh : ((m1 : Int) == (K : Int)) = pgWh g n1 := by rw [pgWh_eq, hK, hm1, Bool.eq_iff_iff]; simp; omega
  have HBW := Lib.hid hbw
  generalize pgL g n1 = L1 at *
  generalize pgWh g n1 = wh1 at *
  generalize pgL g t = L2 at *
  generalize pgWh g t = wh2 at *
  generalize potL g = ps at *
  have z37 : decide (50 < L1.length) = false := decide_eq_false (by omega)
  have z37i : decide ((50 : Int) < (L1.length : Int)) = false := decide_eq_false (by omega)
  have z37j : ¬ (50 : Int) < (L1.length : Int) := by omega
  have hb0 : Below W.heap.size W W := Below.refl _ _
  have hG0 := HG4.out _ hb0
  clear hX0 hX1 hGB hls hlm hbw hpl hK hgN hdb hdd hdb2 hdd2 hqb hqd hn1 hn2 hn1e hn2e hm1 ht hu hv hl50
  obtain ⟨g0, g1, gl⟩ := hG0
  go_upto_region 3 with fail
  go_upto_region 4 with (go_at_call 11; go_loud (refine (HMA.out _ hb0).mono ?_; rintro e V1 ⟨Ap1, cp1, Bh1, dh1, rfl, hp1, hh1, hd1, hdm1, hv1⟩))
  obtain ⟨W1, hW1⟩ : ∃ V, V1.alloc (.cells #[.slice Ap1 L1.length cp1, .bool wh1, .slice Bh1 N dh1, .int .i64 0] 37) = V := ⟨_, rfl⟩
  have hx1 : Below V1.heap.size V1 W1 := by rw [← hW1]; exact nw _ (Below.refl _ _)
  have hX1 : Blk W1 V1.heap.size 37 #[.slice Ap1 L1.length cp1, .bool wh1, .slice Bh1 N dh1, .int .i64 0] := by rw [← hW1]; exact Blk.new _ _ _
  rw [hW1]
  obtain ⟨k1, hk1⟩ : ∃ b, V1.heap.size = b := ⟨_, rfl⟩
  rw [hk1] at hX1 ⊢
  have hp1 := hp1.mono hx1
  have hh1 := hh1.below keeps_int hx1
  have hs1 := bthen hv1 hx1
  have hb1 := bthen hb0 hs1
  have HBX1 : Hid (∀ W', Below W1.heap.size W1 W' → W'.cell? ⟨k1, 0, none⟩ = some (.slice Ap1 L1.length cp1) ∧ W'.cell? ⟨k1, 1, none⟩ = some (.bool wh1) ∧ W'.cell? ⟨k1, 2, none⟩ = some (.slice Bh1 N dh1) ∧ W'.cell? ⟨k1, 3, none⟩ = some (.int .i64 0) ∧ k1 < W'.heap.size) := fun W' hW' => by
    have h1 := hX1.below hW' hX1.lt
    exact ⟨by rw [h1.cell]; rfl, by rw [h1.cell]; rfl, by rw [h1.cell]; rfl, by rw [h1.cell]; rfl, h1.lt⟩
  clear hW1 hv1 hx1 hX1 hk1
  have g0 := ((bcell hb1).1 _ _ gl).trans g0
  have g1 := ((bcell hb1).1 _ _ gl).trans g1
  have a0 := ((bcell hb1).1 _ _ al).trans a0
  have a1 := ((bcell hb1).1 _ _ al).trans a1
  have a2 := ((bcell hb1).1 _ _ al).trans a2
  have a3 := ((bcell hb1).1 _ _ al).trans a3
  have gl := Nat.lt_of_lt_of_le gl hb1.size
  have al := Nat.lt_of_lt_of_le al hb1.size
  have hr1 : Below W1.heap.size W1 W1 := Below.refl _ _
  obtain ⟨m0, m1_, m2_, m3_, ml⟩ := HBX1.out _ hr1
  go_upto_region 6 with fail
  go_upto_region 7 with (go_at_call 12; go_loud (refine (HNU.out _ hb1).mono ?_; rintro e W6 ⟨rfl, hs6⟩))
  have g0 := ((bcell hs6).1 _ _ gl).trans g0
  have g1 := ((bcell hs6).1 _ _ gl).trans g1
  have a0 := ((bcell hs6).1 _ _ al).trans a0
  have a1 := ((bcell hs6).1 _ _ al).trans a1
  have a2 := ((bcell hs6).1 _ _ al).trans a2
  have a3 := ((bcell hs6).1 _ _ al).trans a3
  have m0 := ((bcell hs6).1 _ _ ml).trans m0
  have m1_ := ((bcell hs6).1 _ _ ml).trans m1_
  have m2_ := ((bcell hs6).1 _ _ ml).trans m2_
  have m3_ := ((bcell hs6).1 _ _ ml).trans m3_
  have gl := Nat.lt_of_lt_of_le gl hs6.size
  have al := Nat.lt_of_lt_of_le al hs6.size
  have ml := Nat.lt_of_lt_of_le ml hs6.size
  have hb6 := bthen hb1 hs6
  have hr6 := bthen hr1 hs6
  go_upto_region 8 with (go_at_call 13; go_loud (refine (HCK1.out _ _ _ _ _ hb6 (hh1.below keeps_int hr6) (hp1.mono hr6)).mono ?_; rintro e W7 ⟨rfl, hs7⟩))
  have g0 := ((bcell hs7).1 _ _ gl).trans g0
  have g1 := ((bcell hs7).1 _ _ gl).trans g1
  have a0 := ((bcell hs7).1 _ _ al).trans a0
  have a1 := ((bcell hs7).1 _ _ al).trans a1
  have a2 := ((bcell hs7).1 _ _ al).trans a2
  have a3 := ((bcell hs7).1 _ _ al).trans a3
  have m0 := ((bcell hs7).1 _ _ ml).trans m0
  have m1_ := ((bcell hs7).1 _ _ ml).trans m1_
  have m2_ := ((bcell hs7).1 _ _ ml).trans m2_
  have m3_ := ((bcell hs7).1 _ _ ml).trans m3_
  have gl := Nat.lt_of_lt_of_le gl hs7.size
  have al := Nat.lt_of_lt_of_le al hs7.size
  have ml := Nat.lt_of_lt_of_le ml hs7.size
  have hb7 := bthen hb6 hs7
  have hr7 := bthen hr6 hs7
  clear hb6 hb1 hb0 hr6 hr1 hs7 hs6 hs1
  refine ordB_below (.quiet 0 (.quiet 1 (.quiet 2 (.quiet 3 (.quiet 4 (.quiet 5 (.quiet 6 (.quiet 7 (.quiet 8 (.quiet 9 (.quiet 10 (.quiet 11 (.quiet 12 .done))))))))))))) (by kernel_rfl) (by kernel_rfl) (by kernel_rfl) (fun _ _ _ _ _ h => h) ?_
  intro Wf hWf
  iterate 13 (first
    | (refine ordB_skip rfl rfl ?_; simp only [Act.put, List.setIfInBounds_toArray, List.set_cons_zero, List.set_cons_succ])
    | (refine ordB_take (v := ?_) rfl rfl ?_ ?_
       rotate_left 1
       focus (intro W hW; obtain ⟨hcW, hfW⟩ := bcell hW; (go_simp <;> with_reducible rfl))
       simp only [Act.put, List.setIfInBounds_toArray, List.set_cons_zero, List.set_cons_succ]))
  refine ordB_nil ?_
  have hk8 := hWf
  clear hWf
  generalize Wf = W8 at *
  have g0 := ((bcell hk8).1 _ _ gl).trans g0
  have g1 := ((bcell hk8).1 _ _ gl).trans g1
  have a0 := ((bcell hk8).1 _ _ al).trans a0
  have a1 := ((bcell hk8).1 _ _ al).trans a1
  have a2 := ((bcell hk8).1 _ _ al).trans a2
  have a3 := ((bcell hk8).1 _ _ al).trans a3
  have m0 := ((bcell hk8).1 _ _ ml).trans m0
  have m1_ := ((bcell hk8).1 _ _ ml).trans m1_
  have m2_ := ((bcell hk8).1 _ _ ml).trans m2_
  have m3_ := ((bcell hk8).1 _ _ ml).trans m3_
  have gl := Nat.lt_of_lt_of_le gl hk8.size
  have al := Nat.lt_of_lt_of_le al hk8.size
  have ml := Nat.lt_of_lt_of_le ml hk8.size
  have hb8 := bthen hb7 hk8
  have hr8 := bthen hr7 hk8
  clear hk8
  go_upto_region 10 with (go_at_call 14; go_loud (refine (HMO.out _ _ _ hb8 (hp1.mono hr8)).mono ?_; rintro e V9 ⟨Ap9, cp9, rfl, hp9, hv9⟩))
  obtain ⟨W9, hW9⟩ : ∃ V, V9.alloc (.cells #[.slice Ap9 L2.length cp9, .bool wh2] 33) = V := ⟨_, rfl⟩
  have hx9 : Below V9.heap.size V9 W9 := by rw [← hW9]; exact nw _ (Below.refl _ _)
  have hX9 : Blk W9 V9.heap.size 33 #[.slice Ap9 L2.length cp9, .bool wh2] := by rw [← hW9]; exact Blk.new _ _ _
  rw [hW9]
  obtain ⟨k9, hk9⟩ : ∃ b, V9.heap.size = b := ⟨_, rfl⟩
  rw [hk9] at hX9 ⊢
  have hp9 := hp9.mono hx9
  have hs9 := bthen hv9 hx9
  have hb9 := bthen hb8 hs9
  have HBX9 : Hid (∀ W', Below W9.heap.size W9 W' → W'.cell? ⟨k9, 0, none⟩ = some (.slice Ap9 L2.length cp9) ∧ W'.cell? ⟨k9, 1, none⟩ = some (.bool wh2) ∧ k9 < W'.heap.size) := fun W' hW' => by
    have h1 := hX9.below hW' hX9.lt
    exact ⟨by rw [h1.cell]; rfl, by rw [h1.cell]; rfl, h1.lt⟩
  clear hW9 hv9 hx9 hX9 hk9
  have hr9 := bthen hr8 hs9
  have g0 := ((bcell hs9).1 _ _ gl).trans g0
  have g1 := ((bcell hs9).1 _ _ gl).trans g1
  have a0 := ((bcell hs9).1 _ _ al).trans a0
  have a1 := ((bcell hs9).1 _ _ al).trans a1
  have a2 := ((bcell hs9).1 _ _ al).trans a2
  have a3 := ((bcell hs9).1 _ _ al).trans a3
  have m0 := ((bcell hs9).1 _ _ ml).trans m0
  have m1_ := ((bcell hs9).1 _ _ ml).trans m1_
  have m2_ := ((bcell hs9).1 _ _ ml).trans m2_
  have m3_ := ((bcell hs9).1 _ _ ml).trans m3_
  have gl := Nat.lt_of_lt_of_le gl hs9.size
  have al := Nat.lt_of_lt_of_le al hs9.size
  have ml := Nat.lt_of_lt_of_le ml hs9.size
  have hq9 : Below W9.heap.size W9 W9 := Below.refl _ _
  obtain ⟨o0, o1, ol⟩ := HBX9.out _ hq9
  go_upto_region 11 with (go_at_call 13; go_loud (refine (HCK2.out _ _ _ _ _ hb9 (hh1.below keeps_int hr9) hp9).mono ?_; rintro e W10 ⟨rfl, hs10⟩))
  have g0 := ((bcell hs10).1 _ _ gl).trans g0
  have g1 := ((bcell hs10).1 _ _ gl).trans g1
  have a0 := ((bcell hs10).1 _ _ al).trans a0
  have a1 := ((bcell hs10).1 _ _ al).trans a1
  have a2 := ((bcell hs10).1 _ _ al).trans a2
  have a3 := ((bcell hs10).1 _ _ al).trans a3
  have m0 := ((bcell hs10).1 _ _ ml).trans m0
  have m1_ := ((bcell hs10).1 _ _ ml).trans m1_
  have m2_ := ((bcell hs10).1 _ _ ml).trans m2_
  have m3_ := ((bcell hs10).1 _ _ ml).trans m3_
  have gl := Nat.lt_of_lt_of_le gl hs10.size
  have al := Nat.lt_of_lt_of_le al hs10.size
  have ml := Nat.lt_of_lt_of_le ml hs10.size
  have o0 := ((bcell hs10).1 _ _ ol).trans o0
  have o1 := ((bcell hs10).1 _ _ ol).trans o1
  have ol := Nat.lt_of_lt_of_le ol hs10.size
  have HB10 := Lib.hid (bthen hb9 hs10)
  clear hs10 hs9 hb9 hb8 hb7 hr8 hr9 hr7 hq9
  refine ordB_below (.quiet 0 (.quiet 1 (.quiet 2 (.quiet 3 (.quiet 4 (.quiet 5 (.quiet 6 (.quiet 7 (.quiet 8 (.quiet 9 (.quiet 10 (.quiet 11 (.quiet 12 (.quiet 13 (.quiet 14 (.quiet 15 .done)))))))))))))))) (by kernel_rfl) (by kernel_rfl) (by kernel_rfl) (fun _ _ _ _ _ h => h) ?_
  intro Wj hWj
  iterate 16 (first
    | (refine ordB_skip rfl rfl ?_; simp only [Act.put, List.setIfInBounds_toArray, List.set_cons_zero, List.set_cons_succ])
    | (refine ordB_take (v := ?_) rfl rfl ?_ ?_
       rotate_left 1
       focus (intro W hW; obtain ⟨hcW, hfW⟩ := bcell hW; (go_simp <;> with_reducible rfl))
       simp only [Act.put, List.setIfInBounds_toArray, List.set_cons_zero, List.set_cons_succ]))
  refine ordB_nil ?_
  have hk11 := hWj
  clear hWj
  generalize Wj = W11 at *
  have g0 := ((bcell hk11).1 _ _ gl).trans g0
  have g1 := ((bcell hk11).1 _ _ gl).trans g1
  have a0 := ((bcell hk11).1 _ _ al).trans a0
  have a1 := ((bcell hk11).1 _ _ al).trans a1
  have a2 := ((bcell hk11).1 _ _ al).trans a2
  have a3 := ((bcell hk11).1 _ _ al).trans a3
  have m0 := ((bcell hk11).1 _ _ ml).trans m0
  have m1_ := ((bcell hk11).1 _ _ ml).trans m1_
  have m2_ := ((bcell hk11).1 _ _ ml).trans m2_
  have m3_ := ((bcell hk11).1 _ _ ml).trans m3_
  have gl := Nat.lt_of_lt_of_le gl hk11.size
  have al := Nat.lt_of_lt_of_le al hk11.size
  have ml := Nat.lt_of_lt_of_le ml hk11.size
  have o0 := ((bcell hk11).1 _ _ ol).trans o0
  have o1 := ((bcell hk11).1 _ _ ol).trans o1
  have ol := Nat.lt_of_lt_of_le ol hk11.size
  have hE := bthen HBW.out (bthen HB10.out hk11)
  clear hk11 hmA hmA2 hmC hmD hmE hwm
  by_cases hmK : m1 = K
  · have huK := HUK.out hmK
    subst hmK
    subst huK
    obtain rfl : wh1 = true := by rw [← hwh]; simp
    clear hwh
    go_wp2_with fail
    go_ret
    exact ⟨rfl, hE⟩
  · have hmKb : ((m1 : Int) == (K : Int)) = false := by simp; omega
    obtain rfl : wh1 = false := by rw [← hwh]; exact hmKb
    clear hwh hmK
    go_wp2_with fail
    go_ret
    exact ⟨rfl, hE⟩
end Go.Proofs.Ytpajajffkbkeaaa
