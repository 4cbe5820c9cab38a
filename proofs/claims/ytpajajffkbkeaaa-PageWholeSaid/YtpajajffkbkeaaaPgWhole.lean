/-
  The law PageWhole: for all inputs it returns true.
-/
import Derived.Test.YtpajajffkbkeaaaPgLaw
import Derived.Test.YtpajajffkbkeaaaPgWalkF
import Derived.Deep.DeepCutAuto
namespace Go.Proofs.Ytpajajffkbkeaaa
open Go Go.RowKit

set_option maxRecDepth 100000 in
set_option maxHeartbeats 16000000 in
theorem pageWhole_any (A : Option Addr) (l : List T3) (c : Nat) (x ka : Int) (pa pb pc : Int) (w : World) (hs : SlR 3 RT3 w A l) (hl : l.length ≤ maxLen) (hok : ∀ p ∈ l, T3OK p) (hx : 0 ≤ x ∧ x ≤ 255) (hka : 0 ≤ ka ∧ ka ≤ 255)
    (hpa : 0 ≤ pa ∧ pa ≤ 255) (hpb : 0 ≤ pb ∧ pb ≤ 255) (hpc : 0 ≤ pc ∧ pc ≤ 255) :
    Calls Try.prog 7 #[.agg #[.int .u8 x, .slice A l.length c], .int .u8 ka, .agg #[.int .u8 pa, .int .u8 pb, .int .u8 pc]] w fun e w' => e = .returned (.bool true) ∧ Below w.heap.size w w' := by
  obtain ⟨w1, hw1⟩ : ∃ w1, ((w.alloc (.cells #[.int .u8 x, .slice A l.length c] 24)).alloc (.cells #[.int .u8 pa, .int .u8 pb, .int .u8 pc] 47)) = w1 := ⟨_, rfl⟩
  have hb1 : Below w.heap.size w w1 := by rw [← hw1]; exact nw _ (nw _ (Below.refl _ _))
  have hX0 : Blk w1 (w.heap.size) 24 #[.int .u8 x, .slice A l.length c] := by rw [← hw1]; exact (Blk.new _ _ _).alloc _
  have hX1 : Blk w1 (w.heap.size + 1) 47 #[.int .u8 pa, .int .u8 pb, .int .u8 pc] := by rw [← hw1]; exact Blk.new_ (by simp)
  have HW1 := Lib.hid hw1
  have HMD : Hid (∀ W, Below w.heap.size w W → Calls Try.prog 10 #[.agg #[.int .u8 x, .slice A l.length c]] W fun e w' => ∃ A' c', e = .returned (.agg #[.int .i64 (madeG x l).n, .slice A' (madeG x l).ls.length c']) ∧ (madeG x l).ls.length ≤ c' ∧ c' ≤ maxLen ∧ SlR 4 RLk w' A' (madeG x l).ls ∧ Below W.heap.size W w') :=
    fun W hW => made_any A l c x W (hs.below keeps_t3 hW) hl hx hok
  have hg : GrOK (madeG x l) := madeG_ok hok
  have h14 : (madeG x l).ls.length ≤ 14 := madeG_len x l
  have hn7 : 1 ≤ (madeG x l).n ∧ (madeG x l).n ≤ 7 := madeG_n x l
  generalize madeG x l = g at *
  obtain ⟨N, hN⟩ : ∃ N : Nat, g.n = (N : Int) := ⟨g.n.toNat, by omega⟩
  rw [hN] at HMD
  have HN := Lib.hid hN
  have HG := Lib.hid hg
  have hN1 : 1 ≤ N := by omega
  have hN7 : N ≤ 7 := by omega
  have hlt1 := hX0.lt
  have HN7 : Hid (1 ≤ g.n ∧ g.n ≤ 7) := by show _ ∧ _; omega
  clear hw1 hs hok hN hg hn7
  have hbx0 := hX0.cell 0
  have hbx1 := hX0.cell 1
  simp at hbx0 hbx1
  go_enter Try.func7, Try.ntmps7
  go_upto_region 1 with fail
  rw [HW1.out]
  go_upto_region 2 with (go_at_call 9; go_loud (refine (sanity19_any _).mono ?_; rintro e w2 ⟨rfl, hb2⟩))
  have hX0 := hX0.below hb2 hX0.lt
  have hX1 := hX1.below hb2 hX1.lt
  have hbx0 := hX0.cell 0
  have hbx1 := hX0.cell 1
  simp at hbx0 hbx1
  have hbw2 := bthen hb1 hb2
  go_upto_region 3 with (go_at_call 10; go_loud (refine (HMD.out _ hbw2).mono ?_; rintro e w3 ⟨A3, c3, rfl, hc3, hcm3, hs3, hb3⟩))
  obtain ⟨W, hW⟩ : ∃ W, w3.alloc (.cells #[.int .i64 (N : Int), .slice A3 g.ls.length c3] 29) = W := ⟨_, rfl⟩
  have hb4 : Below w3.heap.size w3 W := by rw [← hW]; exact nw _ (Below.refl _ _)
  have hGB : Blk W w3.heap.size 29 #[.int .i64 (N : Int), .slice A3 g.ls.length c3] := by rw [← hW]; exact Blk.new _ _ _
  rw [hW]
  obtain ⟨bG, hbG⟩ : ∃ b, w3.heap.size = b := ⟨_, rfl⟩
  have hb34 := bthen hb3 hb4
  have hX0 := hX0.below hb34 hX0.lt
  have hX1 := hX1.below hb34 hX1.lt
  have hbw := bthen hbw2 hb34
  have hls := hs3.below keeps_lk hb4
  have hwG : w.heap.size ≤ bG := by have := hbw2.size; have := hb3.size; omega
  rw [hbG] at hGB ⊢
  have hlm : g.ls.length ≤ maxLen := by unfold maxLen; omega
  clear hbx0 hbx1 hW hbG hb4 hb34 hbw2 hb2 hb3 hs3 hb1 HMD HW1
  have HG4 : Hid (∀ W', Below W.heap.size W W' → W'.cell? ⟨bG, 0, none⟩ = some (.int .i64 (N : Int)) ∧ W'.cell? ⟨bG, 1, none⟩ = some (.slice A3 g.ls.length c3) ∧ bG < W'.heap.size) := fun W' hW' => by
    have h1 := hGB.below hW' hGB.lt
    have e0 := h1.cell 0
    have e1 := h1.cell 1
    simp at e0 e1
    exact ⟨e0, e1, h1.lt⟩
  have HLS : Hid (∀ W', Below W.heap.size W W' → SlR 4 RLk W' A3 g.ls) := fun W' hW' => hls.below keeps_lk hW'
  have hpl : (potL g).length = N := by have := potL_len HG.out; have := HN.out; omega
  obtain ⟨p, hp⟩ : ∃ q : Nat, ka % 13 = (q : Int) := ⟨(ka % 13).toNat, by omega⟩
  have hp_b : p ≤ 12 := by omega
  have hp_t : ka.tmod 13 = (p : Int) := by rw [Int.tmod_eq_emod_of_nonneg (by omega)]; exact hp
  have hp_w : IntKind.u8.wrap (p : Int) = (p : Int) := by simp [IntKind.wrap, IntKind.bits, IntKind.signed]; omega
  have hp_v : IntKind.i64.wrap (p : Int) = (p : Int) := IntWalk.i64_in _ (by omega)
  clear hp
  have HA3 : Hid (∀ W', Below W.heap.size W W' → W'.cell? ⟨w.heap.size + 1, 0, none⟩ = some (.int .u8 pa) ∧ W'.cell? ⟨w.heap.size + 1, 1, none⟩ = some (.int .u8 pb) ∧ W'.cell? ⟨w.heap.size + 1, 2, none⟩ = some (.int .u8 pc) ∧ w.heap.size + 1 < W'.heap.size) := fun W' hW' => by
    have h1 := hX1.below hW' hX1.lt
    exact ⟨by rw [h1.cell]; rfl, by rw [h1.cell]; rfl, by rw [h1.cell]; rfl, h1.lt⟩
  obtain ⟨K, hK⟩ : ∃ K, (allR g).length = K := ⟨_, rfl⟩
  have hAC : allR g = allC g := isAll_unique (allR_is HG.out h14) (allC_is HG.out h14)
  obtain ⟨q, hq⟩ : ∃ q, p + 5 = q := ⟨_, rfl⟩
  have hw5 : wantN g 5 100 = 5 := by
    unfold wantN
    have h1 : 5 ≤ 100 / g.n := by rw [Int.le_ediv_iff_mul_le (by have := HN7.out; omega)]; have := HN7.out; omega
    omega
  have HMO : Hid (∀ W' C e, Below W.heap.size W W' → PgIn W' C e (pgL g p) → Calls Try.prog 14 #[(.agg #[.int .i64 (N : Int), .slice A3 g.ls.length c3]), .agg #[.slice C (pgL g p).length e, .bool (pgWh g p)], .int .i64 5, .int .i64 100] W' fun e w' => ∃ A c, e = .returned (.tuple #[.agg #[.slice A (pgL g q).length c, .bool (pgWh g q)], .int .i64 0]) ∧ PgIn w' A c (pgL g q) ∧ Below W'.heap.size W' w') := fun W' C e hW' hp => by
    have h := lmore_any A3 c3 g C e p 5 100 5 W' (HLS.out _ hW') HG.out h14 (by omega) (by omega) hp hw5 q (by rw [hK]; omega)
    rw [HN.out] at h
    exact h
  have HFI : Hid (∀ W', Below W.heap.size W W' → Calls Try.prog 19 #[(.agg #[.int .i64 (N : Int), .slice A3 g.ls.length c3]), .int .i64 (p : Int)] W' fun e w' => ∃ A c, e = .returned (.agg #[.slice A (pgL g p).length c, .bool (pgWh g p)]) ∧ PgIn w' A c (pgL g p) ∧ Below W'.heap.size W' w') := fun W' hW' => by
    have h := first_any A3 c3 g N p W' (HLS.out _ hW') HG.out HN.out (by omega)
    rw [← hAC, show (allR g).take (min p (allR g).length) = pgL g p by unfold pgL; rw [List.take_eq_take_iff]; omega, ← pgWh_eq] at h
    exact h.mono fun e w' ⟨A, c, ms, h1, h2, h3, h4, h5, h6, h7⟩ => ⟨A, c, h1, ⟨by have := mc_can h2 h3; rwa [h4.out] at this, h5, h6⟩, h7⟩
  have HPT : Hid (∀ W', Below W.heap.size W W' → Calls Try.prog 21 #[(.agg #[.int .i64 (N : Int), .slice A3 g.ls.length c3])] W' fun e w' => ∃ A' c', e = .returned (.tuple #[.slice A' N c', .int .i64 0]) ∧ SlR 1 RInt w' A' (potL g) ∧ Below W'.heap.size W' w' ∧ N ≤ c' ∧ c' ≤ maxLen) := fun W' hW' => by
    have h := pot_any A3 c3 g W' (HLS.out _ hW') hlm
    rw [show potsOf g = (potL g, 0) by unfold potsOf; rw [grB_iff.2 HG.out]; rfl, HN.out] at h
    dsimp only at h
    rw [hpl] at h
    exact h
  have HCK : Hid (∀ W' B d C e (L : List Can) (b : Bool), Below W.heap.size W W' → SlR 1 RInt W' B (potL g) → PgIn W' C e L → L.length ≤ 1000000 → Calls Try.prog 13 #[(.agg #[.int .i64 (N : Int), .slice A3 g.ls.length c3]), .slice B N d, .agg #[.slice C L.length e, .bool b]] W' fun r w' => r = .returned (.tuple #[.int .i64 (checkM g L b).1, .int .i64 (checkM g L b).2]) ∧ Below W'.heap.size W' w') := fun W' B d C e L b hW' h1 h2 h3 => by
    have h := check_any A3 c3 g B (potL g) d C L e b W' (HLS.out _ hW') hlm h1 (by rw [hpl]; unfold maxLen; omega) h2.s h3 h2.l
    rw [show checkAll g (potL g) L b = checkM g L b by unfold checkAll; rw [if_neg (by rw [grB_iff.2 HG.out]; simp), if_neg (by simp)], HN.out, hpl] at h
    exact h
  have HM2 : Hid (∀ W' C e (L : List Can) (b : Bool), Below W.heap.size W W' → PgIn W' C e L → L.length ≤ 1000000 → Calls Try.prog 14 #[(.agg #[.int .i64 (N : Int), .slice A3 g.ls.length c3]), .agg #[.slice C L.length e, .bool b], .int .i64 0, .int .i64 0] W' fun r w' => ∃ A c L2 b2, r = .returned (.tuple #[.agg #[.slice A (List.length L2) c, .bool b2], .int .i64 (if (checkM g L b).2 = 0 then 0 else 160)]) ∧ Below W'.heap.size W' w') := fun W' C e L b hW' h2 h3 => by
    have h := (more_any A3 c3 g C L e b 0 0 W' (HLS.out _ hW') h14 h2.s h3 h2.l (by decide)).mono fun _ _ h => h.in_
    rw [HN.out] at h
    exact h.mono fun e w' ⟨A, c, h1, _, h4⟩ => ⟨A, c, (moreM g L b 0 0).1, (moreM g L b 0 0).2.1, by
      rw [h1]
      have e2 : (moreM g L b 0 0).2.2 = if (checkM g L b).2 = 0 then 0 else 160 := by
        unfold moreM
        rw [if_pos (pgErr_zero HG.out (by decide) (by decide))]
        split <;> rfl
      rw [e2], h4⟩
  have hcase : (pgWh g p = true ∧ pgL g q = pgL g p ∧ pgWh g q = true) ∨ (pgWh g p = false ∧ ¬ (pgL g q).length = (pgL g p).length) := by
    rw [pgL_len, pgL_len, pgWh_eq, pgWh_eq, hK]
    by_cases h : min p K = K
    · left
      exact ⟨decide_eq_true h, (pg_same (by rw [hK]; omega)).1, decide_eq_true (by omega)⟩
    · right
      exact ⟨decide_eq_false h, by omega⟩
  have hlp : (pgL g p).length ≤ 1000 := by rw [pgL_len]; omega
  have HBW := Lib.hid hbw
  generalize pgL g p = L1 at *
  generalize pgWh g p = wh1 at *
  generalize pgL g q = L2 at *
  generalize pgWh g q = wh2 at *
  generalize potL g = ps at *
  have HCASE := Lib.hid hcase
  have hb0 : Below W.heap.size W W := Below.refl _ _
  have hG0 := HG4.out _ hb0
  clear hX0 hX1 hGB hls hlm hbw hpl hK hAC hq hw5 HN7 hcase
  obtain ⟨g0, g1, gl⟩ := hG0
  go_upto_region 4 with (go_at_call 19; go_loud (refine (HFI.out _ hb0).mono ?_; rintro e V1 ⟨Ap1, cp1, rfl, hp1, hv1⟩))
  obtain ⟨W1, hW1⟩ : ∃ V, V1.alloc (.cells #[.slice Ap1 L1.length cp1, .bool wh1] 33) = V := ⟨_, rfl⟩
  have hx1 : Below V1.heap.size V1 W1 := by rw [← hW1]; exact nw _ (Below.refl _ _)
  have hX1 : Blk W1 V1.heap.size 33 #[.slice Ap1 L1.length cp1, .bool wh1] := by rw [← hW1]; exact Blk.new _ _ _
  rw [hW1]
  obtain ⟨k1, hk1⟩ : ∃ b, V1.heap.size = b := ⟨_, rfl⟩
  rw [hk1] at hX1 ⊢
  have hp1 := hp1.mono hx1
  have hs1 := bthen hv1 hx1
  have hb1 := bthen hb0 hs1
  have HBX1 : Hid (∀ W', Below W1.heap.size W1 W' → W'.cell? ⟨k1, 0, none⟩ = some (.slice Ap1 L1.length cp1) ∧ W'.cell? ⟨k1, 1, none⟩ = some (.bool wh1) ∧ k1 < W'.heap.size) := fun W' hW' => by
    have h1 := hX1.below hW' hX1.lt
    exact ⟨by rw [h1.cell]; rfl, by rw [h1.cell]; rfl, h1.lt⟩
  clear hW1 hv1 hx1 hX1 hk1
  have hr1 : Below W1.heap.size W1 W1 := Below.refl _ _
  obtain ⟨g0, g1, gl⟩ := HG4.out _ hb1
  go_upto_region 5 with (go_at_call 21; go_loud (refine (HPT.out _ hb1).mono ?_; rintro e W2 ⟨B2, d2, rfl, hh2, hs2, hd2, hdm2⟩))
  have hb2 := bthen hb1 hs2
  have hr2 := bthen hr1 hs2
  obtain ⟨g0, g1, gl⟩ := HG4.out _ hb2
  obtain ⟨m0, m1, ml⟩ := HBX1.out _ hr2
  go_upto_region 8 with (go_at_call 14; go_loud (refine (HMO.out _ _ _ hb2 (hp1.mono hr2)).mono ?_; rintro e V3 ⟨Ap3, cp3, rfl, hp3, hv3⟩))
  obtain ⟨W3, hW3⟩ : ∃ V, V3.alloc (.cells #[.slice Ap3 L2.length cp3, .bool wh2] 33) = V := ⟨_, rfl⟩
  have hx3 : Below V3.heap.size V3 W3 := by rw [← hW3]; exact nw _ (Below.refl _ _)
  have hX3 : Blk W3 V3.heap.size 33 #[.slice Ap3 L2.length cp3, .bool wh2] := by rw [← hW3]; exact Blk.new _ _ _
  rw [hW3]
  obtain ⟨k3, hk3⟩ : ∃ b, V3.heap.size = b := ⟨_, rfl⟩
  rw [hk3] at hX3 ⊢
  have hp3 := hp3.mono hx3
  have hs3 := bthen hv3 hx3
  have hb3 := bthen hb2 hs3
  have HBX3 : Hid (∀ W', Below W3.heap.size W3 W' → W'.cell? ⟨k3, 0, none⟩ = some (.slice Ap3 L2.length cp3) ∧ W'.cell? ⟨k3, 1, none⟩ = some (.bool wh2) ∧ k3 < W'.heap.size) := fun W' hW' => by
    have h1 := hX3.below hW' hX3.lt
    exact ⟨by rw [h1.cell]; rfl, by rw [h1.cell]; rfl, h1.lt⟩
  clear hW3 hv3 hx3 hX3 hk3
  have hr3 := bthen hr2 hs3
  have ht3 : Below W3.heap.size W3 W3 := Below.refl _ _
  have hh3 := hh2.below keeps_int hs3
  obtain ⟨m0, m1, ml⟩ := HBX1.out _ hr3
  obtain ⟨o0, o1, ol⟩ := HBX3.out _ ht3
  have HP1 := Lib.hid (hp1.mono hr3)
  have HP3 := Lib.hid hp3
  have HR3 := Lib.hid hr3
  have HB3 := Lib.hid hb3
  have HH3 := Lib.hid hh3
  clear g0 g1 gl hb0 hb1 hb2 hr1 hr2 hr3 hs2 hs3 hp1 hp3 hh2 hh3 hb3
  go_cut [65] (fun tv wr => tv = .bool false ∧ Below W3.heap.size W3 wr)
  case first =>
    rcases HCASE.out with ⟨rfl, h2, rfl⟩ | ⟨rfl, h2⟩
    · subst h2
      have HSA : Hid (∀ W', Below W3.heap.size W3 W' → Calls Try.prog 18 #[.agg #[.slice Ap3 L2.length cp3, .bool true], .agg #[.slice Ap1 L2.length cp1, .bool true]] W' fun e w' => e = .returned (.bool true) ∧ Below W'.heap.size W' w') := fun W' hW' => san_same (HP3.out.mono hW') (HP1.out.mono hW') true true (by simp) _ _ rfl rfl
      go_wp2_with (go_at_call 18; go_loud (refine (HSA.out _ ht3).mono ?_; rintro e W4 ⟨rfl, hs4⟩; have m1 := ((bcell hs4).1 _ _ ml).trans m1; have m0 := ((bcell hs4).1 _ _ ml).trans m0; have ml := Nat.lt_of_lt_of_le ml hs4.size))
      go_meet
      exact ⟨rfl, bthen ht3 hs4⟩
    · have hz : ((L2.length : Int) == (L1.length : Int)) = false := by simp; exact fun e => h2 (by exact_mod_cast e)
      clear h2
      go_wp2_with fail
      go_meet
      exact ⟨rfl, ht3⟩
  case rest =>
    obtain ⟨rfl, hc4⟩ := hcut
    obtain ⟨W5, rfl⟩ : ∃ V, V = wc := ⟨wc, rfl⟩
    have hb5 := bthen HB3.out hc4
    have hr5 := bthen HR3.out hc4
    have hh5 := HH3.out.below keeps_int hc4
    have hp5 := HP1.out.mono hc4
    clear m0 m1 ml o0 o1 ol ht3 hc4
    obtain ⟨m0, m1, ml⟩ := HBX1.out _ hr5
    obtain ⟨a0, a1, a2, al⟩ := HA3.out _ hb5
    have HSP : Hid (Calls Try.prog 20 #[.agg #[.slice Ap1 L1.length cp1, .bool wh1], .agg #[.int .u8 pa, .int .u8 pb, .int .u8 pc]] W5 (IsSpt L1.length W5)) := spoilt_any Ap1 L1 cp1 wh1 pa pb pc W5 hp5.s hlp hpa hpb hpc
    go_upto_region 11 with (go_at_call 20; go_loud (refine HSP.out.mono ?_; rintro e V6 ⟨Ap6, cp6, L6, wh6, rfl, hp6, hl6, hv6⟩))
    obtain ⟨W6, hW6⟩ : ∃ V, V6.alloc (.cells #[.slice Ap6 L6.length cp6, .bool wh6] 33) = V := ⟨_, rfl⟩
    have hx6 : Below V6.heap.size V6 W6 := by rw [← hW6]; exact nw _ (Below.refl _ _)
    have hX6 : Blk W6 V6.heap.size 33 #[.slice Ap6 L6.length cp6, .bool wh6] := by rw [← hW6]; exact Blk.new _ _ _
    rw [hW6]
    obtain ⟨k6, hk6⟩ : ∃ b, V6.heap.size = b := ⟨_, rfl⟩
    rw [hk6] at hX6 ⊢
    have hp6 := hp6.mono hx6
    have hs6 := bthen hv6 hx6
    have hb6 := bthen hb5 hs6
    have HBX6 : Hid (∀ W', Below W6.heap.size W6 W' → W'.cell? ⟨k6, 0, none⟩ = some (.slice Ap6 L6.length cp6) ∧ W'.cell? ⟨k6, 1, none⟩ = some (.bool wh6) ∧ k6 < W'.heap.size) := fun W' hW' => by
      have h1 := hX6.below hW' hX6.lt
      exact ⟨by rw [h1.cell]; rfl, by rw [h1.cell]; rfl, h1.lt⟩
    clear hW6 hv6 hx6 hX6 hk6
    have ht6 : Below W6.heap.size W6 W6 := Below.refl _ _
    have hh6 := hh5.below keeps_int hs6
    have HCKC := HCK.out
    obtain ⟨g0, g1, gl⟩ := HG4.out _ hb6
    obtain ⟨o0, o1, ol⟩ := HBX6.out _ ht6
    have hck := HCK.out W6 B2 d2 Ap6 cp6 L6 wh6 hb6 hh6 hp6 (by omega)
    have hm2 := fun W' (hW' : Below W6.heap.size W6 W') => HM2.out W' Ap6 cp6 L6 wh6 (bthen hb6 hW') (hp6.mono hW') (by omega)
    obtain ⟨ce, hce⟩ : ∃ ce, (checkM g L6 wh6).2 = ce := ⟨_, rfl⟩
    rw [hce] at hck
    simp only [hce] at hm2
    generalize (checkM g L6 wh6).1 = cn at *
    have HCK6 := Lib.hid hck
    have HM6 := Lib.hid hm2
    have HB6 := Lib.hid hb6
    clear hck hm2 hce hp6 hh6 hh5 hp5 hr5 hb5 hb6 hs6 m0 m1 ml a0 a1 a2 al HSP HCKC hl6
    go_upto_region 12 with (go_at_call 13; go_loud (refine HCK6.out.mono ?_; rintro e W7 ⟨rfl, hs7⟩))
    have hb7 := bthen HB6.out hs7
    obtain ⟨g0, g1, gl⟩ := HG4.out _ hb7
    obtain ⟨o0, o1, ol⟩ := HBX6.out _ hs7
    go_upto_region 13 with (go_at_call 14; go_loud (refine (HM6.out _ hs7).mono ?_; rintro e W8 ⟨A8, c8, L8, b8, rfl, hs8⟩))
    obtain ⟨W9, hW9⟩ : ∃ V, W8.alloc (.cells #[.slice A8 L8.length c8, .bool b8] 33) = V := ⟨_, rfl⟩
    have hs9 : Below W8.heap.size W8 W9 := by rw [← hW9]; exact nw _ (Below.refl _ _)
    rw [hW9]
    have hE := bthen HBW.out (bthen hb7 (bthen hs8 hs9))
    clear hW9 hs9 hs8 hs7 hb7 g0 g1 gl o0 o1 ol
    by_cases h0 : ce = 0
    · subst h0
      rw [if_pos rfl]
      go_wp2_with fail
      go_ret
      exact ⟨rfl, hE⟩
    · have h0b : (ce == 0) = false := by simp [h0]
      rw [if_neg h0]
      clear h0
      go_wp2_with fail
      go_ret
      exact ⟨rfl, hE⟩
end Go.Proofs.Ytpajajffkbkeaaa
