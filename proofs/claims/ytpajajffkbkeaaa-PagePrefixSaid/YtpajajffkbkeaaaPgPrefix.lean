/-
  The law PagePrefix: for all inputs it returns true.
-/
import Derived.Test.YtpajajffkbkeaaaPgLaw
import Derived.Test.YtpajajffkbkeaaaPgWalkF
import Derived.Deep.DeepCutAuto
namespace Go.Proofs.Ytpajajffkbkeaaa
open Go Go.RowKit

/-- A page as it lies in memory. -/
structure PG where
  A : Option Addr
  c : Nat
  L : List Can
  b : Bool
def encPg (x : PG) : List Value := [.slice x.A x.L.length x.c, .bool x.b]
theorem preB_iff {l m : List Can} : preB l m = true ↔ m.take l.length = l := by unfold preB; rw [decide_eq_true_iff]
theorem preB_le {l m : List Can} (h : preB l m = true) : l.length ≤ m.length := Nat.not_lt.1 fun h2 => by rw [preB_len h2] at h; cases h
theorem pref_same {l m : List Can} {a b : Bool} (h1 : prefB l a m b = true) (h2 : prefB m b l a = true) : (decide (l = m) && (a == b)) = true := by
  unfold prefB at h1 h2
  rw [Bool.and_eq_true] at h1 h2
  have e1 := preB_le h1.1
  have e2 := preB_le h2.1
  have hl : l.length = m.length := by omega
  have h3 := preB_iff.1 h1.1
  rw [List.take_of_length_le (by omega)] at h3
  rw [if_pos hl] at h1
  rw [Bool.and_eq_true, decide_eq_true_iff]
  exact ⟨h3.symm, h1.2⟩
theorem pref_refl (l : List Can) (a : Bool) : prefB l a l a = true := by
  unfold prefB
  rw [Bool.and_eq_true, if_pos rfl]
  exact ⟨preB_iff.2 (List.take_length), by simp⟩
theorem pref_trans {l m n : List Can} {a b c : Bool} (h1 : prefB l a m b = true) (h2 : prefB m b n c = true) : prefB l a n c = true := by
  unfold prefB at h1 h2 ⊢
  rw [Bool.and_eq_true] at h1 h2 ⊢
  have e1 := preB_le h1.1
  have e2 := preB_le h2.1
  have h3 := preB_iff.1 h1.1
  have h4 := preB_iff.1 h2.1
  refine ⟨preB_iff.2 ?_, ?_⟩
  · rw [← h4, List.take_take, Nat.min_eq_left e1] at h3
    exact h3
  · by_cases hlm : l.length = m.length
    · rw [if_pos hlm] at h1
      by_cases hmn : m.length = n.length
      · rw [if_pos hmn] at h2
        rw [if_pos (by omega)]
        rw [eq_of_beq h1.2, eq_of_beq h2.2]
        simp
      · rw [if_neg hmn] at h2
        rw [if_neg (by omega), eq_of_beq h1.2]
        exact h2.2
    · rw [if_neg hlm] at h1
      rw [if_neg (by omega)]
      exact h1.2
set_option maxRecDepth 100000 in
set_option maxHeartbeats 16000000 in
theorem pagePrefix_any (A : Option Addr) (l : List T3) (c : Nat) (x ka : Int) (pa pb pc pd pe pf : Int) (w : World) (hs : SlR 3 RT3 w A l) (hl : l.length ≤ maxLen) (hok : ∀ p ∈ l, T3OK p) (hx : 0 ≤ x ∧ x ≤ 255) (hka : 0 ≤ ka ∧ ka ≤ 255)
    (hpa : 0 ≤ pa ∧ pa ≤ 255) (hpb : 0 ≤ pb ∧ pb ≤ 255) (hpc : 0 ≤ pc ∧ pc ≤ 255) (hpd : 0 ≤ pd ∧ pd ≤ 255) (hpe : 0 ≤ pe ∧ pe ≤ 255) (hpf : 0 ≤ pf ∧ pf ≤ 255) :
    Calls Try.prog 6 #[.agg #[.int .u8 x, .slice A l.length c], .int .u8 ka, .agg #[.int .u8 pa, .int .u8 pb, .int .u8 pc, .int .u8 pd, .int .u8 pe, .int .u8 pf]] w fun e w' => e = .returned (.bool true) ∧ Below w.heap.size w w' := by
  obtain ⟨p, hp⟩ : ∃ q : Nat, ka % 13 = (q : Int) := ⟨(ka % 13).toNat, by omega⟩
  have hp_b : p ≤ 12 := by omega
  have hp_t : ka.tmod 13 = (p : Int) := by rw [Int.tmod_eq_emod_of_nonneg (by omega)]; exact hp
  have hp_w : IntKind.u8.wrap (p : Int) = (p : Int) := by simp [IntKind.wrap, IntKind.bits, IntKind.signed]; omega
  have hp_v : IntKind.i64.wrap (p : Int) = (p : Int) := IntWalk.i64_in _ (by omega)
  clear hp
  obtain ⟨w1, hw1⟩ : ∃ w1, ((w.alloc (.cells #[.int .u8 x, .slice A l.length c] 24)).alloc (.cells #[.int .u8 pa, .int .u8 pb, .int .u8 pc, .int .u8 pd, .int .u8 pe, .int .u8 pf] 50)) = w1 := ⟨_, rfl⟩
  have hb1 : Below w.heap.size w w1 := by rw [← hw1]; exact nw _ (nw _ (Below.refl _ _))
  have hX0 : Blk w1 (w.heap.size) 24 #[.int .u8 x, .slice A l.length c] := by rw [← hw1]; exact (Blk.new _ _ _).alloc _
  have hX1 : Blk w1 (w.heap.size + 1) 50 #[.int .u8 pa, .int .u8 pb, .int .u8 pc, .int .u8 pd, .int .u8 pe, .int .u8 pf] := by rw [← hw1]; exact Blk.new_ (by simp)
  have HW1 := Lib.hid hw1
  have HMD : Hid (∀ W, Below w.heap.size w W → Calls Try.prog 10 #[.agg #[.int .u8 x, .slice A l.length c]] W fun e w' => ∃ A' c', e = .returned (.agg #[.int .i64 (madeG x l).n, .slice A' (madeG x l).ls.length c']) ∧ (madeG x l).ls.length ≤ c' ∧ c' ≤ maxLen ∧ SlR 4 RLk w' A' (madeG x l).ls ∧ Below W.heap.size W w') :=
    fun W hW => made_any A l c x W (hs.below keeps_t3 hW) hl hx hok
  have hg : GrOK (madeG x l) := madeG_ok hok
  have h14 : (madeG x l).ls.length ≤ 14 := madeG_len x l
  have hn7 : 1 ≤ (madeG x l).n ∧ (madeG x l).n ≤ 7 := madeG_n x l
  generalize madeG x l = g at *
  obtain ⟨N, hN⟩ : ∃ N : Nat, g.n = (N : Int) := ⟨g.n.toNat, by omega⟩
  rw [hN] at HMD
  have HN := Lib.hid hN
  have HG := Lib.hid hg
  have hN1 : 1 ≤ N := by omega
  have hN7 : N ≤ 7 := by omega
  have hlt1 := hX0.lt
  clear hw1 hs hok hN hg hn7
  have hbx0 := hX0.cell 0
  have hbx1 := hX0.cell 1
  simp at hbx0 hbx1
  go_enter Try.func6, Try.ntmps6
  go_upto_region 1 with fail
  rw [HW1.out]
  go_upto_region 2 with (go_at_call 9; go_loud (refine (sanity19_any _).mono ?_; rintro e w2 ⟨rfl, hb2⟩))
  have hX0 := hX0.below hb2 hX0.lt
  have hX1 := hX1.below hb2 hX1.lt
  have hbx0 := hX0.cell 0
  have hbx1 := hX0.cell 1
  simp at hbx0 hbx1
  have hbw2 := bthen hb1 hb2
  have HA6 : Hid (∀ W', Below w2.heap.size w2 W' → W'.cell? ⟨w.heap.size + 1, 0, none⟩ = some (.int .u8 pa) ∧ W'.cell? ⟨w.heap.size + 1, 1, none⟩ = some (.int .u8 pb) ∧ W'.cell? ⟨w.heap.size + 1, 2, none⟩ = some (.int .u8 pc) ∧ W'.cell? ⟨w.heap.size + 1, 3, none⟩ = some (.int .u8 pd) ∧ W'.cell? ⟨w.heap.size + 1, 4, none⟩ = some (.int .u8 pe) ∧ W'.cell? ⟨w.heap.size + 1, 5, none⟩ = some (.int .u8 pf) ∧ w.heap.size + 1 < W'.heap.size) := fun W' hW' => by
    have h1 := hX1.below hW' hX1.lt
    exact ⟨by rw [h1.cell]; rfl, by rw [h1.cell]; rfl, by rw [h1.cell]; rfl, by rw [h1.cell]; rfl, by rw [h1.cell]; rfl, by rw [h1.cell]; rfl, h1.lt⟩
  have hAC : allR g = allC g := isAll_unique (allR_is HG.out h14) (allC_is HG.out h14)
  have HFI : Hid (∀ W' A3 c3, SlR 4 RLk W' A3 g.ls → Calls Try.prog 19 #[.agg #[.int .i64 (N : Int), .slice A3 g.ls.length c3], .int .i64 (p : Int)] W' fun e w' => ∃ A c, e = .returned (.agg #[.slice A (pgL g p).length c, .bool (pgWh g p)]) ∧ PgIn w' A c (pgL g p) ∧ Below W'.heap.size W' w') := fun W' A3 c3 hW' => by
    have h := first_any A3 c3 g N p W' hW' HG.out HN.out (by omega)
    rw [← hAC, show (allR g).take (min p (allR g).length) = pgL g p by unfold pgL; rw [List.take_eq_take_iff]; omega, ← pgWh_eq] at h
    exact h.mono fun e w' ⟨A, c, ms, h1, h2, h3, h4, h5, h6, h7⟩ => ⟨A, c, h1, ⟨by have := mc_can h2 h3; rwa [h4.out] at this, h5, h6⟩, h7⟩
  have hlp : (pgL g p).length ≤ 900 := by rw [pgL_len]; omega
  have HBW := Lib.hid hbw2
  generalize pgL g p = L1 at *
  generalize pgWh g p = wh1 at *
  clear hAC hX0 hX1 hb1 hb2 HW1
  go_upto_region 3 with (first
    | (go_at_call 10; go_loud (refine (HMD.out _ HBW.out).mono ?_; rintro e w3 ⟨A3, c3, rfl, hc3, hcm3, hs3, hb3⟩))
    | (go_at_call 19; go_loud (refine (HFI.out w3 A3 c3 hs3).mono ?_; rintro e V1 ⟨Ap1, cp1, rfl, hp1, hv1_⟩; have hv1 := bthen hb3 hv1_)))
  clear hbx0 hbx1 hlt1 HMD HFI hs3 hb3 hv1_ hbw2 hc3 hcm3
  obtain ⟨W1, hW1⟩ : ∃ V, V1.alloc (.cells #[.slice Ap1 L1.length cp1, .bool wh1] 33) = V := ⟨_, rfl⟩
  have hx1 : Below V1.heap.size V1 W1 := by rw [← hW1]; exact nw _ (Below.refl _ _)
  have hX1 : Blk W1 V1.heap.size 33 #[.slice Ap1 L1.length cp1, .bool wh1] := by rw [← hW1]; exact Blk.new _ _ _
  rw [hW1]
  obtain ⟨k1, hk1⟩ : ∃ b, V1.heap.size = b := ⟨_, rfl⟩
  rw [hk1] at hX1 ⊢
  have hp1 := hp1.mono hx1
  have hb1 := bthen hv1 hx1
  obtain ⟨a0, a1, a2, a3, a4, a5, al⟩ := HA6.out _ hb1
  have m0 := hX1.cell 0
  have m1 := hX1.cell 1
  have ml := hX1.lt
  simp at m0 m1
  clear hW1 hx1 hk1 hv1
  go_upto_region 4 with (go_at_call 20; go_loud (refine (spoilt_any Ap1 L1 cp1 wh1 pa pb pc W1 hp1.s (by omega) hpa hpb hpc).mono ?_; rintro e V2 ⟨Ap2, cp2, L2, wh2, rfl, hp2, hl2, hv2⟩))
  obtain ⟨W2, hW2⟩ : ∃ V, V2.alloc (.cells #[.slice Ap2 L2.length cp2, .bool wh2] 33) = V := ⟨_, rfl⟩
  have hx2 : Below V2.heap.size V2 W2 := by rw [← hW2]; exact nw _ (Below.refl _ _)
  have hX2 : Blk W2 V2.heap.size 33 #[.slice Ap2 L2.length cp2, .bool wh2] := by rw [← hW2]; exact Blk.new _ _ _
  rw [hW2]
  obtain ⟨k2, hk2⟩ : ∃ b, V2.heap.size = b := ⟨_, rfl⟩
  rw [hk2] at hX2 ⊢
  have hp2 := hp2.mono hx2
  have hs2 := bthen hv2 hx2
  have hb2 := bthen hb1 hs2
  have hp1 := hp1.mono hs2
  have hX1 := hX1.below hs2 hX1.lt
  obtain ⟨a0, a1, a2, a3, a4, a5, al⟩ := HA6.out _ hb2
  have m0 := hX2.cell 0
  have m1 := hX2.cell 1
  have ml := hX2.lt
  simp at m0 m1
  clear hW2 hx2 hk2 hv2 hs2
  go_upto_region 5 with (go_at_call 20; go_loud (refine (spoilt_any Ap2 L2 cp2 wh2 pd pe pf W2 hp2.s (by omega) hpd hpe hpf).mono ?_; rintro e V3 ⟨Ap3, cp3, L3, wh3, rfl, hp3, hl3, hv3⟩))
  obtain ⟨W3, hW3⟩ : ∃ V, V3.alloc (.cells #[.slice Ap3 L3.length cp3, .bool wh3] 33) = V := ⟨_, rfl⟩
  have hx3 : Below V3.heap.size V3 W3 := by rw [← hW3]; exact nw _ (Below.refl _ _)
  have hX3 : Blk W3 V3.heap.size 33 #[.slice Ap3 L3.length cp3, .bool wh3] := by rw [← hW3]; exact Blk.new _ _ _
  rw [hW3]
  obtain ⟨k3, hk3⟩ : ∃ b, V3.heap.size = b := ⟨_, rfl⟩
  rw [hk3] at hX3 ⊢
  have hp3 := hp3.mono hx3
  have hs3 := bthen hv3 hx3
  have hb3 := bthen hb2 hs3
  have hp1 := hp1.mono hs3
  have hp2 := hp2.mono hs3
  have hX1 := hX1.below hs3 hX1.lt
  have hX2 := hX2.below hs3 hX2.lt
  have m0 := hX1.cell 0
  have m1 := hX1.cell 1
  have ml := hX1.lt
  have n0 := hX2.cell 0
  have n1 := hX2.cell 1
  have nl := hX2.lt
  have o0 := hX3.cell 0
  have o1 := hX3.cell 1
  have ol := hX3.lt
  simp at m0 m1 n0 n1 o0 o1
  clear hW3 hx3 hk3 hv3 hs3 a0 a1 a2 a3 a4 a5 al
  go_upto_region 6 with fail
  obtain ⟨ps, hps⟩ : ∃ ps : List PG, [PG.mk Ap1 cp1 L1 wh1, PG.mk Ap2 cp2 L2 wh2, PG.mk Ap3 cp3 L3 wh3] = ps := ⟨_, rfl⟩
  obtain ⟨w7, hw7⟩ : ∃ V, W3.alloc (.cells #[.slice Ap1 L1.length cp1, .bool wh1, .slice Ap2 L2.length cp2, .bool wh2, .slice Ap3 L3.length cp3, .bool wh3] 33) = V := ⟨_, rfl⟩
  have hx7 : Below W3.heap.size W3 w7 := by rw [← hw7]; exact nw _ (Below.refl _ _)
  have hX7 : Blk w7 W3.heap.size 33 (ps.flatMap encPg).toArray := by rw [← hw7, ← hps]; exact Blk.new _ _ _
  rw [hw7]
  obtain ⟨bL, hbL⟩ : ∃ b, W3.heap.size = b := ⟨_, rfl⟩
  rw [hbL] at hX7 ⊢
  have HPL : Hid (ps.length = 3) := by show _ = _; rw [← hps]; rfl
  have hin : ∀ y ∈ ps, PgIn w7 y.A y.c y.L := by
    rw [← hps]
    intro y hy
    simp at hy
    rcases hy with rfl | rfl | rfl
    · exact hp1.mono hx7
    · exact hp2.mono hx7
    · exact hp3.mono hx7
  have HCL : Hid (∀ (W' : World) (i : Nat) (x : PG), Below w7.heap.size w7 W' → ps[i]? = some x → W'.cell? ⟨bL, i * 2, none⟩ = some (.slice x.A x.L.length x.c) ∧ W'.cell? ⟨bL, i * 2 + 1, none⟩ = some (.bool x.b) ∧ bL < W'.heap.size) := fun W' i x hW' hi => by
    have h1 := hX7.below hW' hX7.lt
    have h2 : SlR 2 (fun _ (x : PG) vs => vs = encPg x) W' (some ⟨bL, 0, none⟩) ps := slr_blk (enc := encPg) h1 (fun _ => rfl) (fun _ => rfl)
    obtain ⟨b, off, y, vs, hA, _, hy, hr, _, hv⟩ := h2.at_ (List.getElem?_eq_some_iff.1 hi).1
    injection hA with hA
    injection hA with e1 e2 _
    subst e1 e2
    rw [hi] at hy
    obtain rfl := Option.some.inj hy
    have v0 := hv 0 (.slice x.A x.L.length x.c) (by rw [hr]; rfl)
    have v1 := hv 1 (.bool x.b) (by rw [hr]; rfl)
    rw [Nat.zero_add] at v0 v1
    exact ⟨v0, v1, h1.lt⟩
  have HPR : Hid (∀ (W' : World) (i k : Nat) (x y : PG), Below w7.heap.size w7 W' → ps[i]? = some x → ps[k]? = some y → Calls Try.prog 15 #[.agg #[.slice x.A x.L.length x.c, .bool x.b], .agg #[.slice y.A y.L.length y.c, .bool y.b]] W' fun e w' => e = .returned (.bool (prefB x.L x.b y.L y.b)) ∧ Below W'.heap.size W' w') := fun W' i k x y hW' hi hk => by
    have h1 := (hin x (List.mem_of_getElem? hi)).mono hW'
    have h2 := (hin y (List.mem_of_getElem? hk)).mono hW'
    exact prefix_any x.A y.A x.L y.L x.c y.c x.b y.b W' h1.s h2.s h1.l h1.m h2.l h2.m
  have HRP : Hid (∀ (W' : World) (i k : Nat) (x y : PG), Below w7.heap.size w7 W' → ps[i]? = some x → ps[k]? = some y → Calls Try.prog 16 #[.agg #[.slice x.A x.L.length x.c, .bool x.b], .agg #[.slice y.A y.L.length y.c, .bool y.b]] W' fun e w' => e = .returned (.bool (prefB x.L x.b y.L y.b)) ∧ Below W'.heap.size W' w') := fun W' i k x y hW' hi hk => by
    have h1 := (hin x (List.mem_of_getElem? hi)).mono hW'
    have h2 := (hin y (List.mem_of_getElem? hk)).mono hW'
    exact refprefix_any x.A y.A x.L y.L x.c y.c x.b y.b W' h1.s h2.s h1.l h1.m h2.l h2.m
  have HSA : Hid (∀ (W' : World) (i k : Nat) (x y : PG), Below w7.heap.size w7 W' → ps[i]? = some x → ps[k]? = some y → Calls Try.prog 18 #[.agg #[.slice x.A x.L.length x.c, .bool x.b], .agg #[.slice y.A y.L.length y.c, .bool y.b]] W' fun e w' => e = .returned (.bool (decide (x.L = y.L) && (x.b == y.b))) ∧ Below W'.heap.size W' w') := fun W' i k x y hW' hi hk => by
    have h1 := (hin x (List.mem_of_getElem? hi)).mono hW'
    have h2 := (hin y (List.mem_of_getElem? hk)).mono hW'
    exact psame_any x.A y.A x.L y.L x.c y.c x.b y.b W' h1.s h2.s (Nat.le_trans h1.l h1.m) (Nat.le_trans h2.l h2.m)
  have HBE := Lib.hid (bthen HBW.out (bthen hb3 hx7))
  clear hw7 hbL hps hin hX7 hx7 hX1 hX2 hX3 hp1 hp2 hp3 hb1 hb2 hb3 hl2 hl3 m0 m1 ml n0 n1 nl o0 o1 ol HA6
  go_wp2_with fail
  go_loopw [12] (fun iv wr => ∃ i : Nat, i ≤ 3 ∧ iv = .int .i64 (i : Int) ∧ Below w7.heap.size w7 wr) (fun iv _ => 3 - (intOf iv).toNat)
  case atStart => exact ⟨0, by omega, rfl, Below.refl _ _⟩
  case round =>
    obtain ⟨w8, rfl⟩ : ∃ V, V = wr := ⟨wr, rfl⟩
    obtain ⟨i, hi_, rfl, hbi⟩ := hrel
    by_cases hlt : i < 3
    · obtain ⟨x, hxi⟩ : ∃ x, ps[i]? = some x := ⟨_, List.getElem?_eq_getElem (by rw [HPL.out]; exact hlt)⟩
      have HX := Lib.hid hxi
      have HBI := Lib.hid hbi
      have hi3I : (i : Int) < 3 := by omega
      have hi0 : (0 : Int) ≤ (i : Int) := by omega
      have hwi : IntKind.i64.wrap ((i : Int) + 1) = (i : Int) + 1 := IntWalk.i64_in _ (by omega)
      clear hxi hbi
      go_wp2_with fail
      go_loopw [13] (fun kv wr => ∃ k : Nat, k ≤ 3 ∧ kv = .int .i64 (k : Int) ∧ Below w8.heap.size w8 wr) (fun kv _ => 3 - (intOf kv).toNat)
      case atStart => exact ⟨0, by omega, rfl, Below.refl _ _⟩
      case round =>
        obtain ⟨w9, rfl⟩ : ∃ V, V = wr := ⟨wr, rfl⟩
        obtain ⟨k, hk_, rfl, hbk⟩ := hrel
        have hb7 := bthen HBI.out hbk
        by_cases hlt2 : k < 3
        · obtain ⟨y, hyk⟩ : ∃ y, ps[k]? = some y := ⟨_, List.getElem?_eq_getElem (by rw [HPL.out]; exact hlt2)⟩
          obtain ⟨x0, x1, bl⟩ := HCL.out _ i x hb7 HX.out
          obtain ⟨y0, y1, _⟩ := HCL.out _ k y hb7 hyk
          have HY := Lib.hid hyk
          obtain ⟨vik, hvik⟩ : ∃ v, prefB x.L x.b y.L y.b = v := ⟨_, rfl⟩
          obtain ⟨vki, hvki⟩ : ∃ v, prefB y.L y.b x.L x.b = v := ⟨_, rfl⟩
          obtain ⟨vs, hvs⟩ : ∃ v, (decide (x.L = y.L) && (x.b == y.b)) = v := ⟨_, rfl⟩
          have HIK : Hid (∀ W', Below w9.heap.size w9 W' → Calls Try.prog 15 #[.agg #[.slice x.A x.L.length x.c, .bool x.b], .agg #[.slice y.A y.L.length y.c, .bool y.b]] W' fun e w' => e = .returned (.bool vik) ∧ Below W'.heap.size W' w') := fun W' hW' => by have h := HPR.out W' i k x y (bthen hb7 hW') HX.out hyk; rw [hvik] at h; exact h
          have HB7 := Lib.hid hb7
          have HBK := Lib.hid hbk
          have hk3I : (k : Int) < 3 := by omega
          have hk0 : (0 : Int) ≤ (k : Int) := by omega
          have hwk : IntKind.i64.wrap ((k : Int) + 1) = (k : Int) + 1 := IntWalk.i64_in _ (by omega)
          clear hyk hb7 hbk
          go_upto_region 12 with fail
          refine ordB_below (.quiet 0 (.quiet 1 (.quiet 2 (.quiet 3 (.quiet 4 (.quiet 5 (.quiet 6 (.quiet 7 (.only 8 (.quiet 9 .done)))))))))) (by kernel_rfl) (by kernel_rfl) (by kernel_rfl) (fun _ _ _ _ _ h => h) ?_
          intro We hWe
          iterate 8 (first
            | (refine ordB_skip rfl rfl ?_; simp only [Act.put, List.setIfInBounds_toArray, List.set_cons_zero, List.set_cons_succ])
            | (refine ordB_take (v := ?_) rfl rfl ?_ ?_
               rotate_left 1
               focus (intro W hW; obtain ⟨hcW, hfW⟩ := bcell hW; (go_simp <;> with_reducible rfl))
               simp only [Act.put, List.setIfInBounds_toArray, List.set_cons_zero, List.set_cons_succ]))
          refine ordB_only (opB_call rfl rfl (fun K hK => ?_))
          go_simp
          go_at_call 15
          refine (HIK.out _ hWe).mono ?_
          rintro e We_1 ⟨rfl, hx8⟩
          refine hK.out _ _ (hWe.trans (hx8.mono hWe.size)) (fun hWe_1 => ?_)
          iterate 1 (first
            | (refine ordB_skip rfl rfl ?_; simp only [Act.put, List.setIfInBounds_toArray, List.set_cons_zero, List.set_cons_succ])
            | (refine ordB_take (v := ?_) rfl rfl ?_ ?_
               rotate_left 1
               focus (intro W hW; obtain ⟨hcW, hfW⟩ := bcell hW; (go_simp <;> with_reducible rfl))
               simp only [Act.put, List.setIfInBounds_toArray, List.set_cons_zero, List.set_cons_succ]))
          refine ordB_nil ?_
          have hb12 := hWe_1
          clear hWe_1
          generalize We_1 = wm at *
          have x0 := ((bcell hb12).1 _ _ bl).trans x0
          have x1 := ((bcell hb12).1 _ _ bl).trans x1
          have y0 := ((bcell hb12).1 _ _ bl).trans y0
          have y1 := ((bcell hb12).1 _ _ bl).trans y1
          have bl := Nat.lt_of_lt_of_le bl hb12.size
          have hb8 := bthen HB7.out hb12
          have HB8 := Lib.hid hb8
          have HB12 := Lib.hid hb12
          go_upto_region 13 with fail
          go_cut [88] (fun tv wr => tv = .bool false ∧ Below wm.heap.size wm wr)
          case first =>
            have HR_IK : Hid (∀ W', Below wm.heap.size wm W' → Calls Try.prog 16 #[.agg #[.slice x.A x.L.length x.c, .bool x.b], .agg #[.slice y.A y.L.length y.c, .bool y.b]] W' fun e w' => e = .returned (.bool vik) ∧ Below W'.heap.size W' w') := fun W' hW' => by have h := HRP.out W' i k x y (bthen hb8 hW') HX.out HY.out; rw [hvik] at h; exact h
            have HKI : Hid (∀ W', Below wm.heap.size wm W' → Calls Try.prog 15 #[.agg #[.slice y.A y.L.length y.c, .bool y.b], .agg #[.slice x.A x.L.length x.c, .bool x.b]] W' fun e w' => e = .returned (.bool vki) ∧ Below W'.heap.size W' w') := fun W' hW' => by have h := HPR.out W' k i y x (bthen hb8 hW') HY.out HX.out; rw [hvki] at h; exact h
            have HSM : Hid (∀ W', Below wm.heap.size wm W' → Calls Try.prog 18 #[.agg #[.slice x.A x.L.length x.c, .bool x.b], .agg #[.slice y.A y.L.length y.c, .bool y.b]] W' fun e w' => e = .returned (.bool vs) ∧ Below W'.heap.size W' w') := fun W' hW' => by have h := HSA.out W' i k x y (bthen hb8 hW') HX.out HY.out; rw [hvs] at h; exact h
            have hsym2 : vik = true → vki = true → vs = true := fun h1 h2 => by rw [← hvs]; exact pref_same (by rw [hvik]; exact h1) (by rw [hvki]; exact h2)
            clear hvik hvki hvs hb8 hb12
            cases vik with
            | false =>
              clear hsym2
              refine ordB_below (.quiet 0 (.quiet 1 (.quiet 2 (.quiet 3 (.quiet 4 (.quiet 5 (.quiet 6 (.quiet 7 (.quiet 8 (.only 9 (.quiet 10 (.quiet 11 (.quiet 12 (.quiet 13 (.quiet 14 (.quiet 15 (.quiet 16 (.quiet 17 (.quiet 18 (.quiet 19 (.quiet 20 (.quiet 21 (.only 22 (.quiet 23 (.quiet 24 (.quiet 25 (.quiet 26 (.quiet 27 (.quiet 28 (.quiet 29 (.quiet 30 (.quiet 31 (.quiet 32 (.only 33 (.quiet 34 (.quiet 35 (.quiet 36 .done))))))))))))))))))))))))))))))))))))) (by kernel_rfl) (by kernel_rfl) (by kernel_rfl) (fun _ _ _ _ _ h => h) ?_
              intro Wg hWg
              iterate 9 (first
                | (refine ordB_skip rfl rfl ?_; simp only [Act.put, List.setIfInBounds_toArray, List.set_cons_zero, List.set_cons_succ])
                | (refine ordB_take (v := ?_) rfl rfl ?_ ?_
                   rotate_left 1
                   focus (intro W hW; obtain ⟨hcW, hfW⟩ := bcell hW; (go_simp <;> with_reducible rfl))
                   simp only [Act.put, List.setIfInBounds_toArray, List.set_cons_zero, List.set_cons_succ]))
              refine ordB_only (opB_call rfl rfl (fun K hK => ?_))
              go_simp
              go_at_call 16
              refine (HR_IK.out _ hWg).mono ?_
              rintro e Wg_1 ⟨rfl, hx9⟩
              refine hK.out _ _ (hWg.trans (hx9.mono hWg.size)) (fun hWg_1 => ?_)
              iterate 12 (first
                | (refine ordB_skip rfl rfl ?_; simp only [Act.put, List.setIfInBounds_toArray, List.set_cons_zero, List.set_cons_succ])
                | (refine ordB_take (v := ?_) rfl rfl ?_ ?_
                   rotate_left 1
                   focus (intro W hW; obtain ⟨hcW, hfW⟩ := bcell hW; (go_simp <;> with_reducible rfl))
                   simp only [Act.put, List.setIfInBounds_toArray, List.set_cons_zero, List.set_cons_succ]))
              refine ordB_only (opB_cskip rfl rfl hWg_1 ?_)
              simp only [Act.put, List.setIfInBounds_toArray, List.set_cons_zero, List.set_cons_succ]
              iterate 10 (first
                | (refine ordB_skip rfl rfl ?_; simp only [Act.put, List.setIfInBounds_toArray, List.set_cons_zero, List.set_cons_succ])
                | (refine ordB_take (v := ?_) rfl rfl ?_ ?_
                   rotate_left 1
                   focus (intro W hW; obtain ⟨hcW, hfW⟩ := bcell hW; (go_simp <;> with_reducible rfl))
                   simp only [Act.put, List.setIfInBounds_toArray, List.set_cons_zero, List.set_cons_succ]))
              refine ordB_only (opB_cskip rfl rfl hWg_1 ?_)
              simp only [Act.put, List.setIfInBounds_toArray, List.set_cons_zero, List.set_cons_succ]
              iterate 3 (first
                | (refine ordB_skip rfl rfl ?_; simp only [Act.put, List.setIfInBounds_toArray, List.set_cons_zero, List.set_cons_succ])
                | (refine ordB_take (v := ?_) rfl rfl ?_ ?_
                   rotate_left 1
                   focus (intro W hW; obtain ⟨hcW, hfW⟩ := bcell hW; (go_simp <;> with_reducible rfl))
                   simp only [Act.put, List.setIfInBounds_toArray, List.set_cons_zero, List.set_cons_succ]))
              refine ordB_nil ?_
              go_wp2_with fail
              go_meet
              exact ⟨rfl, hWg_1⟩
            | true =>
              cases vki with
              | false =>
                clear hsym2
                refine ordB_below (.quiet 0 (.quiet 1 (.quiet 2 (.quiet 3 (.quiet 4 (.quiet 5 (.quiet 6 (.quiet 7 (.quiet 8 (.only 9 (.quiet 10 (.quiet 11 (.quiet 12 (.quiet 13 (.quiet 14 (.quiet 15 (.quiet 16 (.quiet 17 (.quiet 18 (.quiet 19 (.quiet 20 (.quiet 21 (.only 22 (.quiet 23 (.quiet 24 (.quiet 25 (.quiet 26 (.quiet 27 (.quiet 28 (.quiet 29 (.quiet 30 (.quiet 31 (.quiet 32 (.only 33 (.quiet 34 (.quiet 35 (.quiet 36 .done))))))))))))))))))))))))))))))))))))) (by kernel_rfl) (by kernel_rfl) (by kernel_rfl) (fun _ _ _ _ _ h => h) ?_
                intro Wg hWg
                iterate 9 (first
                  | (refine ordB_skip rfl rfl ?_; simp only [Act.put, List.setIfInBounds_toArray, List.set_cons_zero, List.set_cons_succ])
                  | (refine ordB_take (v := ?_) rfl rfl ?_ ?_
                     rotate_left 1
                     focus (intro W hW; obtain ⟨hcW, hfW⟩ := bcell hW; (go_simp <;> with_reducible rfl))
                     simp only [Act.put, List.setIfInBounds_toArray, List.set_cons_zero, List.set_cons_succ]))
                refine ordB_only (opB_call rfl rfl (fun K hK => ?_))
                go_simp
                go_at_call 16
                refine (HR_IK.out _ hWg).mono ?_
                rintro e Wg_1 ⟨rfl, hx9⟩
                refine hK.out _ _ (hWg.trans (hx9.mono hWg.size)) (fun hWg_1 => ?_)
                iterate 12 (first
                  | (refine ordB_skip rfl rfl ?_; simp only [Act.put, List.setIfInBounds_toArray, List.set_cons_zero, List.set_cons_succ])
                  | (refine ordB_take (v := ?_) rfl rfl ?_ ?_
                     rotate_left 1
                     focus (intro W hW; obtain ⟨hcW, hfW⟩ := bcell hW; (go_simp <;> with_reducible rfl))
                     simp only [Act.put, List.setIfInBounds_toArray, List.set_cons_zero, List.set_cons_succ]))
                refine ordB_only (opB_call rfl rfl (fun K hK => ?_))
                go_simp
                go_at_call 15
                refine (HKI.out _ hWg_1).mono ?_
                rintro e Wg_1_2 ⟨rfl, hx22⟩
                refine hK.out _ _ (hWg_1.trans (hx22.mono hWg_1.size)) (fun hWg_1_2 => ?_)
                iterate 10 (first
                  | (refine ordB_skip rfl rfl ?_; simp only [Act.put, List.setIfInBounds_toArray, List.set_cons_zero, List.set_cons_succ])
                  | (refine ordB_take (v := ?_) rfl rfl ?_ ?_
                     rotate_left 1
                     focus (intro W hW; obtain ⟨hcW, hfW⟩ := bcell hW; (go_simp <;> with_reducible rfl))
                     simp only [Act.put, List.setIfInBounds_toArray, List.set_cons_zero, List.set_cons_succ]))
                refine ordB_only (opB_cskip rfl rfl hWg_1_2 ?_)
                simp only [Act.put, List.setIfInBounds_toArray, List.set_cons_zero, List.set_cons_succ]
                iterate 3 (first
                  | (refine ordB_skip rfl rfl ?_; simp only [Act.put, List.setIfInBounds_toArray, List.set_cons_zero, List.set_cons_succ])
                  | (refine ordB_take (v := ?_) rfl rfl ?_ ?_
                     rotate_left 1
                     focus (intro W hW; obtain ⟨hcW, hfW⟩ := bcell hW; (go_simp <;> with_reducible rfl))
                     simp only [Act.put, List.setIfInBounds_toArray, List.set_cons_zero, List.set_cons_succ]))
                refine ordB_nil ?_
                go_wp2_with fail
                go_meet
                exact ⟨rfl, hWg_1_2⟩
              | true =>
                obtain rfl : vs = true := hsym2 rfl rfl
                clear hsym2
                refine ordB_below (.quiet 0 (.quiet 1 (.quiet 2 (.quiet 3 (.quiet 4 (.quiet 5 (.quiet 6 (.quiet 7 (.quiet 8 (.only 9 (.quiet 10 (.quiet 11 (.quiet 12 (.quiet 13 (.quiet 14 (.quiet 15 (.quiet 16 (.quiet 17 (.quiet 18 (.quiet 19 (.quiet 20 (.quiet 21 (.only 22 (.quiet 23 (.quiet 24 (.quiet 25 (.quiet 26 (.quiet 27 (.quiet 28 (.quiet 29 (.quiet 30 (.quiet 31 (.quiet 32 (.only 33 (.quiet 34 (.quiet 35 (.quiet 36 .done))))))))))))))))))))))))))))))))))))) (by kernel_rfl) (by kernel_rfl) (by kernel_rfl) (fun _ _ _ _ _ h => h) ?_
                intro Wg hWg
                iterate 9 (first
                  | (refine ordB_skip rfl rfl ?_; simp only [Act.put, List.setIfInBounds_toArray, List.set_cons_zero, List.set_cons_succ])
                  | (refine ordB_take (v := ?_) rfl rfl ?_ ?_
                     rotate_left 1
                     focus (intro W hW; obtain ⟨hcW, hfW⟩ := bcell hW; (go_simp <;> with_reducible rfl))
                     simp only [Act.put, List.setIfInBounds_toArray, List.set_cons_zero, List.set_cons_succ]))
                refine ordB_only (opB_call rfl rfl (fun K hK => ?_))
                go_simp
                go_at_call 16
                refine (HR_IK.out _ hWg).mono ?_
                rintro e Wg_1 ⟨rfl, hx9⟩
                refine hK.out _ _ (hWg.trans (hx9.mono hWg.size)) (fun hWg_1 => ?_)
                iterate 12 (first
                  | (refine ordB_skip rfl rfl ?_; simp only [Act.put, List.setIfInBounds_toArray, List.set_cons_zero, List.set_cons_succ])
                  | (refine ordB_take (v := ?_) rfl rfl ?_ ?_
                     rotate_left 1
                     focus (intro W hW; obtain ⟨hcW, hfW⟩ := bcell hW; (go_simp <;> with_reducible rfl))
                     simp only [Act.put, List.setIfInBounds_toArray, List.set_cons_zero, List.set_cons_succ]))
                refine ordB_only (opB_call rfl rfl (fun K hK => ?_))
                go_simp
                go_at_call 15
                refine (HKI.out _ hWg_1).mono ?_
                rintro e Wg_1_2 ⟨rfl, hx22⟩
                refine hK.out _ _ (hWg_1.trans (hx22.mono hWg_1.size)) (fun hWg_1_2 => ?_)
                iterate 10 (first
                  | (refine ordB_skip rfl rfl ?_; simp only [Act.put, List.setIfInBounds_toArray, List.set_cons_zero, List.set_cons_succ])
                  | (refine ordB_take (v := ?_) rfl rfl ?_ ?_
                     rotate_left 1
                     focus (intro W hW; obtain ⟨hcW, hfW⟩ := bcell hW; (go_simp <;> with_reducible rfl))
                     simp only [Act.put, List.setIfInBounds_toArray, List.set_cons_zero, List.set_cons_succ]))
                refine ordB_only (opB_call rfl rfl (fun K hK => ?_))
                go_simp
                go_at_call 18
                refine (HSM.out _ hWg_1_2).mono ?_
                rintro e Wg_1_2_3 ⟨rfl, hx33⟩
                refine hK.out _ _ (hWg_1_2.trans (hx33.mono hWg_1_2.size)) (fun hWg_1_2_3 => ?_)
                iterate 3 (first
                  | (refine ordB_skip rfl rfl ?_; simp only [Act.put, List.setIfInBounds_toArray, List.set_cons_zero, List.set_cons_succ])
                  | (refine ordB_take (v := ?_) rfl rfl ?_ ?_
                     rotate_left 1
                     focus (intro W hW; obtain ⟨hcW, hfW⟩ := bcell hW; (go_simp <;> with_reducible rfl))
                     simp only [Act.put, List.setIfInBounds_toArray, List.set_cons_zero, List.set_cons_succ]))
                refine ordB_nil ?_
                go_wp2_with fail
                go_meet
                exact ⟨rfl, hWg_1_2_3⟩
          case rest =>
            obtain ⟨rfl, hc13⟩ := hcut
            obtain ⟨wn, rfl⟩ : ∃ V, V = wc := ⟨wc, rfl⟩
            have hbn : Below w9.heap.size w9 wn := bthen HB12.out hc13
            have HBN := Lib.hid hbn
            have HVIK := Lib.hid hvik
            clear hvki hvs hb8 hb12 hc13 hbn hvik x0 x1 y0 y1 bl
            go_wp2_with fail
            go_loopw [15] (fun jv wr => ∃ j : Nat, j ≤ 3 ∧ jv = .int .i64 (j : Int) ∧ Below wn.heap.size wn wr) (fun jv _ => 3 - (intOf jv).toNat)
            case atStart => exact ⟨0, by omega, rfl, Below.refl _ _⟩
            case round =>
              obtain ⟨wp, rfl⟩ : ∃ V, V = wr := ⟨wr, rfl⟩
              obtain ⟨j, hj, rfl, hbj⟩ := hrel
              have hbp := bthen HB7.out (bthen HBN.out hbj)
              by_cases hlt3 : j < 3
              · obtain ⟨z, hz⟩ : ∃ z, ps[j]? = some z := ⟨_, List.getElem?_eq_getElem (by rw [HPL.out]; exact hlt3)⟩
                obtain ⟨x0, x1, bl⟩ := HCL.out _ i x hbp HX.out
                obtain ⟨y0, y1, _⟩ := HCL.out _ k y hbp HY.out
                obtain ⟨z0, z1, _⟩ := HCL.out _ j z hbp hz
                obtain ⟨vkj, hvkj⟩ : ∃ v, prefB y.L y.b z.L z.b = v := ⟨_, rfl⟩
                obtain ⟨vij, hvij⟩ : ∃ v, prefB x.L x.b z.L z.b = v := ⟨_, rfl⟩
                have HKJ : Hid (∀ W', Below wp.heap.size wp W' → Calls Try.prog 15 #[.agg #[.slice y.A y.L.length y.c, .bool y.b], .agg #[.slice z.A z.L.length z.c, .bool z.b]] W' fun e w' => e = .returned (.bool vkj) ∧ Below W'.heap.size W' w') := fun W' hW' => by have h := HPR.out W' k j y z (bthen hbp hW') HY.out hz; rw [hvkj] at h; exact h
                have HIJ : Hid (∀ W', Below wp.heap.size wp W' → Calls Try.prog 15 #[.agg #[.slice x.A x.L.length x.c, .bool x.b], .agg #[.slice z.A z.L.length z.c, .bool z.b]] W' fun e w' => e = .returned (.bool vij) ∧ Below W'.heap.size W' w') := fun W' hW' => by have h := HPR.out W' i j x z (bthen hbp hW') HX.out hz; rw [hvij] at h; exact h
                have htr : vik = true → vkj = true → vij = true := fun h1 h2 => by rw [← hvij]; exact pref_trans (by rw [HVIK.out]; exact h1) (by rw [hvkj]; exact h2)
                have HBJ := Lib.hid hbj
                have hj3I : (j : Int) < 3 := by omega
                have hj0 : (0 : Int) ≤ (j : Int) := by omega
                have hwj : IntKind.i64.wrap ((j : Int) + 1) = (j : Int) + 1 := IntWalk.i64_in _ (by omega)
                clear hvkj hvij hz hbj hbp
                go_upto_region 18 with fail
                cases vik with
                | false =>
                  clear htr
                  refine ordB_below (.quiet 0 (.quiet 1 (.quiet 2 (.quiet 3 (.quiet 4 (.quiet 5 (.quiet 6 (.quiet 7 (.quiet 8 (.quiet 9 (.only 10 (.quiet 11 (.quiet 12 (.quiet 13 (.quiet 14 (.quiet 15 (.quiet 16 (.quiet 17 (.quiet 18 (.quiet 19 (.quiet 20 (.only 21 (.quiet 22 (.quiet 23 .done)))))))))))))))))))))))) (by kernel_rfl) (by kernel_rfl) (by kernel_rfl) (fun _ _ _ _ _ h => h) ?_
                  intro Wf hWf
                  iterate 10 (first
                    | (refine ordB_skip rfl rfl ?_; simp only [Act.put, List.setIfInBounds_toArray, List.set_cons_zero, List.set_cons_succ])
                    | (refine ordB_take (v := ?_) rfl rfl ?_ ?_
                       rotate_left 1
                       focus (intro W hW; obtain ⟨hcW, hfW⟩ := bcell hW; (go_simp <;> with_reducible rfl))
                       simp only [Act.put, List.setIfInBounds_toArray, List.set_cons_zero, List.set_cons_succ]))
                  refine ordB_only (opB_cskip rfl rfl hWf ?_)
                  simp only [Act.put, List.setIfInBounds_toArray, List.set_cons_zero, List.set_cons_succ]
                  iterate 10 (first
                    | (refine ordB_skip rfl rfl ?_; simp only [Act.put, List.setIfInBounds_toArray, List.set_cons_zero, List.set_cons_succ])
                    | (refine ordB_take (v := ?_) rfl rfl ?_ ?_
                       rotate_left 1
                       focus (intro W hW; obtain ⟨hcW, hfW⟩ := bcell hW; (go_simp <;> with_reducible rfl))
                       simp only [Act.put, List.setIfInBounds_toArray, List.set_cons_zero, List.set_cons_succ]))
                  refine ordB_only (opB_cskip rfl rfl hWf ?_)
                  simp only [Act.put, List.setIfInBounds_toArray, List.set_cons_zero, List.set_cons_succ]
                  iterate 2 (first
                    | (refine ordB_skip rfl rfl ?_; simp only [Act.put, List.setIfInBounds_toArray, List.set_cons_zero, List.set_cons_succ])
                    | (refine ordB_take (v := ?_) rfl rfl ?_ ?_
                       rotate_left 1
                       focus (intro W hW; obtain ⟨hcW, hfW⟩ := bcell hW; (go_simp <;> with_reducible rfl))
                       simp only [Act.put, List.setIfInBounds_toArray, List.set_cons_zero, List.set_cons_succ]))
                  refine ordB_nil ?_
                  have hbE := Lib.hid (bthen HBJ.out hWf)
                  clear hWf
                  generalize Wf = wz at *
                  go_wp2_with fail
                  go_roundw
                  case rel => exact ⟨j + 1, by omega, by go_num, hbE.out⟩
                  case measure => simp [intOf]; omega
                | true =>
                  cases vkj with
                  | false =>
                    clear htr
                    refine ordB_below (.quiet 0 (.quiet 1 (.quiet 2 (.quiet 3 (.quiet 4 (.quiet 5 (.quiet 6 (.quiet 7 (.quiet 8 (.quiet 9 (.only 10 (.quiet 11 (.quiet 12 (.quiet 13 (.quiet 14 (.quiet 15 (.quiet 16 (.quiet 17 (.quiet 18 (.quiet 19 (.quiet 20 (.only 21 (.quiet 22 (.quiet 23 .done)))))))))))))))))))))))) (by kernel_rfl) (by kernel_rfl) (by kernel_rfl) (fun _ _ _ _ _ h => h) ?_
                    intro Wf hWf
                    iterate 10 (first
                      | (refine ordB_skip rfl rfl ?_; simp only [Act.put, List.setIfInBounds_toArray, List.set_cons_zero, List.set_cons_succ])
                      | (refine ordB_take (v := ?_) rfl rfl ?_ ?_
                         rotate_left 1
                         focus (intro W hW; obtain ⟨hcW, hfW⟩ := bcell hW; (go_simp <;> with_reducible rfl))
                         simp only [Act.put, List.setIfInBounds_toArray, List.set_cons_zero, List.set_cons_succ]))
                    refine ordB_only (opB_call rfl rfl (fun K hK => ?_))
                    go_simp
                    go_at_call 15
                    refine (HKJ.out _ hWf).mono ?_
                    rintro e Wf_1 ⟨rfl, hx10⟩
                    refine hK.out _ _ (hWf.trans (hx10.mono hWf.size)) (fun hWf_1 => ?_)
                    iterate 10 (first
                      | (refine ordB_skip rfl rfl ?_; simp only [Act.put, List.setIfInBounds_toArray, List.set_cons_zero, List.set_cons_succ])
                      | (refine ordB_take (v := ?_) rfl rfl ?_ ?_
                         rotate_left 1
                         focus (intro W hW; obtain ⟨hcW, hfW⟩ := bcell hW; (go_simp <;> with_reducible rfl))
                         simp only [Act.put, List.setIfInBounds_toArray, List.set_cons_zero, List.set_cons_succ]))
                    refine ordB_only (opB_cskip rfl rfl hWf_1 ?_)
                    simp only [Act.put, List.setIfInBounds_toArray, List.set_cons_zero, List.set_cons_succ]
                    iterate 2 (first
                      | (refine ordB_skip rfl rfl ?_; simp only [Act.put, List.setIfInBounds_toArray, List.set_cons_zero, List.set_cons_succ])
                      | (refine ordB_take (v := ?_) rfl rfl ?_ ?_
                         rotate_left 1
                         focus (intro W hW; obtain ⟨hcW, hfW⟩ := bcell hW; (go_simp <;> with_reducible rfl))
                         simp only [Act.put, List.setIfInBounds_toArray, List.set_cons_zero, List.set_cons_succ]))
                    refine ordB_nil ?_
                    have hbE := Lib.hid (bthen HBJ.out hWf_1)
                    clear hWf_1
                    generalize Wf_1 = wz at *
                    go_wp2_with fail
                    go_roundw
                    case rel => exact ⟨j + 1, by omega, by go_num, hbE.out⟩
                    case measure => simp [intOf]; omega
                  | true =>
                    obtain rfl : vij = true := htr rfl rfl
                    clear htr
                    refine ordB_below (.quiet 0 (.quiet 1 (.quiet 2 (.quiet 3 (.quiet 4 (.quiet 5 (.quiet 6 (.quiet 7 (.quiet 8 (.quiet 9 (.only 10 (.quiet 11 (.quiet 12 (.quiet 13 (.quiet 14 (.quiet 15 (.quiet 16 (.quiet 17 (.quiet 18 (.quiet 19 (.quiet 20 (.only 21 (.quiet 22 (.quiet 23 .done)))))))))))))))))))))))) (by kernel_rfl) (by kernel_rfl) (by kernel_rfl) (fun _ _ _ _ _ h => h) ?_
                    intro Wf hWf
                    iterate 10 (first
                      | (refine ordB_skip rfl rfl ?_; simp only [Act.put, List.setIfInBounds_toArray, List.set_cons_zero, List.set_cons_succ])
                      | (refine ordB_take (v := ?_) rfl rfl ?_ ?_
                         rotate_left 1
                         focus (intro W hW; obtain ⟨hcW, hfW⟩ := bcell hW; (go_simp <;> with_reducible rfl))
                         simp only [Act.put, List.setIfInBounds_toArray, List.set_cons_zero, List.set_cons_succ]))
                    refine ordB_only (opB_call rfl rfl (fun K hK => ?_))
                    go_simp
                    go_at_call 15
                    refine (HKJ.out _ hWf).mono ?_
                    rintro e Wf_1 ⟨rfl, hx10⟩
                    refine hK.out _ _ (hWf.trans (hx10.mono hWf.size)) (fun hWf_1 => ?_)
                    iterate 10 (first
                      | (refine ordB_skip rfl rfl ?_; simp only [Act.put, List.setIfInBounds_toArray, List.set_cons_zero, List.set_cons_succ])
                      | (refine ordB_take (v := ?_) rfl rfl ?_ ?_
                         rotate_left 1
                         focus (intro W hW; obtain ⟨hcW, hfW⟩ := bcell hW; (go_simp <;> with_reducible rfl))
                         simp only [Act.put, List.setIfInBounds_toArray, List.set_cons_zero, List.set_cons_succ]))
                    refine ordB_only (opB_call rfl rfl (fun K hK => ?_))
                    go_simp
                    go_at_call 15
                    refine (HIJ.out _ hWf_1).mono ?_
                    rintro e Wf_1_2 ⟨rfl, hx21⟩
                    refine hK.out _ _ (hWf_1.trans (hx21.mono hWf_1.size)) (fun hWf_1_2 => ?_)
                    iterate 2 (first
                      | (refine ordB_skip rfl rfl ?_; simp only [Act.put, List.setIfInBounds_toArray, List.set_cons_zero, List.set_cons_succ])
                      | (refine ordB_take (v := ?_) rfl rfl ?_ ?_
                         rotate_left 1
                         focus (intro W hW; obtain ⟨hcW, hfW⟩ := bcell hW; (go_simp <;> with_reducible rfl))
                         simp only [Act.put, List.setIfInBounds_toArray, List.set_cons_zero, List.set_cons_succ]))
                    refine ordB_nil ?_
                    have hbE := Lib.hid (bthen HBJ.out hWf_1_2)
                    clear hWf_1_2
                    generalize Wf_1_2 = wz at *
                    go_wp2_with fail
                    go_roundw
                    case rel => exact ⟨j + 1, by omega, by go_num, hbE.out⟩
                    case measure => simp [intOf]; omega
              · obtain rfl : j = 3 := by omega
                have HBE2 := Lib.hid (bthen HBK.out (bthen HBN.out hbj))
                clear hbj hbp
                go_wp2_with fail
                go_roundw
                case rel => exact ⟨k + 1, by omega, by go_num, HBE2.out⟩
                case measure => simp [intOf]; omega
        · obtain rfl : k = 3 := by omega
          have HBI2 := Lib.hid hb7
          obtain ⟨x0, x1, bl⟩ := HCL.out _ i x hb7 HX.out
          have HII : Hid (∀ W', Below w9.heap.size w9 W' → Calls Try.prog 15 #[.agg #[.slice x.A x.L.length x.c, .bool x.b], .agg #[.slice x.A x.L.length x.c, .bool x.b]] W' fun e w' => e = .returned (.bool true) ∧ Below W'.heap.size W' w') := fun W' hW' => by have h := HPR.out W' i i x x (bthen hb7 hW') HX.out HX.out; rw [pref_refl] at h; exact h
          clear hb7 hbk
          go_upto_region 20 with fail
          refine ordB_below (.quiet 0 (.quiet 1 (.quiet 2 (.quiet 3 (.quiet 4 (.quiet 5 (.quiet 6 (.quiet 7 (.only 8 (.quiet 9 .done)))))))))) (by kernel_rfl) (by kernel_rfl) (by kernel_rfl) (fun _ _ _ _ _ h => h) ?_
          intro Wh hWh
          iterate 8 (first
            | (refine ordB_skip rfl rfl ?_; simp only [Act.put, List.setIfInBounds_toArray, List.set_cons_zero, List.set_cons_succ])
            | (refine ordB_take (v := ?_) rfl rfl ?_ ?_
               rotate_left 1
               focus (intro W hW; obtain ⟨hcW, hfW⟩ := bcell hW; (go_simp <;> with_reducible rfl))
               simp only [Act.put, List.setIfInBounds_toArray, List.set_cons_zero, List.set_cons_succ]))
          refine ordB_only (opB_call rfl rfl (fun K hK => ?_))
          go_simp
          go_at_call 15
          refine (HII.out _ hWh).mono ?_
          rintro e Wh_1 ⟨rfl, hx8⟩
          refine hK.out _ _ (hWh.trans (hx8.mono hWh.size)) (fun hWh_1 => ?_)
          iterate 1 (first
            | (refine ordB_skip rfl rfl ?_; simp only [Act.put, List.setIfInBounds_toArray, List.set_cons_zero, List.set_cons_succ])
            | (refine ordB_take (v := ?_) rfl rfl ?_ ?_
               rotate_left 1
               focus (intro W hW; obtain ⟨hcW, hfW⟩ := bcell hW; (go_simp <;> with_reducible rfl))
               simp only [Act.put, List.setIfInBounds_toArray, List.set_cons_zero, List.set_cons_succ]))
          refine ordB_nil ?_
          have hbE := Lib.hid (bthen HBI2.out hWh_1)
          clear hWh_1
          generalize Wh_1 = wy at *
          go_wp2_with fail
          go_roundw
          case rel => exact ⟨i + 1, by omega, by go_num, hbE.out⟩
          case measure => simp [intOf]; omega
    · obtain rfl : i = 3 := by omega
      have hE := bthen HBE.out hbi
      clear hbi
      go_wp2_with fail
      go_ret
      exact ⟨rfl, hE⟩
end Go.Proofs.Ytpajajffkbkeaaa
