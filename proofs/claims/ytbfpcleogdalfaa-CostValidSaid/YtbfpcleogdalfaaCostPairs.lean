/-
  CostPairs: the plain law, the walk.
-/
import Derived.Test.YtbfpcleogdalfaaCostMB
namespace Go.Proofs.Ytbfpcleogdalfaa
open Go Go.RowKit

theorem known_of_mem : ∀ {ps : List Pr}, incP ps = true → ∀ p ∈ ps, known ps p.a p.b = p.n
  | [], _, p, hp => by simp at hp
  | q :: l, h, p, hp => by
    rw [known_cons h]
    rcases List.mem_cons.1 hp with rfl | hp
    · rw [if_pos ⟨rfl, rfl⟩]
    · have h1 := (incP_cons.1 h).1 p hp
      rw [lessP_iff] at h1
      rw [if_neg (by omega)]
      exact known_of_mem (incP_cons.1 h).2 p hp
theorem only_sum {ps : List Pr} {i : Nat} {p : Pr} (hp : ps[i]? = some p) (h : ∀ j q, j ≠ i → ps[j]? = some q → q.a ≠ p.a) : sumAt ps p.a = p.n := by
  obtain ⟨hi, he⟩ := List.getElem?_eq_some_iff.1 hp
  have e : ps = ps.take i ++ p :: ps.drop (i + 1) := by rw [← he]; simp
  rw [e, sumAt_append, sumAt_cons, if_pos rfl, sumAt_none (fun q hq => by
    obtain ⟨j, hj, hjq⟩ := mem_take_get hq
    exact h j q (by omega) hjq), sumAt_none (fun q hq => by
    obtain ⟨j, hj, hjq⟩ := mem_drop_get hq
    exact h j q (by omega) hjq)]
  omega
theorem pcost_known {m : Mo} (hok : MoOK m) {p : Pr} (hp : p ∈ m.ps) : pcost m p.a p.b.toNat = lg (sumAt m.ps p.a) - lg p.n := by
  have hr := (hok.1.2.2.1 p hp).1
  unfold PRange at hr
  have hk : known m.ps p.a ((p.b.toNat : Nat) : Int) = p.n := by
    rw [Int.toNat_of_nonneg (by omega)]; exact known_of_mem hok.1.2.2.2 p hp
  unfold pcost
  rw [if_neg (by omega), hk, if_neg (by omega)]
theorem n_le_sum {ps : List Pr} {n : Nat} (h : ∀ p ∈ ps, PRange n p) {p : Pr} (hp : p ∈ ps) : p.n ≤ sumAt ps p.a := by
  unfold sumAt
  refine mem_le_total (fun c hc => ?_) _ (List.mem_map.2 ⟨p, List.mem_filter.2 ⟨hp, by simp⟩, rfl⟩)
  obtain ⟨q, hq, rfl⟩ := List.mem_map.1 hc
  have := (h q (List.mem_filter.1 hq).1).2.2
  omega
theorem pcost_nonneg {m : Mo} (hok : MoOK m) {p : Pr} (hp : p ∈ m.ps) : 0 ≤ pcost m p.a p.b.toNat := by
  rw [pcost_known hok hp]
  have := lg_mono (n_le_sum (fun q hq => (hok.1.2.2.1 q hq).1) hp)
  omega
theorem pcost_le {m : Mo} (hok : MoOK m) {p q : Pr} (hp : p ∈ m.ps) (hq : q ∈ m.ps) (ha : q.a = p.a) (hn : q.n ≤ p.n) : pcost m p.a p.b.toNat ≤ pcost m q.a q.b.toNat := by
  rw [pcost_known hok hp, pcost_known hok hq, ha]
  have := lg_mono hn
  omega
theorem pair_anyI (m : Mo) (A1 A2 A3 : Option Addr) (c1 c2 c3 : Nat) (a b : Int) (w : World) (h : MoR w m A1 A2 A3) (hok : MoOK m) (hb0 : 0 ≤ b) (hb : b < m.cs.length) (ha : a < 65536) (hc3 : m.ps.length ≤ c3) (hm3 : c3 ≤ maxLen) :
    Calls Try.prog 14 #[.agg #[.slice A1 m.ws.length c1, .slice A2 m.cs.length c2, .slice A3 m.ps.length c3, .int .i64 m.back], .int .i64 a, .int .i64 b] w fun e w' => e = .returned (.int .i64 (pcost m a b.toNat)) ∧ Below w.heap.size w w' := by
  obtain ⟨k, rfl⟩ := Int.eq_ofNat_of_zero_le hb0
  exact pair_any m A1 A2 A3 c1 c2 c3 a k w h hok (by omega) ha hc3 hm3
theorem findI_cases (ps : List Pr) (a b : Int) : (findI ps a b < 0 ∧ known ps a b = 0) ∨ 0 ≤ findI ps a b := by
  unfold findI
  split
  · right; omega
  · rename_i h
    left
    refine ⟨by decide, known_none fun q hq he => ?_⟩
    rw [List.findIdx?_eq_none_iff] at h
    have := h q hq
    simp [he.1, he.2] at this
/-- What the inner loop over the pairs has seen: no other pair after the same word, if b is set. -/
def OnlyTo (ps : List Pr) (i : Nat) (p : Pr) (k : Nat) (b : Bool) : Prop := b = true → ∀ j q, j < k → j ≠ i → ps[j]? = some q → q.a ≠ p.a
theorem OnlyTo.skip {ps : List Pr} {i k : Nat} {p q : Pr} {b : Bool} (h : OnlyTo ps i p k b) (hq : ps[k]? = some q) (hn : k = i ∨ q.a ≠ p.a) : OnlyTo ps i p (k + 1) b := fun hb j z hj hji hz => by
  rcases Nat.lt_succ_iff_lt_or_eq.1 hj with hj | rfl
  · exact h hb j z hj hji hz
  · rw [hq] at hz; rw [← Option.some.inj hz]
    rcases hn with hn | hn
    · exact absurd hn hji
    · exact hn
theorem OnlyTo.no (ps : List Pr) (i k : Nat) (p : Pr) : OnlyTo ps i p k false := fun h => by cases h
theorem OnlyTo.all {m : Mo} {i : Nat} {p : Pr} (h : OnlyTo m.ps i p m.ps.length true) (hok : MoOK m) (hp : m.ps[i]? = some p) : pcost m p.a p.b.toNat = 0 := by
  rw [pcost_known hok (List.mem_of_getElem? hp), only_sum hp (fun j q hj hq => h rfl j q (List.getElem?_eq_some_iff.1 hq).1 hj hq)]
  omega
set_option maxRecDepth 100000 in
set_option maxHeartbeats 8000000 in
theorem costPairs_any (x : Raw) (A1 A2 A3 : Option Addr) (c1 c2 c3 : Nat) (w : World) (h : RawR w x A1 A2 A3) :
    Calls Try.prog 7 #[.agg #[.slice A1 x.words.length c1, .slice A2 x.counts.length c2, .slice A3 x.uses.length c3, .int .u8 x.back]] w fun e w' => e = .returned (.bool true) ∧ Below w.heap.size w w' := by
  have hlim := made_lim x h.b2 h.b3 h.bk
  have HLIM := Lib.hid hlim
  have HBX := Lib.hid (show Below w.heap.size w (w.alloc (.cells #[.slice A1 x.words.length c1, .slice A2 x.counts.length c2, .slice A3 x.uses.length c3, .int .u8 x.back] 26)) from (Below.refl w.heap.size w).alloc (Nat.le_refl _) (.cells #[.slice A1 x.words.length c1, .slice A2 x.counts.length c2, .slice A3 x.uses.length c3, .int .u8 x.back] 26))
  have HR := Lib.hid (h.below HBX.out)
  have HK0 := Lib.hid (Blk.new w 26 #[.slice A1 x.words.length c1, .slice A2 x.counts.length c2, .slice A3 x.uses.length c3, .int .u8 x.back])
  clear h hlim
  go_enter Try.func7, Try.ntmps7
  go_wp2_with (first | (go_at_call 10; go_loud (refine (sanity_any _).mono ?_; rintro e w1 ⟨rfl, hb1⟩; have hkr := HK0.out.below hb1 HK0.out.lt; have rw0 := hkr.cell 0; have rw1 := hkr.cell 1; have rw2 := hkr.cell 2; have rw3 := hkr.cell 3)) | (go_at_call 11; go_loud (refine (made_any x A1 A2 A3 c1 c2 c3 _ (HR.out.below hb1)).mono ?_; rintro e w2 ⟨B1, B2, B3, d1, d2, d3, rfl, hmor, hcaps, hb2⟩)))
  have hb12 := hb1.trans (hb2.mono hb1.size)
  have HMB := Lib.hid (mb_new hmor hcaps)
  have HB := Lib.hid ((HBX.out.trans (hb12.mono HBX.out.size)).alloc (Nat.le_trans HBX.out.size hb12.size) (.cells #[.slice B1 (madeM x).ws.length d1, .slice B2 (madeM x).cs.length d2, .slice B3 (madeM x).ps.length d3, .int .i64 (madeM x).back] 34))
  clear hb1 hb2 hb12 hkr rw0 rw1 rw2 rw3 HK0 HR HBX hmor hcaps
  generalize w2.alloc (.cells #[.slice B1 (madeM x).ws.length d1, .slice B2 (madeM x).cs.length d2, .slice B3 (madeM x).ps.length d3, .int .i64 (madeM x).back] 34) = W at *
  generalize w2.heap.size = g at *
  generalize madeM x = m at *
  obtain ⟨hl, hw2, hw8⟩ := HLIM.out
  have HOK := Lib.hid hl.ok
  have HL := Lib.hid hl
  have HCL := Lib.hid (show m.cs.length = m.ws.length from hl.ok.1.1.2.1)
  clear hl HLIM
  have hps : m.ps.length ≤ 8 := HL.out.ln
  have hcl : m.ws.length ≤ m.cs.length ∧ m.cs.length ≤ m.ws.length := by have := HCL.out; omega
  go_loopw [5] (fun i wr => ∃ k : Nat, k ≤ m.ps.length ∧ i = .int .i64 k ∧ Below W.heap.size W wr) (fun i _ => m.ps.length - (intOf i).toNat)
  case atStart => exact ⟨0, by omega, rfl, Below.refl _ _⟩
  case round =>
    obtain ⟨i, hi, rfl, hb⟩ := hrel
    have hmb := HMB.out.below hb
    have q0 := hmb.b.cell 0; have q1 := hmb.b.cell 1; have q2 := hmb.b.cell 2; have q3 := hmb.b.cell 3; have hg := hmb.b.lt
    by_cases hlt : i < m.ps.length
    · obtain ⟨b, off, p, rfl, hbb, hpp, p0, p1, p2⟩ := hmb.r.h3.pr hlt
      have hpm := List.mem_of_getElem? hpp
      have hpr := (HOK.out.1.2.2.1 p hpm).1
      have HPP := Lib.hid hpp
      have HPM := Lib.hid hpm
      have hr : (0 ≤ p.a ∧ p.a < m.ws.length) ∧ (0 ≤ p.b ∧ p.b < m.ws.length) := ⟨hpr.1, hpr.2.1⟩
      have hix : (i : Int) < m.ps.length := by omega
      clear hpp hpm hpr
      have HPC : Hid (∀ W2, Below wr.heap.size wr W2 → Calls Try.prog 14 #[.agg #[.slice B1 m.ws.length d1, .slice B2 m.cs.length d2, .slice (some ⟨b, off, none⟩) m.ps.length d3, .int .i64 m.back], .int .i64 p.a, .int .i64 p.b] W2 fun e w' => e = .returned (.int .i64 (pcost m p.a p.b.toNat)) ∧ Below W2.heap.size W2 w') := fun W2 h2 =>
        pair_anyI m B1 B2 _ d1 d2 d3 p.a p.b W2 (hmb.r.below h2) HOK.out (by omega) (by omega) (by omega) hmb.k.2.2.1 hmb.k.2.2.2
      go_wp2_with (first | (go_at_call 14; go_loud (refine (HPC.out _ ((Below.refl _ _).alloc (Nat.le_refl _) _)).mono ?_; rintro e w3 ⟨rfl, hb3⟩)))
      have hkp := (Blk.new wr 50 #[.int .i64 p.a, .int .i64 p.b, .int .i64 p.n]).below hb3 (by simp)
      have hbw : Below W.heap.size W w3 := (hb.alloc hb.size _).trans (hb3.mono (by have := hb.size; simp; omega))
      have HKP := Lib.hid hkp
      have HBW := Lib.hid hbw
      have hmb3 := Lib.hid (HMB.out.below hbw)
      clear hmb q0 q1 q2 q3 hg hb hb3 hkp hbw p0 p1 p2 hbb HPC
      generalize wr.heap.size = gp at *
      go_loopw [7, 9] (fun o i' wr => ∃ k : Nat, ∃ bo : Bool, k ≤ m.ps.length ∧ i' = .int .i64 k ∧ o = .bool bo ∧ Hid (OnlyTo m.ps i p k bo) ∧ Below w3.heap.size w3 wr) (fun _ i' _ => m.ps.length - (intOf i').toNat)
      case atStart => exact ⟨0, true, by omega, rfl, rfl, fun _ j q hj => absurd hj (by omega), Below.refl _ _⟩
      case round =>
        obtain ⟨k, bo, hk, rfl, rfl, HO, hb⟩ := hrel
        have hmb := hmb3.out.below hb
        have q0 := hmb.b.cell 0; have q1 := hmb.b.cell 1; have q2 := hmb.b.cell 2; have q3 := hmb.b.cell 3; have hg := hmb.b.lt
        have hkp := HKP.out.below hb HKP.out.lt
        have u0 := hkp.cell 0; have u1 := hkp.cell 1; have u2 := hkp.cell 2; have hgp := hkp.lt
        by_cases hlk : k < m.ps.length
        · obtain ⟨b', off', q, hA, hbb, hqq, c0, c1', c2'⟩ := hmb.r.h3.pr hlk
          injection hA with hA
          injection hA with h1 h2
          subst h1 h2
          have HQQ := Lib.hid hqq
          have hqm := List.mem_of_getElem? hqq
          have hqr := (HOK.out.1.2.2.1 q hqm).1
          have hr2 : (0 ≤ q.a ∧ q.a < m.ws.length) ∧ (0 ≤ q.b ∧ q.b < m.ws.length) := ⟨hqr.1, hqr.2.1⟩
          have HQM := Lib.hid hqm
          have hkx : (k : Int) < m.ps.length := by omega
          have HPC : Hid (∀ W2, Below wr.heap.size wr W2 → Calls Try.prog 14 #[.agg #[.slice B1 m.ws.length d1, .slice B2 m.cs.length d2, .slice (some ⟨b, off, none⟩) m.ps.length d3, .int .i64 m.back], .int .i64 q.a, .int .i64 q.b] W2 fun e w' => e = .returned (.int .i64 (pcost m q.a q.b.toNat)) ∧ Below W2.heap.size W2 w') := fun W2 h2 =>
            pair_anyI m B1 B2 _ d1 d2 d3 q.a q.b W2 (hmb.r.below h2) HOK.out (by omega) (by omega) (by omega) hmb.k.2.2.1 hmb.k.2.2.2
          clear hqq hqm hqr
          by_cases e1 : (q.a != p.a) = true
          · have HN := Lib.hid (HO.out.skip HQQ.out (.inr (by simpa using e1)))
            go_wp2_with fail
            go_roundw
            case rel => exact ⟨k + 1, bo, by omega, by go_num, rfl, HN.out, hb.alloc hb.size _⟩
            case measure => simp [intOf]; omega
          · have e1' : (q.a != p.a) = false := by simpa using e1
            have HA := Lib.hid (show q.a = p.a by simpa using e1')
            clear e1
            by_cases hki : k = i
            · have HN := Lib.hid (HO.out.skip HQQ.out (.inl hki))
              subst hki
              go_wp2_with fail
              go_roundw
              case rel => exact ⟨k + 1, bo, by omega, by go_num, rfl, HN.out, hb.alloc hb.size _⟩
              case measure => simp [intOf]; omega
            · have e2 : ((k : Int) == (i : Int)) = false := by simp; omega
              by_cases hn : q.n ≤ p.n
              · have hle := pcost_le HOK.out HPM.out HQM.out HA.out hn
                go_wp2_with (first | (go_at_call 14; go_loud (refine (HPC.out _ ((Below.refl _ _).alloc (Nat.le_refl _) _)).mono ?_; rintro e w5 ⟨rfl, hb5⟩)))
                go_roundw
                case rel => exact ⟨k + 1, false, by omega, by go_num, rfl, OnlyTo.no _ _ _ _, (hb.alloc hb.size _).trans (hb5.mono (by have := hb.size; simp; omega))⟩
                case measure => simp [intOf]; omega
              · go_wp2_with fail
                go_roundw
                case rel => exact ⟨k + 1, false, by omega, by go_num, rfl, OnlyTo.no _ _ _ _, hb.alloc hb.size _⟩
                case measure => simp [intOf]; omega
        · obtain rfl : k = m.ps.length := by omega
          have n0 := pcost_nonneg HOK.out HPM.out
          cases bo with
          | true =>
            have e0 : (pcost m p.a p.b.toNat != 0) = false := by rw [HO.out.all HOK.out HPP.out]; rfl
            go_wp2_with fail
            go_roundw
            case rel => exact ⟨i + 1, by omega, by go_num, HBW.out.trans (hb.mono HBW.out.size)⟩
            case measure => simp [intOf]; omega
          | false =>
            go_wp2_with fail
            go_roundw
            case rel => exact ⟨i + 1, by omega, by go_num, HBW.out.trans (hb.mono HBW.out.size)⟩
            case measure => simp [intOf]; omega
    · go_wp2_with fail
      have HB1 := Lib.hid hb
      clear hmb q0 q1 q2 q3 hg hb hlt hi
      obtain ⟨wo, rfl⟩ : ∃ wo : World, wo = wr := ⟨_, rfl⟩
      go_loopw [11] (fun i wr => ∃ k : Nat, k ≤ m.ws.length ∧ i = .int .i64 k ∧ Below W.heap.size W wr) (fun i _ => m.ws.length - (intOf i).toNat)
      case atStart => exact ⟨0, by omega, rfl, HB1.out⟩
      case round =>
        obtain ⟨i, hi, rfl, hb⟩ := hrel
        have hmb := HMB.out.below hb
        have q0 := hmb.b.cell 0; have q1 := hmb.b.cell 1; have q2 := hmb.b.cell 2; have q3 := hmb.b.cell 3; have hg := hmb.b.lt
        by_cases hlt : i < m.ws.length
        · go_wp2_with fail
          have HB2 := Lib.hid hb
          clear hmb q0 q1 q2 q3 hg hb
          obtain ⟨wo2, rfl⟩ : ∃ wo2 : World, wo2 = wr := ⟨_, rfl⟩
          go_loopw [12] (fun i wr => ∃ k : Nat, k ≤ m.ws.length ∧ i = .int .i64 k ∧ Below W.heap.size W wr) (fun i _ => m.ws.length - (intOf i).toNat)
          case atStart => exact ⟨0, by omega, rfl, HB2.out⟩
          case round =>
            obtain ⟨k, hk, rfl, hb⟩ := hrel
            have hmb := HMB.out.below hb
            have q0 := hmb.b.cell 0; have q1 := hmb.b.cell 1; have q2 := hmb.b.cell 2; have q3 := hmb.b.cell 3; have hg := hmb.b.lt
            by_cases hlk : k < m.ws.length
            · rcases findI_cases m.ps i k with ⟨hf, hkn⟩ | hf
              · have e0 : (pcost m i k != m.back + wcost m k) = false := by unfold pcost; rw [if_neg (by omega), if_pos hkn]; simp
                have hwb := wcost_bd m k HOK.out.1.1.2 (by omega) (by omega)
                have hbk := HOK.out.2
                have hww : IntKind.i64.wrap (m.back + wcost m k) = m.back + wcost m k := IntWalk.i64_in _ (by omega)
                clear hkn
                have hfd : decide (findI m.ps i k < 0) = true := by simpa using hf
                go_wp2_with fail
                refine ord_below [(0, false), (1, false), (2, false), (3, true), (4, false), (5, false), (6, false), (7, false), (8, false), (10, false), (11, false), (12, false), (13, false), (9, true), (14, true), (15, false), (16, false), (17, false)] (by kernel_rfl) (by kernel_rfl) (by kernel_rfl) (fun _ _ _ _ _ h => h) ?_
                intro W0 hS0
                repeat (first
                  | (refine ord_skip rfl rfl ?_; simp only [Act.put, List.setIfInBounds_toArray, List.set_cons_zero, List.set_cons_succ])
                  | (refine ord_cskip rfl rfl (by assumption) ?_; simp only [Act.put, List.setIfInBounds_toArray, List.set_cons_zero, List.set_cons_succ])
                  | (refine ord_take (v := ?_) rfl rfl ?_ ?_
                     rotate_left 1
                     focus (intro W hW; obtain ⟨hcW, hfW⟩ := bcell hW; (go_simp <;> with_reducible rfl))
                     simp only [Act.put, List.setIfInBounds_toArray, List.set_cons_zero, List.set_cons_succ])
                  | (refine ord_call rfl rfl (fun K hK => ?_)
                     go_simp
                     first
                       | (go_at_call 23; refine (find_any _ _ _ _ m.ps d3 _ _ _ (hmb.r.below hS0).h3 (hmb.r).l3).mono ?_; rintro e w' ⟨rfl, hb'⟩; refine hK.out _ _ (hS0.trans (hb'.mono hS0.size)) (fun hS0 => ?_))
                       | (go_at_call 14; refine (pair_any m _ _ _ d1 d2 d3 _ _ _ (hmb.r.below hS0) HOK.out (by omega) (by omega) hmb.k.2.2.1 hmb.k.2.2.2).mono ?_; rintro e w' ⟨rfl, hb'⟩; refine hK.out _ _ (hS0.trans (hb'.mono hS0.size)) (fun hS0 => ?_))
                       | (go_at_call 12; refine (wcost_any m _ _ _ d1 d2 d3 _ _ (hmb.r.below hS0) HOK.out.1.1.2 (by omega)).mono ?_; rintro e w' ⟨rfl, hb'⟩; refine hK.out _ _ (hS0.trans (hb'.mono hS0.size)) (fun hS0 => ?_))))
                refine ord_nil ?_
                go_wp2_with fail
                go_roundw
                case rel => exact ⟨k + 1, by omega, by go_num, hb.trans (hS0.mono hb.size)⟩
                case measure => simp [intOf]; omega
              · have hfd : decide (findI m.ps i k < 0) = false := by simpa using hf
                go_wp2_with fail
                refine ord_below [(0, false), (1, false), (2, false), (3, true), (4, false), (5, false), (6, false), (7, false), (8, false), (10, false), (11, false), (12, false), (13, false), (9, true), (14, true), (15, false), (16, false), (17, false)] (by kernel_rfl) (by kernel_rfl) (by kernel_rfl) (fun _ _ _ _ _ h => h) ?_
                intro W0 hS0
                repeat (first
                  | (refine ord_skip rfl rfl ?_; simp only [Act.put, List.setIfInBounds_toArray, List.set_cons_zero, List.set_cons_succ])
                  | (refine ord_cskip rfl rfl (by assumption) ?_; simp only [Act.put, List.setIfInBounds_toArray, List.set_cons_zero, List.set_cons_succ])
                  | (refine ord_take (v := ?_) rfl rfl ?_ ?_
                     rotate_left 1
                     focus (intro W hW; obtain ⟨hcW, hfW⟩ := bcell hW; (go_simp <;> with_reducible rfl))
                     simp only [Act.put, List.setIfInBounds_toArray, List.set_cons_zero, List.set_cons_succ])
                  | (refine ord_call rfl rfl (fun K hK => ?_)
                     go_simp
                     first
                       | (go_at_call 23; refine (find_any _ _ _ _ m.ps d3 _ _ _ (hmb.r.below hS0).h3 (hmb.r).l3).mono ?_; rintro e w' ⟨rfl, hb'⟩; refine hK.out _ _ (hS0.trans (hb'.mono hS0.size)) (fun hS0 => ?_))
                       | (go_at_call 14; refine (pair_any m _ _ _ d1 d2 d3 _ _ _ (hmb.r.below hS0) HOK.out (by omega) (by omega) hmb.k.2.2.1 hmb.k.2.2.2).mono ?_; rintro e w' ⟨rfl, hb'⟩; refine hK.out _ _ (hS0.trans (hb'.mono hS0.size)) (fun hS0 => ?_))
                       | (go_at_call 12; refine (wcost_any m _ _ _ d1 d2 d3 _ _ (hmb.r.below hS0) HOK.out.1.1.2 (by omega)).mono ?_; rintro e w' ⟨rfl, hb'⟩; refine hK.out _ _ (hS0.trans (hb'.mono hS0.size)) (fun hS0 => ?_))))
                refine ord_nil ?_
                go_wp2_with fail
                go_roundw
                case rel => exact ⟨k + 1, by omega, by go_num, hb.trans (hS0.mono hb.size)⟩
                case measure => simp [intOf]; omega
            · have e0 : (pcost m (-1) i != wcost m i) = false := by unfold pcost; rw [if_pos (by omega)]; simp
              go_wp2_with fail
              refine ord_below [(0, false), (1, false), (3, false), (4, false), (2, true), (5, true), (6, false)] (by kernel_rfl) (by kernel_rfl) (by kernel_rfl) (fun _ _ _ _ _ h => h) ?_
              intro W0 hS0
              repeat (first
                | (refine ord_skip rfl rfl ?_; simp only [Act.put, List.setIfInBounds_toArray, List.set_cons_zero, List.set_cons_succ])
                | (refine ord_cskip rfl rfl (by assumption) ?_; simp only [Act.put, List.setIfInBounds_toArray, List.set_cons_zero, List.set_cons_succ])
                | (refine ord_take (v := ?_) rfl rfl ?_ ?_
                   rotate_left 1
                   focus (intro W hW; obtain ⟨hcW, hfW⟩ := bcell hW; (go_simp <;> with_reducible rfl))
                   simp only [Act.put, List.setIfInBounds_toArray, List.set_cons_zero, List.set_cons_succ])
                | (refine ord_call rfl rfl (fun K hK => ?_)
                   go_simp
                   first
                     | (go_at_call 14; refine (pair_any m _ _ _ d1 d2 d3 _ _ _ (hmb.r.below hS0) HOK.out (by omega) (by omega) hmb.k.2.2.1 hmb.k.2.2.2).mono ?_; rintro e w' ⟨rfl, hb'⟩; refine hK.out _ _ (hS0.trans (hb'.mono hS0.size)) (fun hS0 => ?_))
                     | (go_at_call 12; refine (wcost_any m _ _ _ d1 d2 d3 _ _ (hmb.r.below hS0) HOK.out.1.1.2 (by omega)).mono ?_; rintro e w' ⟨rfl, hb'⟩; refine hK.out _ _ (hS0.trans (hb'.mono hS0.size)) (fun hS0 => ?_))))
              refine ord_nil ?_
              go_wp2_with fail
              go_roundw
              case rel => exact ⟨i + 1, by omega, by go_num, hb.trans (hS0.mono hb.size)⟩
              case measure => simp [intOf]; omega
        · go_wp2_with fail
          go_ret
          exact ⟨rfl, HB.out.trans (hb.mono HB.out.size)⟩
end Go.Proofs.Ytbfpcleogdalfaa
