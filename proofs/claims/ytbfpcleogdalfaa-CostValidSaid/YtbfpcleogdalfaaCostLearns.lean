/-
  CostLearns: the plain law, the walk.
-/
import Derived.Test.YtbfpcleogdalfaaCostPairs
namespace Go.Proofs.Ytbfpcleogdalfaa
open Go Go.RowKit

theorem next_ws (m : Mo) (prev wd n : Int) : (nextM m prev wd n).ws = m.ws := rfl
theorem next_total {m : Mo} (hok : MoOK m) (prev n : Int) {j : Nat} (hj : j < m.cs.length) : total (nextM m prev j n).cs = total m.cs + n := by
  unfold nextM
  simp only [Int.toNat_natCast]
  rw [total_set _ hj, List.getD_eq_getElem?_getD, List.getElem?_eq_getElem hj]
  simp; omega
theorem next_wcost_same {m : Mo} (hok : MoOK m) (prev : Int) {n : Int} (hn : 1 ≤ n) {j : Nat} (hj : j < m.cs.length) : wcost (nextM m prev j n) j ≤ wcost m j + 1 := by
  have hx := List.getElem?_eq_getElem hj
  have hx' : (nextM m prev j n).cs[j]? = some (m.cs[j] + n) := by
    unfold nextM
    simp only [Int.toNat_natCast]
    rw [List.getElem?_set_self hj, List.getD_eq_getElem?_getD, hx]; rfl
  rw [wcost_at hx, wcost_at hx', next_total hok prev n hj, next_ws]
  have h0 : ∀ c ∈ m.cs, 0 ≤ c := fun c hc => (hok.1.1.2.2.1 c hc).1
  have h1 := mem_le_total h0 _ (List.getElem_mem hj)
  have h2 := h0 _ (List.getElem_mem hj)
  have h3 : 1 ≤ m.ws.length := hok.1.1.1.1.1
  have := lg_slow (x := m.cs[j] + 1) (y := total m.cs + m.ws.length) (n := n) (by omega) (by omega) (by omega)
  rw [show total m.cs + n + (m.ws.length : Int) = total m.cs + m.ws.length + n by omega, show m.cs[j] + n + 1 = m.cs[j] + 1 + n by omega]
  omega
theorem next_wcost_other {m : Mo} (hok : MoOK m) (prev : Int) {n : Int} (hn : 1 ≤ n) {i j : Nat} (hj : j < m.cs.length) (hi : i < m.cs.length) (hij : i ≠ j) : wcost m i ≤ wcost (nextM m prev j n) i := by
  have hx := List.getElem?_eq_getElem hi
  have hx' : (nextM m prev j n).cs[i]? = some m.cs[i] := by
    unfold nextM
    simp only [Int.toNat_natCast]
    rw [List.getElem?_set_ne (by omega), hx]
  rw [wcost_at hx, wcost_at hx', next_total hok prev n hj, next_ws]
  have := lg_mono (x := total m.cs + m.ws.length) (y := total m.cs + n + m.ws.length) (by omega)
  omega
theorem pcost_of {m : Mo} {a n s : Int} {k : Nat} (ha : 0 ≤ a) (hk : known m.ps a k = n) (hn : 1 ≤ n) (hs : sumAt m.ps a = s) : pcost m a k = lg s - lg n := by
  unfold pcost
  rw [if_neg (by omega), hk, if_neg (by omega), hs]
/-- How the cost of a known pair changes. -/
theorem next_pcost {m : Mo} (hok : MoOK m) (prev : Int) {n : Int} (hn : 1 ≤ n) (j : Nat) {p : Pr} (hp : p ∈ m.ps) :
    ((p.a == prev) = true ∧ (p.b == (j : Int)) = true ∧ pcost (nextM m prev j n) p.a p.b.toNat ≤ pcost m p.a p.b.toNat + 1) ∨
    ((p.a == prev) = true ∧ (p.b == (j : Int)) = false ∧ pcost m p.a p.b.toNat ≤ pcost (nextM m prev j n) p.a p.b.toNat) ∨
    ((p.a == prev) = false ∧ pcost (nextM m prev j n) p.a p.b.toNat = pcost m p.a p.b.toNat) := by
  have hr := (hok.1.2.2.1 p hp).1
  unfold PRange at hr
  have hk := known_of_mem hok.1.2.2.2 p hp
  have hsn := n_le_sum (fun q hq => (hok.1.2.2.1 q hq).1) hp
  have hb : ((p.b.toNat : Nat) : Int) = p.b := Int.toNat_of_nonneg (by omega)
  rw [pcost_of (m := m) (a := p.a) (n := p.n) (s := sumAt m.ps p.a) (by omega) (by rw [hb]; exact hk) (by omega) rfl]
  by_cases h0 : 0 ≤ prev
  · have e : (nextM m prev j n).ps = insP ⟨prev, j, n⟩ m.ps := by unfold nextM; rw [if_pos h0, countP_eq]
    have hk2 := insP_known ⟨prev, j, n⟩ p.a p.b hok.1.2.2.2
    have hs2 := insP_sum ⟨prev, j, n⟩ p.a m.ps
    rw [← e] at hk2 hs2
    simp only at hk2 hs2
    by_cases h1 : p.a = prev
    · by_cases h2 : p.b = (j : Int)
      · left
        refine ⟨by simpa using h1, by simpa using h2, ?_⟩
        rw [if_pos ⟨h1.symm, h2.symm⟩] at hk2
        rw [if_pos h1.symm] at hs2
        rw [pcost_of (m := nextM m prev j n) (n := p.n + n) (s := sumAt m.ps p.a + n) (by omega) (by rw [hb, hk2, hk]) (by omega) hs2]
        have := lg_slow (x := p.n) (y := sumAt m.ps p.a) (n := n) (by omega) hsn (by omega)
        omega
      · right; left
        refine ⟨by simpa using h1, by simpa using h2, ?_⟩
        rw [if_neg (by omega)] at hk2
        rw [if_pos h1.symm] at hs2
        rw [pcost_of (m := nextM m prev j n) (n := p.n) (s := sumAt m.ps p.a + n) (by omega) (by rw [hb, hk2, hk]; omega) (by omega) hs2]
        have := lg_mono (x := sumAt m.ps p.a) (y := sumAt m.ps p.a + n) (by omega)
        omega
    · right; right
      refine ⟨by simpa using h1, ?_⟩
      rw [if_neg (by omega)] at hk2
      rw [if_neg (by omega)] at hs2
      rw [pcost_of (m := nextM m prev j n) (n := p.n) (s := sumAt m.ps p.a) (by omega) (by rw [hb, hk2, hk]; omega) (by omega) (by omega)]
  · right; right
    have e : (nextM m prev j n).ps = m.ps := by unfold nextM; rw [if_neg h0]
    refine ⟨by simp; omega, ?_⟩
    rw [pcost_of (m := nextM m prev j n) (n := p.n) (s := sumAt m.ps p.a) (by omega) (by rw [hb, e]; exact hk) (by omega) (by rw [e])]
set_option maxRecDepth 100000 in
set_option maxHeartbeats 8000000 in
theorem costLearns_any (x : Raw) (A1 A2 A3 : Option Addr) (c1 c2 c3 : Nat) (ua ub uc : Int) (w : World) (h : RawR w x A1 A2 A3) (hua : 0 ≤ ua ∧ ua ≤ 255) (hub : 0 ≤ ub ∧ ub ≤ 255) (huc : 0 ≤ uc ∧ uc ≤ 255) :
    Calls Try.prog 8 #[.agg #[.slice A1 x.words.length c1, .slice A2 x.counts.length c2, .slice A3 x.uses.length c3, .int .u8 x.back], .agg #[.int .u8 ua, .int .u8 ub, .int .u8 uc]] w fun e w' => e = .returned (.bool true) ∧ Below w.heap.size w w' := by
  have hlim := made_lim x h.b2 h.b3 h.bk
  have HLIM := Lib.hid hlim
  have HBX := Lib.hid (show Below w.heap.size w ((w.alloc (.cells #[.slice A1 x.words.length c1, .slice A2 x.counts.length c2, .slice A3 x.uses.length c3, .int .u8 x.back] 26)).alloc (.cells #[.int .u8 ua, .int .u8 ub, .int .u8 uc] 56)) from ((Below.refl w.heap.size w).alloc (Nat.le_refl _) (.cells #[.slice A1 x.words.length c1, .slice A2 x.counts.length c2, .slice A3 x.uses.length c3, .int .u8 x.back] 26)).alloc (by simp) (.cells #[.int .u8 ua, .int .u8 ub, .int .u8 uc] 56))
  have HR := Lib.hid (h.below HBX.out)
  have HK0 := Lib.hid ((Blk.new w 26 #[.slice A1 x.words.length c1, .slice A2 x.counts.length c2, .slice A3 x.uses.length c3, .int .u8 x.back]).alloc (.cells #[.int .u8 ua, .int .u8 ub, .int .u8 uc] 56))
  have HK1 := Lib.hid (Blk.new_ (w := (w.alloc (.cells #[.slice A1 x.words.length c1, .slice A2 x.counts.length c2, .slice A3 x.uses.length c3, .int .u8 x.back] 26))) (t := 56) (cs := #[.int .u8 ua, .int .u8 ub, .int .u8 uc]) (g := w.heap.size + 1) (by simp))
  clear h hlim
  go_enter Try.func8, Try.ntmps8
  go_wp2_with (first | (go_at_call 10; go_loud (refine (sanity_any _).mono ?_; rintro e w1 ⟨rfl, hb1⟩; have hkr := HK0.out.below hb1 HK0.out.lt; have rw0 := hkr.cell 0; have rw1 := hkr.cell 1; have rw2 := hkr.cell 2; have rw3 := hkr.cell 3)) | (go_at_call 11; go_loud (refine (made_any x A1 A2 A3 c1 c2 c3 _ (HR.out.below hb1)).mono ?_; rintro e w2 ⟨B1, B2, B3, d1, d2, d3, rfl, hmor, hcaps, hb2⟩; have y0 := (mb_new hmor hcaps).b.cell 0)))
  have hb12 := hb1.trans (hb2.mono hb1.size)
  have HMB := Lib.hid (mb_new hmor hcaps)
  have HB := Lib.hid ((HBX.out.trans (hb12.mono HBX.out.size)).alloc (Nat.le_trans HBX.out.size hb12.size) (.cells #[.slice B1 (madeM x).ws.length d1, .slice B2 (madeM x).cs.length d2, .slice B3 (madeM x).ps.length d3, .int .i64 (madeM x).back] 34))
  have HKB1 := Lib.hid ((HK1.out.below hb12 HK1.out.lt).alloc (.cells #[.slice B1 (madeM x).ws.length d1, .slice B2 (madeM x).cs.length d2, .slice B3 (madeM x).ps.length d3, .int .i64 (madeM x).back] 34))
  clear hb1 hb2 hb12 hkr rw0 rw1 rw2 rw3 HK0 HR HBX hmor hcaps HK1
  generalize w2.alloc (.cells #[.slice B1 (madeM x).ws.length d1, .slice B2 (madeM x).cs.length d2, .slice B3 (madeM x).ps.length d3, .int .i64 (madeM x).back] 34) = W at *
  generalize w2.heap.size = g at *
  generalize madeM x = m at *
  obtain ⟨hl, hw2, hw8⟩ := HLIM.out
  have HOK := Lib.hid hl.ok
  have HL := Lib.hid hl
  have HCL := Lib.hid (show m.cs.length = m.ws.length from hl.ok.1.1.2.1)
  clear hl HLIM
  have hkb := HKB1.out
  have b0 := hkb.cell 0; have b1 := hkb.cell 1; have b2 := hkb.cell 2; have hkl := hkb.lt
  have ht1 : ua.tmod ((m.ws.length : Int) + 1) = ua % ((m.ws.length : Int) + 1) := Int.tmod_eq_emod_of_nonneg hua.1
  have ht2 : ub.tmod (m.ws.length : Int) = ub % (m.ws.length : Int) := Int.tmod_eq_emod_of_nonneg hub.1
  have hr1 := Int.emod_nonneg ua (show (m.ws.length : Int) + 1 ≠ 0 by omega)
  have hr2 := Int.emod_nonneg ub (show (m.ws.length : Int) ≠ 0 by omega)
  have hr3 := Int.emod_lt_of_pos ua (show 0 < (m.ws.length : Int) + 1 by omega)
  have hr4 := Int.emod_lt_of_pos ub (show 0 < (m.ws.length : Int) by omega)
  have hw1 : IntKind.i64.wrap ((m.ws.length : Int) + 1) = (m.ws.length : Int) + 1 := IntWalk.i64_in _ (by omega)
  have hw3 : IntKind.i64.wrap (ua % ((m.ws.length : Int) + 1) - 1) = ua % ((m.ws.length : Int) + 1) - 1 := IntWalk.i64_in _ (by omega)
  have hw4 : IntKind.i64.wrap (ua % ((m.ws.length : Int) + 1)) = ua % ((m.ws.length : Int) + 1) := IntWalk.i64_in _ (by omega)
  have hw5 : IntKind.i64.wrap (ub % (m.ws.length : Int)) = ub % (m.ws.length : Int) := IntWalk.i64_in _ (by omega)
  have hwa : IntKind.i64.wrap ua = ua := IntWalk.i64_in _ (by omega)
  have hwb : IntKind.i64.wrap ub = ub := IntWalk.i64_in _ (by omega)
  have hwc : IntKind.i64.wrap uc = uc := IntWalk.i64_in _ (by omega)
  have hne : ¬ m.ws = [] := fun e => by rw [e] at hw2; simp at hw2
  have hn1 : ¬ ((m.ws.length : Int) + 1 = 0) := by omega
  go_wp2_with fail
  refine ord_below [(0, false), (1, false), (2, false), (3, false), (4, false), (5, false), (6, false), (7, false), (8, false), (9, false), (10, false), (11, false), (12, false), (13, false)] (by kernel_rfl) (by kernel_rfl) (by kernel_rfl) (fun _ _ _ _ _ h => h) ?_
  intro W0 hS0
  repeat (first
    | (refine ord_skip rfl rfl ?_; simp only [Act.put, List.setIfInBounds_toArray, List.set_cons_zero, List.set_cons_succ])
    | (refine ord_cskip rfl rfl (by assumption) ?_; simp only [Act.put, List.setIfInBounds_toArray, List.set_cons_zero, List.set_cons_succ])
    | (refine ord_take (v := ?_) rfl rfl ?_ ?_
       rotate_left 1
       focus (intro W hW; obtain ⟨hcW, hfW⟩ := bcell hW; (go_simp <;> with_reducible rfl))
       simp only [Act.put, List.setIfInBounds_toArray, List.set_cons_zero, List.set_cons_succ])
    | (refine ord_call rfl rfl (fun K hK => ?_)
       go_simp
       first
         | (fail)))
  refine ord_nil ?_
  have HS0 := Lib.hid hS0
  clear hS0 hwa hwb hwc ht1 ht2 hw1 hw3 hw4 hw5 hne hn1 b0 b1 b2 hkb y0
  have hpv : -1 ≤ ua % ((m.ws.length : Int) + 1) - 1 ∧ ua % ((m.ws.length : Int) + 1) - 1 < m.ws.length := by omega
  have hwv : 0 ≤ ub % (m.ws.length : Int) ∧ ub % (m.ws.length : Int) < m.ws.length := ⟨hr2, hr4⟩
  clear hr1 hr2 hr3 hr4
  generalize ua % ((m.ws.length : Int) + 1) - 1 = prev at *
  generalize ub % (m.ws.length : Int) = wd at *
  obtain ⟨j, rfl⟩ := Int.eq_ofNat_of_zero_le hwv.1
  have hjn : j < m.ws.length := by omega
  obtain ⟨hla, hln⟩ := next_lim HL.out prev j (1 + uc) (by omega) (by omega) (by omega) hpv.2 (by omega) (by omega)
  have hcl : m.ws.length ≤ m.cs.length ∧ m.cs.length ≤ m.ws.length := by have := HCL.out; omega
  have HWS : Hid (∀ i, i < m.cs.length → (((i : Int) == (j : Int)) = true ∧ ((i : Int) != (j : Int)) = false ∧ wcost (nextM m prev j (1 + uc)) i ≤ wcost m i + 1) ∨ (((i : Int) == (j : Int)) = false ∧ ((i : Int) != (j : Int)) = true ∧ wcost m i ≤ wcost (nextM m prev j (1 + uc)) i)) := fun i hi => by
    by_cases hij : i = j
    · subst hij; left; exact ⟨by simp, by simp, next_wcost_same HOK.out prev (by omega) hi⟩
    · right; exact ⟨by simp; omega, by simp; omega, next_wcost_other HOK.out prev (by omega) (by omega) hi hij⟩
  have HPS : Hid (∀ p ∈ m.ps, _) := fun p hp => next_pcost HOK.out prev (n := 1 + uc) (by omega) j hp
  have HLE := Lib.hid (learn_any m B1 B2 B3 d1 d2 d3 prev j (1 + uc) W0 ((HMB.out.below HS0.out).r))
  rw [hln] at HLE
  have haw : (nextM m prev j (1 + uc)).ws = m.ws := rfl
  have hac : (nextM m prev j (1 + uc)).cs.length = m.cs.length := by unfold nextM; simp
  generalize nextM m prev j (1 + uc) = a at *
  have HAOK := Lib.hid hla.ok
  have hac2 : m.cs.length ≤ a.cs.length := by omega
  have HAW := Lib.hid haw
  clear hla hln haw hac
  have hmb := HMB.out.below HS0.out
  have q0 := hmb.b.cell 0; have q1 := hmb.b.cell 1; have q2 := hmb.b.cell 2; have q3 := hmb.b.cell 3; have hg := hmb.b.lt
  have hkb := HKB1.out.below HS0.out HKB1.out.lt
  have b2 := hkb.cell 2; have hkl2 := hkb.lt
  have dv : decide (MoOK a) = true := decide_eq_true HAOK.out
  have DW := Lib.hid (show decide (a.ws = m.ws) = true from decide_eq_true HAW.out)
  have DV := Lib.hid dv
  clear dv
  go_wp2_with (first | (go_at_call 16; go_loud (refine HLE.out.mono ?_; rintro e w3 ⟨C1, C2, C3, f1, f2, f3, rfl, hmo, hfc, hb3⟩)) | (go_at_call 20; go_loud (have HMA := Lib.hid (mb_new hmo hfc); have hb0 := HS0.out.trans (hb3.mono HS0.out.size); have HB3 := Lib.hid (hb0.alloc hb0.size (.cells #[.slice C1 a.ws.length f1, .slice C2 a.cs.length f2, .slice C3 a.ps.length f3, .int .i64 a.back] 34)); have HVA := Lib.hid (refvalid_any a C1 C2 C3 f1 f2 f3 _ HMA.out.r); rw [DV.out] at HVA; refine HVA.out.mono ?_; rintro e w4 ⟨rfl, hb4⟩; have hma4 := HMA.out.below hb4; have z0 := hma4.b.cell 0; have hz := hma4.b.lt; have HB4 := Lib.hid (HB3.out.trans (hb4.mono HB3.out.size)); have hmb4 := HMB.out.below HB4.out; have x0 := hmb4.b.cell 0; have hx := hmb4.b.lt)) | (go_at_call 24; go_loud (have HSW := Lib.hid (sameWords_any C1 B1 a.ws m.ws f1 d1 w4 hma4.r.h1 hmb4.r.h1 hma4.r.l1); rw [DW.out] at HSW; refine HSW.out.mono ?_; rintro e w5 ⟨rfl, hb5⟩)))
  have HMA5 := Lib.hid (hma4.below hb5)
  have HB5 := Lib.hid (HB4.out.trans (hb5.mono HB4.out.size))
  clear hma4 hmb4 z0 x0 hz hx hb5 hb4 hb0 hb3 q0 q1 q2 q3 hg hmb b2 hkl2 hkb hkl hmo hfc HMA HVA HB3 HB4 HLE HS0
  generalize w3.heap.size = ga at *
  have HMB5 := Lib.hid (HMB.out.below HB5.out)
  go_loopw [12] (fun i wr => ∃ k : Nat, k ≤ m.ws.length ∧ i = .int .i64 k ∧ Below w5.heap.size w5 wr) (fun i _ => m.ws.length - (intOf i).toNat)
  case atStart => exact ⟨0, by omega, rfl, Below.refl _ _⟩
  case round =>
    obtain ⟨i, hi, rfl, hb⟩ := hrel
    have hmb := HMB5.out.below hb
    have hma := HMA5.out.below hb
    have q0 := hmb.b.cell 0; have q1 := hmb.b.cell 1; have q2 := hmb.b.cell 2; have q3 := hmb.b.cell 3; have hg := hmb.b.lt
    have z0 := hma.b.cell 0; have z1 := hma.b.cell 1; have z2 := hma.b.cell 2; have z3 := hma.b.cell 3; have hz := hma.b.lt
    by_cases hlt : i < m.ws.length
    · rcases HWS.out i (by omega) with ⟨e1, e2, e3⟩ | ⟨e1, e2, e3⟩
      all_goals
        have n1 := wcost_bd m i HOK.out.1.1.2 (by omega) (by omega)
        have hww : IntKind.i64.wrap (wcost m i + 1) = wcost m i + 1 := IntWalk.i64_in _ (by omega)
        go_wp2_with fail
        refine ord_below [(0, false), (1, false), (3, false), (4, false), (2, true), (5, true), (6, false), (7, false)] (by kernel_rfl) (by kernel_rfl) (by kernel_rfl) (fun _ _ _ _ _ h => h) ?_
        intro W0 hS0
        iterate 4 (first
          | (refine ord_skip rfl rfl ?_; simp only [Act.put, List.setIfInBounds_toArray, List.set_cons_zero, List.set_cons_succ])
          | (refine ord_take (v := ?_) rfl rfl ?_ ?_
             rotate_left 1
             focus (intro W hW; obtain ⟨hcW, hfW⟩ := bcell hW; (go_simp <;> with_reducible rfl))
             simp only [Act.put, List.setIfInBounds_toArray, List.set_cons_zero, List.set_cons_succ]))
        refine ord_call rfl rfl (fun K hK => ?_)
        go_simp
        go_at_call 12; refine (wcost_any m _ _ _ d1 d2 d3 _ _ (hmb.r.below hS0) HOK.out.1.1.2 (by omega)).mono ?_; rintro e w' ⟨rfl, hb'⟩; refine hK.out _ _ (hS0.trans (hb'.mono hS0.size)) (fun hS0 => ?_)
        skip
        refine ord_call rfl rfl (fun K hK => ?_)
        go_simp
        go_at_call 12; refine (wcost_any a _ _ _ f1 f2 f3 _ _ (hma.r.below hS0) HAOK.out.1.1.2 (by omega)).mono ?_; rintro e w' ⟨rfl, hb'⟩; refine hK.out _ _ (hS0.trans (hb'.mono hS0.size)) (fun hS0 => ?_)
        skip
        iterate 2 (first
          | (refine ord_skip rfl rfl ?_; simp only [Act.put, List.setIfInBounds_toArray, List.set_cons_zero, List.set_cons_succ])
          | (refine ord_take (v := ?_) rfl rfl ?_ ?_
             rotate_left 1
             focus (intro W hW; obtain ⟨hcW, hfW⟩ := bcell hW; (go_simp <;> with_reducible rfl))
             simp only [Act.put, List.setIfInBounds_toArray, List.set_cons_zero, List.set_cons_succ]))
        refine ord_nil ?_
        clear hww
        go_wp2_with fail
        go_roundw
        case rel => exact ⟨i + 1, by omega, by go_num, hb.trans (hS0.mono hb.size)⟩
        case measure => simp [intOf]; omega
    · go_wp2_with fail
      have HB6 := Lib.hid hb
      clear hmb hma q0 q1 q2 q3 z0 z1 z2 z3 hg hz hb hlt hi
      obtain ⟨wo, rfl⟩ : ∃ wo : World, wo = wr := ⟨_, rfl⟩
      go_loopw [15] (fun i wr => ∃ k : Nat, k ≤ m.ps.length ∧ i = .int .i64 k ∧ Below w5.heap.size w5 wr) (fun i _ => m.ps.length - (intOf i).toNat)
      case atStart => exact ⟨0, by omega, rfl, HB6.out⟩
      case round =>
        obtain ⟨i, hi, rfl, hb⟩ := hrel
        have hmb := HMB5.out.below hb
        have q0 := hmb.b.cell 0; have q1 := hmb.b.cell 1; have q2 := hmb.b.cell 2; have q3 := hmb.b.cell 3; have hg := hmb.b.lt
        by_cases hlt : i < m.ps.length
        · obtain ⟨b, off, p, rfl, hbb, hpp, p0, p1, p2⟩ := hmb.r.h3.pr hlt
          have hpm := List.mem_of_getElem? hpp
          have hpr := (HOK.out.1.2.2.1 p hpm).1
          have hr : (0 ≤ p.a ∧ p.a < m.ws.length) ∧ (0 ≤ p.b ∧ p.b < m.ws.length) := ⟨hpr.1, hpr.2.1⟩
          have hix : (i : Int) < m.ps.length := by omega
          have hps8 := HL.out.ln
          have n1 := pcost_nonneg HOK.out hpm
          have n2 : pcost m p.a p.b.toNat ≤ 1000 := by
            rw [pcost_known HOK.out hpm]
            have := lg_bd (sumAt m.ps p.a) (by have := (HOK.out.1.2.2.1 p hpm).2.2; omega)
            have := lg_bd p.n (by have := (HOK.out.1.2.2.1 p hpm).2.1; omega)
            omega
          have hww : IntKind.i64.wrap (pcost m p.a p.b.toNat + 1) = pcost m p.a p.b.toNat + 1 := IntWalk.i64_in _ (by omega)
          have HPC := HPS.out p hpm
          clear hpp hpm hpr
          go_wp2_with fail
          have hkp := Blk.new wr 50 #[.int .i64 p.a, .int .i64 p.b, .int .i64 p.n]
          have hb1 := Lib.hid (hb.alloc hb.size (.cells #[.int .i64 p.a, .int .i64 p.b, .int .i64 p.n] 50))
          clear q0 q1 q2 q3 hg hmb p0 p1 p2 hbb
          generalize wr.alloc (.cells #[.int .i64 p.a, .int .i64 p.b, .int .i64 p.n] 50) = wp at *
          generalize wr.heap.size = gp at *
          have hmb := HMB5.out.below hb1.out
          have hma := HMA5.out.below hb1.out
          have q0 := hmb.b.cell 0; have q1 := hmb.b.cell 1; have q2 := hmb.b.cell 2; have q3 := hmb.b.cell 3; have hg := hmb.b.lt
          have z0 := hma.b.cell 0; have z1 := hma.b.cell 1; have z2 := hma.b.cell 2; have z3 := hma.b.cell 3; have hz := hma.b.lt
          have u0 := hkp.cell 0; have u1 := hkp.cell 1; have hgp := hkp.lt
          refine ord_below [(0, false), (1, false), (2, false), (3, false), (4, false), (6, false), (7, false), (8, false), (9, false), (10, false), (5, true), (11, true), (12, false), (13, false)] (by kernel_rfl) (by kernel_rfl) (by kernel_rfl) (fun _ _ _ _ _ h => h) ?_
          intro W0 hS0
          iterate 10 (first
            | (refine ord_skip rfl rfl ?_; simp only [Act.put, List.setIfInBounds_toArray, List.set_cons_zero, List.set_cons_succ])
            | (refine ord_take (v := ?_) rfl rfl ?_ ?_
               rotate_left 1
               focus (intro W hW; obtain ⟨hcW, hfW⟩ := bcell hW; (go_simp <;> with_reducible rfl))
               simp only [Act.put, List.setIfInBounds_toArray, List.set_cons_zero, List.set_cons_succ]))
          refine ord_call rfl rfl (fun K hK => ?_)
          go_simp
          go_at_call 14; refine (pair_anyI m _ _ _ d1 d2 d3 _ _ _ (hmb.r.below hS0) HOK.out (by omega) (by omega) (by omega) hmb.k.2.2.1 hmb.k.2.2.2).mono ?_; rintro e w' ⟨rfl, hb'⟩; refine hK.out _ _ (hS0.trans (hb'.mono hS0.size)) (fun hS0 => ?_)
          skip
          refine ord_call rfl rfl (fun K hK => ?_)
          go_simp
          go_at_call 14; refine (pair_anyI a _ _ _ f1 f2 f3 _ _ _ (hma.r.below hS0) HAOK.out (by omega) (by omega) (by omega) hma.k.2.2.1 hma.k.2.2.2).mono ?_; rintro e w' ⟨rfl, hb'⟩; refine hK.out _ _ (hS0.trans (hb'.mono hS0.size)) (fun hS0 => ?_)
          skip
          iterate 2 (first
            | (refine ord_skip rfl rfl ?_; simp only [Act.put, List.setIfInBounds_toArray, List.set_cons_zero, List.set_cons_succ])
            | (refine ord_take (v := ?_) rfl rfl ?_ ?_
               rotate_left 1
               focus (intro W hW; obtain ⟨hcW, hfW⟩ := bcell hW; (go_simp <;> with_reducible rfl))
               simp only [Act.put, List.setIfInBounds_toArray, List.set_cons_zero, List.set_cons_succ]))
          refine ord_nil ?_
          have hkp2 := hkp.below hS0 hkp.lt
          clear u0 u1 hgp hww
          have u0 := hkp2.cell 0; have u1 := hkp2.cell 1; have hgp := hkp2.lt
          rcases HPC with ⟨e1, e2, e3⟩ | ⟨e1, e2, e3⟩ | ⟨e1, e2⟩
          · have e4 : (p.a != prev) = false := by simpa using e1
            go_wp2_with fail
            go_roundw
            case rel => exact ⟨i + 1, by omega, by go_num, hb1.out.trans (hS0.mono hb1.out.size)⟩
            case measure => simp [intOf]; omega
          · have e4 : (p.a != prev) = false := by simpa using e1
            go_wp2_with fail
            go_roundw
            case rel => exact ⟨i + 1, by omega, by go_num, hb1.out.trans (hS0.mono hb1.out.size)⟩
            case measure => simp [intOf]; omega
          · have e4 : (p.a != prev) = true := by simpa using e1
            have e5 : (pcost a p.a p.b.toNat != pcost m p.a p.b.toNat) = false := by simpa using e2
            have e6 : pcost m p.a p.b.toNat ≤ pcost a p.a p.b.toNat := by omega
            clear e2
            go_wp2_with fail
            go_roundw
            case rel => exact ⟨i + 1, by omega, by go_num, hb1.out.trans (hS0.mono hb1.out.size)⟩
            case measure => simp [intOf]; omega
        · go_wp2_with fail
          go_ret
          exact ⟨rfl, HB.out.trans ((HB5.out.trans (hb.mono HB5.out.size)).mono HB.out.size)⟩
end Go.Proofs.Ytbfpcleogdalfaa
