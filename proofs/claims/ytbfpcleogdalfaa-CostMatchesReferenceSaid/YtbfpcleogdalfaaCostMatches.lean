/-
  CostMatchesReference: the walk.
-/
import Derived.Test.YtbfpcleogdalfaaCostMB
namespace Go.Proofs.Ytbfpcleogdalfaa
open Go Go.RowKit

theorem outC_01 (l : Option Mo) : (outC l == outC l) = true := by simp
set_option maxRecDepth 100000 in
set_option maxHeartbeats 8000000 in
theorem costMatches_any (x : Raw) (A1 A2 A3 : Option Addr) (c1 c2 c3 : Nat) (prev wd n : Int) (w : World) (h : RawR w x A1 A2 A3) (hprev : -128 ≤ prev ∧ prev ≤ 127) (hwd : -128 ≤ wd ∧ wd ≤ 127) (hn : -128 ≤ n ∧ n ≤ 127) :
    Calls Try.prog 3 #[.agg #[.slice A1 x.words.length c1, .slice A2 x.counts.length c2, .slice A3 x.uses.length c3, .int .u8 x.back], .agg #[.int .i8 prev, .int .i8 wd, .int .i8 n]] w fun e w' => e = .returned (.bool true) ∧ Below w.heap.size w w' := by
  have hlim := made_lim x h.b2 h.b3 h.bk
  have HLIM := Lib.hid hlim
  have HBX := Lib.hid (show Below w.heap.size w ((w.alloc (.cells #[.slice A1 x.words.length c1, .slice A2 x.counts.length c2, .slice A3 x.uses.length c3, .int .u8 x.back] 26)).alloc (.cells #[.int .i8 prev, .int .i8 wd, .int .i8 n] 28)) from ((Below.refl w.heap.size w).alloc (Nat.le_refl _) (.cells #[.slice A1 x.words.length c1, .slice A2 x.counts.length c2, .slice A3 x.uses.length c3, .int .u8 x.back] 26)).alloc (by simp) (.cells #[.int .i8 prev, .int .i8 wd, .int .i8 n] 28))
  have HR := Lib.hid (h.below HBX.out)
  have HK0 := Lib.hid ((Blk.new w 26 #[.slice A1 x.words.length c1, .slice A2 x.counts.length c2, .slice A3 x.uses.length c3, .int .u8 x.back]).alloc (.cells #[.int .i8 prev, .int .i8 wd, .int .i8 n] 28))
  have HK1 := Lib.hid (Blk.new_ (w := (w.alloc (.cells #[.slice A1 x.words.length c1, .slice A2 x.counts.length c2, .slice A3 x.uses.length c3, .int .u8 x.back] 26))) (t := 28) (cs := #[.int .i8 prev, .int .i8 wd, .int .i8 n]) (g := w.heap.size + 1) (by simp))
  clear h hlim
  go_enter Try.func3, Try.ntmps3
  go_wp2_with (first | (go_at_call 10; go_loud (refine (sanity_any _).mono ?_; rintro e w1 ⟨rfl, hb1⟩; have hkr := HK0.out.below hb1 HK0.out.lt; have rw0 := hkr.cell 0; have rw1 := hkr.cell 1; have rw2 := hkr.cell 2; have rw3 := hkr.cell 3)) | (go_at_call 11; go_loud (refine (made_any x A1 A2 A3 c1 c2 c3 _ (HR.out.below hb1)).mono ?_; rintro e w2 ⟨B1, B2, B3, d1, d2, d3, rfl, hmor, hcaps, hb2⟩)))
  have hb12 := hb1.trans (hb2.mono hb1.size)
  have HMB := Lib.hid (mb_new hmor hcaps)
  have HB := Lib.hid ((HBX.out.trans (hb12.mono HBX.out.size)).alloc (Nat.le_trans HBX.out.size hb12.size) (.cells #[.slice B1 (madeM x).ws.length d1, .slice B2 (madeM x).cs.length d2, .slice B3 (madeM x).ps.length d3, .int .i64 (madeM x).back] 34))
  have HKB1 := Lib.hid ((HK1.out.below hb12 HK1.out.lt).alloc (.cells #[.slice B1 (madeM x).ws.length d1, .slice B2 (madeM x).cs.length d2, .slice B3 (madeM x).ps.length d3, .int .i64 (madeM x).back] 34))
  clear hb1 hb2 hb12 hkr rw0 rw1 rw2 rw3 HK0 HR HBX hmor hcaps HK1
  generalize w2.alloc (.cells #[.slice B1 (madeM x).ws.length d1, .slice B2 (madeM x).cs.length d2, .slice B3 (madeM x).ps.length d3, .int .i64 (madeM x).back] 34) = W at *
  generalize w2.heap.size = g at *
  generalize madeM x = m at *
  obtain ⟨hl, hw2, hw8⟩ := HLIM.out
  have HOK := Lib.hid hl.ok
  have HL := Lib.hid hl
  have HCL := Lib.hid (show m.cs.length = m.ws.length from hl.ok.1.1.2.1)
  clear hl HLIM
  have hp8 : True := trivial
  go_loopw [7] (fun i wr => ∃ k : Nat, k ≤ m.ws.length ∧ i = .int .i64 k ∧ Below W.heap.size W wr) (fun i _ => m.ws.length - (intOf i).toNat)
  case atStart => exact ⟨0, by omega, rfl, Below.refl _ _⟩
  case round =>
    obtain ⟨i, hi, rfl, hb⟩ := hrel
    have hmb := HMB.out.below hb
    have q0 := hmb.b.cell 0
    have q1 := hmb.b.cell 1
    have q2 := hmb.b.cell 2
    have q3 := hmb.b.cell 3
    have hg := hmb.b.lt
    have hcl : m.ws.length = m.cs.length := HCL.out.symm
    have hcle : m.ws.length ≤ m.cs.length := by omega
    clear hcl
    by_cases hlt : i < m.ws.length
    · have hix : (i : Int) < m.cs.length := by omega
      have hic : i < m.cs.length := by omega
      have e1 : (wcost m i != wcost m i) = false := by simp
      go_wp2_with fail
      refine ord_below [(0, false), (1, false), (3, false), (4, false), (2, true), (5, true), (6, false)] (by kernel_rfl) (by kernel_rfl) (by kernel_rfl) (fun _ _ _ _ _ h => h) ?_
      intro W0 hS0
      repeat (first
        | (refine ord_skip rfl rfl ?_; simp only [Act.put, List.setIfInBounds_toArray, List.set_cons_zero, List.set_cons_succ])
        | (refine ord_cskip rfl rfl (by assumption) ?_; simp only [Act.put, List.setIfInBounds_toArray, List.set_cons_zero, List.set_cons_succ])
        | (refine ord_take (v := ?_) rfl rfl ?_ ?_
           rotate_left 1
           focus (intro W hW; obtain ⟨hcW, hfW⟩ := bcell hW; (go_simp <;> with_reducible rfl))
           simp only [Act.put, List.setIfInBounds_toArray, List.set_cons_zero, List.set_cons_succ])
        | (refine ord_call rfl rfl (fun K hK => ?_)
           go_simp
           first
             | (go_at_call 12; refine (wcost_any m _ _ _ d1 d2 d3 _ _ (hmb.r.below hS0) HOK.out.1.1.2 (by omega)).mono ?_; rintro e w' ⟨rfl, hb'⟩; refine hK.out _ _ (hS0.trans (hb'.mono hS0.size)) (fun hS0 => ?_))
             | (go_at_call 13; refine (refwcost_any m _ _ _ d1 d2 d3 _ _ (hmb.r.below hS0) HOK.out.1.1.2 (by omega)).mono ?_; rintro e w' ⟨rfl, hb'⟩; refine hK.out _ _ (hS0.trans (hb'.mono hS0.size)) (fun hS0 => ?_))))
      refine ord_nil ?_
      go_wp2_with fail
      have hb2 := hb.trans (hS0.mono hb.size)
      have HB2 := Lib.hid hb2
      clear hmb q0 q1 q2 q3 hg hb hS0 hb2 e1
      go_loopw [8] (fun i wr => ∃ k : Nat, k ≤ m.ws.length + 1 ∧ i = .int .i64 ((k : Int) - 1) ∧ Below W.heap.size W wr) (fun i _ => m.ws.length + 1 - (intOf i + 1).toNat)
      case atStart => exact ⟨0, by omega, rfl, HB2.out⟩
      case round =>
        obtain ⟨k, hk, rfl, hb⟩ := hrel
        have hmb := HMB.out.below hb
        have q0 := hmb.b.cell 0
        have q1 := hmb.b.cell 1
        have q2 := hmb.b.cell 2
        have q3 := hmb.b.cell 3
        have hg := hmb.b.lt
        by_cases hlk : k < m.ws.length + 1
        · have e1 : (pcost m (↑k - 1) i != pcost m (↑k - 1) i) = false := by simp
          have hkl : (k : Int) - 1 < (m.ws.length : Int) := by omega
          go_wp2_with fail
          refine ord_below [(0, false), (1, false), (2, false), (4, false), (5, false), (6, false), (3, true), (7, true), (8, false)] (by kernel_rfl) (by kernel_rfl) (by kernel_rfl) (fun _ _ _ _ _ h => h) ?_
          intro W0 hS0
          repeat (first
            | (refine ord_skip rfl rfl ?_; simp only [Act.put, List.setIfInBounds_toArray, List.set_cons_zero, List.set_cons_succ])
            | (refine ord_cskip rfl rfl (by assumption) ?_; simp only [Act.put, List.setIfInBounds_toArray, List.set_cons_zero, List.set_cons_succ])
            | (refine ord_take (v := ?_) rfl rfl ?_ ?_
               rotate_left 1
               focus (intro W hW; obtain ⟨hcW, hfW⟩ := bcell hW; (go_simp <;> with_reducible rfl))
               simp only [Act.put, List.setIfInBounds_toArray, List.set_cons_zero, List.set_cons_succ])
            | (refine ord_call rfl rfl (fun K hK => ?_)
               go_simp
               first
                 | (go_at_call 14; refine (pair_any m _ _ _ d1 d2 d3 _ _ _ (hmb.r.below hS0) HOK.out (by omega) (by omega) hmb.k.2.2.1 hmb.k.2.2.2).mono ?_; rintro e w' ⟨rfl, hb'⟩; refine hK.out _ _ (hS0.trans (hb'.mono hS0.size)) (fun hS0 => ?_))
                 | (go_at_call 15; refine (refpair_any m _ _ _ d1 d2 d3 _ _ _ (hmb.r.below hS0) HOK.out (by omega)).mono ?_; rintro e w' ⟨rfl, hb'⟩; refine hK.out _ _ (hS0.trans (hb'.mono hS0.size)) (fun hS0 => ?_))))
          refine ord_nil ?_
          go_wp2_with fail
          go_roundw
          case rel => exact ⟨k + 1, by omega, by go_num, hb.trans (hS0.mono hb.size)⟩
          case measure => simp [intOf]; omega
        · have hkl : (m.ws.length : Int) ≤ (k : Int) - 1 := by omega
          go_wp2_with fail
          go_roundw
          case rel => exact ⟨i + 1, by omega, by go_num, hb⟩
          case measure => simp [intOf]; omega
    · have hka := HKB1.out.below hb HKB1.out.lt
      have a0 := hka.cell 0
      have a1 := hka.cell 1
      have a2 := hka.cell 2
      have ha := hka.lt
      have HLE := Lib.hid ((learn_any m B1 B2 B3 d1 d2 d3 prev wd n _ hmb.r).mono fun _ _ h => givesU h)
      have HS1 : Hid (∀ W2, Below wr.heap.size wr W2 → Calls Try.prog 17 #[.agg #[.slice B1 m.ws.length d1, .slice B2 m.cs.length d2, .slice B3 m.ps.length d3, .int .i64 m.back], .agg #[.int .i64 prev, .int .i64 wd, .int .i64 n]] W2 (GivesV (learnM m prev wd n) W2)) := fun W2 h2 => (reflearn_any m B1 B2 B3 d1 d2 d3 prev wd n W2 (hmb.r.below h2) HOK.out).mono fun _ _ h => givesV h
      have ec := outC_01 (learnM m prev wd n)
      go_wp2_with (first | (go_at_call 16; go_loud (refine HLE.out.mono ?_; rintro e w3 ⟨o, C1, C2, C3, f1, f2, f3, Ho, rfl, hmo, hfc, hb3⟩; have hk3 := hka.below hb3 ha; have a30 := hk3.cell 0; have a31 := hk3.cell 1; have a32 := hk3.cell 2; have ha3 := hk3.lt; have hm3 := hmb.b.below hb3 hg; have q30 := hm3.cell 0; have q31 := hm3.cell 1; have q32 := hm3.cell 2; have q33 := hm3.cell 3; have hg3 := hm3.lt)) | (go_at_call 17; go_loud (refine (HS1.out _ (hb3.alloc hb3.size _)).mono ?_; rintro e w4 ⟨o2, D1, D2, D3, k1, k2, k3, Ho2, rfl, hmo2, hb4⟩; have hc4 := (Blk.new w3 34 #[.slice C1 o.ws.length f1, .slice C2 o.cs.length f2, .slice C3 o.ps.length f3, .int .i64 o.back]).below hb4 (by simp); have z0 := hc4.cell 0; have z1 := hc4.cell 1; have z2 := hc4.cell 2; have z3 := hc4.cell 3; have hz := hc4.lt)) | (go_at_call 18; go_loud (refine (same_any o o2 C1 C2 C3 D1 D2 D3 f1 f2 f3 k1 k2 k3 _ (((hmo.below ((Below.refl _ _).alloc (Nat.le_refl _) _)).below hb4).below ((Below.refl _ _).alloc (Nat.le_refl _) _)) (hmo2.below ((Below.refl _ _).alloc (Nat.le_refl _) _))).mono ?_; rintro e w5 ⟨rfl, hb5⟩; rw [show decide (SameM o o2) = true from decide_eq_true (by rw [Ho.out, Ho2.out]; exact ⟨rfl, rfl, rfl, rfl⟩)])))
      go_ret
      have hq1 := (hb.trans (hb3.mono hb.size))
      have hq2 := hq1.alloc hq1.size (.cells #[.slice C1 o.ws.length f1, .slice C2 o.cs.length f2, .slice C3 o.ps.length f3, .int .i64 o.back] 34)
      have hq3 := hq2.trans (hb4.mono hq2.size)
      have hq4 := hq3.alloc hq3.size (.cells #[.slice D1 o2.ws.length k1, .slice D2 o2.cs.length k2, .slice D3 o2.ps.length k3, .int .i64 o2.back] 34)
      exact ⟨rfl, HB.out.trans ((hq4.trans (hb5.mono hq4.size)).mono HB.out.size)⟩
end Go.Proofs.Ytbfpcleogdalfaa
