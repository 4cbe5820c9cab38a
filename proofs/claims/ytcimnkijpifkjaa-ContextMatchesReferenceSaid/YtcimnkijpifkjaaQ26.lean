/-
  The walks of layer 20: Build of the reference.
-/
import Derived.Test.YtcimnkijpifkjaaQ24
import Derived.Test.YtcimnkijpifkjaaQ25
namespace Go.Proofs.Ytcimnkijpifkjaa
open Go Go.RowKit

def GivesRB (b : Bu) (w : World) (r : Ending) (w' : World) : Prop :=
  ∃ (LA LB : Option Addr) (cA cB : Nat), r = .returned (.agg #[.int .i64 b.g.n, .slice LA b.g.ls.length cA, .slice LB b.last.length cB, .int .i64 b.e]) ∧ SlR 4 RLk w' LA b.g.ls ∧ SlR 1 RInt w' LB b.last ∧ (b.g.ls.length ≤ cA ∧ cA ≤ maxLen) ∧ Below w.heap.size w w' ∧ (∀ a, LA = some a → w.heap.size ≤ a.block) ∧ (∀ a, LB = some a → w.heap.size ≤ a.block)
set_option maxRecDepth 100000 in
set_option maxHeartbeats 16000000 in
theorem rbuild_any (x : La) (A : Option Addr) (c : Nat) (m : Mo) (A1 A2 A3 : Option Addr) (c1 c2 c3 : Nat) (prev : Int) (w : World) (hx : SlR 4 REd w A x.es) (hes : x.es.length ≤ 100) (hm : MoR w m A1 A2 A3) :
    Calls Try.prog 14 #[.agg #[.int .i64 x.n, .slice A x.es.length c], .agg #[.slice A1 m.ws.length c1, .slice A2 m.cs.length c2, .slice A3 m.ps.length c3, .int .i64 m.back], .int .i64 prev] w (GivesRB (buM x m prev) w) := by
  obtain ⟨i0, hi, hz0, hz1, hz2⟩ := info_parts link_info
  obtain ⟨j0, hj, hy0, hy1, hy2⟩ := info_parts bint_info
  have hl : x.es.length ≤ maxLen := by unfold maxLen; omega
  have hl1 := hm.l1
  obtain ⟨w2, hw2⟩ : ∃ w2, ((w.alloc (.cells #[.int .i64 x.n, .slice A x.es.length c] 38)).alloc (.cells #[.slice A1 m.ws.length c1, .slice A2 m.cs.length c2, .slice A3 m.ps.length c3, .int .i64 m.back] 34)).alloc (.cells #[.int .i64 0, .slice none 0 0, .slice none 0 0, .int .i64 0] 49) = w2 := ⟨_, rfl⟩
  have hb2 : Below w.heap.size w w2 := by rw [← hw2]; exact nw _ (nw _ (nw _ (Below.refl _ _)))
  have hLB : Blk w2 w.heap.size 38 #[.int .i64 x.n, .slice A x.es.length c] := by rw [← hw2]; exact ((Blk.new _ _ _).alloc _).alloc _
  have hMB : Blk w2 (w.heap.size + 1) 34 #[.slice A1 m.ws.length c1, .slice A2 m.cs.length c2, .slice A3 m.ps.length c3, .int .i64 m.back] := by rw [← hw2]; exact (Blk.new_ (by simp)).alloc _
  have hRB : Blk w2 (w.heap.size + 2) 49 #[.int .i64 0, .slice none 0 0, .slice none 0 0, .int .i64 0] := by rw [← hw2]; exact Blk.new_ (by simp)
  have HW2 := Lib.hid hw2
  have HBX : Hid (∀ W, Below w2.heap.size w2 W → (W.cell? ⟨w.heap.size, 0, none⟩ = some (.int .i64 x.n) ∧ W.cell? ⟨w.heap.size, 1, none⟩ = some (.slice A x.es.length c)) ∧ (W.cell? ⟨w.heap.size + 1, 0, none⟩ = some (.slice A1 m.ws.length c1) ∧ W.cell? ⟨w.heap.size + 1, 1, none⟩ = some (.slice A2 m.cs.length c2) ∧ W.cell? ⟨w.heap.size + 1, 2, none⟩ = some (.slice A3 m.ps.length c3) ∧ W.cell? ⟨w.heap.size + 1, 3, none⟩ = some (.int .i64 m.back)) ∧ (w.heap.size < W.heap.size ∧ w.heap.size + 1 < W.heap.size) ∧ Blk W (w.heap.size + 2) 49 #[.int .i64 0, .slice none 0 0, .slice none 0 0, .int .i64 0]) := fun W hW => by
    have e1 := hLB.below hW hLB.lt
    have e2 := hMB.below hW hMB.lt
    exact ⟨⟨by rw [e1.cell]; rfl, by rw [e1.cell]; rfl⟩, ⟨by rw [e2.cell]; rfl, by rw [e2.cell]; rfl, by rw [e2.cell]; rfl, by rw [e2.cell]; rfl⟩, ⟨e1.lt, e2.lt⟩, hRB.below hW hRB.lt⟩
  have HB2 := Lib.hid hb2
  clear hw2 hLB hMB hRB hb2
  have HCV : Hid (∀ W, Below w2.heap.size w2 W → Calls Try.prog 34 #[.agg #[.slice A1 m.ws.length c1, .slice A2 m.cs.length c2, .slice A3 m.ps.length c3, .int .i64 m.back]] W fun e w' => e = .returned (.bool (decide (MoOK m))) ∧ Below W.heap.size W w') := fun W hW => co_refvalid_any m A1 A2 A3 c1 c2 c3 W (hm.below (bthen HB2.out hW))
  have HFT : Hid (∀ W, Below w2.heap.size w2 W → Calls Try.prog 35 #[.agg #[.int .i64 x.n, .slice A x.es.length c], .agg #[.slice A1 m.ws.length c1, .slice A2 m.cs.length c2, .slice A3 m.ps.length c3, .int .i64 m.back]] W fun e w' => e = .returned (.bool (decide (FitsL x m.ws.length ∧ MoOK m))) ∧ Below W.heap.size W w') := fun W hW => reffits_any x A c m A1 A2 A3 c1 c2 c3 W (hx.below keeps_ed (bthen HB2.out hW)) hl (hm.below (bthen HB2.out hW))
  have HIN : Hid (∀ W, Calls Try.prog 36 #[.int .i64 prev, .int .i64 (-1), .int .i64 ((m.ws.length : Int) - 1)] W fun e w' => e = .returned (.bool (inB prev (-1) ((m.ws.length : Int) - 1))) ∧ W = w') := fun W => in_any _ _ _ W
  have hwn1 : IntKind.i64.wrap ((m.ws.length : Int) - 1) = (m.ws.length : Int) - 1 := IntWalk.i64_in _ (by omega)
  have h22 := Below.refl w2.heap.size w2
  by_cases hmo : ¬ MoOK m
  · have HR : Hid (buM x m prev = ⟨⟨0, []⟩, [], 110⟩) := by show _ = _; unfold buM; rw [if_neg hmo]
    rw [decide_eq_false hmo] at HCV
    obtain ⟨⟨l0, l1⟩, ⟨m0, m1, m2, m3⟩, ⟨ll, ml⟩, _⟩ := HBX.out _ h22
    clear hmo
    go_enter Try.func14, Try.ntmps14
    go_upto_region 1 with fail
    rw [HW2.out]
    go_upto_region 2 with (go_at_call 34; go_loud (refine (HCV.out _ h22).mono ?_; rintro e w3 ⟨rfl, hbz⟩))
    clear l0 l1 m0 m1 m2 m3 ll ml
    obtain ⟨_, _, _, hR3⟩ := HBX.out _ hbz
    have r0 := hR3.cell 0
    have r1 := hR3.cell 1
    have r2 := hR3.cell 2
    have r3 := hR3.cell 3
    have rf0 := hR3.frozen 0
    have rf1 := hR3.frozen 1
    have rf2 := hR3.frozen 2
    have rf3 := hR3.frozen 3
    have rl := hR3.lt
    simp at r0 r1 r2 r3
    have HR3 := Lib.hid hR3
    have HB3 := Lib.hid (bthen HB2.out hbz)
    clear hR3 hbz
    go_wp2_with fail
    refine ret_cell (t := 49) (cs := #[.int .i64 0, .slice none 0 0, .slice none 0 0, .int .i64 110]) (by have := (((HR3.out.set_ 0 (.int .i64 0)).set_ 1 (.slice none 0 0)).set_ 2 (.slice none 0 0)).set_ 3 (.int .i64 110); simpa using this) rfl rfl Try.underlying49 rfl (by kernel_rfl) rfl ?_
    rw [HR.out]
    exact ⟨none, none, 0, 0, rfl, SlR.nil, SlR.nil, ⟨Nat.le_refl _, Nat.zero_le _⟩, (((HB3.out.setCell (p := ⟨w.heap.size + 2, 0, none⟩) (by show w.heap.size ≤ w.heap.size + 2; omega) _).setCell (p := ⟨w.heap.size + 2, 1, none⟩) (by show w.heap.size ≤ w.heap.size + 2; omega) _).setCell (p := ⟨w.heap.size + 2, 2, none⟩) (by show w.heap.size ≤ w.heap.size + 2; omega) _).setCell (p := ⟨w.heap.size + 2, 3, none⟩) (by show w.heap.size ≤ w.heap.size + 2; omega) _, (fun _ h => by cases h), (fun _ h => by cases h)⟩
  have hmo := Decidable.not_not.1 hmo
  rw [decide_eq_true hmo] at HCV
  by_cases hft : ¬ FitsL x m.ws.length
  · have HR : Hid (buM x m prev = ⟨⟨0, []⟩, [], 1⟩) := by show _ = _; unfold buM; rw [if_pos hmo, if_neg fun h => hft h.2]
    rw [decide_eq_false fun h => hft h.1] at HFT
    obtain ⟨⟨l0, l1⟩, ⟨m0, m1, m2, m3⟩, ⟨ll, ml⟩, _⟩ := HBX.out _ h22
    clear hmo hft
    go_enter Try.func14, Try.ntmps14
    go_upto_region 1 with fail
    rw [HW2.out]
    go_upto_region 3 with (go_at_call 34; go_loud (refine (HCV.out _ h22).mono ?_; rintro e w3 ⟨rfl, hb3⟩))
    clear l0 l1 m0 m1 m2 m3 ll ml
    obtain ⟨⟨l0, l1⟩, ⟨m0, m1, m2, m3⟩, ⟨ll, ml⟩, _⟩ := HBX.out _ hb3
    go_upto_region 4 with (go_at_call 35; go_loud (refine (HFT.out _ hb3).mono ?_; rintro e w4 ⟨rfl, hb4⟩))
    have hbz := bthen hb3 hb4
    clear l0 l1 m0 m1 m2 m3 ll ml
    obtain ⟨_, _, _, hR3⟩ := HBX.out _ hbz
    have r0 := hR3.cell 0
    have r1 := hR3.cell 1
    have r2 := hR3.cell 2
    have r3 := hR3.cell 3
    have rf0 := hR3.frozen 0
    have rf1 := hR3.frozen 1
    have rf2 := hR3.frozen 2
    have rf3 := hR3.frozen 3
    have rl := hR3.lt
    simp at r0 r1 r2 r3
    have HR3 := Lib.hid hR3
    have HB3 := Lib.hid (bthen HB2.out hbz)
    clear hR3 hbz
    go_wp2_with fail
    refine ret_cell (t := 49) (cs := #[.int .i64 0, .slice none 0 0, .slice none 0 0, .int .i64 1]) (by have := (((HR3.out.set_ 0 (.int .i64 0)).set_ 1 (.slice none 0 0)).set_ 2 (.slice none 0 0)).set_ 3 (.int .i64 1); simpa using this) rfl rfl Try.underlying49 rfl (by kernel_rfl) rfl ?_
    rw [HR.out]
    exact ⟨none, none, 0, 0, rfl, SlR.nil, SlR.nil, ⟨Nat.le_refl _, Nat.zero_le _⟩, (((HB3.out.setCell (p := ⟨w.heap.size + 2, 0, none⟩) (by show w.heap.size ≤ w.heap.size + 2; omega) _).setCell (p := ⟨w.heap.size + 2, 1, none⟩) (by show w.heap.size ≤ w.heap.size + 2; omega) _).setCell (p := ⟨w.heap.size + 2, 2, none⟩) (by show w.heap.size ≤ w.heap.size + 2; omega) _).setCell (p := ⟨w.heap.size + 2, 3, none⟩) (by show w.heap.size ≤ w.heap.size + 2; omega) _, (fun _ h => by cases h), (fun _ h => by cases h)⟩
  have hft := Decidable.not_not.1 hft
  rw [decide_eq_true (And.intro hft hmo)] at HFT
  obtain ⟨vi, hvi⟩ : ∃ v, inB prev (-1) ((m.ws.length : Int) - 1) = v := ⟨_, rfl⟩
  rw [hvi] at HIN
  have HVI := Lib.hid hvi
  clear hvi
  cases vi with
  | false =>
    have HR : Hid (buM x m prev = ⟨⟨0, []⟩, [], 1⟩) := by
      show _ = _
      unfold buM
      rw [if_pos hmo, if_neg fun h => ?_]
      have h1 := HVI.out
      unfold inB at h1
      simp at h1
      omega
    obtain ⟨⟨l0, l1⟩, ⟨m0, m1, m2, m3⟩, ⟨ll, ml⟩, _⟩ := HBX.out _ h22
    clear hmo hft
    go_enter Try.func14, Try.ntmps14
    go_upto_region 1 with fail
    rw [HW2.out]
    go_upto_region 3 with (go_at_call 34; go_loud (refine (HCV.out _ h22).mono ?_; rintro e w3 ⟨rfl, hb3⟩))
    clear l0 l1 m0 m1 m2 m3 ll ml
    obtain ⟨⟨l0, l1⟩, ⟨m0, m1, m2, m3⟩, ⟨ll, ml⟩, _⟩ := HBX.out _ hb3
    go_upto_region 4 with (first | (go_at_call 35; go_loud (refine (HFT.out _ hb3).mono ?_; rintro e w4 ⟨rfl, hb4⟩; clear l0 l1 m0 m1 m2 m3 ll ml; obtain ⟨⟨l0, l1⟩, ⟨m0, m1, m2, m3⟩, ⟨ll, ml⟩, _⟩ := HBX.out _ (bthen hb3 hb4))) | (go_at_call 36; go_loud (refine (HIN.out _).mono ?_; rintro e w5 ⟨rfl, rfl⟩)))
    have hbz := bthen hb3 hb4
    clear l0 l1 m0 m1 m2 m3 ll ml
    obtain ⟨_, _, _, hR3⟩ := HBX.out _ hbz
    have r0 := hR3.cell 0
    have r1 := hR3.cell 1
    have r2 := hR3.cell 2
    have r3 := hR3.cell 3
    have rf0 := hR3.frozen 0
    have rf1 := hR3.frozen 1
    have rf2 := hR3.frozen 2
    have rf3 := hR3.frozen 3
    have rl := hR3.lt
    simp at r0 r1 r2 r3
    have HR3 := Lib.hid hR3
    have HB3 := Lib.hid (bthen HB2.out hbz)
    clear hR3 hbz
    go_wp2_with fail
    refine ret_cell (t := 49) (cs := #[.int .i64 0, .slice none 0 0, .slice none 0 0, .int .i64 1]) (by have := (((HR3.out.set_ 0 (.int .i64 0)).set_ 1 (.slice none 0 0)).set_ 2 (.slice none 0 0)).set_ 3 (.int .i64 1); simpa using this) rfl rfl Try.underlying49 rfl (by kernel_rfl) rfl ?_
    rw [HR.out]
    exact ⟨none, none, 0, 0, rfl, SlR.nil, SlR.nil, ⟨Nat.le_refl _, Nat.zero_le _⟩, (((HB3.out.setCell (p := ⟨w.heap.size + 2, 0, none⟩) (by show w.heap.size ≤ w.heap.size + 2; omega) _).setCell (p := ⟨w.heap.size + 2, 1, none⟩) (by show w.heap.size ≤ w.heap.size + 2; omega) _).setCell (p := ⟨w.heap.size + 2, 2, none⟩) (by show w.heap.size ≤ w.heap.size + 2; omega) _).setCell (p := ⟨w.heap.size + 2, 3, none⟩) (by show w.heap.size ≤ w.heap.size + 2; omega) _, (fun _ h => by cases h), (fun _ h => by cases h)⟩
  | true =>
  have hpv : -1 ≤ prev ∧ prev < (m.ws.length : Int) := by
    have h1 := HVI.out
    unfold inB at h1
    simp at h1
    omega
  have HR : Hid (buM x m prev = ⟨grL x m prev, lastL x prev, 0⟩) := by show _ = _; unfold buM; rw [if_pos hmo, if_pos ⟨hpv, hft⟩]
  have hnw : m.ws.length ≤ 200 := hmo.1.1.1.1.2
  have hn40 := hft.1.1
  have HND : Hid (∀ W, Below w2.heap.size w2 W → Calls Try.prog 21 #[.agg #[.int .i64 x.n, .slice A x.es.length c], .int .i64 (m.ws.length : Int), .int .i64 prev] W fun e w' => ∃ B c', e = .returned (.slice B (nodesL x prev).length c') ∧ SlR 2 RPt w' B (nodesL x prev) ∧ Below W.heap.size W w') := fun W hW => rnodes_any x A c m.ws.length prev W (hx.below keeps_ed (bthen HB2.out hW)) hft hnw
  have hln := nodesL_len x prev
  have HOK := Lib.hid (And.intro hft hpv)
  have HMO := Lib.hid hmo
  have HFDA : Hid (∀ W (B : Option Addr) (cB : Nat) (e : Ed) (nl : Nat), Below w2.heap.size w2 W → e ∈ x.es → SlR 2 RPt W B (nodesL x prev) → (nodesL x prev).length = nl → nl ≤ 1000000 → Calls Try.prog 37 #[.slice B nl cB, .agg #[.int .i64 x.n, .slice A x.es.length c], vEd e] W fun r w' => r = .returned (.int .i64 (ixL (nodesL x prev) (arrL x.n e) : Int)) ∧ Below W.heap.size W w') := fun W B cB e nl _ he hn hnl hnm => rfind_any x A c prev B cB e nl W hft.1 he hn hnl hnm
  obtain ⟨nd, hnd⟩ : ∃ nd, nodesL x prev = nd := ⟨_, rfl⟩
  rw [hnd] at HND hln HFDA
  have HNDE := Lib.hid hnd
  obtain ⟨nl, hnl⟩ : ∃ nl, nd.length = nl := ⟨_, rfl⟩
  rw [hnl] at HND hln HFDA
  have hnl2 : nl ≤ 102 := by omega
  have hnl2' : (nl : Int) ≤ 102 := by omega
  have HNL := Lib.hid hnl
  clear hmo hpv hft hnd hnl
  obtain ⟨⟨l0, l1⟩, ⟨m0, m1, m2, m3⟩, ⟨ll, ml⟩, _⟩ := HBX.out _ h22
  go_enter Try.func14, Try.ntmps14
  go_upto_region 1 with fail
  rw [HW2.out]
  go_upto_region 3 with (go_at_call 34; go_loud (refine (HCV.out _ h22).mono ?_; rintro e w3 ⟨rfl, hb3⟩))
  clear l0 l1 m0 m1 m2 m3 ll ml
  obtain ⟨⟨l0, l1⟩, ⟨m0, m1, m2, m3⟩, ⟨ll, ml⟩, _⟩ := HBX.out _ hb3
  go_upto_region 5 with (first | (go_at_call 35; go_loud (refine (HFT.out _ hb3).mono ?_; rintro e w4 ⟨rfl, hb4⟩; clear l0 l1 m0 m1 m2 m3 ll ml; obtain ⟨⟨l0, l1⟩, ⟨m0, m1, m2, m3⟩, ⟨ll, ml⟩, _⟩ := HBX.out _ (bthen hb3 hb4))) | (go_at_call 36; go_loud (refine (HIN.out _).mono ?_; rintro e w5 ⟨rfl, rfl⟩)))
  have hb24 := bthen hb3 hb4
  go_upto_region 6 with (go_at_call 21; go_loud (refine (HND.out _ hb24).mono ?_; rintro e w5 ⟨B, cB, rfl, hsn, hb5⟩))
  have hb25 := bthen hb24 hb5
  clear l0 l1 m0 m1 m2 m3 ll ml hb24 hb5 hb3 hb4
  go_upto_region 7 with fail
  obtain ⟨WO, hWO⟩ : ∃ W, w5.alloc (.cells #[.int .i64 (nl : Int), .slice none 0 0, .slice none 0 0, .int .i64 0] 49) = W := ⟨_, rfl⟩
  have hb5O : Below w5.heap.size w5 WO := by rw [← hWO]; exact nw _ (Below.refl _ _)
  have hOB : Blk WO w5.heap.size 49 #[.int .i64 (nl : Int), .slice none 0 0, .slice none 0 0, .int .i64 0] := by rw [← hWO]; exact Blk.new _ _ _
  have hsO : WO.heap.size = w5.heap.size + 1 := by rw [← hWO]; simp
  rw [hWO]
  have HK5 : Hid (∀ W, Below w5.heap.size WO W → Below w5.heap.size w5 W) := fun W hW => hb5O.trans hW
  have HX5 : Hid (∀ W, Below w5.heap.size WO W → SlR 4 REd W A x.es) := fun W hW => hx.below keeps_ed (bthen HB2.out (bthen hb25 (HK5.out W hW)))
  have HMR : Hid (∀ W, Below w5.heap.size WO W → MoR W m A1 A2 A3) := fun W hW => hm.below (bthen HB2.out (bthen hb25 (HK5.out W hW)))
  have HNB : Hid (∀ W, Below w5.heap.size WO W → SlR 2 RPt W B nd) := fun W hW => hsn.below keeps_pt (HK5.out W hW)
  have HBG : Hid (∀ W, Below w5.heap.size WO W → Below w2.heap.size w2 W) := fun W hW => bthen hb25 (HK5.out W hW)
  have h2O : w.heap.size + 2 < w5.heap.size := by have := (HBX.out _ hb25).2.2.2.lt; exact this
  obtain ⟨bO, hbO⟩ : ∃ b, w5.heap.size = b := ⟨_, rfl⟩
  rw [hbO] at hOB hsO HX5 HMR HNB HBG h2O ⊢
  have HOB := Lib.hid hOB
  have HSO := Lib.hid hsO
  have HBb : Hid (∀ b off, B = some ⟨b, off, none⟩ → 0 < nl → b < bO) := fun b off hB h0 => by
    obtain ⟨b', off', _, hA', hb', _⟩ := hsn.pt (k := 0) (by rw [HNL.out]; exact h0)
    rw [hB] at hA'
    obtain ⟨rfl, _⟩ : b = b' ∧ off = off' := by simpa using hA'
    rw [← hbO]; exact hb'
  have HLT := lksTo_len x m prev
  clear hWO hOB hsO hbO hb5O hb25 hsn
  go_wp2_with fail
  go_loopw [9] (fun i wr => ∃ (k : Nat) (V VL : Value), k ≤ nl ∧ i = .int .i64 k ∧ Hid (Blk wr bO 49 #[.int .i64 (nl : Int), V, VL, .int .i64 0]) ∧ Hid (wr.ownsRow (bO + 1) 66 4 V (lksTo x m prev k).length ((lksTo x m prev k).flatMap encLk)) ∧ Hid (wr.ownsRow (bO + 1) 3 1 VL k (((nd.take k).map (·.2)).map (Value.int .i64))) ∧ Below bO WO wr) (fun i _ => nl - (intOf i).toNat)
  case atStart => exact ⟨0, .slice none 0 0, .slice none 0 0, by omega, rfl, HOB, own_nil _ _ _ _, own_nil _ _ _ _, Below.refl _ _⟩
  case round =>
    obtain ⟨W0, rfl⟩ : ∃ V, V = wr := ⟨wr, rfl⟩
    obtain ⟨k, V, VL, hk, rfl, HB, HOV, HOL, hbr⟩ := hrel
    by_cases hlt : k < nl
    · obtain ⟨b, off, q, hBA, hbb, hqq, d0, d1⟩ := (HNB.out _ hbr).pt (k := k) (by rw [HNL.out]; exact hlt)
      have HQQ := Lib.hid hqq
      subst hBA
      obtain ⟨qa, qb⟩ := q
      simp only at d0 d1
      have HTKL : Hid (((nd.take k).map (·.2)).length = k) := by show _ = _; rw [List.length_map, List.length_take, HNL.out]; omega
      obtain ⟨AL, cL, hVL, hcL, hcmL, _⟩ := own_ints HOL.out HTKL.out.symm
      obtain ⟨AV, cV, hVV, hcV, hcmV, _⟩ := own_slr (R := RLk) HOV.out (fun _ => rfl) (fun _ => rfl) rfl
      have HB0 := HB
      have hbl := HB.out.lt
      have hneB : VL.ownBlock ≠ some bO := fun e => by have := own_block_le HOL.out _ e; omega
      have hbO2 : b < bO := HBb.out b off rfl (by omega)
      have hneN : VL.ownBlock ≠ some b := fun e => by have := own_block_le HOL.out _ e; omega
      have hG0 : bO ≤ W0.heap.size := by omega
      have hkI : (k : Int) < (nl : Int) := by omega
      have hk0 : (0 : Int) ≤ (k : Int) := by omega
      have HBr := Lib.hid hbr
      have b2 := HB.out.cell 2
      simp at b2
      have HVV := Lib.hid (And.intro hcV hcmV)
      subst hVV
      clear hqq hbr hVL
      go_upto_region 10 with fail
      refine ordV_start (ButOwn VL W0) (fun _ => True) [10] [(0, some false), (1, some false), (2, some false), (3, some false), (4, some false), (5, some false), (6, some false), (7, some true), (8, some true), (9, none), (10, some true)] (by kernel_rfl) (by kernel_rfl) (by kernel_rfl) (fun _ _ _ _ _ h => h) trivial ?_
      have HD : Below W0.heap.size W0 W0.drew := (Below.refl _ _).drew
      obtain ⟨Wd, hWd⟩ : ∃ Wd, W0.drew = Wd := ⟨_, rfl⟩
      rw [hWd] at HD ⊢
      clear hWd
      have HS0 := ButOwn.of_below (v := VL) HD
      iterate 7 (refine ordV_takeS (v := ?_) rfl rfl HS0 ?_ ?_; rotate_left 1; (focus (intro W hW; have hcW := hW.cell; (go_simp <;> (try with_reducible rfl)))); simp only [Act.put, List.setIfInBounds_toArray, List.set_cons_zero, List.set_cons_succ])
      refine ordV_call rfl rfl (fun K hK => ?_)
      go_simp
      have HDc := HD.alloc HD.size (.cells #[.int .i64 qb] 3)
      have HSc := ButOwn.of_below (v := VL) HDc
      refine hK.out _ _ trivial (fun _ _ => HSc) ?_
      clear hK K
      try simp only [Act.put, List.setIfInBounds_toArray, List.set_cons_zero, List.set_cons_succ]
      refine ordV_call rfl rfl (fun K hK => ?_)
      refine wp_appS (enc := fun s : Int => [Value.int .i64 s]) (R := RInt) _ _ 31 rfl (bO + 1) 3 j0 _ 1 8 Try.underlying31 hj hy0 hy1 hy2 rfl (by decide) VL _ _ rfl ((own_below HOL.out HD).alloc _) (some ⟨Wd.heap.size, 0, none⟩) 1 [qb] rfl (slr_blk (enc := fun s : Int => [Value.int .i64 s]) (Blk.new_ rfl) (fun _ => rfl) (fun _ => rfl)) (fun _ _ _ h => h) (fun _ => rfl) (fun u hu => by simp at hu; subst hu; rfl) (by simp; omega) (by decide) (by have := HDc.size; omega) ?_
      intro v4 w4 hown4 hb4 ha4
      have HSd := HSc.apps hb4.size ha4
      refine hK.out _ _ trivial (fun _ _ => HSd) ?_
      clear hK K
      have hown5 : w4.ownsRow (bO + 1) 3 1 v4 (k + 1) (((nd.take k).map (·.2) ++ [qb]).map (Value.int .i64)) := by rw [List.map_append]; exact hown4
      obtain ⟨A9, c9, hv4, hc9, hcm9, _⟩ := own_ints hown5 (by rw [List.length_append, HTKL.out]; rfl)
      subst hv4
      have hB4 := ((HB0.out.below HD HB0.out.lt).alloc (.cells #[.int .i64 qb] 3)).apps ha4 hneB
      have hV4 := own_apps ((own_below HOV.out HD).alloc (.cells #[.int .i64 qb] 3)) ((own_below HOL.out HD).alloc (.cells #[.int .i64 qb] 3)) (by decide) ha4
      have s2 := hB4.cell 2
      have sf2 := hB4.frozen 2
      have sl := hB4.lt
      simp at s2
      try simp only [Act.put, List.setIfInBounds_toArray, List.set_cons_zero, List.set_cons_succ]
      iterate 1 (refine ordV_takeR (v := ?_) rfl rfl ?_ ?_; rotate_left 1; (focus (intro W hW; (go_simp <;> (try with_reducible rfl)))); simp only [Act.put, List.setIfInBounds_toArray, List.set_cons_zero, List.set_cons_succ])
      refine ordV_call rfl rfl (fun K hK => ?_)
      go_simp
      refine hK.out _ _ trivial (fun _ h => by cases h) ?_
      clear hK K
      refine ordV_nil ?_
      obtain ⟨A8, c8, hA8⟩ : ∃ (a : Option Addr) (n : Nat), a = A9 ∧ n = c9 := ⟨A9, c9, rfl, rfl⟩
      obtain ⟨rfl, rfl⟩ := hA8
      have hne9 := own_blk_ne hown5 hB4 (by decide)
      have HL6 := Lib.hid (own_set hown5 (a := ⟨bO, 2, none⟩) hne9 (.slice A8 (k + 1) c8))
      have HV6 := Lib.hid (own_set hV4 (a := ⟨bO, 2, none⟩) (own_blk_ne hV4 hB4 (by decide)) (.slice A8 (k + 1) c8))
      have HB6 := Lib.hid (hB4.set_ 2 (.slice A8 (k + 1) c8))
      have HW6 := Lib.hid (((HBr.out.trans (HDc.mono hG0)).trans (hb4.mono (Nat.le_succ bO))).setCell (p := ⟨bO, 2, none⟩) (Nat.le_refl _) (.slice A8 (k + 1) c8))
      obtain ⟨W7, hW7⟩ : ∃ V, w4.setCell ⟨bO, 2, none⟩ (.slice A8 (k + 1) c8) = V := ⟨_, rfl⟩
      rw [hW7] at HL6 HV6 HB6 HW6 ⊢
      have HB7 : Hid (Blk W7 bO 49 #[.int .i64 (nl : Int), .slice AV (lksTo x m prev k).length cV, .slice A8 (k + 1) c8, .int .i64 0]) := by show Blk _ _ _ _; simpa using HB6.out
      have HCC9 := Lib.hid (And.intro hc9 hcm9)
      have hlk2 : (lksTo x m prev k).length ≤ 10200 := Nat.le_trans (HLT k) (Nat.le_trans (Nat.mul_le_mul (show k ≤ 102 by omega) hes) (by decide))
      have HLK1 := Lib.hid (lksTo_succ (x := x) (m := m) (prev := prev) (j := k) (p := (qa, qb)) (by rw [HNDE.out]; exact HQQ.out))
      have HTS : Hid ((nd.take (k + 1)).map (·.2) = (nd.take k).map (·.2) ++ [qb]) := by show _ = _; rw [take_snoc_of HQQ.out, List.map_append]; rfl
      have hb4' := HW6.out
      clear hW7 hown5 hown4 hB4 hV4 hb4 ha4 HD HDc HS0 HSc HSd hne9 s2 sf2 sl hc9 hcm9 d0 d1 hbb HB6 HB0 b2 hneB hneN hb4' HB HOV HOL hbl hcL hcmL hcV hcmV hG0
      go_wp2_with fail
      go_loopw [10] (fun j wr => ∃ (jn : Nat) (V2 : Value), jn ≤ x.es.length ∧ j = .int .i64 jn ∧ Hid (Blk wr bO 49 #[.int .i64 (nl : Int), V2, .slice A8 (k + 1) c8, .int .i64 0]) ∧ Hid (wr.ownsRow (bO + 1) 66 4 V2 ((lksTo x m prev k).length + (frTo x.es qa jn).length) ((lksTo x m prev k ++ (frTo x.es qa jn).map (cx_mkLk x m prev k qb)).flatMap encLk)) ∧ Hid (wr.ownsRow (bO + 1) 3 1 (.slice A8 (k + 1) c8) (k + 1) (((nd.take k).map (·.2) ++ [qb]).map (Value.int .i64))) ∧ Below bO WO wr) (fun j _ => x.es.length - (intOf j).toNat)
      case atStart => exact ⟨0, _, by omega, rfl, HB7, (by show W7.ownsRow _ _ _ _ _ _; simpa [frTo] using HV6.out), HL6, HW6.out⟩
      case round =>
        obtain ⟨wr2, rfl⟩ : ∃ V, V = wr := ⟨wr, rfl⟩
        obtain ⟨kk, V2, hkk, rfl, HB2r, HO2, HOL2, hbr2⟩ := hrel
        have hfl := frTo_len x.es qa kk
        by_cases hlj : kk < x.es.length
        · obtain ⟨bE, oE, e, hAE, hbE, hee, f0, f1, f2, f3⟩ := (HX5.out _ hbr2).ed hlj
          subst hAE
          have hem := List.mem_of_getElem? hee
          have HFS := Lib.hid (frTo_succ (v := qa) hee)
          have HEE := Lib.hid hee
          have hokE := HOK.out.1.1.2.2.1 e hem
          have hwdE := HOK.out.1.2 e hem
          obtain ⟨n5, hn5⟩ : ∃ n, (lksTo x m prev k).length + (frTo x.es qa kk).length = n := ⟨_, rfl⟩
          have hn5b : n5 ≤ 10300 := by omega
          rw [hn5] at HO2
          have hll : (lksTo x m prev k ++ (frTo x.es qa kk).map (cx_mkLk x m prev k qb)).length = n5 := by rw [← hn5, List.length_append, List.length_map]
          have hkkI : (kk : Int) < (x.es.length : Int) := by omega
          have hkk0 : (0 : Int) ≤ (kk : Int) := by omega
          obtain ⟨⟨l0, l1⟩, ⟨m0, m1, m2, m3⟩, ⟨ll, ml⟩, _⟩ := HBX.out _ (HBG.out _ hbr2)
          have hB2l := HB2r.out.lt
          have HBr2 := Lib.hid hbr2
          have HMK := Lib.hid (cx_mkLk_at (m := m) (prev := prev) (i := k) (last := qb) hee)
          have HFD : Hid (∀ W, Below bO WO W → Calls Try.prog 37 #[.slice (some ⟨b, off, none⟩) nl cB, .agg #[.int .i64 x.n, .slice (some ⟨bE, oE, none⟩) x.es.length c], vEd e] W fun r w' => r = .returned (.int .i64 (ixL nd (arrL x.n e) : Int)) ∧ Below W.heap.size W w') := fun W hW => HFDA.out W (some ⟨b, off, none⟩) cB e nl (HBG.out W hW) hem (HNB.out W hW) rfl (by omega)
          have hwn0 := hokE.2.1.1
          have hco0 := hokE.2.2
          obtain ⟨wn, hwn⟩ : ∃ wn : Nat, e.wd = (wn : Int) := ⟨e.wd.toNat, by omega⟩
          have hwnl : wn < m.cs.length := by have hcs : m.cs.length = m.ws.length := HMO.out.1.1.2.1; omega
          have hpc := pcost_in HMO.out qb hwnl
          have HPR : Hid (∀ W, Below bO WO W → Calls Try.prog 38 #[.agg #[.slice A1 m.ws.length c1, .slice A2 m.cs.length c2, .slice A3 m.ps.length c3, .int .i64 m.back], .int .i64 qb, .int .i64 (wn : Int)] W fun e w' => e = .returned (.int .i64 (pcost m qb wn)) ∧ Below W.heap.size W w') := fun W hW => refpair_any m A1 A2 A3 c1 c2 c3 qb wn W (HMR.out W hW) HMO.out hwnl
          obtain ⟨ef, et, ew, ec⟩ := e
          simp only at hwn f0 f1 f2 f3 hco0 HFS HMK
          subst hwn
          rw [show ((wn : Int)).toNat = wn from Int.toNat_natCast wn] at HMK
          generalize pcost m qb wn = pc at *
          rw [HNDE.out] at HMK
          obtain ⟨ix, hix⟩ : ∃ i, ixL nd (arrL x.n ⟨ef, et, (wn : Int), ec⟩) = i := ⟨_, rfl⟩
          rw [hix] at HFD HMK
          have hwp : IntKind.i64.wrap (ec + pc) = ec + pc := IntWalk.i64_in _ (by omega)
          have HN5 := Lib.hid hn5
          have HLLq := Lib.hid hll
          clear hee hem hokE hwdE hn5 hll hbr2 hix
          go_upto_region 15 with fail
          obtain ⟨W1, hW1⟩ : ∃ W, wr2.alloc (.cells #[.int .i64 ef, .int .i64 et, .int .i64 (wn : Int), .int .i64 ec] 43) = W := ⟨_, rfl⟩
          have hbW1 : Below wr2.heap.size wr2 W1 := by rw [← hW1]; exact nw _ (Below.refl _ _)
          have hEb : Blk W1 wr2.heap.size 43 #[.int .i64 ef, .int .i64 et, .int .i64 (wn : Int), .int .i64 ec] := by rw [← hW1]; exact Blk.new _ _ _
          rw [hW1]
          have HB1 := Lib.hid (HBr2.out.trans (hbW1.mono (show bO ≤ wr2.heap.size by omega)))
          have HBB1 := Lib.hid (HB2r.out.below hbW1 hB2l)
          have HO1 := Lib.hid (own_below HO2.out hbW1)
          have HOL1 := Lib.hid (own_below HOL2.out hbW1)
          obtain ⟨b', off', q', hAq, hbq, hqq', g0, g1⟩ := (HNB.out _ HB1.out).pt (k := k) (by rw [HNL.out]; exact hlt)
          obtain ⟨rfl, rfl⟩ : b = b' ∧ off = off' := by simpa using hAq
          rw [HQQ.out] at hqq'
          obtain rfl := Option.some.inj hqq'
          simp only at g0 g1
          have e0 := hEb.cell 0
          have e1 := hEb.cell 1
          have e2 := hEb.cell 2
          have e3 := hEb.cell 3
          have el := hEb.lt
          simp at e0 e1 e2 e3
          have hneE : V2.ownBlock ≠ some wr2.heap.size := own_lt HO2.out (Nat.le_refl _)
          obtain ⟨tE, htE⟩ : ∃ b, wr2.heap.size = b := ⟨_, rfl⟩
          rw [htE] at hEb hneE e0 e1 e2 e3 el ⊢
          have HEB := Lib.hid hEb
          clear hW1 htE hEb hbW1 hAq hbE f0 f1 f2 f3 l0 l1 m0 m1 m2 m3 ll ml
          by_cases hfr : ef = qa
          · have z1 : (ef == qa) = true := by simpa using hfr
            rw [if_pos hfr] at HFS
            clear hfr
            refine ordB_below (.quiet 0 (.quiet 1 (.quiet 2 (.quiet 3 (.quiet 4 (.quiet 5 (.quiet 6 (.quiet 7 .done)))))))) (by kernel_rfl) (by kernel_rfl) (by kernel_rfl) (fun _ _ _ _ _ h => h) ?_
            intro U0 hU0
            iterate 8 (first
              | (refine ordB_skip rfl rfl ?_; simp only [Act.put, List.setIfInBounds_toArray, List.set_cons_zero, List.set_cons_succ])
              | (refine ordB_take (v := ?_) rfl rfl ?_ ?_
                 rotate_left 1
                 focus (intro W hW; obtain ⟨hcW, hfW⟩ := bcell hW; (go_simp <;> with_reducible rfl))
                 simp only [Act.put, List.setIfInBounds_toArray, List.set_cons_zero, List.set_cons_succ]))
            refine ordB_nil ?_
            have HB0W := Lib.hid (HB1.out.trans (hU0.mono (show bO ≤ W1.heap.size by have := HB1.out.size; have := HSO.out; omega)))
            have HB0 := Lib.hid (HBB1.out.below hU0 HBB1.out.lt)
            have HO0 := Lib.hid (own_below HO1.out hU0)
            have HOL0 := Lib.hid (own_below HOL1.out hU0)
            have hEb := HEB.out.below hU0 HEB.out.lt
            have g0 := ((bcell hU0).1 _ _ hbq).trans g0
            have g1 := ((bcell hU0).1 _ _ hbq).trans g1
            have hbq := Nat.lt_of_lt_of_le hbq hU0.size
            obtain ⟨W0, hW0⟩ : ∃ V, U0 = V := ⟨_, rfl⟩
            rw [hW0] at HB0W HB0 HO0 HOL0 hEb hbq g0 g1 ⊢
            clear e0 e1 e2 e3 el hW0 z1
            have e0 := hEb.cell 0
            have e1 := hEb.cell 1
            have e2 := hEb.cell 2
            have e3 := hEb.cell 3
            have el := hEb.lt
            simp at e0 e1 e2 e3
            obtain ⟨⟨l0, l1⟩, ⟨m0, m1, m2, m3⟩, ⟨ll, ml⟩, _⟩ := HBX.out _ (HBG.out _ HB0W.out)
            have b1 := HB0.out.cell 1
            have bl := HB0.out.lt
            simp at b1
            have hneB : V2.ownBlock ≠ some bO := fun e => by have := own_block_le HO0.out _ e; omega
            have hneL : V2.ownBlock ≠ some w.heap.size := fun e => by have := own_block_le HO0.out _ e; omega
            have hneM : V2.ownBlock ≠ some (w.heap.size + 1) := fun e => by have := own_block_le HO0.out _ e; omega
            have hneN : V2.ownBlock ≠ some b := fun e => by have := own_block_le HO0.out _ e; omega
            have hG0 : bO ≤ W0.heap.size := by have := HB0W.out.size; have := HSO.out; omega
            obtain ⟨LL, hLL⟩ : ∃ L, lksTo x m prev k ++ (frTo x.es qa kk).map (cx_mkLk x m prev k qb) = L := ⟨_, rfl⟩
            have HFS2 : Hid (lksTo x m prev k ++ (frTo x.es qa (kk + 1)).map (cx_mkLk x m prev k qb) = LL ++ [Lk.mk (k : Int) (ix : Int) (kk : Int) (ec + pc)]) := by
              show _ = _
              rw [HFS.out, List.map_append, ← List.append_assoc, hLL]
              show LL ++ [cx_mkLk x m prev k qb kk] = _
              rw [HMK.out]
            have HN6 : Hid ((lksTo x m prev k).length + (frTo x.es qa (kk + 1)).length = n5 + 1) := by
              show _ = _
              rw [HFS.out, List.length_append]
              have := HN5.out
              simp only [List.length_singleton]
              omega
            rw [hLL] at HO0 HLLq
            have HLL := HLLq
            clear hLL hEb
            go_upto_region 16 with fail
            refine ordV_start (ButOwn V2 W0) (fun _ => True) [26] [(0, some false), (1, some false), (2, some false), (3, some false), (4, some false), (5, some false), (6, some false), (8, some false), (9, some false), (10, some false), (11, some false), (12, some false), (13, some false), (14, some false), (15, some false), (16, some false), (17, some false), (18, some false), (7, some true), (19, some true), (20, some false), (21, some false), (22, some true), (23, some true), (24, none), (25, none), (26, some true)] (by kernel_rfl) (by kernel_rfl) (by kernel_rfl) (fun _ _ _ _ _ h => h) trivial ?_
            have HD : Below W0.heap.size W0 W0.drew := (Below.refl _ _).drew
            obtain ⟨Wd, hWd⟩ : ∃ Wd, W0.drew = Wd := ⟨_, rfl⟩
            rw [hWd] at HD ⊢
            clear hWd
            have HS0 := ButOwn.of_below (v := V2) HD
            iterate 18 (refine ordV_takeS (v := ?_) rfl rfl HS0 ?_ ?_; rotate_left 1; (focus (intro W hW; have hcW := hW.cell; (go_simp <;> (try with_reducible rfl)))); simp only [Act.put, List.setIfInBounds_toArray, List.set_cons_zero, List.set_cons_succ])
            refine ordV_call rfl rfl (fun K hK => ?_)
            go_simp
            go_at_call 37
            refine (HFD.out _ (HB0W.out.trans (HD.mono hG0))).mono ?_
            rintro r Wa ⟨rfl, hba⟩
            have HDa := bthen HD hba
            have HSa := ButOwn.of_below (v := V2) HDa
            refine hK.out _ _ trivial (fun _ _ => HSa) ?_
            clear hK K
            try simp only [Act.put, List.setIfInBounds_toArray, List.set_cons_zero, List.set_cons_succ]
            refine ordV_call rfl rfl (fun K hK => ?_)
            go_simp
            go_at_call 38
            refine (HPR.out _ (HB0W.out.trans (HDa.mono hG0))).mono ?_
            rintro r Wb ⟨rfl, hbb⟩
            have HDb := bthen HDa hbb
            have HSb := ButOwn.of_below (v := V2) HDb
            refine hK.out _ _ trivial (fun _ _ => HSb) ?_
            clear hK K
            try simp only [Act.put, List.setIfInBounds_toArray, List.set_cons_zero, List.set_cons_succ]
            iterate 2 (refine ordV_takeS (v := ?_) rfl rfl HSb ?_ ?_; rotate_left 1; (focus (intro W hW; have hcW := hW.cell; (go_simp <;> (try with_reducible rfl)))); simp only [Act.put, List.setIfInBounds_toArray, List.set_cons_zero, List.set_cons_succ])
            refine ordV_call rfl rfl (fun K hK => ?_)
            go_simp
            have HDc := HDb.alloc HDb.size (.cells #[.int .i64 (k : Int), .int .i64 (ix : Int), .int .i64 (kk : Int), .int .i64 (ec + pc)] 66)
            have HSc := ButOwn.of_below (v := V2) HDc
            refine hK.out _ _ trivial (fun _ _ => HSc) ?_
            clear hK K
            try simp only [Act.put, List.setIfInBounds_toArray, List.set_cons_zero, List.set_cons_succ]
            refine ordV_call rfl rfl (fun K hK => ?_)
            refine wp_appS (enc := encLk) (R := RLk) _ _ 44 rfl (bO + 1) 66 i0 _ 4 32 Try.underlying44 hi hz0 hz1 hz2 rfl (by decide) V2 _ _ rfl ((own_below HO0.out HDb).alloc _) (some ⟨Wb.heap.size, 0, none⟩) 1 [⟨(k : Int), (ix : Int), (kk : Int), ec + pc⟩] rfl (slr_blk (enc := encLk) (Blk.new_ rfl) (fun _ => rfl) (fun _ => rfl)) (fun _ _ _ h => h) (fun _ => rfl) (fun u hu => by simp [encLk] at hu; rcases hu with rfl | rfl | rfl | rfl <;> rfl) (by simp; omega) (by decide) (by have := HDc.size; omega) ?_
            intro v4 w4 hown4 hb4 ha4
            have HSd := HSc.apps hb4.size ha4
            refine hK.out _ _ trivial (fun _ _ => HSd) ?_
            clear hK K
            have hown5 : w4.ownsRow (bO + 1) 66 4 v4 (n5 + 1) ((LL ++ [Lk.mk (k : Int) (ix : Int) (kk : Int) (ec + pc)]).flatMap encLk) := by rw [flat_snoc]; simpa using hown4
            obtain ⟨A9, c9, hv4, hc9, hcm9, _⟩ := own_slr (R := RLk) hown5 (fun _ => rfl) (fun _ => rfl) (by rw [List.length_append, HLL.out]; rfl)
            subst hv4
            have hB4 := ((HB0.out.below HDb HB0.out.lt).alloc (.cells #[.int .i64 (k : Int), .int .i64 (ix : Int), .int .i64 (kk : Int), .int .i64 (ec + pc)] 66)).apps ha4 hneB
            have hL4 := own_apps ((own_below HOL0.out HDb).alloc (.cells #[.int .i64 (k : Int), .int .i64 (ix : Int), .int .i64 (kk : Int), .int .i64 (ec + pc)] 66)) ((own_below HO0.out HDb).alloc (.cells #[.int .i64 (k : Int), .int .i64 (ix : Int), .int .i64 (kk : Int), .int .i64 (ec + pc)] 66)) (by decide) ha4
            have s1 := hB4.cell 1
            have sf1 := hB4.frozen 1
            have sl := hB4.lt
            simp at s1
            try simp only [Act.put, List.setIfInBounds_toArray, List.set_cons_zero, List.set_cons_succ]
            iterate 2 (refine ordV_takeR (v := ?_) rfl rfl ?_ ?_; rotate_left 1; (focus (intro W hW; (go_simp <;> (try with_reducible rfl)))); simp only [Act.put, List.setIfInBounds_toArray, List.set_cons_zero, List.set_cons_succ])
            refine ordV_call rfl rfl (fun K hK => ?_)
            go_simp
            refine hK.out _ _ trivial (fun _ h => by cases h) ?_
            clear hK K
            refine ordV_nil ?_
            have hne9 := own_blk_ne hown5 hB4 (by decide)
            have HO6 := Lib.hid (own_set hown5 (a := ⟨bO, 1, none⟩) hne9 (.slice A9 (n5 + 1) c9))
            have HL6 := Lib.hid (own_set hL4 (a := ⟨bO, 1, none⟩) (own_blk_ne hL4 hB4 (by decide)) (.slice A9 (n5 + 1) c9))
            have HB6 := Lib.hid (hB4.set_ 1 (.slice A9 (n5 + 1) c9))
            have HW6 := Lib.hid (((HB0W.out.trans (HDc.mono hG0)).trans (hb4.mono (Nat.le_succ bO))).setCell (p := ⟨bO, 1, none⟩) (Nat.le_refl _) (.slice A9 (n5 + 1) c9))
            clear hown5 hown4 hB4 hL4 hb4 ha4 HD HDa HDb HDc HS0 HSa HSb HSc HSd hne9 s1 sf1 sl hba hbb l0 l1 m0 m1 m2 m3 ll ml b1 bl e0 e1 e2 e3 el g0 g1 hbq
            go_wp2_with fail
            go_roundw
            case rel => exact ⟨kk + 1, .slice A9 (n5 + 1) c9, by omega, by go_num, (by show Blk _ _ _ _; simpa using HB6.out), (by rw [HN6.out, HFS2.out]; exact HO6), HL6, HW6.out⟩
            case measure => simp [intOf]; omega
          · have z1 : (ef == qa) = false := by simpa using hfr
            rw [if_neg hfr] at HFS
            clear hfr
            refine ordB_below (.quiet 0 (.quiet 1 (.quiet 2 (.quiet 3 (.quiet 4 (.quiet 5 (.quiet 6 (.quiet 7 .done)))))))) (by kernel_rfl) (by kernel_rfl) (by kernel_rfl) (fun _ _ _ _ _ h => h) ?_
            intro U0 hU0
            iterate 8 (first
              | (refine ordB_skip rfl rfl ?_; simp only [Act.put, List.setIfInBounds_toArray, List.set_cons_zero, List.set_cons_succ])
              | (refine ordB_take (v := ?_) rfl rfl ?_ ?_
                 rotate_left 1
                 focus (intro W hW; obtain ⟨hcW, hfW⟩ := bcell hW; (go_simp <;> with_reducible rfl))
                 simp only [Act.put, List.setIfInBounds_toArray, List.set_cons_zero, List.set_cons_succ]))
            refine ordB_nil ?_
            have HB3 := Lib.hid (HB1.out.trans (hU0.mono (show bO ≤ W1.heap.size by have := HB1.out.size; have := HSO.out; omega)))
            have HBB3 := Lib.hid (HBB1.out.below hU0 HBB1.out.lt)
            have HO3 := Lib.hid (own_below HO1.out hU0)
            have HOL3 := Lib.hid (own_below HOL1.out hU0)
            have hn6 : (lksTo x m prev k).length + (frTo x.es qa (kk + 1)).length = n5 := by rw [HFS.out]; exact HN5.out
            clear e0 e1 e2 e3 el g0 g1 hbq z1
            go_wp2_with fail
            go_roundw
            case rel => exact ⟨kk + 1, V2, by omega, by go_num, HBB3, (by rw [hn6, HFS.out]; exact HO3), HOL3, HB3.out⟩
            case measure => simp [intOf]; omega
        · obtain rfl : kk = x.es.length := by omega
          have HNE : Hid (lksTo x m prev (k + 1) = lksTo x m prev k ++ (frTo x.es qa x.es.length).map (cx_mkLk x m prev k qb)) := HLK1.out
          have HNN : Hid ((lksTo x m prev (k + 1)).length = (lksTo x m prev k).length + (frTo x.es qa x.es.length).length) := by show _ = _; rw [HNE.out, List.length_append, List.length_map]
          have HBr2 := Lib.hid hbr2
          clear hbr2
          obtain ⟨⟨l0, l1⟩, ⟨m0, m1, m2, m3⟩, ⟨ll, ml⟩, _⟩ := HBX.out _ (HBG.out _ HBr2.out)
          go_wp2_with fail
          go_roundw
          case rel => exact ⟨k + 1, V2, _, by omega, by go_num, HB2r, (by rw [HNN.out, HNE.out]; exact HO2), (by rw [HTS.out]; exact HOL2), HBr2.out⟩
          case measure => simp [intOf]; omega
    · obtain rfl : nl = k := by omega
      have HGE : Hid (lksTo x m prev nl = (grL x m prev).ls) := by show lksTo x m prev nl = lksTo x m prev (nodesL x prev).length; rw [HNDE.out, HNL.out]
      have HLE : Hid ((nd.take nl).map (·.2) = lastL x prev) := by show _ = (nodesL x prev).map (·.2); rw [HNDE.out, List.take_of_length_le (by rw [HNL.out]; exact Nat.le_refl _)]
      have hlk2 : (lksTo x m prev nl).length ≤ 10200 := Nat.le_trans (HLT nl) (Nat.le_trans (Nat.mul_le_mul (show nl ≤ 102 by omega) hes) (by decide))
      have hO := HOV.out
      have hL := HOL.out
      rw [HGE.out] at hO hlk2
      rw [HLE.out] at hL
      have hLn : (lastL x prev).length = nl := by rw [← HLE.out, List.length_map, List.length_take, HNL.out]; omega
      have hGn : (grL x m prev).n = (nl : Int) := by show (((nodesL x prev).length : Nat) : Int) = _; rw [HNDE.out, HNL.out]
      obtain ⟨_, _, _, hR⟩ := HBX.out _ (HBG.out _ hbr)
      obtain ⟨GLS, hGLS⟩ : ∃ l, (grL x m prev).ls = l := ⟨_, rfl⟩
      obtain ⟨LST, hLST⟩ : ∃ l, lastL x prev = l := ⟨_, rfl⟩
      rw [hGLS] at hO hlk2
      rw [hLST] at hL hLn
      obtain ⟨A5, c5, hV, hc5, hcm5, _⟩ := own_slr (R := RLk) hO (fun _ => rfl) (fun _ => rfl) rfl
      obtain ⟨A6, c6, hV6, hc6, hcm6, _⟩ := own_ints hL hLn.symm
      subst hV hV6
      have HOWN : Hid ((∀ a, A5 = some a → w.heap.size ≤ a.block) ∧ (∀ a, A6 = some a → w.heap.size ≤ a.block)) := ⟨fun a h => by
        have := own_block_le hO a.block (by rw [h]; rfl)
        omega, fun a h => by
        have := own_block_le hL a.block (by rw [h]; rfl)
        omega⟩
      have hneR : (Value.slice A5 GLS.length c5).ownBlock ≠ some (w.heap.size + 2) := fun e => by have := own_block_le hO _ e; omega
      have hneS : (Value.slice A6 nl c6).ownBlock ≠ some (w.heap.size + 2) := fun e => by have := own_block_le hL _ e; omega
      have HFIN : Hid (∀ W, (((W0.setCell ⟨w.heap.size + 2, 0, none⟩ (.int .i64 (nl : Int))).setCell ⟨w.heap.size + 2, 1, none⟩ (.slice A5 GLS.length c5)).setCell ⟨w.heap.size + 2, 2, none⟩ (.slice A6 nl c6)).setCell ⟨w.heap.size + 2, 3, none⟩ (.int .i64 0) = W →
          SlR 4 RLk W A5 GLS ∧ SlR 1 RInt W A6 LST ∧ Blk W (w.heap.size + 2) 49 #[.int .i64 (nl : Int), .slice A5 GLS.length c5, .slice A6 nl c6, .int .i64 0] ∧ Below w.heap.size w W) := fun W hW => by
        subst hW
        have h1 := own_set (own_set (own_set (own_set hO (a := ⟨w.heap.size + 2, 0, none⟩) hneR (.int .i64 (nl : Int))) (a := ⟨w.heap.size + 2, 1, none⟩) hneR (.slice A5 GLS.length c5)) (a := ⟨w.heap.size + 2, 2, none⟩) hneR (.slice A6 nl c6)) (a := ⟨w.heap.size + 2, 3, none⟩) hneR (.int .i64 0)
        have h2 := own_set (own_set (own_set (own_set hL (a := ⟨w.heap.size + 2, 0, none⟩) hneS (.int .i64 (nl : Int))) (a := ⟨w.heap.size + 2, 1, none⟩) hneS (.slice A5 GLS.length c5)) (a := ⟨w.heap.size + 2, 2, none⟩) hneS (.slice A6 nl c6)) (a := ⟨w.heap.size + 2, 3, none⟩) hneS (.int .i64 0)
        obtain ⟨A9, c9, e1, _, _, s1⟩ := own_slr (R := RLk) h1 (fun _ => rfl) (fun _ => rfl) rfl
        obtain ⟨B9, d9, e2, _, _, s2⟩ := own_ints h2 hLn.symm
        injection e1 with e1 _ _
        injection e2 with e2 _ _
        subst e1 e2
        have hle : w.heap.size ≤ w.heap.size + 2 := by omega
        have hh := (((hR.set_ 0 (.int .i64 (nl : Int))).set_ 1 (.slice A5 GLS.length c5)).set_ 2 (.slice A6 nl c6)).set_ 3 (.int .i64 0)
        exact ⟨s1, s2, by simpa using hh, ((((bthen HB2.out (HBG.out _ hbr)).setCell (p := ⟨w.heap.size + 2, 0, none⟩) hle _).setCell (p := ⟨w.heap.size + 2, 1, none⟩) hle _).setCell (p := ⟨w.heap.size + 2, 2, none⟩) hle _).setCell (p := ⟨w.heap.size + 2, 3, none⟩) hle _⟩
      have b0 := HB.out.cell 0
      have b1 := HB.out.cell 1
      have b2 := HB.out.cell 2
      have b3 := HB.out.cell 3
      have bl := HB.out.lt
      have r0 := hR.cell 0
      have r1 := hR.cell 1
      have r2 := hR.cell 2
      have r3 := hR.cell 3
      have rf0 := hR.frozen 0
      have rf1 := hR.frozen 1
      have rf2 := hR.frozen 2
      have rf3 := hR.frozen 3
      have rl := hR.lt
      simp at b0 b1 b2 b3 r0 r1 r2 r3
      have HLAST := Lib.hid (And.intro hGLS (And.intro hLST (And.intro hLn (And.intro hGn (And.intro hc5 hcm5)))))
      have hlk3 : (GLS.length : Int) ≤ 10200 := by omega
      clear hO hL hR hneR hneS hbr HB HOV HOL hGLS hLST hLn hGn hc5 hcm5 hc6 hcm6 hlk2
      go_wp2_with fail
      obtain ⟨h1, h2, h3, h4⟩ := HFIN.out _ rfl
      obtain ⟨q1, q2, q3, q4, q5⟩ := HLAST.out
      refine ret_cell h3 rfl rfl Try.underlying49 rfl (by kernel_rfl) rfl ?_
      rw [HR.out]
      refine ⟨A5, A6, c5, c6, ?_, ?_, ?_, ?_, h4, HOWN.out.1, HOWN.out.2⟩
      · show Ending.returned (.agg #[.int .i64 (nl : Int), .slice A5 GLS.length c5, .slice A6 nl c6, .int .i64 0]) = .returned (.agg #[.int .i64 (grL x m prev).n, .slice A5 (grL x m prev).ls.length c5, .slice A6 (lastL x prev).length c6, .int .i64 0])
        rw [q1, q2, q3, q4]
      · show SlR 4 RLk _ A5 (grL x m prev).ls
        rw [q1]
        exact h1
      · show SlR 1 RInt _ A6 (lastL x prev)
        rw [q2]
        exact h2
      · show (grL x m prev).ls.length ≤ c5 ∧ c5 ≤ maxLen
        rw [q1]
        exact q5
end Go.Proofs.Ytcimnkijpifkjaa
