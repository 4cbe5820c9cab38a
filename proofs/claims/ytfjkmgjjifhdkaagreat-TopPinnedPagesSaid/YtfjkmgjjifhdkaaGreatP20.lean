/-
  BsWalkK, GrWaysB, GrWalkP, GrWalkO, GrWalkQ, BsWalkJ, BsNumLaw, GrWalkG, joined. No conditions.
-/
import Derived.Test.YtfjkmgjjifhdkaaGreatP14
import Derived.Test.YtfjkmgjjifhdkaaGreatP19
import Derived.Test.YtfjkmgjjifhdkaaGreatP02
import Derived.Test.YtfjkmgjjifhdkaaGreatP04
import Derived.Test.YtfjkmgjjifhdkaaGreatP08
import Derived.Test.YtfjkmgjjifhdkaaGreatP11
import Derived.Test.YtfjkmgjjifhdkaaGreatP05
import Derived.Deep.DeepCutAuto
import Derived.Deep.CutBlock
import Derived.Test.YtfjkmgjjifhdkaaGreatP07
/-
  The walks of layer 15: the number of ways.
-/
namespace Go.Proofs.YtfjkmgjjifhdkaaGreat
open Go Go.RowKit

theorem fold_snocN {f : Int → Int → Int} {L : List Int} {j : Nat} {i a : Int} (h : L[j]? = some i) : (L.take (j + 1)).foldl f a = f ((L.take j).foldl f a) i := by
  rw [take_succ_of h, List.foldl_append]
  rfl
set_option maxRecDepth 100000 in
set_option maxHeartbeats 8000000 in
theorem number_any (A : Option Addr) (c : Nat) (g : Gr) (w : World) (hx : SlR 4 RLk w A g.ls) (hl : g.ls.length ≤ maxLen) :
    Calls Tryz.prog 20 #[.agg #[.int .i64 g.n, .slice A g.ls.length c]] w fun e w' => e = .returned (.int .i64 (numOf g)) ∧ Below w.heap.size w w' := by
  have hl0 := hl
  unfold maxLen at hl
  obtain ⟨i0, hi, hz0, hz1, hz2⟩ := info_parts bint_inf
  obtain ⟨w1, hw1⟩ : ∃ w1, w.alloc (.cells #[.int .i64 g.n, .slice A g.ls.length c] 38) = w1 := ⟨_, rfl⟩
  have hb1 : Below w.heap.size w w1 := by rw [← hw1]; exact nw _ (Below.refl _ _)
  have hB1 : Blk w1 w.heap.size 38 #[.int .i64 g.n, .slice A g.ls.length c] := by rw [← hw1]; exact Blk.new _ _ _
  have HW1 := Lib.hid hw1
  have c0 := hB1.cell 0
  have c1 := hB1.cell 1
  have lb := hB1.lt
  simp at c0 c1
  have HV : Hid (∀ W, Below w.heap.size w W → Calls Tryz.prog 33 #[.agg #[.int .i64 g.n, .slice A g.ls.length c]] W fun e w' => e = .returned (.bool (grB g)) ∧ Below W.heap.size W w') := fun W hW => valid_any A c g W (hx.below keeps_lk hW) hl0
  clear hw1
  cases hgr : grB g with
  | false =>
    have HP : Hid (numOf g = 0) := by show _ = _; unfold numOf; rw [hgr]; rfl
    rw [hgr] at HV
    rw [HP.out]
    clear hgr
    go_enter Tryz.func20, Tryz.ntmps20
    go_wp2_with (go_at_call 33; go_loud (rw [HW1.out]; refine (HV.out _ hb1).mono ?_; rintro e w2 ⟨rfl, hb2⟩))
    go_ret
    exact ⟨rfl, bthen hb1 hb2⟩
  | true =>
    have hg := grB_iff.1 hgr
    have HP : numOf g = numM g := by unfold numOf; rw [hgr]; rfl
    rw [hgr] at HV
    rw [HP]
    obtain ⟨hn1, hn2⟩ := hg.n
    obtain ⟨N, hN⟩ : ∃ N : Nat, g.n = (N : Int) := ⟨g.n.toNat, by omega⟩
    have HG := Lib.hid hg
    have HN := Lib.hid hN
    have HLV : Hid (∀ W, Below w.heap.size w W → Calls Tryz.prog 59 #[.agg #[.int .i64 (N : Int), .slice A g.ls.length c]] W fun e w' => ∃ gf, e = .returned (.slice (some ⟨gf, 0, none⟩) N N) ∧ W.heap.size ≤ gf ∧ gf < w'.heap.size ∧
      Hid (∀ W', NewEq W.heap.size w' W' → SlR 1 RSl W' (some ⟨gf, 0, none⟩) (leavL g N)) ∧ Below W.heap.size W w') := fun W hW => bleav_any A c g N W (hx.below keeps_lk hW) hl0 hg hN
    have HNM : Hid (numM g = (numS g N).headD 0) := by show _ = _; unfold numM; rw [hN, Int.toNat_natCast]
    obtain ⟨R, hR⟩ : ∃ R, numM g = R := ⟨_, rfl⟩
    rw [hR]
    have HNR : Hid ((numS g N).headD 0 = R) := HNM.out.symm.trans hR
    rw [hN] at HV c0 hB1 hn1 hn2 HW1 ⊢
    clear hgr hg hN HP hR HNM
    go_enter Tryz.func20, Tryz.ntmps20
    go_upto_region 3 with (go_at_call 33; go_loud (rw [HW1.out]; refine (HV.out _ hb1).mono ?_; rintro e w2 ⟨rfl, hb2⟩))
    have hB2 := hB1.below hb2 lb
    have hbw2 := bthen hb1 hb2
    have k0 := hB2.cell 0
    have k1 := hB2.cell 1
    have kl := hB2.lt
    simp at k0 k1
    clear hb2 c0 c1 hB1
    go_upto_region 4 with (go_at_call 59; go_loud (refine (HLV.out _ hbw2).mono ?_; rintro e w3 ⟨gf, rfl, hgf, hfrl, HAL, hb3⟩))
    have hfr := HAL.out w3 ⟨Nat.le_refl _, fun _ _ _ => rfl⟩
    have hB3 := hB2.below hb3 kl
    have k0 := hB3.cell 0
    have k1 := hB3.cell 1
    have kl := hB3.lt
    simp at k0 k1
    have hbw3 := bthen hbw2 hb3
    clear hb3 hB2
    go_upto_region 5 with (at_make; go_loud (refine wpList_mk _ rfl _ _ 40 rfl 3 i0 (.int .i64 0) (.int .i64 0) Tryz.underlying40 hi hz0 hz1 (by omega) rfl N rfl rfl (by omega) ?_))
    obtain ⟨W3, hW3⟩ : ∃ W, w3.alloc (.cells (Array.replicate N (Value.int .i64 0)) 3) = W := ⟨_, rfl⟩
    have hb3 : Below w3.heap.size w3 W3 := by rw [← hW3]; exact nw _ (Below.refl _ _)
    have hR3 : Row W3 w3.heap.size (List.replicate N 0) := by rw [← hW3, ← List.toArray_replicate]; exact Row.zeros _ _
    rw [hW3]
    clear hW3
    obtain ⟨gh, hgh⟩ : ∃ b, w3.heap.size = b := ⟨_, rfl⟩
    have HFR : Hid (∀ W, Below gh W3 W → SlR 1 RSl W (some ⟨gf, 0, none⟩) (leavL g N)) := fun W hW => hfr.below keeps_sl (hb3.trans (by rw [hgh]; exact hW))
    rw [hgh] at hR3 hfrl ⊢
    have hbgh : w.heap.size < gh := by have := hbw3.size; omega
    have hghl := hR3.lt
    have hB4 := hB3.below hb3 kl
    have hbw4 := bthen hbw3 hb3
    clear hb3 k0 k1 kl hB3 hgh hfr hbw2 hbw3 HAL hgf
    have j0 := hB4.cell 0
    have j1 := hB4.cell 1
    have jl := hB4.lt
    simp at j0 j1
    obtain ⟨M, hM⟩ : ∃ M, N = M + 1 := ⟨N - 1, by omega⟩
    have hR3b : Row W3 gh (potRow M 0 []) := by rw [← potRow_start, List.append_nil, ← hM]; exact hR3
    have q0 := hR3b.cell (potRow_at M 0 [])
    have qf := hR3b.frozen M
    have hNM : (N : Int) - 1 = (M : Int) := by omega
    have HNMI := Lib.hid hNM
    have hMN : (M : Int) < (N : Int) := by omega
    have hM0 : (0 : Int) ≤ (M : Int) := by omega
    have hR4 := hR3b.set_ M 1
    rw [potRow_set] at hR4
    have HR4 : Hid (Row (W3.setCell ⟨gh, M, none⟩ (.int .i64 1)) gh (List.replicate (N - 1) 0 ++ numS g 1)) := by show Row _ _ _; rw [hM]; exact hR4
    have HB4 : Hid (Below gh W3 (W3.setCell ⟨gh, M, none⟩ (.int .i64 1))) := (Below.refl _ _).setCell (p := ⟨gh, M, none⟩) (Nat.le_refl _) _
    have hwM : IntKind.i64.wrap ((N : Int) - 1) = (M : Int) := by rw [hNM]; exact IntWalk.i64_in _ (by omega)
    have hw2 : IntKind.i64.wrap ((N : Int) - 2) = (N : Int) - 2 := IntWalk.i64_in _ (by omega)
    clear hM hNM hR3 hR3b hR4
    go_upto_region 6 with fail
    obtain ⟨W4, hW4⟩ : ∃ W, W3.setCell ⟨gh, M, none⟩ (.int .i64 1) = W := ⟨_, rfl⟩
    rw [hW4] at HR4 HB4 ⊢
    have hB5 := hB4.below HB4.out hbgh
    have j0 := hB5.cell 0
    have j1 := hB5.cell 1
    have jl := hB5.lt
    simp at j0 j1
    clear hW4 q0 qf hwM
    go_wp2_with fail
    go_loopw [5] (fun nd wr => ∃ k : Nat, 1 ≤ k ∧ k ≤ N ∧ nd = .int .i64 ((N : Int) - 1 - k) ∧ Row wr gh (List.replicate (N - k) 0 ++ numS g k) ∧ Below gh W3 wr) (fun nd _ => (intOf nd + 1).toNat)
    case atStart => exact ⟨1, by omega, by omega, vint (by omega), HR4.out, HB4.out⟩
    case round =>
      obtain ⟨k, hk1, hkN, rfl, hR, hbr⟩ := hrel
      have hRl := hR.lt
      by_cases hlt : k < N
      · obtain ⟨m, hm⟩ : ∃ m, N - k = m + 1 := ⟨N - k - 1, by omega⟩
        rw [hm, potRow_start] at hR
        have hmv : (N : Int) - 1 - k = (m : Int) := by omega
        rw [hmv]
        have hm0 : (0 : Int) ≤ (m : Int) := by omega
        have hmN : (m : Int) < (N : Int) := by omega
        have hmN2 : m < N := by omega
        obtain ⟨bf, of, xs, Ai, ci, he, _, hxs, hcf, _⟩ := (HFR.out _ hbr).sl (k := m) (by rw [leavL_len]; omega)
        rw [leavL_at g hmN2] at hxs
        obtain rfl := Option.some.inj hxs
        obtain ⟨rfl, rfl⟩ : gf = bf ∧ 0 = of := by injection he with he; injection he with h1 h2; exact ⟨h1, h2⟩
        rw [Nat.zero_add] at hcf
        have HSL : Hid (∀ W, Below gh W3 W → SlR 1 RInt W Ai (lvs g (m : Int))) := fun W hW => by
          obtain ⟨b2, o2, x2, A2, c2, he2, _, hx2, hc2, hs2, _⟩ := (HFR.out W hW).sl (k := m) (by rw [leavL_len]; omega)
          rw [leavL_at g hmN2] at hx2
          obtain rfl := Option.some.inj hx2
          obtain ⟨rfl, rfl⟩ : gf = b2 ∧ 0 = o2 := by injection he2 with he; injection he with h1 h2; exact ⟨h1, h2⟩
          rw [Nat.zero_add] at hc2
          have e1 := (hbr.cell (p := ⟨gf, m, none⟩) hfrl).symm.trans hcf
          have e2 := (hW.cell (p := ⟨gf, m, none⟩) hfrl).symm.trans hc2
          rw [e1] at e2
          injection e2 with e2
          injection e2 with e2 _ _
          rw [e2]
          exact hs2
        have HB1 := Lib.hid hbr
        have HMK : Hid (N = m + 1 + k) := by show _ = _; omega
        have hvl := lvs_len HG.out (m : Int)
        have hps := numS_succ g (k := k) hk1
        have hvm : g.n - ((k : Int) + 1) = (m : Int) := by rw [HN.out]; omega
        rw [hvm] at hps
        have HPS := Lib.hid hps
        clear hbr hxs he hm hmv hps hvm
        go_wp2_with fail
        go_loopw [33] (fun i wv => ∃ j : Nat, j ≤ (lvs g (m : Int)).length ∧ i = .int .i64 j ∧ Row wv gh (potRow m (((lvs g (m : Int)).take j).foldl (numStep g (m : Int) (numS g k)) 0) (numS g k)) ∧ Below gh W3 wv) (fun i _ => (lvs g (m : Int)).length - (intOf i).toNat)
        case atStart => exact ⟨0, by omega, rfl, hR, HB1.out⟩
        case round =>
          obtain ⟨j, hj, rfl, hRw, hbv⟩ := hrel
          have hBv := hB4.below hbv hbgh
          have b0 := hBv.cell 0
          have b1 := hBv.cell 1
          have bl := hBv.lt
          simp at b0 b1
          have hbwv : Below w.heap.size w wr := hbw4.trans (hbv.mono (by omega))
          by_cases hltj : j < (lvs g (m : Int)).length
          · obtain ⟨bi, oi, x, hAi, hbi, hxi, hci⟩ := (HSL.out _ hbv).int hltj
            subst hAi
            have hix := lvs_iff.1 (List.mem_of_getElem? hxi)
            obtain ⟨hx0, hx1, hx2⟩ := hix
            obtain ⟨xn, rfl⟩ : ∃ xn : Nat, x = (xn : Int) := ⟨x.toNat, by omega⟩
            have hxnl : xn < g.ls.length := by omega
            have hxnl' : (xn : Int) < (g.ls.length : Int) := by omega
            have hxn0 : (0 : Int) ≤ (xn : Int) := by omega
            obtain ⟨b, off, l, rfl, hbb, hll, d0, d1, d2, d3⟩ := (hx.below keeps_lk hbwv).lk hxnl
            have hok := HG.out.ls l (List.mem_of_getElem? hll)
            have HACC : Hid (((lvs g (m : Int)).take (j + 1)).foldl (numStep g (m : Int) (numS g k)) 0 = numStep g (m : Int) (numS g k) (((lvs g (m : Int)).take j).foldl (numStep g (m : Int) (numS g k)) 0) (xn : Int)) := fold_snocN hxi
            have hLk := lkAt_nat hll
            have hfr : l.fr = (m : Int) := by rw [hLk] at hx2; exact hx2
            have hacc := numStep_bd (g := g) (v := (m : Int)) (numS_bd g k) ((lvs g (m : Int)).take j) 0 (by omega)
            generalize ((lvs g (m : Int)).take j).foldl (numStep g (m : Int) (numS g k)) 0 = acc at *
            obtain ⟨o1, o2, o3, o4, o5⟩ := hok
            have HLK := Lib.hid hLk
            have hlt2 : (m : Int) < l.to := by omega
            have hto3 : l.to < (N : Int) := by rw [← HN.out]; exact o3
            clear hll hxi hx2 hfr hLk o1 o2 o3 o4 o5
            have hRl := hRw.lt
            obtain ⟨tn, htn⟩ : ∃ tn : Nat, l.to = (tn : Int) := ⟨l.to.toNat, by omega⟩
            have htnN : tn < N := by have := HN.out; omega
            have hmt : m < tn := by omega
            have htoAt := potRow_tail (m := m) (acc := acc) (tail := numS g k) (j := tn) hmt (by rw [numS_len]; have := HMK.out; omega)
            have htb := getD_bdn (numS_bd g k) (tn - m - 1)
            have HT : Hid (numStep g (m : Int) (numS g k) acc (xn : Int) = min (acc + (numS g k).getD (tn - m - 1) 0) 1000000000) := by
              show _ = _
              unfold numStep
              rw [HLK.out, htn, show ((tn : Int) - (m : Int) - 1).toNat = tn - m - 1 by omega]
            generalize (numS g k).getD (tn - m - 1) 0 = tt at *
            have r1 := hRw.cell (potRow_at m acc (numS g k))
            have r2 := hRw.cell htoAt
            have rf := hRw.frozen m
            rw [htn] at d1
            have htn0 : (0 : Int) ≤ (tn : Int) := by omega
            have htnN' : (tn : Int) < (N : Int) := by omega
            have hws : IntKind.i64.wrap (acc + tt) = acc + tt := IntWalk.i64_in _ (by omega)
            clear htn htb htoAt d0 d2 d3
            go_upto_region 12 with fail
            refine ordT_below [18] [(0, false), (1, false), (2, false), (3, false), (4, false), (5, false), (6, false), (7, false), (8, false), (9, false), (10, false), (11, false), (12, false), (13, false), (14, false), (15, false), (16, false), (17, false), (18, true)] (by kernel_rfl) (by kernel_rfl) (by kernel_rfl) (fun _ _ _ _ _ h => h) ?_
            intro W0 hS0
            repeat (first
              | (refine ordT_skip rfl rfl (by assumption) ?_; simp only [Act.put, List.setIfInBounds_toArray, List.set_cons_zero, List.set_cons_succ])
              | (refine ordT_cskip rfl rfl (by assumption) ?_; simp only [Act.put, List.setIfInBounds_toArray, List.set_cons_zero, List.set_cons_succ])
              | (refine ordT_take (v := ?_) rfl rfl (by assumption) ?_ ?_
                 rotate_left 1
                 focus (intro W hW; obtain ⟨hcW, hfW⟩ := bcell hW; (go_simp <;> with_reducible rfl))
                 simp only [Act.put, List.setIfInBounds_toArray, List.set_cons_zero, List.set_cons_succ])
              | (refine ordT_call rfl rfl (fun K hK => ?_)
                 obtain ⟨hcS, hfS⟩ := bcell hS0
                 go_simp
                 first
                   | (refine hK.out _ _ (fun h => by cases h) ?_)))
            refine ordT_nil ?_
            have hRn := (hRw.below hS0 hRl).set_ m (min (acc + tt) 1000000000)
            rw [potRow_set, ← HT.out, ← HACC.out] at hRn
            have HRN := Lib.hid hRn
            have HBE := Lib.hid ((hbv.trans (hS0.mono (Nat.le_of_lt hRl))).setCell (p := ⟨gh, m, none⟩) (Nat.le_refl _) (.int .i64 (min (acc + tt) 1000000000)))
            rw [← HT.out, ← HACC.out] at HBE
            have hval : min (acc + tt) 1000000000 = ((lvs g (m : Int)).take (j + 1)).foldl (numStep g (m : Int) (numS g k)) 0 := by rw [HACC.out, HT.out]
            go_wp2_with fail
            go_roundw
            case rel => exact ⟨j + 1, by omega, by go_num, HRN.out, HBE.out⟩
            case measure => simp [intOf]; omega
          · obtain rfl : j = (lvs g (m : Int)).length := by omega
            rw [List.take_length] at hRw
            have HROW : Hid (Row wr gh (List.replicate (N - (k + 1)) 0 ++ numS g (k + 1))) := by
              show Row _ _ _
              rw [show N - (k + 1) = m by have := HMK.out; omega, HPS.out]
              exact hRw
            have HBV := Lib.hid hbv
            clear hRw hbv
            go_wp2_with fail
            go_roundw
            case rel => exact ⟨k + 1, by omega, by have := HMK.out; omega, vint (by have := HMK.out; omega), HROW.out, HBV.out⟩
            case measure => first | (simp [intOf]; done) | (simp [intOf]; omega)
      · obtain rfl : N = k := by omega
        obtain ⟨r, L, hL⟩ : ∃ r L, numS g N = r :: L := by
          cases h : numS g N with
          | nil => have := numS_len g N; rw [h] at this; simp at this; omega
          | cons r L => exact ⟨r, L, rfl⟩
        have HRR : Hid (r = R) := by show _ = _; rw [← HNR.out, hL]; rfl
        rw [Nat.sub_self, hL] at hR
        have p0 := hR.cell (k := 0) (x := r) rfl
        have hneg : (N : Int) - 1 - (N : Int) < 0 := by omega
        have hNp : (0 : Int) < (N : Int) := by omega
        have HBE := Lib.hid (hbw4.trans (hbr.mono (Nat.le_of_lt hbgh)))
        clear hR hbr hL
        go_wp2_with fail
        go_ret
        exact ⟨ret_int HRR.out, HBE.out⟩
end Go.Proofs.YtfjkmgjjifhdkaaGreat

/-
  Bounds of the reference's ways; rows beside rows that grow.
-/
namespace Go.Proofs.YtfjkmgjjifhdkaaGreat
open Go Go.RowKit

section
variable {P : Program} {ops : Array Oper} {Q : Exit → Act → World → Prop}
end
end Go.Proofs.YtfjkmgjjifhdkaaGreat

/-
  The walks of layers 15 and 16: the reference's ways.
-/
namespace Go.Proofs.YtfjkmgjjifhdkaaGreat
open Go Go.RowKit

end Go.Proofs.YtfjkmgjjifhdkaaGreat

/-
  The walks of layers 15 and 16: the reference's Before, Less.
-/
namespace Go.Proofs.YtfjkmgjjifhdkaaGreat
open Go Go.RowKit

end Go.Proofs.YtfjkmgjjifhdkaaGreat

/-
  The walks of layers 15 and 16: the reference's order.
-/
namespace Go.Proofs.YtfjkmgjjifhdkaaGreat
open Go Go.RowKit

section
variable {α : Type} {p : α → Bool}
end
end Go.Proofs.YtfjkmgjjifhdkaaGreat

/-
  The walks of layer 15: the reference's lists of candidates compared; its List.
-/
namespace Go.Proofs.YtfjkmgjjifhdkaaGreat
open Go Go.RowKit

end Go.Proofs.YtfjkmgjjifhdkaaGreat

/-
  The plain law of layer 15: the number that is counted is that of the ways.
-/
namespace Go.Proofs.YtfjkmgjjifhdkaaGreat
open List

theorem waysF_fuel {g : Gr} (hg : GrOK g) : ∀ (f f' : Nat) (v : Int), 0 ≤ v → v < g.n → g.n - v ≤ (f : Int) → g.n - v ≤ (f' : Int) → waysF g f v = waysF g f' v := by
  intro f
  induction f with
  | zero => intro f' v h0 h1 h2; omega
  | succ f ih =>
    intro f' v h0 h1 h2 h3
    obtain ⟨f', rfl⟩ : ∃ k, f' = k + 1 := ⟨f' - 1, by omega⟩
    unfold waysF
    by_cases hv : v = g.n - 1
    · rw [if_pos hv, if_pos hv]
    · rw [if_neg hv, if_neg hv]
      have key : ∀ (L : List Int), (∀ i ∈ L, i ∈ lvs g v) → L.flatMap (fun i => (waysF g f (lkAt g i).to).map (fun r => (⟨i :: r.links, r.cost + (lkAt g i).cost⟩ : Can))) = L.flatMap (fun i => (waysF g f' (lkAt g i).to).map (fun r => (⟨i :: r.links, r.cost + (lkAt g i).cost⟩ : Can))) := by
        intro L
        induction L with
        | nil => intro _; rfl
        | cons i L ihL =>
          intro hL
          have hi := lvs_iff.1 (hL i (by simp))
          have hok := lkAt_ok hg ⟨hi.1, hi.2.1⟩
          have hto := hok.to
          have hlt := hok.lt
          rw [flatMap_cons, flatMap_cons, ih f' (lkAt g i).to (by omega) (by omega) (by omega) (by omega), ihL fun j hj => hL j (by simp [hj])]
      exact key _ fun _ h => h
def nW (g : Gr) (v : Int) : Nat := (waysF g g.n.toNat v).length
theorem nW_last {g : Gr} (hg : GrOK g) : nW g (g.n - 1) = 1 := by
  unfold nW
  obtain ⟨f, hf⟩ : ∃ f, g.n.toNat = f + 1 := ⟨g.n.toNat - 1, by have := hg.n; omega⟩
  rw [hf]
  unfold waysF
  rw [if_pos rfl]
  rfl
theorem nW_step {g : Gr} (hg : GrOK g) {v : Int} (h0 : 0 ≤ v) (h1 : v < g.n - 1) : nW g v = ((lvs g v).map (fun i => nW g (lkAt g i).to)).sum := by
  unfold nW
  obtain ⟨f, hf⟩ : ∃ f, g.n.toNat = f + 1 := ⟨g.n.toNat - 1, by have := hg.n; omega⟩
  conv => lhs; rw [hf]
  conv => lhs; unfold waysF
  rw [if_neg (by omega), length_flatMap]
  congr 1
  apply map_congr_left
  intro i hi
  have hi' := lvs_iff.1 hi
  have hok := lkAt_ok hg ⟨hi'.1, hi'.2.1⟩
  have hto := hok.to
  have hlt := hok.lt
  show (map _ (waysF g f (lkAt g i).to)).length = _
  rw [length_map, waysF_fuel hg f g.n.toNat (lkAt g i).to (by omega) (by omega) (by omega) (by omega)]
def capN (n : Nat) : Int := min (n : Int) 1000000000
theorem numS_at {g : Gr} (hg : GrOK g) : ∀ k : Nat, 1 ≤ k → (k : Int) ≤ g.n → ∀ j : Nat, j < k → (numS g k)[j]? = some (capN (nW g (g.n - k + j))) := by
  intro k
  induction k with
  | zero => intro h; omega
  | succ k ih =>
    intro _ hk j hj
    rcases Nat.eq_zero_or_pos k with rfl | hk1
    · obtain rfl : j = 0 := by omega
      show some (1 : Int) = _
      have e : g.n - ((0 + 1 : Nat) : Int) + ((0 : Nat) : Int) = g.n - 1 := by omega
      rw [e, nW_last hg]
      rfl
    · rw [numS_succ g hk1]
      rcases Nat.eq_zero_or_pos j with rfl | hj0
      · rw [getElem?_cons_zero]
        congr 1
        have e : g.n - ((k + 1 : Nat) : Int) + ((0 : Nat) : Int) = g.n - (k + 1) := by omega
        rw [e, nW_step hg (by omega) (by omega)]
        have key : ∀ (L : List Int) (a : Nat), (∀ i ∈ L, i ∈ lvs g (g.n - (k + 1))) → L.foldl (numStep g (g.n - (k + 1)) (numS g k)) (capN a) = capN (a + (L.map (fun i => nW g (lkAt g i).to)).sum) := by
          intro L
          induction L with
          | nil => intro a _; simp
          | cons i L ihL =>
            intro a hL
            have hi := lvs_iff.1 (hL i (by simp))
            have hok := lkAt_ok hg ⟨hi.1, hi.2.1⟩
            have hto := hok.to
            have hlt := hok.lt
            rw [foldl_cons, map_cons, sum_cons]
            have hget := ih hk1 (by omega) ((lkAt g i).to - (g.n - (k + 1)) - 1).toNat (by omega)
            have e2 : g.n - (k : Int) + (((lkAt g i).to - (g.n - (k + 1)) - 1).toNat : Int) = (lkAt g i).to := by omega
            rw [e2] at hget
            have e3 : numStep g (g.n - (k + 1)) (numS g k) (capN a) i = capN (a + nW g (lkAt g i).to) := by
              unfold numStep
              rw [getD_eq_getElem?_getD, hget]
              show min (capN a + capN (nW g (lkAt g i).to)) 1000000000 = _
              unfold capN
              omega
            rw [e3, ihL _ fun j hj => hL j (by simp [hj]), Nat.add_assoc]
        have h := key (lvs g (g.n - (k + 1))) 0 (fun _ h => h)
        rw [Nat.zero_add] at h
        exact h
      · obtain ⟨j, rfl⟩ : ∃ i, j = i + 1 := ⟨j - 1, by omega⟩
        rw [getElem?_cons_succ, ih hk1 (by omega) j (by omega)]
        congr 2
        congr 1
        omega
theorem numM_eq {g : Gr} (hg : GrOK g) : numM g = capN (nW g 0) := by
  have hn := hg.n
  have h := numS_at hg g.n.toNat (by omega) (by omega) 0 (by omega)
  have e : g.n - (g.n.toNat : Int) + ((0 : Nat) : Int) = 0 := by omega
  rw [e] at h
  unfold numM
  cases hs : numS g g.n.toNat with
  | nil => rw [hs] at h; simp at h
  | cons x L => rw [hs] at h; simpa using h
end Go.Proofs.YtfjkmgjjifhdkaaGreat

/-
  The walks of layer 16: the links that leave each node.
-/
namespace Go.Proofs.YtfjkmgjjifhdkaaGreat
open Go Go.RowKit

theorem int_inf : (Tryz.prog.info? 3).map (fun i => (i.zero, i.size, i.bytes)) = some (some (.int .i64 0), 1, 8) := by kernel_rfl
theorem ints_info : (Tryz.prog.info? 40).map (fun i => (i.zero, i.size, i.bytes)) = some (some (.slice none 0 0), 1, 24) := by kernel_rfl
set_option maxRecDepth 100000 in
set_option maxHeartbeats 8000000 in
theorem leaving_any (A : Option Addr) (c : Nat) (g : Gr) (N : Nat) (w : World) (hx : SlR 4 RLk w A g.ls) (hl : g.ls.length ≤ maxLen) (hg : GrOK g) (hN : g.n = (N : Int)) :
    Calls Tryz.prog 87 #[.agg #[.int .i64 (N : Int), .slice A g.ls.length c]] w fun e w' => ∃ gf, e = .returned (.slice (some ⟨gf, 0, none⟩) N N) ∧ SlR 1 RSl w' (some ⟨gf, 0, none⟩) (leavL g N) ∧ Below w.heap.size w w' := by
  have hl0 := hl
  unfold maxLen at hl
  obtain ⟨i0, hi, hz0, hz1, hz2⟩ := info_parts int_inf
  obtain ⟨i1, hi1, hy0, hy1, hy2⟩ := info_parts ints_info
  have hgl := hg.len
  have HG := Lib.hid hg
  have HN := Lib.hid hN
  have hn2 : 1 ≤ N ∧ N ≤ 2000 := by have := hg.n; omega
  obtain ⟨hn1, hn2⟩ := hn2
  clear hg hN
  obtain ⟨w1, hw1⟩ : ∃ w1, w.alloc (.cells #[.int .i64 (N : Int), .slice A g.ls.length c] 38) = w1 := ⟨_, rfl⟩
  have hb1 : Below w.heap.size w w1 := by rw [← hw1]; exact nw _ (Below.refl _ _)
  have hB1 : Blk w1 w.heap.size 38 #[.int .i64 (N : Int), .slice A g.ls.length c] := by rw [← hw1]; exact Blk.new _ _ _
  have HW1 := Lib.hid hw1
  have c0 := hB1.cell 0
  have c1 := hB1.cell 1
  have lb := hB1.lt
  simp at c0 c1
  clear hw1
  go_enter Tryz.func87, Tryz.ntmps87
  go_upto_region 1 with fail
  rw [HW1.out]
  go_upto_region 2 with (at_make; go_loud (refine wpList_mk _ rfl _ _ 40 rfl 3 i0 (.int .i64 0) (.int .i64 0) Tryz.underlying40 hi hz0 hz1 (by omega) rfl N rfl rfl (by omega) ?_))
  obtain ⟨W2, hW2⟩ : ∃ W, w1.alloc (.cells (Array.replicate N (Value.int .i64 0)) 3) = W := ⟨_, rfl⟩
  have hb2 : Below w1.heap.size w1 W2 := by rw [← hW2]; exact nw _ (Below.refl _ _)
  have hR2 : Row W2 w1.heap.size (List.replicate N 0) := by rw [← hW2, ← List.toArray_replicate]; exact Row.zeros _ _
  rw [hW2]
  clear hW2
  obtain ⟨ge, hge⟩ : ∃ b, w1.heap.size = b := ⟨_, rfl⟩
  rw [hge] at hR2 lb ⊢
  have hB2 := hB1.below hb2 (by rw [hge]; exact lb)
  have hbw2 := bthen hb1 hb2
  rw [← endsA_zero g N] at hR2
  clear hb2 hB1 c0 c1 hge
  have j0 := hB2.cell 0
  have j1 := hB2.cell 1
  have jl := hB2.lt
  simp at j0 j1
  go_wp2_with fail
  go_loopw [22] (fun i wr => ∃ j : Nat, j ≤ g.ls.length ∧ i = .int .i64 j ∧ Row wr ge (endsA g N j) ∧ Below ge W2 wr) (fun i _ => g.ls.length - (intOf i).toNat)
  case atStart => exact ⟨0, by omega, rfl, hR2, Below.refl _ _⟩
  case round =>
    obtain ⟨j, hj, rfl, hR, hbv⟩ := hrel
    have hBv := hB2.below hbv lb
    have b0 := hBv.cell 0
    have b1 := hBv.cell 1
    have bl := hBv.lt
    simp at b0 b1
    have hRl := hR.lt
    have hbwv : Below w.heap.size w wr := hbw2.trans (hbv.mono (by omega))
    by_cases hltj : j < g.ls.length
    · have hb0 := hbwv
      obtain ⟨b, off, l, rfl, hbb, hll, d0, d1, d2, d3⟩ := (hx.below keeps_lk hbwv).lk hltj
      have hok := HG.out.ls l (List.mem_of_getElem? hll)
      obtain ⟨o1, o2, o3, o4, o5⟩ := hok
      obtain ⟨f, hf⟩ : ∃ f : Nat, l.fr = (f : Int) := ⟨l.fr.toNat, by omega⟩
      have hfN : f < N := by have := HN.out; omega
      have hf0 : (0 : Int) ≤ (f : Int) := by omega
      have hfN' : (f : Int) < (N : Int) := by omega
      have HF := Lib.hid hf
      have HLL := Lib.hid hll
      have hcl := cntN_le g f (k := j) hj
      have hll2 : (lvs g (f : Int)).length ≤ 20000 := by have := stN_le g (f + 1); rw [stN_succ] at this; omega
      have HR1 := Lib.hid ((hR.alloc (.cells #[.int .i64 l.fr, .int .i64 l.to, .int .i64 l.lb, .int .i64 l.cost] 105)))
      have HBV := Lib.hid (hbv.trans ((nw (.cells #[.int .i64 l.fr, .int .i64 l.to, .int .i64 l.lb, .int .i64 l.cost] 105) (Below.refl wr.heap.size wr)).mono (Nat.le_of_lt hRl)))
      have hat := endsA_at g (k := j) hfN
      have HST := Lib.hid (endsA_step hll hf hfN)
      clear hll hR hf
      go_upto_region 5 with fail
      obtain ⟨W3, hW3⟩ : ∃ W, wr.alloc (.cells #[.int .i64 l.fr, .int .i64 l.to, .int .i64 l.lb, .int .i64 l.cost] 105) = W := ⟨_, rfl⟩
      have hLb : Blk W3 wr.heap.size 105 #[.int .i64 l.fr, .int .i64 l.to, .int .i64 l.lb, .int .i64 l.cost] := by rw [← hW3]; exact Blk.new _ _ _
      rw [hW3] at HR1 HBV ⊢
      obtain ⟨t8, ht8⟩ : ∃ b, wr.heap.size = b := ⟨_, rfl⟩
      rw [ht8] at hLb ⊢
      have hRl2 := HR1.out.lt
      have u0 := hLb.cell 0
      simp at u0
      rw [HF.out] at u0
      have hLl := hLb.lt
      have r0 := HR1.out.cell hat
      have rf := HR1.out.frozen f
      have hws : IntKind.i64.wrap ((cntN g f j : Int) + 1) = (cntN g f j : Int) + 1 := IntWalk.i64_in _ (by omega)
      clear hW3 ht8 hat d0 d1 d2 d3 b0 b1 bl hBv
      generalize cntN g f j = cn at *
      go_wp2_with fail
      go_roundw
      case rel => exact ⟨j + 1, by omega, by go_num, (by rw [HST.out]; exact HR1.out.set_ f _), HBV.out.setCell (Nat.le_refl _) _⟩
      case measure => simp [intOf]; omega
    · obtain rfl : j = g.ls.length := by omega
      rw [endsA_all] at hR
      have HBV := Lib.hid hbv
      clear hbv hBv
      go_wp2_with fail
      obtain ⟨W3, hW3⟩ : ∃ W, W = wr := ⟨_, rfl⟩
      rw [← hW3] at hR HBV hbwv hRl bl b0 b1 ⊢
      clear hW3
      have hbg := HBV.out
      go_loopw [6, 36] (fun sm i wr => ∃ k : Nat, k ≤ N ∧ i = .int .i64 k ∧ sm = .int .i64 (stN g k : Nat) ∧ Row wr ge (endsB g N k) ∧ Below ge W3 wr) (fun _ i _ => N - (intOf i).toNat)
      case atStart => exact ⟨0, by omega, rfl, rfl, hR, Below.refl _ _⟩
      case round =>
        obtain ⟨k, hk, rfl, rfl, hRr, hbr⟩ := hrel
        have hRrl := hRr.lt
        by_cases hltk : k < N
        · have hat := hRr.cell (endsB_at g hltk)
          have haf := hRr.frozen k
          have HST := Lib.hid (endsB_step g hltk)
          have HSS := Lib.hid (stN_succ g k)
          have hs1 := stN_le g (k + 1)
          rw [stN_succ] at hs1
          have hkN : (k : Int) < (N : Int) := by omega
          have hws : IntKind.i64.wrap ((stN g k : Int) + ((lvs g (k : Int)).length : Int)) = (stN g k : Int) + ((lvs g (k : Int)).length : Int) := IntWalk.i64_in _ (by omega)
          have HRr := Lib.hid hRr
          have HBr := Lib.hid hbr
          clear hRr hbr
          generalize (lvs g (k : Int)).length = ll at *
          generalize stN g k = sk at *
          go_wp2_with fail
          go_roundw
          case rel => exact ⟨k + 1, by omega, by go_num, (by rw [HSS.out]; go_num), (by rw [HST.out]; exact HRr.out.set_ k _), HBr.out.setCell (Nat.le_refl _) _⟩
          case measure => simp [intOf]; omega
        · obtain rfl : N = k := by omega
          rw [endsB_all] at hRr
          have hbW : Below ge W2 wr := HBV.out.trans hbr
          have hbw3 : Below w.heap.size w wr := hbwv.trans (hbr.mono (by omega))
          have hB3 := hB2.below hbW lb
          have v0 := hB3.cell 0
          have v1 := hB3.cell 1
          have vl := hB3.lt
          simp at v0 v1
          have HBW := Lib.hid hbW
          clear hbr b0 b1 bl hB3 hbW
          go_upto_region 14 with fail
          go_upto_region 15 with (at_make; go_loud (refine wpList_mk _ rfl _ _ 40 rfl 3 i0 (.int .i64 0) (.int .i64 0) Tryz.underlying40 hi hz0 hz1 (by omega) rfl g.ls.length rfl rfl (by omega) ?_))
          obtain ⟨W4, hW4⟩ : ∃ W, wr.alloc (.cells (Array.replicate g.ls.length (Value.int .i64 0)) 3) = W := ⟨_, rfl⟩
          have hb4 : Below wr.heap.size wr W4 := by rw [← hW4]; exact nw _ (Below.refl _ _)
          have hR4 : Row W4 wr.heap.size (List.replicate g.ls.length 0) := by rw [← hW4, ← List.toArray_replicate]; exact Row.zeros _ _
          rw [hW4]
          clear hW4
          obtain ⟨ga, hga⟩ : ∃ b, wr.heap.size = b := ⟨_, rfl⟩
          have hC4 := hRr.below hb4 hRrl
          have hb4' : Below w.heap.size w W4 := bthen hbw3 hb4
          have hBg4 : Below ge W2 W4 := HBW.out.trans (hb4.mono (Nat.le_of_lt hRrl))
          rw [hga] at hR4 hRrl hb4 ⊢
          have HB4 := Lib.hid hBg4
          have hB4 := hB2.below hBg4 lb
          have v0 := hB4.cell 0
          have v1 := hB4.cell 1
          have vl := hB4.lt
          simp at v0 v1
          have hneg : ge ≠ ga := by omega
          clear hb4 hga hRr hbw3 hBg4
          go_wp2_with fail
          go_loopw [56] (fun i wr => ∃ j : Nat, j ≤ g.ls.length ∧ i = .int .i64 j ∧ Row wr ge (endsC g N j) ∧ (∃ al, Row wr ga al ∧ AllTo g j al) ∧ Below ge W4 wr) (fun i _ => g.ls.length - (intOf i).toNat)
          case atStart => exact ⟨0, by omega, rfl, hC4, ⟨_, hR4, AllTo.zero g⟩, Below.refl _ _⟩
          case round =>
            obtain ⟨j, hj, rfl, hR, ⟨al, hA, HAL⟩, hbv⟩ := hrel
            have HAL := Lib.hid HAL
            have hBv := hB4.below hbv lb
            have b0 := hBv.cell 0
            have b1 := hBv.cell 1
            have bl := hBv.lt
            simp at b0 b1
            have hRl := hR.lt
            have hAl := hA.lt
            have hbwv : Below w.heap.size w wr := hb4'.trans (hbv.mono (by omega))
            by_cases hltj : j < g.ls.length
            · have hb0 := hbwv
              obtain ⟨b, off, l, rfl, hbb, hll, d0, d1, d2, d3⟩ := (hx.below keeps_lk hbwv).lk hltj
              have hok := HG.out.ls l (List.mem_of_getElem? hll)
              obtain ⟨o1, o2, o3, o4, o5⟩ := hok
              obtain ⟨f, hf⟩ : ∃ f : Nat, l.fr = (f : Int) := ⟨l.fr.toNat, by omega⟩
              have hfN : f < N := by have := HN.out; omega
              have hf0 : (0 : Int) ≤ (f : Int) := by omega
              have hfN' : (f : Int) < (N : Int) := by omega
              have HF := Lib.hid hf
              have HLL := Lib.hid hll
              have hcl := cntN_le g f (k := j) hj
              have hsl : stN g f + (lvs g (f : Int)).length ≤ 20000 := by have := stN_le g (f + 1); rw [stN_succ] at this; omega
              have HR1 := Lib.hid ((hR.alloc (.cells #[.int .i64 l.fr, .int .i64 l.to, .int .i64 l.lb, .int .i64 l.cost] 105)))
              have HA1 := Lib.hid ((hA.alloc (.cells #[.int .i64 l.fr, .int .i64 l.to, .int .i64 l.lb, .int .i64 l.cost] 105)))
              have HBV := Lib.hid (hbv.trans ((nw (.cells #[.int .i64 l.fr, .int .i64 l.to, .int .i64 l.lb, .int .i64 l.cost] 105) (Below.refl wr.heap.size wr)).mono (Nat.le_of_lt hRl)))
              have hat := endsC_at g (k := j) hfN
              have HST := Lib.hid (endsC_step hll hf hfN)
              have HAS := Lib.hid (HAL.out.step hll hf)
              have halt := HAL.out.lt hll hf
              have hall := HAL.out.1
              obtain ⟨xa, hxa⟩ : ∃ xa, al[stN g f + cntN g f j]? = some xa := ⟨_, List.getElem?_eq_getElem halt⟩
              clear hll hR hA hf HAL
              go_upto_region 18 with fail
              obtain ⟨W5, hW5⟩ : ∃ W, wr.alloc (.cells #[.int .i64 l.fr, .int .i64 l.to, .int .i64 l.lb, .int .i64 l.cost] 105) = W := ⟨_, rfl⟩
              have hLb : Blk W5 wr.heap.size 105 #[.int .i64 l.fr, .int .i64 l.to, .int .i64 l.lb, .int .i64 l.cost] := by rw [← hW5]; exact Blk.new _ _ _
              rw [hW5] at HR1 HA1 HBV ⊢
              obtain ⟨t8, ht8⟩ : ∃ b, wr.heap.size = b := ⟨_, rfl⟩
              rw [ht8] at hLb hAl hRl ⊢
              have hRl2 := HR1.out.lt
              have hAl2 := HA1.out.lt
              have u0 := hLb.cell 0
              simp at u0
              rw [HF.out] at u0
              have hLl := hLb.lt
              have r0 := HR1.out.cell hat
              have rf := HR1.out.frozen f
              have a0 := HA1.out.cell hxa
              have af := HA1.out.frozen (stN g f + cntN g f j)
              clear hW5 ht8 hat d0 d1 d2 d3 b0 b1 bl hBv hxa
              obtain ⟨sc, hsc⟩ : ∃ sc, stN g f + cntN g f j = sc := ⟨_, rfl⟩
              have HSC := Lib.hid hsc
              rw [hsc] at r0 a0 af halt
              have hsc2 : sc ≤ 20000 := by omega
              have hsal : (sc : Int) < (g.ls.length : Int) := by omega
              have hws : IntKind.i64.wrap ((sc : Int) + 1) = (sc : Int) + 1 := IntWalk.i64_in _ (by omega)
              clear hsc
              have hne1 : ge ≠ t8 := by omega
              have hne2 : ga ≠ t8 := by omega
              go_upto_region 19 with fail
              obtain ⟨W6, hW6⟩ : ∃ W, W5.setCell ⟨ga, sc, none⟩ (.int .i64 (j : Int)) = W := ⟨_, rfl⟩
              have HA2 := Lib.hid (HA1.out.set_ sc (j : Int))
              have HR2 := Lib.hid (HR1.out.far (p := ⟨ga, sc, none⟩) hneg (.int .i64 (j : Int)))
              have hL2 := hLb.far (p := ⟨ga, sc, none⟩) (fun e => hne2 e.symm) (.int .i64 (j : Int))
              have HB6 := Lib.hid (HBV.out.setCell (p := ⟨ga, sc, none⟩) (by show ge ≤ ga; omega) (.int .i64 (j : Int)))
              rw [hW6] at HA2 HR2 hL2 HB6 ⊢
              clear hW6 u0 r0 rf a0 af HA1 HR1 hLb HBV hRl2 hAl2
              have u0 := hL2.cell 0
              simp at u0
              rw [HF.out] at u0
              have r0 := HR2.out.cell (endsC_at g (k := j) hfN)
              have rf := HR2.out.frozen f
              have hRl3 := HR2.out.lt
              clear hcl hsl hall halt hsal
              have hE := endsC_at g (k := j) hfN
              have hstn : Hid (stN g f + cntN g f j = sc) := HSC
              rw [HSC.out] at r0
              go_wp2_with fail
              go_roundw
              case rel =>
                refine ⟨j + 1, by omega, by go_num, ?_, ⟨_, HA2.out.far (p := ⟨ge, f, none⟩) (fun e => hneg e.symm) _, HSC.out ▸ HAS.out⟩, HB6.out.setCell (Nat.le_refl _) _⟩
                rw [HST.out, HSC.out]
                exact HR2.out.set_ f _
              case measure => simp [intOf]; omega
            · obtain rfl : j = g.ls.length := by omega
              have HBv := Lib.hid hbv
              have HBW := Lib.hid (HB4.out.trans hbv)
              clear hbv
              go_upto_region 21 with fail
              go_upto_region 22 with (at_make; go_loud (refine wpList_mk _ rfl _ _ 91 rfl 40 i1 (.slice none 0 0) (.slice none 0 0) Tryz.underlying91 hi1 hy0 hy1 (by omega) rfl N rfl rfl (by omega) ?_))
              obtain ⟨W5, hW5⟩ : ∃ W, wr.alloc (.cells (Array.replicate N (Value.slice none 0 0)) 40) = W := ⟨_, rfl⟩
              have hb5 : Below wr.heap.size wr W5 := by rw [← hW5]; exact nw _ (Below.refl _ _)
              have hF5 : Blk W5 wr.heap.size 40 (fromC ga g N 0).toArray := by rw [← hW5, fromC_zero, List.toArray_replicate]; exact Blk.new _ _ _
              rw [hW5]
              clear hW5
              obtain ⟨gf, hgf⟩ : ∃ b, wr.heap.size = b := ⟨_, rfl⟩
              have hC5 := hR.below hb5 hRl
              have hA5 := hA.below hb5 hAl
              have hb5' : Below w.heap.size w W5 := bthen hbwv hb5
              rw [hgf] at hF5 hRl hAl hb5 ⊢
              have HAL := HAL
              have hall := HAL.out.1
              clear hgf hR hA hBv b0 b1 bl hb5
              go_wp2_with fail
              go_loopw [13, 82] (fun st i wr => ∃ k : Nat, k ≤ N ∧ i = .int .i64 k ∧ st = .int .i64 (stN g k : Nat) ∧ Blk wr gf 40 (fromC ga g N k).toArray ∧ Below gf W5 wr) (fun _ i _ => N - (intOf i).toNat)
              case atStart => exact ⟨0, by omega, rfl, rfl, hF5, Below.refl _ _⟩
              case round =>
                obtain ⟨k, hk, rfl, rfl, hF, hbr⟩ := hrel
                have hFl := hF.lt
                by_cases hltk : k < N
                · have hRr := hC5.below hbr hRl
                  have hat := hRr.cell (endsC_end g hltk)
                  have hF0 : wr.cell? ⟨gf, k, none⟩ = some (.slice none 0 0) := by rw [hF.cell]; unfold fromC; simp [hltk]
                  have hFf := hF.frozen k
                  have HST := Lib.hid (fromC_step ga g hltk)
                  have hs1 := stN_le g (k + 1)
                  have HSS := Lib.hid (stN_succ g k)
                  have hs2 : stN g k ≤ stN g (k + 1) := stN_mono g (by omega)
                  have hkN : (k : Int) < (N : Int) := by omega
                  have HF := Lib.hid hF
                  have HBr := Lib.hid hbr
                  have HSV : Hid (slV ga g k = .slice (if stN g (k + 1) = stN g k then some ⟨ga, 0, none⟩ else some ⟨ga, stN g k, none⟩) (stN g (k + 1) - stN g k) (stN g (k + 1) - stN g k)) := rfl
                  have HS1 : Hid (∃ x, stN g (k + 1) = x) := ⟨_, rfl⟩
                  clear hF hbr hRr
                  have HRV : Hid (stN g (k + 1) = stN g (k + 1)) := rfl
                  obtain ⟨s1, hs1e⟩ : ∃ s, stN g (k + 1) = s := ⟨_, rfl⟩
                  have HS1 := Lib.hid hs1e
                  rw [hs1e] at hat hs1 hs2 HSV
                  clear hs1e HRV HSS
                  generalize stN g k = s0 at *
                  go_wp2_with fail
                  go_roundw
                  case rel => exact ⟨k + 1, by omega, by go_num, by rw [HS1.out], (by rw [HST.out, HSV.out]; simpa using HF.out.set_ k _), HBr.out.setCell (Nat.le_refl _) _⟩
                  case measure => simp [intOf]; omega
                · obtain rfl : N = k := by omega
                  have HS : Hid (SlR 1 RSl wr (some ⟨gf, 0, none⟩) (leavL g N)) := from_slr hF HAL.out (hA5.below hbr hAl) hl0
                  have HE := Lib.hid (hb5'.trans (hbr.mono (by omega)))
                  clear hF hbr
                  go_wp2_with fail
                  go_ret
                  exact ⟨gf, rfl, HS.out, HE.out⟩
end Go.Proofs.YtfjkmgjjifhdkaaGreat
