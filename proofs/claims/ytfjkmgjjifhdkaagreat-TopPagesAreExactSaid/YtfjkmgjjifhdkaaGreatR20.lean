/-
  BsWalkK, GrWaysB, GrWalkP, GrWalkO, GrWalkQ, BsWalkJ, BsNumLaw, joined. No conditions.
-/
import Derived.Test.YtfjkmgjjifhdkaaGreatR14
import Derived.Test.YtfjkmgjjifhdkaaGreatR19
import Derived.Test.YtfjkmgjjifhdkaaGreatR02
import Derived.Test.YtfjkmgjjifhdkaaGreatR04
import Derived.Test.YtfjkmgjjifhdkaaGreatR08
import Derived.Test.YtfjkmgjjifhdkaaGreatR11
import Derived.Test.YtfjkmgjjifhdkaaGreatR05
import Derived.Deep.DeepCutAuto
import Derived.Deep.CutBlock
/-
  The walks of layer 15: the number of ways.
-/
namespace Go.Proofs.YtfjkmgjjifhdkaaGreat
open Go Go.RowKit

theorem fold_snocN {f : Int → Int → Int} {L : List Int} {j : Nat} {i a : Int} (h : L[j]? = some i) : (L.take (j + 1)).foldl f a = f ((L.take j).foldl f a) i := by
  rw [take_succ_of h, List.foldl_append]
  rfl
set_option maxRecDepth 100000 in
set_option maxHeartbeats 8000000 in
theorem number_any (A : Option Addr) (c : Nat) (g : Gr) (w : World) (hx : SlR 4 RLk w A g.ls) (hl : g.ls.length ≤ maxLen) :
    Calls Tryz.prog 20 #[.agg #[.int .i64 g.n, .slice A g.ls.length c]] w fun e w' => e = .returned (.int .i64 (numOf g)) ∧ Below w.heap.size w w' := by
  have hl0 := hl
  unfold maxLen at hl
  obtain ⟨i0, hi, hz0, hz1, hz2⟩ := info_parts bint_inf
  obtain ⟨w1, hw1⟩ : ∃ w1, w.alloc (.cells #[.int .i64 g.n, .slice A g.ls.length c] 38) = w1 := ⟨_, rfl⟩
  have hb1 : Below w.heap.size w w1 := by rw [← hw1]; exact nw _ (Below.refl _ _)
  have hB1 : Blk w1 w.heap.size 38 #[.int .i64 g.n, .slice A g.ls.length c] := by rw [← hw1]; exact Blk.new _ _ _
  have HW1 := Lib.hid hw1
  have c0 := hB1.cell 0
  have c1 := hB1.cell 1
  have lb := hB1.lt
  simp at c0 c1
  have HV : Hid (∀ W, Below w.heap.size w W → Calls Tryz.prog 33 #[.agg #[.int .i64 g.n, .slice A g.ls.length c]] W fun e w' => e = .returned (.bool (grB g)) ∧ Below W.heap.size W w') := fun W hW => valid_any A c g W (hx.below keeps_lk hW) hl0
  clear hw1
  cases hgr : grB g with
  | false =>
    have HP : Hid (numOf g = 0) := by show _ = _; unfold numOf; rw [hgr]; rfl
    rw [hgr] at HV
    rw [HP.out]
    clear hgr
    go_enter Tryz.func20, Tryz.ntmps20
    go_wp2_with (go_at_call 33; go_loud (rw [HW1.out]; refine (HV.out _ hb1).mono ?_; rintro e w2 ⟨rfl, hb2⟩))
    go_ret
    exact ⟨rfl, bthen hb1 hb2⟩
  | true =>
    have hg := grB_iff.1 hgr
    have HP : numOf g = numM g := by unfold numOf; rw [hgr]; rfl
    rw [hgr] at HV
    rw [HP]
    obtain ⟨hn1, hn2⟩ := hg.n
    obtain ⟨N, hN⟩ : ∃ N : Nat, g.n = (N : Int) := ⟨g.n.toNat, by omega⟩
    have HG := Lib.hid hg
    have HN := Lib.hid hN
    have HLV : Hid (∀ W, Below w.heap.size w W → Calls Tryz.prog 59 #[.agg #[.int .i64 (N : Int), .slice A g.ls.length c]] W fun e w' => ∃ gf, e = .returned (.slice (some ⟨gf, 0, none⟩) N N) ∧ W.heap.size ≤ gf ∧ gf < w'.heap.size ∧
      Hid (∀ W', NewEq W.heap.size w' W' → SlR 1 RSl W' (some ⟨gf, 0, none⟩) (leavL g N)) ∧ Below W.heap.size W w') := fun W hW => bleav_any A c g N W (hx.below keeps_lk hW) hl0 hg hN
    have HNM : Hid (numM g = (numS g N).headD 0) := by show _ = _; unfold numM; rw [hN, Int.toNat_natCast]
    obtain ⟨R, hR⟩ : ∃ R, numM g = R := ⟨_, rfl⟩
    rw [hR]
    have HNR : Hid ((numS g N).headD 0 = R) := HNM.out.symm.trans hR
    rw [hN] at HV c0 hB1 hn1 hn2 HW1 ⊢
    clear hgr hg hN HP hR HNM
    go_enter Tryz.func20, Tryz.ntmps20
    go_upto_region 3 with (go_at_call 33; go_loud (rw [HW1.out]; refine (HV.out _ hb1).mono ?_; rintro e w2 ⟨rfl, hb2⟩))
    have hB2 := hB1.below hb2 lb
    have hbw2 := bthen hb1 hb2
    have k0 := hB2.cell 0
    have k1 := hB2.cell 1
    have kl := hB2.lt
    simp at k0 k1
    clear hb2 c0 c1 hB1
    go_upto_region 4 with (go_at_call 59; go_loud (refine (HLV.out _ hbw2).mono ?_; rintro e w3 ⟨gf, rfl, hgf, hfrl, HAL, hb3⟩))
    have hfr := HAL.out w3 ⟨Nat.le_refl _, fun _ _ _ => rfl⟩
    have hB3 := hB2.below hb3 kl
    have k0 := hB3.cell 0
    have k1 := hB3.cell 1
    have kl := hB3.lt
    simp at k0 k1
    have hbw3 := bthen hbw2 hb3
    clear hb3 hB2
    go_upto_region 5 with (at_make; go_loud (refine wpList_mk _ rfl _ _ 40 rfl 3 i0 (.int .i64 0) (.int .i64 0) Tryz.underlying40 hi hz0 hz1 (by omega) rfl N rfl rfl (by omega) ?_))
    obtain ⟨W3, hW3⟩ : ∃ W, w3.alloc (.cells (Array.replicate N (Value.int .i64 0)) 3) = W := ⟨_, rfl⟩
    have hb3 : Below w3.heap.size w3 W3 := by rw [← hW3]; exact nw _ (Below.refl _ _)
    have hR3 : Row W3 w3.heap.size (List.replicate N 0) := by rw [← hW3, ← List.toArray_replicate]; exact Row.zeros _ _
    rw [hW3]
    clear hW3
    obtain ⟨gh, hgh⟩ : ∃ b, w3.heap.size = b := ⟨_, rfl⟩
    have HFR : Hid (∀ W, Below gh W3 W → SlR 1 RSl W (some ⟨gf, 0, none⟩) (leavL g N)) := fun W hW => hfr.below keeps_sl (hb3.trans (by rw [hgh]; exact hW))
    rw [hgh] at hR3 hfrl ⊢
    have hbgh : w.heap.size < gh := by have := hbw3.size; omega
    have hghl := hR3.lt
    have hB4 := hB3.below hb3 kl
    have hbw4 := bthen hbw3 hb3
    clear hb3 k0 k1 kl hB3 hgh hfr hbw2 hbw3 HAL hgf
    have j0 := hB4.cell 0
    have j1 := hB4.cell 1
    have jl := hB4.lt
    simp at j0 j1
    obtain ⟨M, hM⟩ : ∃ M, N = M + 1 := ⟨N - 1, by omega⟩
    have hR3b : Row W3 gh (potRow M 0 []) := by rw [← potRow_start, List.append_nil, ← hM]; exact hR3
    have q0 := hR3b.cell (potRow_at M 0 [])
    have qf := hR3b.frozen M
    have hNM : (N : Int) - 1 = (M : Int) := by omega
    have HNMI := Lib.hid hNM
    have hMN : (M : Int) < (N : Int) := by omega
    have hM0 : (0 : Int) ≤ (M : Int) := by omega
    have hR4 := hR3b.set_ M 1
    rw [potRow_set] at hR4
    have HR4 : Hid (Row (W3.setCell ⟨gh, M, none⟩ (.int .i64 1)) gh (List.replicate (N - 1) 0 ++ numS g 1)) := by show Row _ _ _; rw [hM]; exact hR4
    have HB4 : Hid (Below gh W3 (W3.setCell ⟨gh, M, none⟩ (.int .i64 1))) := (Below.refl _ _).setCell (p := ⟨gh, M, none⟩) (Nat.le_refl _) _
    have hwM : IntKind.i64.wrap ((N : Int) - 1) = (M : Int) := by rw [hNM]; exact IntWalk.i64_in _ (by omega)
    have hw2 : IntKind.i64.wrap ((N : Int) - 2) = (N : Int) - 2 := IntWalk.i64_in _ (by omega)
    clear hM hNM hR3 hR3b hR4
    go_upto_region 6 with fail
    obtain ⟨W4, hW4⟩ : ∃ W, W3.setCell ⟨gh, M, none⟩ (.int .i64 1) = W := ⟨_, rfl⟩
    rw [hW4] at HR4 HB4 ⊢
    have hB5 := hB4.below HB4.out hbgh
    have j0 := hB5.cell 0
    have j1 := hB5.cell 1
    have jl := hB5.lt
    simp at j0 j1
    clear hW4 q0 qf hwM
    go_wp2_with fail
    go_loopw [5] (fun nd wr => ∃ k : Nat, 1 ≤ k ∧ k ≤ N ∧ nd = .int .i64 ((N : Int) - 1 - k) ∧ Row wr gh (List.replicate (N - k) 0 ++ numS g k) ∧ Below gh W3 wr) (fun nd _ => (intOf nd + 1).toNat)
    case atStart => exact ⟨1, by omega, by omega, vint (by omega), HR4.out, HB4.out⟩
    case round =>
      obtain ⟨k, hk1, hkN, rfl, hR, hbr⟩ := hrel
      have hRl := hR.lt
      by_cases hlt : k < N
      · obtain ⟨m, hm⟩ : ∃ m, N - k = m + 1 := ⟨N - k - 1, by omega⟩
        rw [hm, potRow_start] at hR
        have hmv : (N : Int) - 1 - k = (m : Int) := by omega
        rw [hmv]
        have hm0 : (0 : Int) ≤ (m : Int) := by omega
        have hmN : (m : Int) < (N : Int) := by omega
        have hmN2 : m < N := by omega
        obtain ⟨bf, of, xs, Ai, ci, he, _, hxs, hcf, _⟩ := (HFR.out _ hbr).sl (k := m) (by rw [leavL_len]; omega)
        rw [leavL_at g hmN2] at hxs
        obtain rfl := Option.some.inj hxs
        obtain ⟨rfl, rfl⟩ : gf = bf ∧ 0 = of := by injection he with he; injection he with h1 h2; exact ⟨h1, h2⟩
        rw [Nat.zero_add] at hcf
        have HSL : Hid (∀ W, Below gh W3 W → SlR 1 RInt W Ai (lvs g (m : Int))) := fun W hW => by
          obtain ⟨b2, o2, x2, A2, c2, he2, _, hx2, hc2, hs2, _⟩ := (HFR.out W hW).sl (k := m) (by rw [leavL_len]; omega)
          rw [leavL_at g hmN2] at hx2
          obtain rfl := Option.some.inj hx2
          obtain ⟨rfl, rfl⟩ : gf = b2 ∧ 0 = o2 := by injection he2 with he; injection he with h1 h2; exact ⟨h1, h2⟩
          rw [Nat.zero_add] at hc2
          have e1 := (hbr.cell (p := ⟨gf, m, none⟩) hfrl).symm.trans hcf
          have e2 := (hW.cell (p := ⟨gf, m, none⟩) hfrl).symm.trans hc2
          rw [e1] at e2
          injection e2 with e2
          injection e2 with e2 _ _
          rw [e2]
          exact hs2
        have HB1 := Lib.hid hbr
        have HMK : Hid (N = m + 1 + k) := by show _ = _; omega
        have hvl := lvs_len HG.out (m : Int)
        have hps := numS_succ g (k := k) hk1
        have hvm : g.n - ((k : Int) + 1) = (m : Int) := by rw [HN.out]; omega
        rw [hvm] at hps
        have HPS := Lib.hid hps
        clear hbr hxs he hm hmv hps hvm
        go_wp2_with fail
        go_loopw [33] (fun i wv => ∃ j : Nat, j ≤ (lvs g (m : Int)).length ∧ i = .int .i64 j ∧ Row wv gh (potRow m (((lvs g (m : Int)).take j).foldl (numStep g (m : Int) (numS g k)) 0) (numS g k)) ∧ Below gh W3 wv) (fun i _ => (lvs g (m : Int)).length - (intOf i).toNat)
        case atStart => exact ⟨0, by omega, rfl, hR, HB1.out⟩
        case round =>
          obtain ⟨j, hj, rfl, hRw, hbv⟩ := hrel
          have hBv := hB4.below hbv hbgh
          have b0 := hBv.cell 0
          have b1 := hBv.cell 1
          have bl := hBv.lt
          simp at b0 b1
          have hbwv : Below w.heap.size w wr := hbw4.trans (hbv.mono (by omega))
          by_cases hltj : j < (lvs g (m : Int)).length
          · obtain ⟨bi, oi, x, hAi, hbi, hxi, hci⟩ := (HSL.out _ hbv).int hltj
            subst hAi
            have hix := lvs_iff.1 (List.mem_of_getElem? hxi)
            obtain ⟨hx0, hx1, hx2⟩ := hix
            obtain ⟨xn, rfl⟩ : ∃ xn : Nat, x = (xn : Int) := ⟨x.toNat, by omega⟩
            have hxnl : xn < g.ls.length := by omega
            have hxnl' : (xn : Int) < (g.ls.length : Int) := by omega
            have hxn0 : (0 : Int) ≤ (xn : Int) := by omega
            obtain ⟨b, off, l, rfl, hbb, hll, d0, d1, d2, d3⟩ := (hx.below keeps_lk hbwv).lk hxnl
            have hok := HG.out.ls l (List.mem_of_getElem? hll)
            have HACC : Hid (((lvs g (m : Int)).take (j + 1)).foldl (numStep g (m : Int) (numS g k)) 0 = numStep g (m : Int) (numS g k) (((lvs g (m : Int)).take j).foldl (numStep g (m : Int) (numS g k)) 0) (xn : Int)) := fold_snocN hxi
            have hLk := lkAt_nat hll
            have hfr : l.fr = (m : Int) := by rw [hLk] at hx2; exact hx2
            have hacc := numStep_bd (g := g) (v := (m : Int)) (numS_bd g k) ((lvs g (m : Int)).take j) 0 (by omega)
            generalize ((lvs g (m : Int)).take j).foldl (numStep g (m : Int) (numS g k)) 0 = acc at *
            obtain ⟨o1, o2, o3, o4, o5⟩ := hok
            have HLK := Lib.hid hLk
            have hlt2 : (m : Int) < l.to := by omega
            have hto3 : l.to < (N : Int) := by rw [← HN.out]; exact o3
            clear hll hxi hx2 hfr hLk o1 o2 o3 o4 o5
            have hRl := hRw.lt
            obtain ⟨tn, htn⟩ : ∃ tn : Nat, l.to = (tn : Int) := ⟨l.to.toNat, by omega⟩
            have htnN : tn < N := by have := HN.out; omega
            have hmt : m < tn := by omega
            have htoAt := potRow_tail (m := m) (acc := acc) (tail := numS g k) (j := tn) hmt (by rw [numS_len]; have := HMK.out; omega)
            have htb := getD_bdn (numS_bd g k) (tn - m - 1)
            have HT : Hid (numStep g (m : Int) (numS g k) acc (xn : Int) = min (acc + (numS g k).getD (tn - m - 1) 0) 1000000000) := by
              show _ = _
              unfold numStep
              rw [HLK.out, htn, show ((tn : Int) - (m : Int) - 1).toNat = tn - m - 1 by omega]
            generalize (numS g k).getD (tn - m - 1) 0 = tt at *
            have r1 := hRw.cell (potRow_at m acc (numS g k))
            have r2 := hRw.cell htoAt
            have rf := hRw.frozen m
            rw [htn] at d1
            have htn0 : (0 : Int) ≤ (tn : Int) := by omega
            have htnN' : (tn : Int) < (N : Int) := by omega
            have hws : IntKind.i64.wrap (acc + tt) = acc + tt := IntWalk.i64_in _ (by omega)
            clear htn htb htoAt d0 d2 d3
            go_upto_region 12 with fail
            refine ordT_below [18] [(0, false), (1, false), (2, false), (3, false), (4, false), (5, false), (6, false), (7, false), (8, false), (9, false), (10, false), (11, false), (12, false), (13, false), (14, false), (15, false), (16, false), (17, false), (18, true)] (by kernel_rfl) (by kernel_rfl) (by kernel_rfl) (fun _ _ _ _ _ h => h) ?_
            intro W0 hS0
            repeat (first
              | (refine ordT_skip rfl rfl (by assumption) ?_; simp only [Act.put, List.setIfInBounds_toArray, List.set_cons_zero, List.set_cons_succ])
              | (refine ordT_cskip rfl rfl (by assumption) ?_; simp only [Act.put, List.setIfInBounds_toArray, List.set_cons_zero, List.set_cons_succ])
              | (refine ordT_take (v := ?_) rfl rfl (by assumption) ?_ ?_
                 rotate_left 1
                 focus (intro W hW; obtain ⟨hcW, hfW⟩ := bcell hW; (go_simp <;> with_reducible rfl))
                 simp only [Act.put, List.setIfInBounds_toArray, List.set_cons_zero, List.set_cons_succ])
              | (refine ordT_call rfl rfl (fun K hK => ?_)
                 obtain ⟨hcS, hfS⟩ := bcell hS0
                 go_simp
                 first
                   | (refine hK.out _ _ (fun h => by cases h) ?_)))
            refine ordT_nil ?_
            have hRn := (hRw.below hS0 hRl).set_ m (min (acc + tt) 1000000000)
            rw [potRow_set, ← HT.out, ← HACC.out] at hRn
            have HRN := Lib.hid hRn
            have HBE := Lib.hid ((hbv.trans (hS0.mono (Nat.le_of_lt hRl))).setCell (p := ⟨gh, m, none⟩) (Nat.le_refl _) (.int .i64 (min (acc + tt) 1000000000)))
            rw [← HT.out, ← HACC.out] at HBE
            have hval : min (acc + tt) 1000000000 = ((lvs g (m : Int)).take (j + 1)).foldl (numStep g (m : Int) (numS g k)) 0 := by rw [HACC.out, HT.out]
            go_wp2_with fail
            go_roundw
            case rel => exact ⟨j + 1, by omega, by go_num, HRN.out, HBE.out⟩
            case measure => simp [intOf]; omega
          · obtain rfl : j = (lvs g (m : Int)).length := by omega
            rw [List.take_length] at hRw
            have HROW : Hid (Row wr gh (List.replicate (N - (k + 1)) 0 ++ numS g (k + 1))) := by
              show Row _ _ _
              rw [show N - (k + 1) = m by have := HMK.out; omega, HPS.out]
              exact hRw
            have HBV := Lib.hid hbv
            clear hRw hbv
            go_wp2_with fail
            go_roundw
            case rel => exact ⟨k + 1, by omega, by have := HMK.out; omega, vint (by have := HMK.out; omega), HROW.out, HBV.out⟩
            case measure => first | (simp [intOf]; done) | (simp [intOf]; omega)
      · obtain rfl : N = k := by omega
        obtain ⟨r, L, hL⟩ : ∃ r L, numS g N = r :: L := by
          cases h : numS g N with
          | nil => have := numS_len g N; rw [h] at this; simp at this; omega
          | cons r L => exact ⟨r, L, rfl⟩
        have HRR : Hid (r = R) := by show _ = _; rw [← HNR.out, hL]; rfl
        rw [Nat.sub_self, hL] at hR
        have p0 := hR.cell (k := 0) (x := r) rfl
        have hneg : (N : Int) - 1 - (N : Int) < 0 := by omega
        have hNp : (0 : Int) < (N : Int) := by omega
        have HBE := Lib.hid (hbw4.trans (hbr.mono (Nat.le_of_lt hbgh)))
        clear hR hbr hL
        go_wp2_with fail
        go_ret
        exact ⟨ret_int HRR.out, HBE.out⟩
end Go.Proofs.YtfjkmgjjifhdkaaGreat

/-
  Bounds of the reference's ways; rows beside rows that grow.
-/
namespace Go.Proofs.YtfjkmgjjifhdkaaGreat
open Go Go.RowKit

/-- A row beside one that grows. -/
theorem own_beside {w w' : World} {base n s : Nat} {e : TypeId} {vr v v' : Value} {xs : List Value} (h : w.ownsRow base e s vr n xs) (hne : ∀ g, vr.ownBlock = some g → v.ownBlock ≠ some g) (ha : Apps w w' v v') :
    w'.ownsRow base e s vr n xs ∧ ∀ g, vr.ownBlock = some g → v'.ownBlock ≠ some g := by
  refine ⟨own_keep h fun g hg hlt => ha.keep g hlt (hne g hg), fun g hg => ?_⟩
  have hlt : g < w.heap.size := by
    rcases Nat.lt_or_ge g w.heap.size with h1 | h1
    · exact h1
    · exact absurd hg (own_lt h h1)
  exact ha.ne hlt (hne g hg)
section
variable {P : Program} {ops : Array Oper} {Q : Exit → Act → World → Prop}
/-- 'append(out, xs...)' outside regions that draw. -/
theorem wpList_appS {rest : List Oper} {α : Type} {enc : α → List Value} {R : World → α → List Value → Prop} {o : Oper} {a : Act} {w : World} (hgd : o.guard = none) (s x : Operand) (t : TypeId)
    (ho : o.op = .call { callee := .builtin .append, args := #[s, x], argTypes := #[t, t] })
    (base : Nat) (e : TypeId) (i : TypeInfo) (z : Value) (size bytes : Nat) (ht : P.underlying t = some (.slice e)) (hi : P.info? e = some i) (hz : i.zero = some z)
    (hsize : i.size = size) (hby : i.bytes = bytes) (hzs : z.cells.size = size) (hsz : 0 < size)
    (v : Value) (n : Nat) (xs : List Value) (hs : a.eval s = v) (hown : w.ownsRow base e size v n xs)
    (A : Option Addr) (c : Nat) (ys : List α) (hx : a.eval x = .slice A ys.length c) (hr : SlR size R w A ys) (hR : ∀ w x vs, R w x vs → vs = enc x) (hl : ∀ x, (enc x).length = size) (h1 : ∀ u ∈ ys.flatMap enc, u.oneCell' = true)
    (hn : n + ys.length ≤ 1000000) (hbb : bytes ≤ 1000) (hbase : base ≤ w.heap.size)
    (h : ∀ v' w', w'.ownsRow base e size v' (n + ys.length) (xs ++ ys.flatMap enc) → Below base w w' → Apps w w' v v' → wpList P ops Q rest (a.put o.dst v') w') : wpList P ops Q (o :: rest) a w :=
  wpList_plain hgd fun K hK => wp_appS (K := K) s x t ho base e i z size bytes ht hi hz hsize hby hzs hsz v n xs hs hown A c ys hx hr hR hl h1 hn hbb hbase (fun v' w' h1 h2 h3 => hK _ _ (h v' w' h1 h2 h3))
end
end Go.Proofs.YtfjkmgjjifhdkaaGreat

/-
  The walks of layers 15 and 16: the reference's ways.
-/
namespace Go.Proofs.YtfjkmgjjifhdkaaGreat
open Go Go.RowKit

end Go.Proofs.YtfjkmgjjifhdkaaGreat

/-
  The walks of layers 15 and 16: the reference's Before, Less.
-/
namespace Go.Proofs.YtfjkmgjjifhdkaaGreat
open Go Go.RowKit

end Go.Proofs.YtfjkmgjjifhdkaaGreat

/-
  The walks of layers 15 and 16: the reference's order.
-/
namespace Go.Proofs.YtfjkmgjjifhdkaaGreat
open Go Go.RowKit

section
variable {α : Type} {p : α → Bool}
theorem takeG_at : ∀ {ws : List α} {t : Nat} {x : α}, t < (ws.takeWhile p).length → ws[t]? = some x → p x = true
  | [], t, x, h, _ => by simp at h
  | y :: ws, t, x, h, hx => by
    rw [List.takeWhile_cons] at h
    by_cases hy : p y = true
    · rw [if_pos hy] at h
      cases t with
      | zero => simp at hx; rw [← hx]; exact hy
      | succ t => exact takeG_at (t := t) (by simpa using h) (by simpa using hx)
    · rw [if_neg hy] at h; simp at h
theorem takeG_end : ∀ {ws : List α} {x : α}, ws[(ws.takeWhile p).length]? = some x → p x = false
  | [], x, h => by simp at h
  | y :: ws, x, h => by
    rw [List.takeWhile_cons] at h
    cases hy : p y with
    | true =>
      rw [if_pos hy] at h
      exact takeG_end (ws := ws) (by simpa using h)
    | false =>
      rw [if_neg (by rw [hy]; simp)] at h
      simp at h
      rw [← h]; exact hy
theorem takeG_le (ws : List α) : (ws.takeWhile p).length ≤ ws.length := (List.takeWhile_sublist _).length_le
theorem takeG_take (ws : List α) : ws.take (ws.takeWhile p).length = ws.takeWhile p := (List.prefix_iff_eq_take.1 (List.takeWhile_prefix p)).symm
end
theorem slr_dropS {α : Type} {s : Nat} {R : World → α → List Value → Prop} {w : World} {b o : Nat} {xs : List α} (h : SlR s R w (some ⟨b, o, none⟩) xs) (n : Nat) : SlR s R w (some ⟨b, o + n * s, none⟩) (xs.drop n) := fun hne => by
  obtain ⟨b', o', hA, hb, hc⟩ := h (by rintro rfl; simp at hne)
  obtain ⟨rfl, rfl⟩ : b = b' ∧ o = o' := by injection hA with hA; injection hA with h1 h2; exact ⟨h1, h2⟩
  refine ⟨b, o + n * s, rfl, hb, fun k x hk => ?_⟩
  rw [List.getElem?_drop] at hk
  obtain ⟨vs, h1, h2, h3⟩ := hc _ x hk
  refine ⟨vs, h1, h2, fun j v hj => ?_⟩
  have := h3 j v hj
  rw [show o + n * s + k * s + j = o + (n + k) * s + j by rw [Nat.add_mul]; omega]
  exact this
theorem slr_preS {α : Type} {s : Nat} {R : World → α → List Value → Prop} {w : World} {A : Option Addr} {xs : List α} (h : SlR s R w A xs) (n : Nat) : SlR s R w A (xs.take n) := fun hne => by
  obtain ⟨b, o, hA, hb, hc⟩ := h (by rintro rfl; simp at hne)
  refine ⟨b, o, hA, hb, fun k x hk => hc k x ?_⟩
  rw [List.getElem?_take] at hk
  split at hk
  · exact hk
  · cases hk
/-- A row that is not empty lies somewhere. -/
theorem own_some {α : Type} {enc : α → List Value} {w : World} {base : Nat} {e : TypeId} {s : Nat} {v : Value} {xs : List α} (h : w.ownsRow base e s v xs.length (xs.flatMap enc)) (hl : ∀ x, (enc x).length = s) (hne : xs ≠ []) :
    ∃ g cap, v = .slice (some ⟨g, 0, none⟩) xs.length cap ∧ base ≤ g ∧ xs.length ≤ cap ∧ cap ≤ maxLen ∧ SlR s (fun _ x vs => vs = enc x) w (some ⟨g, 0, none⟩) xs := by
  obtain ⟨A, cap, rfl, h1, h2, h3⟩ := own_slr (R := fun _ x vs => vs = enc x) h hl (fun _ => rfl) rfl
  rcases h.2 with ⟨hv, h0⟩ | ⟨g, cap', cur, hv, hg, _⟩
  · exact absurd (List.length_eq_zero_iff.1 h0) hne
  · injection hv with hv1 hv2 hv3
    subst hv1
    exact ⟨g, cap, rfl, hg, h1, h2, h3⟩
end Go.Proofs.YtfjkmgjjifhdkaaGreat

/-
  The walks of layer 15: the reference's lists of candidates compared; its List.
-/
namespace Go.Proofs.YtfjkmgjjifhdkaaGreat
open Go Go.RowKit

end Go.Proofs.YtfjkmgjjifhdkaaGreat

/-
  The plain law of layer 15: the number that is counted is that of the ways.
-/
namespace Go.Proofs.YtfjkmgjjifhdkaaGreat
open List

theorem waysF_fuel {g : Gr} (hg : GrOK g) : ∀ (f f' : Nat) (v : Int), 0 ≤ v → v < g.n → g.n - v ≤ (f : Int) → g.n - v ≤ (f' : Int) → waysF g f v = waysF g f' v := by
  intro f
  induction f with
  | zero => intro f' v h0 h1 h2; omega
  | succ f ih =>
    intro f' v h0 h1 h2 h3
    obtain ⟨f', rfl⟩ : ∃ k, f' = k + 1 := ⟨f' - 1, by omega⟩
    unfold waysF
    by_cases hv : v = g.n - 1
    · rw [if_pos hv, if_pos hv]
    · rw [if_neg hv, if_neg hv]
      have key : ∀ (L : List Int), (∀ i ∈ L, i ∈ lvs g v) → L.flatMap (fun i => (waysF g f (lkAt g i).to).map (fun r => (⟨i :: r.links, r.cost + (lkAt g i).cost⟩ : Can))) = L.flatMap (fun i => (waysF g f' (lkAt g i).to).map (fun r => (⟨i :: r.links, r.cost + (lkAt g i).cost⟩ : Can))) := by
        intro L
        induction L with
        | nil => intro _; rfl
        | cons i L ihL =>
          intro hL
          have hi := lvs_iff.1 (hL i (by simp))
          have hok := lkAt_ok hg ⟨hi.1, hi.2.1⟩
          have hto := hok.to
          have hlt := hok.lt
          rw [flatMap_cons, flatMap_cons, ih f' (lkAt g i).to (by omega) (by omega) (by omega) (by omega), ihL fun j hj => hL j (by simp [hj])]
      exact key _ fun _ h => h
def nW (g : Gr) (v : Int) : Nat := (waysF g g.n.toNat v).length
theorem nW_last {g : Gr} (hg : GrOK g) : nW g (g.n - 1) = 1 := by
  unfold nW
  obtain ⟨f, hf⟩ : ∃ f, g.n.toNat = f + 1 := ⟨g.n.toNat - 1, by have := hg.n; omega⟩
  rw [hf]
  unfold waysF
  rw [if_pos rfl]
  rfl
theorem nW_step {g : Gr} (hg : GrOK g) {v : Int} (h0 : 0 ≤ v) (h1 : v < g.n - 1) : nW g v = ((lvs g v).map (fun i => nW g (lkAt g i).to)).sum := by
  unfold nW
  obtain ⟨f, hf⟩ : ∃ f, g.n.toNat = f + 1 := ⟨g.n.toNat - 1, by have := hg.n; omega⟩
  conv => lhs; rw [hf]
  conv => lhs; unfold waysF
  rw [if_neg (by omega), length_flatMap]
  congr 1
  apply map_congr_left
  intro i hi
  have hi' := lvs_iff.1 hi
  have hok := lkAt_ok hg ⟨hi'.1, hi'.2.1⟩
  have hto := hok.to
  have hlt := hok.lt
  show (map _ (waysF g f (lkAt g i).to)).length = _
  rw [length_map, waysF_fuel hg f g.n.toNat (lkAt g i).to (by omega) (by omega) (by omega) (by omega)]
def capN (n : Nat) : Int := min (n : Int) 1000000000
theorem numS_at {g : Gr} (hg : GrOK g) : ∀ k : Nat, 1 ≤ k → (k : Int) ≤ g.n → ∀ j : Nat, j < k → (numS g k)[j]? = some (capN (nW g (g.n - k + j))) := by
  intro k
  induction k with
  | zero => intro h; omega
  | succ k ih =>
    intro _ hk j hj
    rcases Nat.eq_zero_or_pos k with rfl | hk1
    · obtain rfl : j = 0 := by omega
      show some (1 : Int) = _
      have e : g.n - ((0 + 1 : Nat) : Int) + ((0 : Nat) : Int) = g.n - 1 := by omega
      rw [e, nW_last hg]
      rfl
    · rw [numS_succ g hk1]
      rcases Nat.eq_zero_or_pos j with rfl | hj0
      · rw [getElem?_cons_zero]
        congr 1
        have e : g.n - ((k + 1 : Nat) : Int) + ((0 : Nat) : Int) = g.n - (k + 1) := by omega
        rw [e, nW_step hg (by omega) (by omega)]
        have key : ∀ (L : List Int) (a : Nat), (∀ i ∈ L, i ∈ lvs g (g.n - (k + 1))) → L.foldl (numStep g (g.n - (k + 1)) (numS g k)) (capN a) = capN (a + (L.map (fun i => nW g (lkAt g i).to)).sum) := by
          intro L
          induction L with
          | nil => intro a _; simp
          | cons i L ihL =>
            intro a hL
            have hi := lvs_iff.1 (hL i (by simp))
            have hok := lkAt_ok hg ⟨hi.1, hi.2.1⟩
            have hto := hok.to
            have hlt := hok.lt
            rw [foldl_cons, map_cons, sum_cons]
            have hget := ih hk1 (by omega) ((lkAt g i).to - (g.n - (k + 1)) - 1).toNat (by omega)
            have e2 : g.n - (k : Int) + (((lkAt g i).to - (g.n - (k + 1)) - 1).toNat : Int) = (lkAt g i).to := by omega
            rw [e2] at hget
            have e3 : numStep g (g.n - (k + 1)) (numS g k) (capN a) i = capN (a + nW g (lkAt g i).to) := by
              unfold numStep
              rw [getD_eq_getElem?_getD, hget]
              show min (capN a + capN (nW g (lkAt g i).to)) 1000000000 = _
              unfold capN
              omega
            rw [e3, ihL _ fun j hj => hL j (by simp [hj]), Nat.add_assoc]
        have h := key (lvs g (g.n - (k + 1))) 0 (fun _ h => h)
        rw [Nat.zero_add] at h
        exact h
      · obtain ⟨j, rfl⟩ : ∃ i, j = i + 1 := ⟨j - 1, by omega⟩
        rw [getElem?_cons_succ, ih hk1 (by omega) j (by omega)]
        congr 2
        congr 1
        omega
theorem numM_eq {g : Gr} (hg : GrOK g) : numM g = capN (nW g 0) := by
  have hn := hg.n
  have h := numS_at hg g.n.toNat (by omega) (by omega) 0 (by omega)
  have e : g.n - (g.n.toNat : Int) + ((0 : Nat) : Int) = 0 := by omega
  rw [e] at h
  unfold numM
  cases hs : numS g g.n.toNat with
  | nil => rw [hs] at h; simp at h
  | cons x L => rw [hs] at h; simpa using h
end Go.Proofs.YtfjkmgjjifhdkaaGreat
