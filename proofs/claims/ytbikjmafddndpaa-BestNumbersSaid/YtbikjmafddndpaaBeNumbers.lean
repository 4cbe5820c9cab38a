/-
  The law BestNumbers: for all inputs it returns true.
-/
import Derived.Test.YtbikjmafddndpaaBeCost
import Derived.Test.YtbikjmafddndpaaBeRest
import Derived.Deep.DeepCutAuto
namespace Go.Proofs.Ytbikjmafddndpaa
open Go Go.RowKit

/-- A link of the graph behind t, with neither label nor cost. -/
def bareL (t : Int) (l : Lk) : Lk := ⟨l.fr - t, l.to - t, 0, 0⟩
theorem bare_turns (n t : Int) : Turns (bareL t) n t := ⟨fun _ => rfl, fun _ => rfl, fun _ _ => by show (0 : Int) ≤ 0 ∧ (0 : Int) ≤ 1000000; omega, fun _ _ => by show (0 : Int) ≤ 0 ∧ (0 : Int) ≤ 1000000; omega⟩
set_option maxRecDepth 100000 in
set_option maxHeartbeats 16000000 in
theorem bestNumbers_any (A : Option Addr) (l : List T3) (c : Nat) (x : Int) (w : World) (hs : SlR 3 RT3 w A l) (hl : l.length ≤ maxLen) (hok : ∀ p ∈ l, T3OK p) (hx : 0 ≤ x ∧ x ≤ 255) :
    Calls Try.prog 6 #[.agg #[.int .u8 x, .slice A l.length c]] w fun e w' => e = .returned (.bool true) ∧ Below w.heap.size w w' := by
  obtain ⟨w1, hw1⟩ : ∃ w1, (w.alloc (.cells #[.int .u8 x, .slice A l.length c] 24)) = w1 := ⟨_, rfl⟩
  have hb1 : Below w.heap.size w w1 := by rw [← hw1]; exact nw _ (Below.refl _ _)
  have hX0 : Blk w1 (w.heap.size) 24 #[.int .u8 x, .slice A l.length c] := by rw [← hw1]; exact Blk.new _ _ _
  have HW1 := Lib.hid hw1
  have HMD : Hid (∀ W, Below w.heap.size w W → Calls Try.prog 15 #[.agg #[.int .u8 x, .slice A l.length c]] W fun e w' => ∃ A' c', e = .returned (.agg #[.int .i64 (madeG x l).n, .slice A' (madeG x l).ls.length c']) ∧ (madeG x l).ls.length ≤ c' ∧ c' ≤ maxLen ∧ SlR 4 RLk w' A' (madeG x l).ls ∧ Below W.heap.size W w') :=
    fun W hW => made_any A l c x W (hs.below keeps_t3 hW) hl hx hok
  have hg : GrOK (madeG x l) := madeG_ok hok
  have h14 : (madeG x l).ls.length ≤ 14 := madeG_len x l
  have hn7 : 1 ≤ (madeG x l).n ∧ (madeG x l).n ≤ 7 := madeG_n x l
  generalize madeG x l = g at *
  obtain ⟨N, hN⟩ : ∃ N : Nat, g.n = (N : Int) := ⟨g.n.toNat, by omega⟩
  rw [hN] at HMD
  have HN := Lib.hid hN
  have HG := Lib.hid hg
  have hN1 : 1 ≤ N := by omega
  have hN7 : N ≤ 7 := by omega
  have hlt1 := hX0.lt
  clear hw1 hs hok hN hg hn7
  have hbx0 := hX0.cell 0
  have hbx1 := hX0.cell 1
  simp at hbx0 hbx1
  go_enter Try.func6, Try.ntmps6
  go_upto_region 1 with fail
  rw [HW1.out]
  go_upto_region 2 with (go_at_call 14; go_loud (refine (sanity15_any _).mono ?_; rintro e w2 ⟨rfl, hb2⟩))
  have hX0 := hX0.below hb2 hX0.lt
  have hbx0 := hX0.cell 0
  have hbx1 := hX0.cell 1
  simp at hbx0 hbx1
  have hbw2 := bthen hb1 hb2
  go_upto_region 3 with (go_at_call 15; go_loud (refine (HMD.out _ hbw2).mono ?_; rintro e w3 ⟨A3, c3, rfl, hc3, hcm3, hs3, hb3⟩))
  obtain ⟨W, hW⟩ : ∃ W, w3.alloc (.cells #[.int .i64 (N : Int), .slice A3 g.ls.length c3] 30) = W := ⟨_, rfl⟩
  have hb4 : Below w3.heap.size w3 W := by rw [← hW]; exact nw _ (Below.refl _ _)
  have hGB : Blk W w3.heap.size 30 #[.int .i64 (N : Int), .slice A3 g.ls.length c3] := by rw [← hW]; exact Blk.new _ _ _
  rw [hW]
  obtain ⟨bG, hbG⟩ : ∃ b, w3.heap.size = b := ⟨_, rfl⟩
  have hb34 := bthen hb3 hb4
  have hX0 := hX0.below hb34 hX0.lt
  have hbw := bthen hbw2 hb34
  have hls := hs3.below keeps_lk hb4
  have hwG : w.heap.size ≤ bG := by have := hbw2.size; have := hb3.size; omega
  rw [hbG] at hGB ⊢
  have hlm : g.ls.length ≤ maxLen := by unfold maxLen; omega
  clear hbx0 hbx1 hW hbG hb4 hb34 hbw2 hb2 hb3 hs3 hb1 HMD HW1

  obtain ⟨i0, hi, hz0, hz1, hz2⟩ := info_parts link_info
  have HG4 : Hid (∀ W', Below W.heap.size W W' → W'.cell? ⟨bG, 0, none⟩ = some (.int .i64 (N : Int)) ∧ W'.cell? ⟨bG, 1, none⟩ = some (.slice A3 g.ls.length c3) ∧ bG < W'.heap.size) := fun W' hW' => by
    have h1 := hGB.below hW' hGB.lt
    have e0 := h1.cell 0
    have e1 := h1.cell 1
    simp at e0 e1
    exact ⟨e0, e1, h1.lt⟩
  obtain ⟨L, hL⟩ : ∃ L, (allR g).take 50 = L := ⟨_, rfl⟩
  have HLI : Hid (∀ W', Below W.heap.size W W' → Calls Try.prog 16 #[(.agg #[.int .i64 (N : Int), .slice A3 g.ls.length c3]), .int .i64 50] W' (IsL L W')) := fun W' hW' => by
    have h := listR_any A3 c3 g 50 W' (hls.below keeps_lk hW') hlm HG.out h14 (by omega)
    rw [HN.out, hL] at h
    exact h
  obtain ⟨K, hK⟩ : ∃ K, nW g 0 = K := ⟨_, rfl⟩
  have hLl : L.length = min 50 K := by rw [← hL, List.length_take, (allR_nW HG.out h14).1, hK]
  have hK168 : K ≤ 168 := by rw [← hK]; exact nW_small HG.out h14 0
  have HNU : Hid (∀ W', Below W.heap.size W W' → Calls Try.prog 21 #[(.agg #[.int .i64 (N : Int), .slice A3 g.ls.length c3])] W' fun e w' => e = .returned (.int .i64 (K : Int)) ∧ Below W'.heap.size W' w') := fun W' hW' => by
    have h := number_any A3 c3 g W' (hls.below keeps_lk hW') hlm
    rw [HN.out, num_small HG.out h14, hK] at h
    exact h
  have HREST : Hid (∀ (tt rN : Nat) A' c' n' W', tt < N → N - tt = rN → n' = (restTo (bareL (tt : Int)) (tt : Int) g.ls g.ls.length).length → SlR 4 RLk W' A' (restTo (bareL (tt : Int)) (tt : Int) g.ls g.ls.length) → Calls Try.prog 21 #[.agg #[.int .i64 (rN : Int), .slice A' n' c']] W' fun e w' => e = .returned (.int .i64 (nW g (tt : Int) : Int)) ∧ Below W'.heap.size W' w') := fun tt rN A' c' n' W' htt hrN hn' hsl => by
    have hgn := HN.out
    have h := number_any A' c' (restG (bareL (tt : Int)) g (tt : Int)) W' hsl (Nat.le_trans (restTo_len _ _ _ _) hlm)
    rw [rest_num HG.out h14 (by omega) (by omega) (bare_turns _ _), show (restG (bareL (tt : Int)) g (tt : Int)).n = (rN : Int) by show g.n - (tt : Int) = _; omega, show (restG (bareL (tt : Int)) g (tt : Int)).ls.length = n' from hn'.symm] at h
    exact h
  have HLS : Hid (∀ W', Below W.heap.size W W' → SlR 4 RLk W' A3 g.ls) := fun W' hW' => hls.below keeps_lk hW'
  have hall : 1 < N → headS g g.ls.length = K := fun h => by rw [headS_all HG.out (by have := HN.out; omega), hK]
  have hone : N = 1 → K = 1 := fun h => by have := nW_last HG.out; rw [HN.out, h] at this; rw [← hK]; exact this
  have hsl := headS_le HG.out h14
  have hns := fun v => nW_small HG.out h14 v
  obtain ⟨M, hM⟩ : ∃ M, g.ls.length = M := ⟨_, rfl⟩
  have HALL := Lib.hid hall
  have HONE := Lib.hid hone
  have HSL := Lib.hid hsl
  have HNS := Lib.hid hns
  have HM14 : Hid (g.ls.length ≤ 14) := h14
  obtain ⟨g0, g1, gl⟩ := HG4.out _ (Below.refl _ _)
  have HBW := Lib.hid hbw
  have hcs : (50 ≤ L.length ∧ L.length ≤ K) ∨ (L.length < 50 ∧ K = L.length) := by omega
  clear hL hK hlm hbw hLl hall hone hsl hns hM hX0
  go_upto_region 4 with (go_at_call 16; go_loud (refine (HLI.out _ (Below.refl _ _)).mono ?_; rintro e W2 ⟨Aa, ca, rfl, hsa, hla, hma, hb2⟩))
  clear hsa hla hma
  obtain ⟨g0, g1, gl⟩ := HG4.out _ hb2
  go_upto_region 5 with (go_at_call 21; go_loud (refine (HNU.out _ hb2).mono ?_; rintro e W3 ⟨rfl, hb3⟩))
  have hb03 := bthen hb2 hb3
  have HB3 := Lib.hid hb03
  obtain ⟨g0, g1, gl⟩ := HG4.out _ hb03
  clear hb2 hb3 hb03
  go_cut [40] (fun tv wr => tv = .bool false ∧ wr = W3)
  case first =>
    rcases hcs with ⟨h1, h2⟩ | ⟨h1, h2⟩
    · have z1 : decide (K < L.length) = false := decide_eq_false (by omega)
      have z2 : decide (L.length < 50) = false := decide_eq_false (by omega)
      have z3 : ¬ L.length < 50 := by omega
      have z4 : L.length ≤ K := h2
      clear h1
      go_wp2_with fail
      go_meet
      exact ⟨rfl, rfl⟩
    · subst h2
      have z2 : decide (L.length < 50) = true := decide_eq_true h1
      go_wp2_with fail
      go_meet
      exact ⟨rfl, rfl⟩
  case rest =>
    obtain ⟨rfl, hcut⟩ := hcut
    obtain rfl : W3 = wc := hcut.symm
    clear hcut
    go_wp2_with fail
    go_loopw [8, 9] (fun sv iv wr => ∃ i s : Nat, i ≤ g.ls.length ∧ iv = .int .i64 (i : Int) ∧ sv = .int .i64 (s : Int) ∧ Hid (headS g i = s) ∧ s ≤ 168 * i ∧ Below W3.heap.size W3 wr) (fun _ iv _ => g.ls.length - (intOf iv).toNat)
    case atStart => exact ⟨0, 0, by omega, rfl, rfl, rfl, by omega, Below.refl _ _⟩
    case round =>
      obtain ⟨i, s, hil, rfl, rfl, HS, hs168, hbr⟩ := hrel
      have hb0 := bthen HB3.out hbr
      obtain ⟨g0, g1, gl⟩ := HG4.out _ hb0
      by_cases hlt : i < g.ls.length
      · obtain ⟨b, off, lk, rfl, hbb, hll, d0, d1, d2, d3⟩ := (HLS.out _ hb0).lk hlt
        have hok := HG.out.ls lk (List.mem_of_getElem? hll)
        have hf0 := hok.fr
        have hflt := hok.lt
        have htn := hok.to
        rw [HN.out] at htn
        have hiI : (i : Int) < (g.ls.length : Int) := by omega
        have hi00 : (0 : Int) ≤ (i : Int) := by omega
        obtain ⟨tt, htt⟩ : ∃ tt : Nat, lk.to = (tt : Int) := ⟨lk.to.toNat, by omega⟩
        rw [htt] at d1
        have htN : tt < N := by omega
        have HLL := Lib.hid hll
        have hws1 : IntKind.i64.wrap ((i : Int) + 1) = (i : Int) + 1 := IntWalk.i64_in _ (by omega)
        by_cases hfz : lk.fr = 0
        · rw [hfz] at d0
          obtain ⟨q, hq⟩ : ∃ q, nW g (tt : Int) = q := ⟨_, rfl⟩
          have hq168 : q ≤ 168 := by rw [← hq]; exact HNS.out _
          have HS2 : Hid (headS g (i + 1) = s + q) := by show _ = _; rw [headS_succ hll, if_pos hfz, HS.out, htt, hq]
          obtain ⟨rN, hrN⟩ : ∃ r, N - tt = r := ⟨_, rfl⟩
          have hwr : IntKind.i64.wrap ((N : Int) - (tt : Int)) = (rN : Int) := by rw [IntWalk.i64_in _ (by omega)]; omega
          have hws : IntKind.i64.wrap ((s : Int) + (q : Int)) = (s : Int) + (q : Int) := IntWalk.i64_in _ (by have := HM14.out; omega)
          have HR1 := HREST.out tt rN
          rw [hq] at HR1
          have HR1 := Lib.hid HR1
          have HRN := Lib.hid hrN
          have HTT := Lib.hid htt
          have HB0 := Lib.hid hb0
          have HBR3 := Lib.hid hbr
          clear hll hok hq hrN htt hfz hb0 hflt hf0
          go_upto_region 12 with fail
          refine ordB_below (.quiet 0 (.quiet 1 (.quiet 2 (.quiet 3 (.quiet 4 (.quiet 5 (.quiet 6 (.quiet 7 (.quiet 8 (.quiet 9 (.only 10 (.only 11 .done)))))))))))) (by kernel_rfl) (by kernel_rfl) (by kernel_rfl) (fun _ _ _ _ _ h => h) ?_
          intro V0 hV0
          iterate 10 (first
            | (refine ordB_skip rfl rfl ?_; simp only [Act.put, List.setIfInBounds_toArray, List.set_cons_zero, List.set_cons_succ])
            | (refine ordB_take (v := ?_) rfl rfl ?_ ?_
               rotate_left 1
               focus (intro W hW; obtain ⟨hcW, hfW⟩ := bcell hW; (go_simp <;> with_reducible rfl))
               simp only [Act.put, List.setIfInBounds_toArray, List.set_cons_zero, List.set_cons_succ]))
          refine ordB_only (opB_call rfl rfl (fun K hK => ?_))
          go_simp
          refine hK.out _ _ (hV0.alloc hV0.size _) (fun hV0_1 => ?_)
          have rg := Blk.new V0 30 #[.int .i64 0, .slice none 0 0]
          have rgb := nw (.cells #[.int .i64 0, .slice none 0 0] 30) (Below.refl V0.heap.size V0)
          have rgg := hV0.size
          obtain ⟨V0_1, qqV0_1⟩ : ∃ W', V0.alloc (.cells #[.int .i64 0, .slice none 0 0] 30) = W' := ⟨_, rfl⟩
          rw [qqV0_1] at hV0_1 rg rgb ⊢
          clear qqV0_1 rgb
          refine ordB_only (opB_call rfl rfl (fun K hK => ?_))
          have rgc0 := rg.cell 0
          have rgf0 := rg.frozen 0
          have rgc1 := rg.cell 1
          have rgf1 := rg.frozen 1
          simp at rgc0 rgc1
          go_simp
          refine hK.out _ _ ((hV0_1.setCell (p := ⟨V0.heap.size, 0, none⟩) rgg _).setCell (p := ⟨V0.heap.size, 1, none⟩) rgg _) (fun hV0_1_2 => ?_)
          have rg := ((rg.set_ 0 (.int .i64 (rN : Int))).set_ 1 (.slice none 0 0))
          obtain ⟨V0_1_2, qqV0_1_2⟩ : ∃ W', ((V0_1.setCell ⟨V0.heap.size, 0, none⟩ (.int .i64 (rN : Int))).setCell ⟨V0.heap.size, 1, none⟩ (.slice none 0 0)) = W' := ⟨_, rfl⟩
          rw [qqV0_1_2] at hV0_1_2 rg  ⊢
          clear qqV0_1_2 rgc0 rgf0 rgc1 rgf1
          refine ordB_nil ?_
          have hVs := hV0.size
          have hb12 := hV0_1_2
          simp at rg
          generalize V0_1_2 = W12 at *
          obtain ⟨bR, hbR⟩ : ∃ b, V0.heap.size = b := ⟨_, rfl⟩
          rw [hbR] at rg hVs ⊢
          have HB12 := Lib.hid (bthen HB0.out hb12)
          have hWR : W.heap.size ≤ bR := by have := HB0.out.size; omega
          have hglR : bG < bR := by omega
          have hbbR : b < bR := by omega
          have rgl := rg.lt
          clear d0 d1 d2 d3 hbR
          go_wp2_with fail
          go_loopw [11] (fun jv wv => ∃ (j : Nat) (v : Value) (ks : List Lk), j ≤ g.ls.length ∧ jv = .int .i64 (j : Int) ∧ Hid (ks = restTo (bareL (tt : Int)) (tt : Int) g.ls j) ∧ ks.length ≤ j ∧ wv.ownsRow (bR + 1) 54 4 v ks.length (ks.flatMap encLk) ∧ Blk wv bR 30 #[.int .i64 (rN : Int), v] ∧ Below bR W12 wv) (fun jv _ => g.ls.length - (intOf jv).toNat)
          case atStart => exact ⟨0, .slice none 0 0, [], by omega, rfl, rfl, by simp, own_nil _ _ _ _, rg, Below.refl _ _⟩
          case round =>
            obtain ⟨wv, rfl⟩ : ∃ V, V = wr := ⟨wr, rfl⟩
            obtain ⟨j, v, ks, hj, rfl, HK, hkl, hown, hB, hbv⟩ := hrel
            have hbW : Below W.heap.size W wv := HB12.out.trans (hbv.mono hWR)
            obtain ⟨g0, g1, gl⟩ := HG4.out _ hbW
            have hgR : bG < bR := by omega
            have s0 := hB.cell 0
            have s1' := hB.cell 1
            have bl := hB.lt
            simp at s0 s1'
            by_cases hlt2 : j < g.ls.length
            · obtain ⟨b', off', lj, hbe, hbb1, hlj, e0, e1, _, _⟩ := (HLS.out _ hbW).lk hlt2
              obtain ⟨rfl, rfl⟩ : b = b' ∧ off = off' := by simpa using hbe
              obtain ⟨b', off', li, hbe2, hbb2, hli, _, d1, _, _⟩ := (HLS.out _ hbW).lk hlt
              obtain ⟨rfl, rfl⟩ : b = b' ∧ off = off' := by simpa using hbe2
              rw [HLL.out] at hli
              obtain rfl := Option.some.inj hli
              rw [HTT.out] at d1
              have hbR : b < bR := by omega
              have hok := HG.out.ls lj (List.mem_of_getElem? hlj)
              have hf0 := hok.fr
              have hflt := hok.lt
              have htn2 := hok.to
              rw [HN.out] at htn2
              have hjI : (j : Int) < (g.ls.length : Int) := by omega
              have hj00 : (0 : Int) ≤ (j : Int) := by omega
              have HLJ := Lib.hid hlj
              obtain ⟨fj, hfj⟩ : ∃ fj, lj.fr = fj := ⟨_, rfl⟩
              obtain ⟨tj, htj⟩ : ∃ tj, lj.to = tj := ⟨_, rfl⟩
              rw [hfj] at e0 hf0 hflt
              rw [htj] at e1 hflt htn2
              have HFJ := Lib.hid hfj
              have HTJ := Lib.hid htj
              have hvnG : v.ownBlock ≠ some bG := fun e => by have := own_block_le hown _ e; omega
              have hvnb : v.ownBlock ≠ some b := fun e => by have := own_block_le hown _ e; omega
              have hvne : v.ownBlock ≠ some bR := fun e => by have := own_block_le hown _ e; omega
              have HO := Lib.hid hown
              have HB := Lib.hid hB
              have HBr := Lib.hid hbv
              clear hlj hok hfj htj hown hB hbv hbe hbe2 hbb2 hli
              by_cases hge : (tt : Int) ≤ fj
              · obtain ⟨xa, hxa⟩ : ∃ xa, fj - (tt : Int) = xa := ⟨_, rfl⟩
                obtain ⟨xb, hxb⟩ : ∃ xb, tj - (tt : Int) = xb := ⟨_, rfl⟩
                have hwxa : IntKind.i64.wrap (fj - (tt : Int)) = xa := by rw [hxa]; exact IntWalk.i64_in _ (by omega)
                have hwxb : IntKind.i64.wrap (tj - (tt : Int)) = xb := by rw [hxb]; exact IntWalk.i64_in _ (by omega)
                have HXA := Lib.hid hxa
                have HXB := Lib.hid hxb
                clear hxa hxb
                go_upto_region 16 with fail
                refine ordB_below (.quiet 0 (.quiet 1 (.quiet 2 (.quiet 3 (.quiet 4 (.quiet 5 (.quiet 6 (.quiet 7 (.quiet 8 (.quiet 9 (.quiet 10 (.quiet 11 (.quiet 12 .done))))))))))))) (by kernel_rfl) (by kernel_rfl) (by kernel_rfl) (fun _ _ _ _ _ h => h) ?_
                intro Wz hWz
                iterate 13 (first
                  | (refine ordB_skip rfl rfl ?_; simp only [Act.put, List.setIfInBounds_toArray, List.set_cons_zero, List.set_cons_succ])
                  | (refine ordB_take (v := ?_) rfl rfl ?_ ?_
                     rotate_left 1
                     focus (intro W hW; obtain ⟨hcW, hfW⟩ := bcell hW; (go_simp <;> with_reducible rfl))
                     simp only [Act.put, List.setIfInBounds_toArray, List.set_cons_zero, List.set_cons_succ]))
                refine ordB_nil ?_
                have HO := Lib.hid (own_below HO.out hWz)
                have HB := Lib.hid (HB.out.below hWz HB.out.lt)
                have HBr := Lib.hid (HBr.out.trans (hWz.mono (by omega)))
                have e0 := ((bcell hWz).1 b _ hbb1).trans e0
                have e1 := ((bcell hWz).1 b _ hbb1).trans e1
                have d1 := ((bcell hWz).1 b _ hbb1).trans d1
                have g0 := ((bcell hWz).1 bG _ gl).trans g0
                have g1 := ((bcell hWz).1 bG _ gl).trans g1
                have s0 := ((bcell hWz).1 bR _ bl).trans s0
                have s1' := ((bcell hWz).1 bR _ bl).trans s1'
                have hbb1 := Nat.lt_of_lt_of_le hbb1 hWz.size
                have gl := Nat.lt_of_lt_of_le gl hWz.size
                have bl := Nat.lt_of_lt_of_le bl hWz.size
                have hbW := bthen hbW hWz
                clear hWz
                generalize Wz = W0 at *
                go_upto_region 17 with fail
                refine ordV_start (ButOwn v W0) (fun _ => True) [32] [(0, some false), (1, some false), (2, some false), (3, some false), (4, some false), (5, some false), (6, some false), (7, some false), (8, some false), (9, some false), (10, some false), (11, some false), (12, some false), (13, some false), (14, some false), (15, some false), (16, some false), (17, some false), (18, some false), (19, some false), (20, some false), (21, some false), (22, some false), (23, some false), (24, some false), (25, some false), (26, some false), (27, some false), (28, some false), (29, some true), (30, some true), (31, some false), (32, some true)] (by kernel_rfl) (by kernel_rfl) (by kernel_rfl) (fun _ _ _ _ _ h => h) trivial ?_
                have HD : Below W0.heap.size W0 W0.drew := (Below.refl _ _).drew
                obtain ⟨Wd, hWd⟩ : ∃ Wd, W0.drew = Wd := ⟨_, rfl⟩
                rw [hWd] at HD ⊢
                clear hWd
                have HS0 := ButOwn.of_below (v := v) HD
                iterate 29 (refine ordV_takeS (v := ?_) rfl rfl HS0 ?_ ?_; rotate_left 1; (focus (intro W hW; have hcW := hW.cell; (go_simp <;> (try with_reducible rfl)))); simp only [Act.put, List.setIfInBounds_toArray, List.set_cons_zero, List.set_cons_succ])
                refine ordV_call rfl rfl (fun K hK => ?_)
                go_simp
                have HD2 := HD.alloc HD.size (.cells #[.int .i64 xa, .int .i64 xb, .int .i64 0, .int .i64 0] 54)
                have HS1 := ButOwn.of_below (v := v) HD2
                refine hK.out _ _ trivial (fun _ _ => HS1) ?_
                clear hK K
                try simp only [Act.put, List.setIfInBounds_toArray, List.set_cons_zero, List.set_cons_succ]
                refine ordV_call rfl rfl (fun K hK => ?_)
                refine wp_appS (enc := encLk) (R := RLk) _ _ 28 rfl (bR + 1) 54 i0 _ 4 32 Try.underlying28 hi hz0 hz1 hz2 rfl (by decide) v _ _ rfl ((own_below HO.out HD).alloc _) (some ⟨Wd.heap.size, 0, none⟩) 1 [Lk.mk xa xb 0 0] rfl (slr_blk (enc := encLk) (Blk.new_ rfl) (fun _ => rfl) (fun _ => rfl)) (fun _ _ _ h => h) (fun _ => rfl) (fun u hu => by simp [encLk] at hu; rcases hu with rfl | rfl | rfl | rfl <;> rfl) (by simp; omega) (by decide) (by have := HD2.size; omega) ?_
                intro v4 w4 hown4 hb4 ha4
                have HS2 := HS1.apps hb4.size ha4
                refine hK.out _ _ trivial (fun _ _ => HS2) ?_
                clear hK K
                have hown5 : w4.ownsRow (bR + 1) 54 4 v4 (ks ++ [Lk.mk xa xb 0 0]).length ((ks ++ [Lk.mk xa xb 0 0]).flatMap encLk) := by rw [List.length_append, List.flatMap_append]; exact hown4
                obtain ⟨A9, c9, rfl, hc9, hcm9, _⟩ := own_slr (R := RLk) hown5 (fun _ => rfl) (fun _ => rfl) rfl
                have hB4 := ((HB.out.below HD HB.out.lt).alloc (.cells #[.int .i64 xa, .int .i64 xb, .int .i64 0, .int .i64 0] 54)).apps ha4 hvne
                have s2 := hB4.cell 1
                have sf2 := hB4.frozen 1
                have sl := hB4.lt
                simp at s2
                try simp only [Act.put, List.setIfInBounds_toArray, List.set_cons_zero, List.set_cons_succ]
                iterate 1 (refine ordV_takeS (v := ?_) rfl rfl HS2 ?_ ?_; rotate_left 1; (focus (intro W hW; have hcW := hW.cell; (go_simp <;> (try with_reducible rfl)))); simp only [Act.put, List.setIfInBounds_toArray, List.set_cons_zero, List.set_cons_succ])
                refine ordV_call rfl rfl (fun K hK => ?_)
                go_simp
                refine hK.out _ _ trivial (fun _ h => by cases h) ?_
                clear hK K
                refine ordV_nil ?_
                have hbE := (((HBr.out.trans (HD.mono (by omega))).alloc (by have := HBr.out.size; have := HD.size; omega) (.cells #[.int .i64 xa, .int .i64 xb, .int .i64 0, .int .i64 0] 54)).trans (hb4.mono (by omega))).setCell (p := ⟨bR, 1, none⟩) (Nat.le_refl _) (.slice A9 (ks ++ [Lk.mk xa xb 0 0]).length c9)
                have hBE := hB4.set_ 1 (.slice A9 (ks ++ [Lk.mk xa xb 0 0]).length c9)
                have hOE := own_set hown5 (a := ⟨bR, 1, none⟩) (fun e => by have := own_block_le hown5 _ e; simp at this; omega) (.slice A9 (ks ++ [Lk.mk xa xb 0 0]).length c9)
                go_wp2_with fail
                go_roundw
                case rel =>
                  refine ⟨j + 1, .slice A9 (ks.length + 1) c9, ks ++ [Lk.mk xa xb 0 0], by omega, by go_num, ?_, by simp; omega, by simpa using hOE, by simpa using hBE, by simpa using hbE⟩
                  show _ = _
                  rw [restTo_succ HLJ.out, if_pos (by rw [HFJ.out]; exact hge), HK.out]
                  unfold bareL
                  rw [HFJ.out, HTJ.out, HXA.out, HXB.out]
                case measure => simp [intOf]; omega
              · have hge2 : fj < (tt : Int) := by omega
                go_upto_region 16 with fail
                refine ordB_below (.quiet 0 (.quiet 1 (.quiet 2 (.quiet 3 (.quiet 4 (.quiet 5 (.quiet 6 (.quiet 7 (.quiet 8 (.quiet 9 (.quiet 10 (.quiet 11 (.quiet 12 .done))))))))))))) (by kernel_rfl) (by kernel_rfl) (by kernel_rfl) (fun _ _ _ _ _ h => h) ?_
                intro Wz hWz
                iterate 13 (first
                  | (refine ordB_skip rfl rfl ?_; simp only [Act.put, List.setIfInBounds_toArray, List.set_cons_zero, List.set_cons_succ])
                  | (refine ordB_take (v := ?_) rfl rfl ?_ ?_
                     rotate_left 1
                     focus (intro W hW; obtain ⟨hcW, hfW⟩ := bcell hW; (go_simp <;> with_reducible rfl))
                     simp only [Act.put, List.setIfInBounds_toArray, List.set_cons_zero, List.set_cons_succ]))
                refine ordB_nil ?_
                have HO := Lib.hid (own_below HO.out hWz)
                have HB := Lib.hid (HB.out.below hWz HB.out.lt)
                have HBr := Lib.hid (HBr.out.trans (hWz.mono (by omega)))
                have e0 := ((bcell hWz).1 b _ hbb1).trans e0
                have e1 := ((bcell hWz).1 b _ hbb1).trans e1
                have d1 := ((bcell hWz).1 b _ hbb1).trans d1
                have g0 := ((bcell hWz).1 bG _ gl).trans g0
                have g1 := ((bcell hWz).1 bG _ gl).trans g1
                have s0 := ((bcell hWz).1 bR _ bl).trans s0
                have s1' := ((bcell hWz).1 bR _ bl).trans s1'
                have hbb1 := Nat.lt_of_lt_of_le hbb1 hWz.size
                have gl := Nat.lt_of_lt_of_le gl hWz.size
                have bl := Nat.lt_of_lt_of_le bl hWz.size
                have hbW := bthen hbW hWz
                clear hWz
                generalize Wz = W0 at *
                go_wp2_with fail
                go_roundw
                case rel =>
                  refine ⟨j + 1, v, ks, by omega, by go_num, ?_, by omega, HO.out, HB.out, HBr.out⟩
                  show _ = _
                  rw [restTo_succ HLJ.out, if_neg (by rw [HFJ.out]; omega)]
                  exact HK.out
                case measure => simp [intOf]; omega
            · obtain rfl : j = g.ls.length := by omega
              obtain ⟨A9, c9, rfl, hc9, hcm9, hs9⟩ := own_slr (R := RLk) hown (fun _ => rfl) (fun _ => rfl) rfl
              have hks : ks.length = (restTo (bareL (tt : Int)) (tt : Int) g.ls g.ls.length).length := by rw [HK.out]
              have hsk : SlR 4 RLk wv A9 (restTo (bareL (tt : Int)) (tt : Int) g.ls g.ls.length) := by have h := HK.out; rw [← h]; exact hs9
              have HR2 := Lib.hid (HR1.out A9 c9 ks.length wv htN HRN.out hks hsk)
              have HBW2 := Lib.hid hbW
              have hb3v : Below W3.heap.size W3 wv := (bthen HBR3.out hb12).trans (hbv.mono (by have := HBR3.out.size; omega))
              clear hks hsk hs9 hbW hbv hown hB
              go_wp2_with (go_at_call 21; go_loud (refine HR2.out.mono ?_; rintro e W18 ⟨rfl, hb18⟩))
              go_roundw
              case rel => exact ⟨i + 1, s + q, by omega, by go_num, by go_num, HS2, by omega, bthen hb3v hb18⟩
              case measure => simp [intOf]; omega
        · have hfzI : ¬ lk.fr = 0 := hfz
          have HS2 : Hid (headS g (i + 1) = s) := by show _ = _; rw [headS_succ hll, if_neg hfz, HS.out]
          obtain ⟨fi, hfi⟩ : ∃ fi, lk.fr = fi := ⟨_, rfl⟩
          rw [hfi] at d0 hfzI
          have hfz2 : (fi == 0) = false := by simp; exact hfzI
          clear hll hok hfi hfz hflt hf0 htt
          go_wp2_with fail
          go_roundw
          case rel => exact ⟨i + 1, s, by omega, by go_num, rfl, HS2, by omega, hbr⟩
          case measure => simp [intOf]; omega
      · obtain rfl : i = g.ls.length := by omega
        have hbE := bthen HBW.out hb0
        by_cases hN1 : N = 1
        · have hK1 := HONE.out hN1
          subst hK1
          subst hN1
          go_wp2_with fail
          go_ret
          exact ⟨rfl, hbE⟩
        · have hsK : s = K := by rw [← HS.out]; exact HALL.out (by omega)
          have hN1z : ((N : Int) == 1) = false := by simp; omega
          have hN2 : 1 < N := by omega
          have hN2I : (1 : Int) < (N : Int) := by omega
          subst hsK
          go_wp2_with fail
          go_ret
          exact ⟨rfl, hbE⟩
end Go.Proofs.Ytbikjmafddndpaa
