/-
  The law ProofBeginnings: for all inputs it returns true.
-/
import Derived.Test.YtaohbicjdmogkaaGrWalkN
import Derived.Test.YtaohbicjdmogkaaGrLess
import Derived.Test.YtaohbicjdmogkaaGrWalkD
import Derived.Deep.DeepCutAuto
namespace Go.Proofs.Ytaohbicjdmogkaa
open Go Go.RowKit

set_option maxRecDepth 100000 in
set_option maxHeartbeats 16000000 in
theorem proofBeginnings_any (A : Option Addr) (l : List T3) (c : Nat) (x a pa pb : Int) (w : World) (hs : SlR 3 RT3 w A l) (hl : l.length ≤ maxLen) (hok : ∀ p ∈ l, T3OK p) (hx : 0 ≤ x ∧ x ≤ 255) (ha : 0 ≤ a ∧ a ≤ 255) (hpa : 0 ≤ pa ∧ pa ≤ 255) (hpb : 0 ≤ pb ∧ pb ≤ 255) :
    Calls Try.prog 6 #[.agg #[.int .u8 x, .slice A l.length c], .int .u8 a, .agg #[.int .u8 pa, .int .u8 pb]] w fun e w' => e = .returned (.bool true) ∧ Below w.heap.size w w' := by
  obtain ⟨i0, hi0, hz0, hz1, hz2⟩ := info_parts can_info
  obtain ⟨w1, hw1⟩ : ∃ w1, ((w.alloc (.cells #[.int .u8 x, .slice A l.length c] 24)).alloc (.cells #[.int .u8 pa, .int .u8 pb] 54)) = w1 := ⟨_, rfl⟩
  have hb1 : Below w.heap.size w w1 := by rw [← hw1]; exact nw _ (nw _ (Below.refl _ _))
  have hX0 : Blk w1 (w.heap.size) 24 #[.int .u8 x, .slice A l.length c] := by rw [← hw1]; exact (Blk.new _ _ _).alloc _
  have hX1 : Blk w1 (w.heap.size + 1) 54 #[.int .u8 pa, .int .u8 pb] := by rw [← hw1]; exact Blk.new_ (by simp)
  have HW1 := Lib.hid hw1
  have HMD : Hid (∀ W, Below w.heap.size w W → Calls Try.prog 9 #[.agg #[.int .u8 x, .slice A l.length c]] W fun e w' => ∃ A' c', e = .returned (.agg #[.int .i64 (madeG x l).n, .slice A' (madeG x l).ls.length c']) ∧ (madeG x l).ls.length ≤ c' ∧ c' ≤ maxLen ∧ SlR 4 RLk w' A' (madeG x l).ls ∧ Below W.heap.size W w') :=
    fun W hW => made_any A l c x W (hs.below keeps_t3 hW) hl hx hok
  have hg : GrOK (madeG x l) := madeG_ok hok
  have h14 : (madeG x l).ls.length ≤ 14 := madeG_len x l
  have hn7 : 1 ≤ (madeG x l).n ∧ (madeG x l).n ≤ 7 := madeG_n x l
  generalize madeG x l = g at *
  obtain ⟨N, hN⟩ : ∃ N : Nat, g.n = (N : Int) := ⟨g.n.toNat, by omega⟩
  rw [hN] at HMD
  have HN := Lib.hid hN
  have HG := Lib.hid hg
  have hN1 : 1 ≤ N := by omega
  have hN7 : N ≤ 7 := by omega
  have hlt1 := hX0.lt
  clear hw1 hs hok hN hg hn7
  have hbx0 := hX0.cell 0
  have hbx1 := hX0.cell 1
  simp at hbx0 hbx1
  go_enter Try.func6, Try.ntmps6
  go_upto_region 1 with fail
  rw [HW1.out]
  go_upto_region 2 with (go_at_call 8; go_loud (refine (sanity_any _).mono ?_; rintro e w2 ⟨rfl, hb2⟩))
  have hX0 := hX0.below hb2 hX0.lt
  have hX1 := hX1.below hb2 hX1.lt
  have hbx0 := hX0.cell 0
  have hbx1 := hX0.cell 1
  simp at hbx0 hbx1
  have hbw2 := bthen hb1 hb2
  go_upto_region 3 with (go_at_call 9; go_loud (refine (HMD.out _ hbw2).mono ?_; rintro e w3 ⟨A3, c3, rfl, hc3, hcm3, hs3, hb3⟩))
  obtain ⟨W, hW⟩ : ∃ W, w3.alloc (.cells #[.int .i64 (N : Int), .slice A3 g.ls.length c3] 31) = W := ⟨_, rfl⟩
  have hb4 : Below w3.heap.size w3 W := by rw [← hW]; exact nw _ (Below.refl _ _)
  have hGB : Blk W w3.heap.size 31 #[.int .i64 (N : Int), .slice A3 g.ls.length c3] := by rw [← hW]; exact Blk.new _ _ _
  rw [hW]
  obtain ⟨bG, hbG⟩ : ∃ b, w3.heap.size = b := ⟨_, rfl⟩
  have hb34 := bthen hb3 hb4
  have hX0 := hX0.below hb34 hX0.lt
  have hX1 := hX1.below hb34 hX1.lt
  have hbw := bthen hbw2 hb34
  have hls := hs3.below keeps_lk hb4
  have hwG : w.heap.size ≤ bG := by have := hbw2.size; have := hb3.size; omega
  rw [hbG] at hGB ⊢
  have hlm : g.ls.length ≤ maxLen := by unfold maxLen; omega
  clear hbx0 hbx1 hW hbG hb4 hb34 hbw2 hb2 hb3 hs3 hb1 HMD HW1

  have hpl : (potL g).length = N := by have := potL_len HG.out; have := HN.out; omega
  have hgn : g.n = (N : Int) := HN.out
  have HPO : Hid (∀ W', Below W.heap.size W W' → Calls Try.prog 11 #[(.agg #[.int .i64 (N : Int), .slice A3 g.ls.length c3])] W' fun e w' => ∃ A' c', e = .returned (.tuple #[.slice A' N c', .int .i64 0]) ∧ SlR 1 RInt w' A' (potL g) ∧ Below W'.heap.size W' w' ∧ N ≤ c' ∧ c' ≤ maxLen) := fun W' hW' => by
    have h := refpot_any A3 c3 g W' (hls.below keeps_lk hW') hlm
    rw [show potsOf g = (potL g, 0) by unfold potsOf; rw [grB_iff.2 HG.out]; rfl, hgn] at h
    dsimp only at h
    rw [hpl] at h
    exact h
  obtain ⟨q, hq⟩ : ∃ q : Nat, a % 13 = (q : Int) := ⟨(a % 13).toNat, by omega⟩
  have hq13 : q < 13 := by omega
  have htq : a.tmod 13 = (q : Int) := by rw [Int.tmod_eq_emod_of_nonneg ha.1]; exact hq
  have hwq : IntKind.i64.wrap (q : Int) = (q : Int) := IntWalk.i64_in _ (by omega)
  have HFI : Hid (∀ W', Below W.heap.size W W' → Calls Try.prog 15 #[(.agg #[.int .i64 (N : Int), .slice A3 g.ls.length c3]), .int .i64 (q : Int)] W' (IsPage ((allC g).take (min q (allC g).length)) (decide (min q (allC g).length = (allC g).length)) W')) := fun W' hW' => first_any A3 c3 g N q W' (hls.below keeps_lk hW') HG.out HN.out (by omega)
  have HCH : Hid (∀ (W' : World) (H : Option Addr) (ch : Nat) (P : Option Addr) (L : List Can) (cp : Nat) (b : Bool), Below W.heap.size W W' → SlR 1 RInt W' H (potL g) → SlR 2 RCan W' P L → L.length ≤ 2000 → L.length ≤ cp →
      Calls Try.prog 16 #[(.agg #[.int .i64 (N : Int), .slice A3 g.ls.length c3]), .slice H N ch, .agg #[.slice P L.length cp, .bool b]] W' fun r w' => r = .returned (.tuple #[.int .i64 (checkM g L b).1, .int .i64 (checkM g L b).2]) ∧ Below W'.heap.size W' w') :=
    fun W' H ch P L cp b hW' h1 h3 h4 h5 => by
      have h := check_any A3 c3 g H (potL g) ch P L cp b W' (hls.below keeps_lk hW') hlm h1 (by rw [hpl]; unfold maxLen; omega) h3 (by omega) h5
      rw [hgn, hpl, checkAll_pot HG.out] at h
      exact h
  have hGl := hGB.lt
  have g0 := hGB.cell 0
  have g1 := hGB.cell 1
  have wx0 := hX1.cell 0
  have wx1 := hX1.cell 1
  simp at g0 g1 wx0 wx1
  clear hpl hgn hlm hq
  go_upto_region 4 with (go_at_call 11; go_loud (refine (HPO.out _ (Below.refl _ _)).mono ?_; rintro e w5 ⟨Ah, ch, rfl, hh5, hb5, hch, hchm⟩))
  have hG5 := hGB.below hb5 hGl
  have hX5 := hX1.below hb5 hX1.lt
  have g0 := hG5.cell 0
  have g1 := hG5.cell 1
  simp at g0 g1
  have hlen := allC_len g
  obtain ⟨K, hK⟩ : ∃ K, min q (allC g).length = K := ⟨_, rfl⟩
  have hKl : K ≤ (allC g).length := by omega
  have hK12 : K ≤ 12 := by omega
  rw [hK] at HFI
  have HFC : Hid (∀ (k : Nat) b, k ≤ K → checkM g ((allC g).take k) b = if b = decide (k = (allC g).length) then ((k : Int), 0) else ((k : Int), 160)) := fun k b hk => first_check HG.out h14 (by omega) b
  have HLE : Hid (∀ (m : Nat) b, m + 1 < K → checkM g (((allC g).take K).take m ++ ((allC g).take K).drop (m + 1)) b = ((m : Int), 160)) := fun m b hm => less_check HG.out h14 hKl hm b
  have htk : ((allC g).take K).length = K := by rw [List.length_take]; omega
  have HTK := Lib.hid htk
  generalize hLe : (allC g).take K = L at *
  have HLE0 := Lib.hid hLe
  have hLK : L.length ≤ 2000 := by omega
  clear hlen htk
  go_upto_region 5 with (go_at_call 15; go_loud (refine (HFI.out _ hb5).mono ?_; rintro e w6 ⟨Ap, cp, ms, rfl, hsp, hmsp, HMX, hcp, hcpm, hb6⟩))
  rw [HTK.out]
  rw [HTK.out] at hcp
  obtain ⟨wh, hwh⟩ : ∃ b, decide (K = (allC g).length) = b := ⟨_, rfl⟩
  have HWH := Lib.hid hwh
  rw [hwh]
  obtain ⟨w7, hw7⟩ : ∃ W, w6.alloc (.cells #[.slice Ap K cp, .bool wh] 44) = W := ⟨_, rfl⟩
  have hb7 : Below w6.heap.size w6 w7 := by rw [← hw7]; exact nw _ (Below.refl _ _)
  have hP7 : Blk w7 w6.heap.size 44 #[.slice Ap K cp, .bool wh] := by rw [← hw7]; exact Blk.new _ _ _
  rw [hw7]
  obtain ⟨bP, hbP⟩ : ∃ b, w6.heap.size = b := ⟨_, rfl⟩
  rw [hbP] at hP7 ⊢
  have hb57 := bthen hb6 hb7
  have hG7 := hG5.below hb57 hG5.lt
  have hX7 := hX5.below hb57 hX5.lt
  have hh7 := hh5.below keeps_int hb57
  have hbW7 := bthen hb5 hb57
  have hs7 := hsp.below keeps_mc hb7
  have hm7 := hmsp.below hb7
  have HKEEP : Hid (∀ W', Below w7.heap.size w7 W' → W'.cell? ⟨bG, 0, none⟩ = some (.int .i64 (N : Int)) ∧ W'.cell? ⟨bG, 1, none⟩ = some (.slice A3 g.ls.length c3) ∧ W'.cell? ⟨bP, 0, none⟩ = some (.slice Ap K cp) ∧ W'.cell? ⟨bP, 1, none⟩ = some (.bool wh) ∧ bG < W'.heap.size ∧ bP < W'.heap.size ∧ W'.cell? ⟨w.heap.size + 1, 0, none⟩ = some (.int .u8 pa) ∧ W'.cell? ⟨w.heap.size + 1, 1, none⟩ = some (.int .u8 pb)) := fun W' hW' => by
    have h1 := hG7.below hW' hG7.lt
    have h2 := hP7.below hW' hP7.lt
    have h3 := hX7.below hW' hX7.lt
    have e0 := h1.cell 0
    have e1 := h1.cell 1
    have e2 := h2.cell 0
    have e3 := h2.cell 1
    have e4 := h3.cell 0
    have e5 := h3.cell 1
    simp at e0 e1 e2 e3 e4 e5
    exact ⟨e0, e1, e2, e3, h1.lt, h2.lt, e4, e5⟩
  have HBE : Hid (∀ W', Below w7.heap.size w7 W' → Below w.heap.size w W') := fun W' hW' => hbw.trans ((bthen hbW7 hW').mono hbw.size)
  have HCA : Hid (∀ (W' : World) (P : Option Addr) (M : List Can) (k cp : Nat) (b : Bool), Below w7.heap.size w7 W' → SlR 2 RCan W' P M → M.length = k → k ≤ 2000 → k ≤ cp →
      Calls Try.prog 16 #[(.agg #[.int .i64 (N : Int), .slice A3 g.ls.length c3]), .slice Ah N ch, .agg #[.slice P k cp, .bool b]] W' fun r w' => r = .returned (.tuple #[.int .i64 (checkM g M b).1, .int .i64 (checkM g M b).2]) ∧ Below W'.heap.size W' w') := fun W' P M k cp b hW' h1 h2 h3 h4 => by
    subst h2
    exact HCH.out W' Ah ch P M cp b (bthen hbW7 hW') (hh7.below keeps_int hW') h1 h3 h4
  obtain ⟨k, hk⟩ : ∃ k : Nat, pa % ((K : Int) + 1) = (k : Int) := ⟨(pa % ((K : Int) + 1)).toNat, by have := Int.emod_nonneg pa (show (K : Int) + 1 ≠ 0 by omega); omega⟩
  have hkK : k ≤ K := by have := Int.emod_lt_of_pos pa (show (0 : Int) < (K : Int) + 1 by omega); omega
  have htk : pa.tmod ((K : Int) + 1) = (k : Int) := by rw [Int.tmod_eq_emod_of_nonneg hpa.1]; exact hk
  have hwp : IntKind.i64.wrap pa = pa := IntWalk.i64_in _ (by omega)
  have hwK : IntKind.i64.wrap ((K : Int) + 1) = (K : Int) + 1 := IntWalk.i64_in _ (by omega)
  have hKz : ¬ (K : Int) + 1 = 0 := by omega
  have HS7 := Lib.hid hs7
  have HM7 := Lib.hid hm7
  clear hw7 hbP hb57 hb7 hb6 hsp hmsp hG5 hh5 hGB hX5 hK hwh hk hLe hG7 hP7 hX7 HCH HPO HFI hbW7 hh7
  obtain ⟨g0, g1, p0, p1, gl, pl, x0, x1⟩ := HKEEP.out w7 (Below.refl _ _)
  obtain ⟨bb, hbb⟩ : ∃ b, decide (k < K) = b := ⟨_, rfl⟩
  have HBB := Lib.hid hbb
  go_upto_if 46 with fail
  clear hbb
  go_cut [7] (fun s7 W' => s7 = .bool true ∧ Below w7.heap.size w7 W')
  case first =>
    cases bb with
    | true =>
      have hkK2 : k < K := of_decide_eq_true HBB.out
      have hkc : k ≤ cp := by omega
      have hkc' : (k : Int) ≤ (cp : Int) := by omega
      have hkL' : (k : Int) ≤ (K : Int) := by omega
      have hLt : (L.take k).length = k := by rw [List.length_take, HTK.out]; omega
      have hck : ∀ b, checkM g (L.take k) b = if b = false then ((k : Int), 0) else ((k : Int), 160) := fun b => by
        have h := HFC.out k b (by omega)
        rw [decide_eq_false (show ¬ k = (allC g).length by omega)] at h
        rw [← HLE0.out, List.take_take, Nat.min_eq_left (by omega)]
        exact h
      have HC7 : Hid (∀ W', Below w7.heap.size w7 W' → Calls Try.prog 16 #[(.agg #[.int .i64 (N : Int), .slice A3 g.ls.length c3]), .slice Ah N ch, .agg #[.slice Ap k cp, .bool false]] W' fun r w' => r = .returned (.tuple #[.int .i64 (k : Int), .int .i64 0]) ∧ Below W'.heap.size W' w') := fun W' hW' => by
        have h := HCA.out W' Ap (L.take k) k cp false hW' (by have := mc_can (HS7.out.below keeps_mc hW') (HM7.out.below hW'); rw [HMX.out] at this; exact slr_pre this k) hLt (by omega) hkc
        rw [hck, if_pos rfl] at h
        exact h
      have HC8 : Hid (∀ W', Below w7.heap.size w7 W' → Calls Try.prog 16 #[(.agg #[.int .i64 (N : Int), .slice A3 g.ls.length c3]), .slice Ah N ch, .agg #[.slice Ap k cp, .bool true]] W' fun r w' => r = .returned (.tuple #[.int .i64 (k : Int), .int .i64 160]) ∧ Below W'.heap.size W' w') := fun W' hW' => by
        have h := HCA.out W' Ap (L.take k) k cp true hW' (by have := mc_can (HS7.out.below keeps_mc hW') (HM7.out.below hW'); rw [HMX.out] at this; exact slr_pre this k) hLt (by omega) hkc
        rw [hck, if_neg (by decide)] at h
        exact h
      clear hkK2 hck hLt
      go_upto_region 7 with fail
      refine ordB_below (.quiet 0 (.quiet 1 (.quiet 2 (.quiet 3 (.quiet 4 (.quiet 5 (.quiet 6 (.only 7 (.quiet 8 (.quiet 9 (.quiet 10 (.quiet 11 (.quiet 12 .done))))))))))))) (by kernel_rfl) (by kernel_rfl) (by kernel_rfl) (fun _ _ _ _ _ h => h) ?_
      intro V0 hV0
      iterate 7 (first
        | (refine ordB_skip rfl rfl ?_; simp only [Act.put, List.setIfInBounds_toArray, List.set_cons_zero, List.set_cons_succ])
        | (refine ordB_take (v := ?_) rfl rfl ?_ ?_
           rotate_left 1
           focus (intro W hW; obtain ⟨hcW, hfW⟩ := bcell hW; (go_simp <;> with_reducible rfl))
           simp only [Act.put, List.setIfInBounds_toArray, List.set_cons_zero, List.set_cons_succ]))
      refine ordB_only (opB_call rfl rfl (fun K hK => ?_))
      go_simp
      go_at_call 16
      refine (HC7.out V0 hV0).mono ?_
      rintro e V0_1 ⟨rfl, hb9⟩
      refine hK.out _ _ (hV0.trans (hb9.mono hV0.size)) (fun hV0_1 => ?_)
      iterate 5 (first
        | (refine ordB_skip rfl rfl ?_; simp only [Act.put, List.setIfInBounds_toArray, List.set_cons_zero, List.set_cons_succ])
        | (refine ordB_take (v := ?_) rfl rfl ?_ ?_
           rotate_left 1
           focus (intro W hW; obtain ⟨hcW, hfW⟩ := bcell hW; (go_simp <;> with_reducible rfl))
           simp only [Act.put, List.setIfInBounds_toArray, List.set_cons_zero, List.set_cons_succ]))
      refine ordB_nil ?_
      obtain ⟨g0, g1, p0, p1, gl, pl, x0, x1⟩ := HKEEP.out V0_1 hV0_1
      have HB7 := Lib.hid hV0_1
      go_upto_region 8 with fail
      refine ordB_below (.quiet 0 (.quiet 1 (.quiet 2 (.quiet 3 (.quiet 4 (.quiet 5 (.quiet 6 (.only 7 (.quiet 8 (.quiet 9 (.quiet 10 (.quiet 11 (.quiet 12 .done))))))))))))) (by kernel_rfl) (by kernel_rfl) (by kernel_rfl) (fun _ _ _ _ _ h => h) ?_
      intro V1 hV1
      iterate 7 (first
        | (refine ordB_skip rfl rfl ?_; simp only [Act.put, List.setIfInBounds_toArray, List.set_cons_zero, List.set_cons_succ])
        | (refine ordB_take (v := ?_) rfl rfl ?_ ?_
           rotate_left 1
           focus (intro W hW; obtain ⟨hcW, hfW⟩ := bcell hW; (go_simp <;> with_reducible rfl))
           simp only [Act.put, List.setIfInBounds_toArray, List.set_cons_zero, List.set_cons_succ]))
      refine ordB_only (opB_call rfl rfl (fun K hK => ?_))
      go_simp
      go_at_call 16
      refine (HC8.out V1 (bthen HB7.out hV1)).mono ?_
      rintro e V1_1 ⟨rfl, hb9⟩
      refine hK.out _ _ (hV1.trans (hb9.mono hV1.size)) (fun hV1_1 => ?_)
      iterate 5 (first
        | (refine ordB_skip rfl rfl ?_; simp only [Act.put, List.setIfInBounds_toArray, List.set_cons_zero, List.set_cons_succ])
        | (refine ordB_take (v := ?_) rfl rfl ?_ ?_
           rotate_left 1
           focus (intro W hW; obtain ⟨hcW, hfW⟩ := bcell hW; (go_simp <;> with_reducible rfl))
           simp only [Act.put, List.setIfInBounds_toArray, List.set_cons_zero, List.set_cons_succ]))
      refine ordB_nil ?_
      have hE8 := bthen HB7.out hV1_1
      go_wp2_with fail
      go_meet
      exact ⟨rfl, hE8⟩
    | false =>
      go_wp2_with fail
      go_meet
      exact ⟨rfl, Below.refl _ _⟩
  case rest =>
    obtain ⟨w8, rfl⟩ : ∃ W, W = wc := ⟨wc, rfl⟩
    obtain ⟨rfl, hb8⟩ := hcut
    obtain ⟨g0, g1, p0, p1, gl, pl, x0, x1⟩ := HKEEP.out w8 hb8
    by_cases hK2 : K < 2
    · have z1 : decide (K < 2) = true := decide_eq_true hK2
      have hE := HBE.out w8 hb8
      have hK2i : (K : Int) < 2 := by omega
      go_wp2_with fail
      go_ret
      exact ⟨rfl, hE⟩
    · have z1 : decide (K < 2) = false := decide_eq_false hK2
      obtain ⟨m, hm⟩ : ∃ m : Nat, pb % ((K : Int) - 1) = (m : Int) := ⟨(pb % ((K : Int) - 1)).toNat, by have := Int.emod_nonneg pb (show (K : Int) - 1 ≠ 0 by omega); omega⟩
      have hmK : m + 1 < K := by have := Int.emod_lt_of_pos pb (show (0 : Int) < (K : Int) - 1 by omega); omega
      have htm : pb.tmod ((K : Int) - 1) = (m : Int) := by rw [Int.tmod_eq_emod_of_nonneg hpb.1]; exact hm
      have htm2 : pb % ((K : Int) - 1) = (m : Int) := hm
      have hwp2 : IntKind.i64.wrap pb = pb := IntWalk.i64_in _ (by omega)
      have hwK2 : IntKind.i64.wrap ((K : Int) - 1) = (K : Int) - 1 := IntWalk.i64_in _ (by omega)
      have hKz2 : ¬ (K : Int) - 1 = 0 := by omega
      have hwm : IntKind.i64.wrap ((m : Int) + 1) = (m : Int) + 1 := IntWalk.i64_in _ (by omega)
      have hmc : m ≤ cp := by omega
      have hmc' : (m : Int) ≤ (cp : Int) := by omega
      have hmc2 : m + 1 ≤ cp := by omega
      have hmc2' : (m : Int) + 1 ≤ (cp : Int) := by omega
      have hmK' : (m : Int) ≤ (K : Int) := by omega
      have hmK2' : (m : Int) + 1 ≤ (K : Int) := by omega
      have hmK2n : m + 1 ≤ K := by omega
      have hmsl : ms.length = K := by have := congrArg List.length HMX.out; rw [List.length_map, HTK.out] at this; exact this
      have HMSL := Lib.hid hmsl
      have hs8 := HS7.out.below keeps_mc hb8
      obtain ⟨ba, oa, hAp, _⟩ := hs8 (by intro e; rw [e] at hmsl; simp at hmsl; omega)
      subst hAp
      have HS8 := Lib.hid hs8
      have hlt8 : ba < w8.heap.size := by obtain ⟨b', o', e, h, _⟩ := hs8 (by intro e; rw [e] at hmsl; simp at hmsl; omega); injection e with e; injection e with e; omega
      have HB8 := Lib.hid hb8
      have hK2i : ¬ (K : Int) < 2 := by omega
      clear hm hmsl hs8 hb8
      go_upto_region 14 with fail
      obtain ⟨W6, hW6⟩ : ∃ W, w8.alloc (.cells #[] 60) = W := ⟨_, rfl⟩
      have hb6 : Below w8.heap.size w8 W6 := by rw [← hW6]; exact nw _ (Below.refl _ _)
      have ho6 : W6.ownsRow w8.heap.size 60 2 (.slice (some ⟨w8.heap.size, 0, none⟩) 0 0) 0 [] := by rw [← hW6]; exact own_empty w8 _ 2 _ (Nat.le_refl _)
      have hs6 := slr_preS (HS8.out.below keeps_mc hb6) m
      have htl6 : (ms.take m).length = m := by rw [List.length_take, HMSL.out]; omega
      have HTL6 := Lib.hid htl6
      have hs56 := hb6.size
      have HB6 := Lib.hid hb6
      obtain ⟨_, _, p0', _, _, _, _, _⟩ := HKEEP.out W6 (bthen HB8.out hb6)
      clear htl6 hb6
      go_upto_region 15 with (at_builtin; go_loud (refine wpList_appS (enc := encMc) (R := RMc) rfl _ _ 42 rfl w8.heap.size 60 i0 _ 2 32 Try.underlying42 hi0 hz0 hz1 hz2 rfl (by decide) (.slice (some ⟨w8.heap.size, 0, none⟩) 0 0) 0 [] rfl ho6 (some ⟨ba, oa, none⟩) cp (ms.take m) (by rw [HTL6.out]; rfl) hs6 (fun _ _ _ h => h) (fun _ => rfl) (fun u hu => one_mc hu) (by rw [HTL6.out]; omega) (by decide) hs56 ?_; intro v7 W7 h71 h72 h73))
      have h71' : W7.ownsRow w8.heap.size 60 2 v7 (ms.take m).length ((ms.take m).flatMap encMc) := by simpa using h71
      have hb57 : Below w8.heap.size w8 W7 := HB6.out.trans h72
      have hs57 := hb57.size
      have hs7 := HS8.out.below keeps_mc hb57
      have HEX : Hid (∃ A', (if cp = m + 1 then some (Addr.mk ba oa none) else some (Addr.mk ba (oa + (m + 1) * 2) none)) = A' ∧ SlR 2 RMc W7 A' (ms.drop (m + 1))) := by
        show ∃ _, _
        by_cases hct : cp = m + 1
        · refine ⟨_, rfl, ?_⟩
          rw [List.drop_eq_nil_of_le (by rw [HMSL.out]; omega)]
          exact SlR.nil
        · refine ⟨_, rfl, ?_⟩
          rw [if_neg hct]
          exact slr_dropS hs7 (m + 1)
      obtain ⟨A', hA', hsA⟩ := HEX.out
      have hdl : (ms.drop (m + 1)).length = K - (m + 1) := by rw [List.length_drop, HMSL.out]
      have HDL := Lib.hid hdl
      have HB87 := Lib.hid (bthen HB8.out hb57)
      have HB57 := Lib.hid hb57
      obtain ⟨_, _, p0'', _, _, _, _, _⟩ := HKEEP.out W7 (bthen HB8.out hb57)
      have HM8 := Lib.hid (HM7.out.below (bthen HB8.out hb57))
      clear h71 h72 h73 hb57 hs7 hdl HEX ho6 hs6 p0'
      go_upto_region 16 with (at_builtin; go_loud (refine wpList_appS (enc := encMc) (R := RMc) rfl _ _ 42 rfl w8.heap.size 60 i0 _ 2 32 Try.underlying42 hi0 hz0 hz1 hz2 rfl (by decide) v7 _ _ rfl h71' A' (cp - (m + 1)) (ms.drop (m + 1)) (by rw [HDL.out]; rfl) hsA (fun _ _ _ h => h) (fun _ => rfl) (fun u hu => one_mc hu) (by rw [HTL6.out, HDL.out]; omega) (by decide) hs57 ?_; intro v9 W9 h91 h92 h93))
      have h91' : W9.ownsRow w8.heap.size 60 2 v9 (ms.take m ++ ms.drop (m + 1)).length ((ms.take m ++ ms.drop (m + 1)).flatMap encMc) := by rw [List.length_append, List.flatMap_append]; exact h91
      obtain ⟨A9, c9, rfl, hc9, hcm9, hs9⟩ := own_slr (R := RMc) h91' (fun _ => rfl) (fun _ => rfl) rfl
      have hb79 : Below w7.heap.size w7 W9 := HB8.out.trans ((HB57.out.trans h92).mono HB8.out.size)
      have hb59 : Below w8.heap.size w8 W9 := HB57.out.trans h92
      have hms9 : MsOK W9 (ms.take m ++ ms.drop (m + 1)) := (HM7.out.below hb79).sub fun y hy => (List.mem_append.1 hy).elim List.mem_of_mem_take List.mem_of_mem_drop
      have hmap : (ms.take m ++ ms.drop (m + 1)).map (·.x) = L.take m ++ L.drop (m + 1) := by rw [List.map_append, List.map_take, List.map_drop, HMX.out]
      have hllen : (ms.take m ++ ms.drop (m + 1)).length ≤ 2000 := by rw [List.length_append, HTL6.out, HDL.out]; omega
      have HC9 : Hid (Calls Try.prog 16 #[(.agg #[.int .i64 (N : Int), .slice A3 g.ls.length c3]), .slice Ah N ch, .agg #[.slice A9 (ms.take m ++ ms.drop (m + 1)).length c9, .bool wh]] W9 fun r w' => r = .returned (.tuple #[.int .i64 (m : Int), .int .i64 160]) ∧ Below W9.heap.size W9 w') := by
        have h := HCA.out W9 A9 ((ms.take m ++ ms.drop (m + 1)).map (·.x)) (ms.take m ++ ms.drop (m + 1)).length c9 wh hb79 (mc_can hs9 hms9) (List.length_map _) hllen hc9
        rw [hmap] at h
        have h2 := HLE.out m wh hmK
        rw [h2] at h
        exact h
      obtain ⟨g0, g1, p0, p1, gl, pl, _, _⟩ := HKEEP.out W9 hb79
      have HB79 := Lib.hid hb79
      generalize (ms.take m ++ ms.drop (m + 1)).length = nl at *
      clear h91 h91' h92 h93 hs9 hms9 hmap hllen hb79 hb59 hA' hsA h71' p0''
      go_wp2_with (go_at_call 16; go_loud (refine HC9.out.mono ?_; rintro e w10 ⟨rfl, hb10⟩))
      go_ret
      exact ⟨rfl, HBE.out _ (bthen HB79.out hb10)⟩
end Go.Proofs.Ytaohbicjdmogkaa
