/-
  The law BestOrders: for all inputs it returns true.
-/
import Derived.Test.YtbikjmafddndpaaBsLaw
import Derived.Test.YtbikjmafddndpaaBsWalkM
import Derived.Test.YtbikjmafddndpaaBsWalkN
import Derived.Deep.DeepCutAuto
namespace Go.Proofs.Ytbikjmafddndpaa
open Go Go.RowKit

set_option maxRecDepth 100000 in
set_option maxHeartbeats 16000000 in
theorem bestOrders_any (A : Option Addr) (l : List T3) (c : Nat) (x ka : Int) (C : Option Addr) (cs : List Int) (dc : Nat) (w : World) (hs : SlR 3 RT3 w A l) (hl : l.length ≤ maxLen) (hok : ∀ p ∈ l, T3OK p) (hx : 0 ≤ x ∧ x ≤ 255) (hka : 0 ≤ ka ∧ ka ≤ 255)
    (hcs : SlR 1 RU8 w C cs) (hcl : cs.length ≤ maxLen) (hc8 : ∀ x ∈ cs, 0 ≤ x ∧ x ≤ 255) :
    Calls Try.prog 4 #[.agg #[.int .u8 x, .slice A l.length c], .int .u8 ka, .slice C cs.length dc] w fun e w' => e = .returned (.bool true) ∧ Below w.heap.size w w' := by
  obtain ⟨w1, hw1⟩ : ∃ w1, (w.alloc (.cells #[.int .u8 x, .slice A l.length c] 24)) = w1 := ⟨_, rfl⟩
  have hb1 : Below w.heap.size w w1 := by rw [← hw1]; exact nw _ (Below.refl _ _)
  have hX0 : Blk w1 (w.heap.size) 24 #[.int .u8 x, .slice A l.length c] := by rw [← hw1]; exact Blk.new _ _ _
  have HW1 := Lib.hid hw1
  have HMD : Hid (∀ W, Below w.heap.size w W → Calls Try.prog 15 #[.agg #[.int .u8 x, .slice A l.length c]] W fun e w' => ∃ A' c', e = .returned (.agg #[.int .i64 (madeG x l).n, .slice A' (madeG x l).ls.length c']) ∧ (madeG x l).ls.length ≤ c' ∧ c' ≤ maxLen ∧ SlR 4 RLk w' A' (madeG x l).ls ∧ Below W.heap.size W w') :=
    fun W hW => made_any A l c x W (hs.below keeps_t3 hW) hl hx hok
  have hg : GrOK (madeG x l) := madeG_ok hok
  have h14 : (madeG x l).ls.length ≤ 14 := madeG_len x l
  have hn7 : 1 ≤ (madeG x l).n ∧ (madeG x l).n ≤ 7 := madeG_n x l
  generalize madeG x l = g at *
  obtain ⟨N, hN⟩ : ∃ N : Nat, g.n = (N : Int) := ⟨g.n.toNat, by omega⟩
  rw [hN] at HMD
  have HN := Lib.hid hN
  have HG := Lib.hid hg
  have hN1 : 1 ≤ N := by omega
  have hN7 : N ≤ 7 := by omega
  have hlt1 := hX0.lt
  clear hw1 hs hok hN hg hn7
  have hbx0 := hX0.cell 0
  have hbx1 := hX0.cell 1
  simp at hbx0 hbx1
  go_enter Try.func4, Try.ntmps4
  go_upto_region 1 with fail
  rw [HW1.out]
  go_upto_region 2 with (go_at_call 14; go_loud (refine (sanity15_any _).mono ?_; rintro e w2 ⟨rfl, hb2⟩))
  have hX0 := hX0.below hb2 hX0.lt
  have hbx0 := hX0.cell 0
  have hbx1 := hX0.cell 1
  simp at hbx0 hbx1
  have hbw2 := bthen hb1 hb2
  go_upto_region 3 with (go_at_call 15; go_loud (refine (HMD.out _ hbw2).mono ?_; rintro e w3 ⟨A3, c3, rfl, hc3, hcm3, hs3, hb3⟩))
  obtain ⟨W, hW⟩ : ∃ W, w3.alloc (.cells #[.int .i64 (N : Int), .slice A3 g.ls.length c3] 30) = W := ⟨_, rfl⟩
  have hb4 : Below w3.heap.size w3 W := by rw [← hW]; exact nw _ (Below.refl _ _)
  have hGB : Blk W w3.heap.size 30 #[.int .i64 (N : Int), .slice A3 g.ls.length c3] := by rw [← hW]; exact Blk.new _ _ _
  rw [hW]
  obtain ⟨bG, hbG⟩ : ∃ b, w3.heap.size = b := ⟨_, rfl⟩
  have hb34 := bthen hb3 hb4
  have hX0 := hX0.below hb34 hX0.lt
  have hbw := bthen hbw2 hb34
  have hls := hs3.below keeps_lk hb4
  have hwG : w.heap.size ≤ bG := by have := hbw2.size; have := hb3.size; omega
  rw [hbG] at hGB ⊢
  have hlm : g.ls.length ≤ maxLen := by unfold maxLen; omega
  clear hbx0 hbx1 hW hbG hb4 hb34 hbw2 hb2 hb3 hs3 hb1 HMD HW1

  obtain ⟨p, hp⟩ : ∃ q : Nat, ka % 21 = (q : Int) := ⟨(ka % 21).toNat, by omega⟩
  have hp50 : p ≤ 20 := by omega
  have htp : ka.tmod 21 = (p : Int) := by rw [Int.tmod_eq_emod_of_nonneg hka.1]; exact hp
  have hwa : IntKind.i64.wrap ka = ka := IntWalk.i64_in _ (by omega)
  have hwp : IntKind.i64.wrap (p : Int) = (p : Int) := IntWalk.i64_in _ (by omega)
  obtain ⟨L, hL⟩ : ∃ L, (allR g).take p = L := ⟨_, rfl⟩
  have HIL : Hid (IsList g p L) := by show IsList _ _ _; rw [← hL]; exact isList_take (allR_is HG.out h14) p
  have HLI : Hid (∀ W', Below W.heap.size W W' → Calls Try.prog 16 #[(.agg #[.int .i64 (N : Int), .slice A3 g.ls.length c3]), .int .i64 (p : Int)] W' (IsL L W')) := fun W' hW' => by
    have h := listR_any A3 c3 g p W' (hls.below keeps_lk hW') hlm HG.out h14 (by omega)
    rw [HN.out, hL] at h
    exact h
  have HRC : Hid (∀ W' B ls d, Below W.heap.size W W' → SlR 1 RInt W' B ls → ls.length ≤ maxLen → Calls Try.prog 19 #[(.agg #[.int .i64 (N : Int), .slice A3 g.ls.length c3]), .slice B ls.length d] W' fun e w' => e = .returned (.tuple #[.int .i64 (costM g ls).1, .bool (costM g ls).2]) ∧ Below W'.heap.size W' w') := fun W' B ls d hW' h1 h2 => by
    have h := refcost_any A3 c3 g B ls d W' (hls.below keeps_lk hW') hlm HG.out h1 h2
    rw [HN.out] at h
    exact h
  have HCH : Hid (∀ W', Below W.heap.size W W' → Calls Try.prog 25 #[(.agg #[.int .i64 (N : Int), .slice A3 g.ls.length c3]), .slice C cs.length dc] W' (IsChosen g W')) := fun W' hW' => chosen_any A3 c3 g N C cs dc W' (hls.below keeps_lk hW') hlm HG.out HN.out (hcs.below keeps_u8 (bthen hbw hW')) hcl hc8
  have hLp : L.length ≤ p := HIL.out.len
  have hLpI : (L.length : Int) ≤ (p : Int) := by omega
  have hz1 : decide (p < L.length) = false := decide_eq_false (by omega)
  have g0 := hGB.cell 0
  have g1 := hGB.cell 1
  have gl := hGB.lt
  simp at g0 g1
  have HBW := Lib.hid hbw
  clear hp hL hlm hcs hbw
  go_upto_region 5 with (go_at_call 16; go_loud (refine (HLI.out _ (Below.refl _ _)).mono ?_; rintro e W2 ⟨Aa, ca, rfl, hsa, hla, hma, hb2⟩))
  have HGB2 := Lib.hid (hGB.below hb2 gl)
  have HB2 := Lib.hid hb2
  have HSA := Lib.hid hsa
  clear g0 g1 gl hGB hb2 hsa
  go_wp2_with fail
  go_loopw [12] (fun iv wr => ∃ k : Nat, k ≤ L.length ∧ iv = .int .i64 (k : Int) ∧ Below W2.heap.size W2 wr) (fun iv _ => L.length - (intOf iv).toNat)
  case atStart => exact ⟨0, by omega, rfl, Below.refl _ _⟩
  case round =>
    obtain ⟨k, hk, rfl, hbr⟩ := hrel
    have hGr := HGB2.out.below hbr HGB2.out.lt
    have g0 := hGr.cell 0
    have g1 := hGr.cell 1
    have gl := hGr.lt
    simp at g0 g1
    have hbWr := bthen HB2.out hbr
    by_cases hlt : k < L.length
    · obtain ⟨b, off, y, A1, c1, rfl, hbb, hyy, y0, y1, hys, hyl, hym⟩ := (HSA.out.below keeps_can hbr).can hlt
      have hyc := HIL.out.can y (List.mem_of_getElem? hyy)
      have HCM : Hid (costM g y.links = (y.cost, true)) := by show _ = _; unfold costM; rw [if_pos hyc.1, ← hyc.2]
      have HYY := Lib.hid hyy
      have HR1 : Hid (∀ W', Below wr.heap.size wr W' → Calls Try.prog 19 #[(.agg #[.int .i64 (N : Int), .slice A3 g.ls.length c3]), .slice A1 y.links.length c1] W' fun e w' => e = .returned (.tuple #[.int .i64 y.cost, .bool true]) ∧ Below W'.heap.size W' w') := fun W' hW' => by
        have h := HRC.out W' A1 y.links c1 (bthen hbWr hW') (hys.below keeps_int hW') (by omega)
        rw [HCM.out] at h
        exact h
      have HYS := Lib.hid hys
      have hkI : (k : Int) < (L.length : Int) := by omega
      have hk0 : (0 : Int) ≤ (k : Int) := by omega
      have HGR := Lib.hid hGr
      clear hyy hyc hys
      go_upto_region 10 with fail
      refine ordB_below (.quiet 0 (.quiet 1 (.quiet 2 (.quiet 3 (.quiet 4 (.quiet 5 (.only 6 (.quiet 7 (.quiet 8 (.quiet 9 (.quiet 10 (.quiet 11 .done)))))))))))) (by kernel_rfl) (by kernel_rfl) (by kernel_rfl) (fun _ _ _ _ _ h => h) ?_
      intro V0 hV0
      iterate 6 (first
        | (refine ordB_skip rfl rfl ?_; simp only [Act.put, List.setIfInBounds_toArray, List.set_cons_zero, List.set_cons_succ])
        | (refine ordB_take (v := ?_) rfl rfl ?_ ?_
           rotate_left 1
           focus (intro W hW; obtain ⟨hcW, hfW⟩ := bcell hW; (go_simp <;> with_reducible rfl))
           simp only [Act.put, List.setIfInBounds_toArray, List.set_cons_zero, List.set_cons_succ]))
      refine ordB_only (opB_call rfl rfl (fun K hK => ?_))
      go_simp
      go_at_call 19
      refine (HR1.out _ hV0).mono ?_
      rintro e V0_1 ⟨rfl, hx6⟩
      refine hK.out _ _ (hV0.trans (hx6.mono hV0.size)) (fun hV0_1 => ?_)
      iterate 5 (first
        | (refine ordB_skip rfl rfl ?_; simp only [Act.put, List.setIfInBounds_toArray, List.set_cons_zero, List.set_cons_succ])
        | (refine ordB_take (v := ?_) rfl rfl ?_ ?_
           rotate_left 1
           focus (intro W hW; obtain ⟨hcW, hfW⟩ := bcell hW; (go_simp <;> with_reducible rfl))
           simp only [Act.put, List.setIfInBounds_toArray, List.set_cons_zero, List.set_cons_succ]))
      refine ordB_nil ?_
      have hb10 := hV0_1
      have hx0 := ((bcell hV0_1).1 b (off + k * 2) hbb).trans y0
      have hx1 := ((bcell hV0_1).1 b (off + k * 2 + 1) hbb).trans y1
      have hbb2 := Nat.lt_of_lt_of_le hbb hV0_1.size
      by_cases hk00 : k = 0
      · have zk : decide (0 < k) = false := decide_eq_false (by omega)
        have zk2 : (k : Int) ≤ 0 := by omega
        clear y0 y1 g0 g1 gl hV0_1 hk00
        generalize V0_1 = W9 at *
        go_upto_region 11 with fail
        refine ordB_below (.quiet 0 (.quiet 1 (.quiet 2 (.quiet 3 (.quiet 4 (.quiet 5 (.quiet 6 (.quiet 7 (.quiet 8 (.quiet 9 (.quiet 10 (.quiet 11 (.quiet 12 (.quiet 13 (.quiet 14 (.quiet 15 (.quiet 16 (.quiet 17 (.quiet 18 (.quiet 19 (.quiet 20 (.quiet 21 (.quiet 22 (.quiet 23 (.only 24 (.quiet 25 (.quiet 26 (.quiet 27 .done)))))))))))))))))))))))))))) (by kernel_rfl) (by kernel_rfl) (by kernel_rfl) (fun _ _ _ _ _ h => h) ?_
        intro U0 hU0
        iterate 24 (first
          | (refine ordB_skip rfl rfl ?_; simp only [Act.put, List.setIfInBounds_toArray, List.set_cons_zero, List.set_cons_succ])
          | (refine ordB_take (v := ?_) rfl rfl ?_ ?_
             rotate_left 1
             focus (intro W hW; obtain ⟨hcW, hfW⟩ := bcell hW; (go_simp <;> with_reducible rfl))
             simp only [Act.put, List.setIfInBounds_toArray, List.set_cons_zero, List.set_cons_succ]))
        refine ordB_only (opB_cskip rfl rfl hU0 ?_)
        simp only [Act.put, List.setIfInBounds_toArray, List.set_cons_zero, List.set_cons_succ]
        iterate 3 (first
          | (refine ordB_skip rfl rfl ?_; simp only [Act.put, List.setIfInBounds_toArray, List.set_cons_zero, List.set_cons_succ])
          | (refine ordB_take (v := ?_) rfl rfl ?_ ?_
             rotate_left 1
             focus (intro W hW; obtain ⟨hcW, hfW⟩ := bcell hW; (go_simp <;> with_reducible rfl))
             simp only [Act.put, List.setIfInBounds_toArray, List.set_cons_zero, List.set_cons_succ]))
        refine ordB_nil ?_
        go_wp2_with fail
        go_roundw
        case rel => exact ⟨k + 1, by omega, by go_num, (bthen (bthen hbr hb10) hU0)⟩
        case measure => simp [intOf]; omega
      · have zk : decide (0 < k) = true := decide_eq_true (by omega)
        have zk2 : (0 : Int) < (k : Int) := by omega
        obtain ⟨km, hkm⟩ : ∃ n, k - 1 = n := ⟨_, rfl⟩
        obtain ⟨b2, off2, z, A2, c2, he2, hbb3, hzz, q0, q1, hzs, hzl, hzm⟩ := ((HSA.out.below keeps_can hbr).below keeps_can hb10).can (k := km) (by omega)
        obtain ⟨rfl, rfl⟩ : b = b2 ∧ off = off2 := by injection he2 with he; injection he with h1 h2; exact ⟨h1, h2⟩
        have hlt2 : canLt z y = true := by
          obtain ⟨hka, hz2⟩ := List.getElem?_eq_some_iff.1 hzz
          obtain ⟨hkb, hy2⟩ := List.getElem?_eq_some_iff.1 HYY.out
          have := List.pairwise_iff_getElem.1 HIL.out.sorted km k hka hkb (by omega)
          rw [hz2, hy2] at this
          exact this
        have HL5 : Hid (∀ W', Below V0_1.heap.size V0_1 W' → Calls Try.prog 24 #[.agg #[.slice A2 z.links.length c2, .int .i64 z.cost], .agg #[.slice A1 y.links.length c1, .int .i64 y.cost]] W' fun e w' => e = .returned (.bool true) ∧ Below W'.heap.size W' w') := fun W' hW' => by
          have h := refless_any A2 A1 z y c2 c1 W' (hzs.below keeps_int hW') ((HYS.out.below keeps_int hb10).below keeps_int hW') (by omega) (by omega)
          rw [hlt2] at h
          exact h
        have hkI2 : (k : Int) - 1 = (km : Int) := by omega
        have hkmI : (km : Int) < (L.length : Int) := by omega
        have hkm0 : (0 : Int) ≤ (km : Int) := by omega
        have hwk : IntKind.i64.wrap ((k : Int) - 1) = (km : Int) := by rw [hkI2]; exact IntWalk.i64_in _ (by omega)
        have HKB := Lib.hid hkI2
        clear y0 y1 g0 g1 gl hzz hzs hzl hzm hlt2 hkm he2 hkI2 hk00
        clear hV0_1
        generalize V0_1 = W9 at *
        go_upto_region 11 with fail
        refine ordB_below (.quiet 0 (.quiet 1 (.quiet 2 (.quiet 3 (.quiet 4 (.quiet 5 (.quiet 6 (.quiet 7 (.quiet 8 (.quiet 9 (.quiet 10 (.quiet 11 (.quiet 12 (.quiet 13 (.quiet 14 (.quiet 15 (.quiet 16 (.quiet 17 (.quiet 18 (.quiet 19 (.quiet 20 (.quiet 21 (.quiet 22 (.quiet 23 (.only 24 (.quiet 25 (.quiet 26 (.quiet 27 .done)))))))))))))))))))))))))))) (by kernel_rfl) (by kernel_rfl) (by kernel_rfl) (fun _ _ _ _ _ h => h) ?_
        intro U0 hU0
        iterate 24 (first
          | (refine ordB_skip rfl rfl ?_; simp only [Act.put, List.setIfInBounds_toArray, List.set_cons_zero, List.set_cons_succ])
          | (refine ordB_take (v := ?_) rfl rfl ?_ ?_
             rotate_left 1
             focus (intro W hW; obtain ⟨hcW, hfW⟩ := bcell hW; (go_simp <;> with_reducible rfl))
             simp only [Act.put, List.setIfInBounds_toArray, List.set_cons_zero, List.set_cons_succ]))
        refine ordB_only (opB_call rfl rfl (fun K hK => ?_))
        go_simp
        go_at_call 24
        refine (HL5.out _ hU0).mono ?_
        rintro e U0_1 ⟨rfl, hx24⟩
        refine hK.out _ _ (hU0.trans (hx24.mono hU0.size)) (fun hU0_1 => ?_)
        iterate 3 (first
          | (refine ordB_skip rfl rfl ?_; simp only [Act.put, List.setIfInBounds_toArray, List.set_cons_zero, List.set_cons_succ])
          | (refine ordB_take (v := ?_) rfl rfl ?_ ?_
             rotate_left 1
             focus (intro W hW; obtain ⟨hcW, hfW⟩ := bcell hW; (go_simp <;> with_reducible rfl))
             simp only [Act.put, List.setIfInBounds_toArray, List.set_cons_zero, List.set_cons_succ]))
        refine ordB_nil ?_
        go_wp2_with fail
        go_roundw
        case rel => exact ⟨k + 1, by omega, by go_num, (bthen (bthen hbr hb10) hU0_1)⟩
        case measure => simp [intOf]; omega
    · obtain rfl : k = L.length := by omega
      have HBR := Lib.hid hbr
      go_upto_region 14 with (go_at_call 25; go_loud (refine (HCH.out _ hbWr).mono ?_; rintro e W3 ⟨ls, bo, Al, cl, rfl, hsl, hwl, hl10, hlc, hlm2, hb3⟩))
      have hGr := hGr.below hb3 gl
      have g0 := hGr.cell 0
      have g1 := hGr.cell 1
      have gl := hGr.lt
      simp at g0 g1
      have hsa3 := (HSA.out.below keeps_can hbr).below keeps_can hb3
      have hbE := bthen (bthen HBW.out hbWr) hb3
      have hb23 := bthen hbWr hb3
      have HHA : Hid (Calls Try.prog 26 #[.slice Aa L.length ca, .slice Al ls.length cl] W3 fun e w' => e = .returned (.bool (decide (∃ x ∈ L, x.links = ls))) ∧ Below W3.heap.size W3 w') := has_any Aa Al L ls ca cl W3 hsa3 hsl (by unfold maxLen; omega) (by unfold maxLen; omega)
      cases bo with
      | false =>
        clear hwl
        go_wp2_with fail
        go_ret
        exact ⟨rfl, hbE⟩
      | true =>
        have hway := hwl rfl
        cases hhas : decide (∃ x ∈ L, x.links = ls) with
        | true =>
          rw [hhas] at HHA
          clear hhas hwl
          go_wp2_with (go_at_call 26; go_loud (refine HHA.out.mono ?_; rintro e W4 ⟨rfl, hb4⟩))
          go_ret
          exact ⟨rfl, bthen hbE hb4⟩
        | false =>
          rw [hhas] at HHA
          have hnot : (⟨ls, sumC g ls⟩ : Can) ∉ L := fun h => (of_decide_eq_false hhas) ⟨_, h, rfl⟩
          obtain ⟨hfull, hless⟩ := HIL.out.rest ⟨ls, sumC g ls⟩ ⟨hway, rfl⟩ hnot
          have HCM : Hid (costM g ls = (sumC g ls, true)) := by show _ = _; unfold costM; rw [if_pos hway]
          have HSL := Lib.hid hsl
          have HR3 : Hid (∀ W', Below W3.heap.size W3 W' → Calls Try.prog 19 #[(.agg #[.int .i64 (N : Int), .slice A3 g.ls.length c3]), .slice Al ls.length cl] W' fun e w' => e = .returned (.tuple #[.int .i64 (sumC g ls), .bool true]) ∧ Below W'.heap.size W' w') := fun W' hW' => by
            have h := HRC.out W' Al ls cl (bthen hb23 hW') (HSL.out.below keeps_int hW') (by unfold maxLen; omega)
            rw [HCM.out] at h
            exact h
          have zf : ((L.length : Int) == (p : Int)) = true := by simp [hfull]
          have HFU := Lib.hid hfull
          have HLE := Lib.hid hless
          clear hhas hwl hway hnot hfull hless
          go_upto_region 16 with (go_at_call 26; go_loud (refine HHA.out.mono ?_; rintro e W4 ⟨rfl, hb4⟩))
          have hG4 := hGr.below hb4 gl
          have g0 := hG4.cell 0
          have g1 := hG4.cell 1
          have gl := hG4.lt
          simp at g0 g1
          go_upto_region 17 with (go_at_call 19; go_loud (refine (HR3.out _ hb4).mono ?_; rintro e W5 ⟨rfl, hb5⟩))
          have hb35 := bthen hb4 hb5
          have hbE5 := bthen hbE hb35
          by_cases hp0 : p = 0
          · have z0 : ((p : Int) == 0) = true := by simp [hp0]
            clear hp0
            go_wp2_with fail
            go_ret
            exact ⟨rfl, hbE5⟩
          · have z0 : ((p : Int) == 0) = false := by simp; exact hp0
            obtain ⟨b, off, y, A1, c1, rfl, hbb, hyy, y0, y1, hys, hyl, hym⟩ := (hsa3.below keeps_can hb35).can (k := p - 1) (by have := HFU.out; omega)
            have hlt2 := HLE.out y (List.mem_of_getElem? hyy)
            have HL5 : Hid (Calls Try.prog 24 #[.agg #[.slice A1 y.links.length c1, .int .i64 y.cost], .agg #[.slice Al ls.length cl, .int .i64 (sumC g ls)]] W5 fun e w' => e = .returned (.bool true) ∧ Below W5.heap.size W5 w') := by
              have h := refless_any A1 Al y ⟨ls, sumC g ls⟩ c1 cl W5 hys (HSL.out.below keeps_int hb35) (by omega) (by show ls.length ≤ maxLen; unfold maxLen; omega)
              rw [hlt2] at h
              exact h
            have hpI : (p : Int) - 1 = ((p - 1 : Nat) : Int) := by omega
            have hp1I : ((p - 1 : Nat) : Int) < (L.length : Int) := by have := HFU.out; omega
            have hp0n : p ≠ 0 := hp0
            have HPI := Lib.hid hpI
            obtain ⟨pm, hpm⟩ : ∃ n, p - 1 = n := ⟨_, rfl⟩
            rw [hpm] at y0 y1 hp1I hpI
            have hwpm : IntKind.i64.wrap ((p : Int) - 1) = (pm : Int) := by rw [hpI]; exact IntWalk.i64_in _ (by omega)
            clear hyy hys hyl hym hlt2 hpm hp0 HPI
            go_wp2_with (go_at_call 24; go_loud (refine HL5.out.mono ?_; rintro e W6 ⟨rfl, hb6⟩))
            go_ret
            exact ⟨rfl, bthen hbE5 hb6⟩
end Go.Proofs.Ytbikjmafddndpaa
