/-
  The walks of layer 20: Cost of the reference.
-/
import Derived.Test.YtcimnkijpifkjaaQ14
import Derived.Test.YtcimnkijpifkjaaQ27
import Derived.Test.YtcimnkijpifkjaaQ21
namespace Go.Proofs.Ytcimnkijpifkjaa
open Go Go.RowKit

set_option maxRecDepth 100000 in
set_option maxHeartbeats 16000000 in
theorem rcost_any (x : La) (A : Option Addr) (c : Nat) (m : Mo) (A1 A2 A3 : Option Addr) (c1 c2 c3 : Nat) (prev : Int) (B : Option Addr) (l : List Int) (cB : Nat) (w : World) (hx : SlR 4 REd w A x.es) (hlx : x.es.length ≤ maxLen) (hm : MoR w m A1 A2 A3) (hb : SlR 1 RInt w B l) (hl : l.length ≤ 1000) :
    Calls Try.prog 16 #[.agg #[.int .i64 x.n, .slice A x.es.length c, .slice A1 m.ws.length c1, .slice A2 m.cs.length c2, .slice A3 m.ps.length c3, .int .i64 m.back, .int .i64 prev], .slice B l.length cB] w fun e w' => e = .returned (.tuple #[.int .i64 (cx_costM x m prev l).1, .bool (cx_costM x m prev l).2]) ∧ Below w.heap.size w w' := by
  obtain ⟨w2, hw2⟩ : ∃ w2, w.alloc (.cells #[.int .i64 x.n, .slice A x.es.length c, .slice A1 m.ws.length c1, .slice A2 m.cs.length c2, .slice A3 m.ps.length c3, .int .i64 m.back, .int .i64 prev] 55) = w2 := ⟨_, rfl⟩
  have hb2 : Below w.heap.size w w2 := by rw [← hw2]; exact nw _ (Below.refl _ _)
  have hAB : Blk w2 w.heap.size 55 #[.int .i64 x.n, .slice A x.es.length c, .slice A1 m.ws.length c1, .slice A2 m.cs.length c2, .slice A3 m.ps.length c3, .int .i64 m.back, .int .i64 prev] := by rw [← hw2]; exact Blk.new _ _ _
  have HW2 := Lib.hid hw2
  have HB2 := Lib.hid hb2
  have HBX : Hid (∀ W, Below w2.heap.size w2 W → (W.cell? ⟨w.heap.size, 0, none⟩ = some (.int .i64 x.n) ∧ W.cell? ⟨w.heap.size, 1, none⟩ = some (.slice A x.es.length c) ∧ W.cell? ⟨w.heap.size, 2, none⟩ = some (.slice A1 m.ws.length c1) ∧ W.cell? ⟨w.heap.size, 3, none⟩ = some (.slice A2 m.cs.length c2) ∧ W.cell? ⟨w.heap.size, 4, none⟩ = some (.slice A3 m.ps.length c3) ∧ W.cell? ⟨w.heap.size, 5, none⟩ = some (.int .i64 m.back) ∧ W.cell? ⟨w.heap.size, 6, none⟩ = some (.int .i64 prev)) ∧ w.heap.size < W.heap.size) := fun W hW => by
    have e1 := hAB.below hW hAB.lt
    exact ⟨⟨by rw [e1.cell]; rfl, by rw [e1.cell]; rfl, by rw [e1.cell]; rfl, by rw [e1.cell]; rfl, by rw [e1.cell]; rfl, by rw [e1.cell]; rfl, by rw [e1.cell]; rfl⟩, e1.lt⟩
  clear hw2 hb2 hAB
  have hl1 := hm.l1
  have HFT : Hid (∀ W, Below w2.heap.size w2 W → Calls Try.prog 35 #[.agg #[.int .i64 x.n, .slice A x.es.length c], .agg #[.slice A1 m.ws.length c1, .slice A2 m.cs.length c2, .slice A3 m.ps.length c3, .int .i64 m.back]] W fun e w' => e = .returned (.bool (decide (FitsL x m.ws.length ∧ MoOK m))) ∧ Below W.heap.size W w') := fun W hW => reffits_any x A c m A1 A2 A3 c1 c2 c3 W (hx.below keeps_ed (bthen HB2.out hW)) hlx (hm.below (bthen HB2.out hW))
  have HIN : Hid (∀ W, Calls Try.prog 36 #[.int .i64 prev, .int .i64 (-1), .int .i64 ((m.ws.length : Int) - 1)] W fun e w' => e = .returned (.bool (inB prev (-1) ((m.ws.length : Int) - 1))) ∧ W = w') := fun W => in_any _ _ _ W
  have HX2 : Hid (∀ W, Below w2.heap.size w2 W → SlR 4 REd W A x.es) := fun W hW => hx.below keeps_ed (bthen HB2.out hW)
  have HBL : Hid (∀ W, Below w2.heap.size w2 W → SlR 1 RInt W B l) := fun W hW => hb.below keeps_int (bthen HB2.out hW)
  have hwn1 : IntKind.i64.wrap ((m.ws.length : Int) - 1) = (m.ws.length : Int) - 1 := IntWalk.i64_in _ (by omega)
  have h22 := Below.refl w2.heap.size w2
  have hlx2 := hlx
  unfold maxLen at hlx
  by_cases hft : ¬ (FitsL x m.ws.length ∧ MoOK m)
  · have HR : Hid (cx_costM x m prev l = (0, false)) := cx_costM_no fun h => hft ⟨h.2.2, h.1⟩
    rw [decide_eq_false hft] at HFT
    obtain ⟨⟨a0, a1, a2, a3, a4, a5, a6⟩, al⟩ := HBX.out _ h22
    clear hft
    go_enter Try.func16, Try.ntmps16
    go_upto_region 1 with fail
    rw [HW2.out]
    go_wp2_with (go_at_call 35; go_loud (refine (HFT.out _ h22).mono ?_; rintro e w3 ⟨rfl, hb3⟩))
    go_ret2
    exact ⟨by rw [HR.out]; rfl, bthen HB2.out hb3⟩
  have hft := Decidable.not_not.1 hft
  rw [decide_eq_true hft] at HFT
  obtain ⟨vi, hvi⟩ : ∃ v, inB prev (-1) ((m.ws.length : Int) - 1) = v := ⟨_, rfl⟩
  rw [hvi] at HIN
  have HVI := Lib.hid hvi
  clear hvi
  cases vi with
  | false =>
    have HR : Hid (cx_costM x m prev l = (0, false)) := cx_costM_no fun h => by
      have h1 := HVI.out
      unfold inB at h1
      simp at h1
      have := h.2.1
      omega
    obtain ⟨⟨a0, a1, a2, a3, a4, a5, a6⟩, al⟩ := HBX.out _ h22
    clear hft
    go_enter Try.func16, Try.ntmps16
    go_upto_region 1 with fail
    rw [HW2.out]
    go_wp2_with (first | (go_at_call 35; go_loud (refine (HFT.out _ h22).mono ?_; rintro e w3 ⟨rfl, hb3⟩; clear a0 a1 a2 a3 a4 a5 a6 al; obtain ⟨⟨a0, a1, a2, a3, a4, a5, a6⟩, al⟩ := HBX.out _ hb3)) | (go_at_call 36; go_loud (refine (HIN.out _).mono ?_; rintro e w4 ⟨rfl, rfl⟩)))
    go_ret2
    exact ⟨by rw [HR.out]; rfl, bthen HB2.out hb3⟩
  | true =>
  have HALL : Hid (FitsAll x m prev) := ⟨hft.2, (by
    have h1 := HVI.out
    unfold inB at h1
    simp at h1
    omega), hft.1⟩
  have HPRA : Hid (∀ W (a : Int) (k : Nat), Below w2.heap.size w2 W → k < m.cs.length → Calls Try.prog 38 #[.agg #[.slice A1 m.ws.length c1, .slice A2 m.cs.length c2, .slice A3 m.ps.length c3, .int .i64 m.back], .int .i64 a, .int .i64 (k : Int)] W fun e w' => e = .returned (.int .i64 (pcost m a k)) ∧ Below W.heap.size W w') := fun W a k hW hk => refpair_any m A1 A2 A3 c1 c2 c3 a k W (hm.below (bthen HB2.out hW)) hft.2 hk
  obtain ⟨⟨a0, a1, a2, a3, a4, a5, a6⟩, al⟩ := HBX.out _ h22
  have hnw : m.ws.length ≤ 200 := hft.2.1.1.1.1.2
  clear hft hm hx hb
  go_enter Try.func16, Try.ntmps16
  go_upto_region 1 with fail
  rw [HW2.out]
  go_upto_region 3 with (first | (go_at_call 35; go_loud (refine (HFT.out _ h22).mono ?_; rintro e w3 ⟨rfl, hb24⟩; clear a0 a1 a2 a3 a4 a5 a6 al; obtain ⟨⟨a0, a1, a2, a3, a4, a5, a6⟩, al⟩ := HBX.out _ hb24)) | (go_at_call 36; go_loud (refine (HIN.out _).mono ?_; rintro e w4 ⟨rfl, rfl⟩)))
  refine ordB_below (.quiet 0 (.quiet 1 (.quiet 2 (.quiet 3 (.quiet 4 .done))))) (by kernel_rfl) (by kernel_rfl) (by kernel_rfl) (fun _ _ _ _ _ h => h) ?_
  intro S0 hS0
  iterate 5 (first
    | (refine ordB_skip rfl rfl ?_; simp only [Act.put, List.setIfInBounds_toArray, List.set_cons_zero, List.set_cons_succ])
    | (refine ordB_take (v := ?_) rfl rfl ?_ ?_
       rotate_left 1
       focus (intro W hW; obtain ⟨hcW, hfW⟩ := bcell hW; (go_simp <;> with_reducible rfl))
       simp only [Act.put, List.setIfInBounds_toArray, List.set_cons_zero, List.set_cons_succ]))
  refine ordB_nil ?_
  have HB3 := Lib.hid (hb24.trans (hS0.mono hb24.size))
  clear a0 a1 a2 a3 a4 a5 a6 al
  go_wp2_with fail
  go_loopw [6, 7, 8, 9] (fun a p s i wr => ∃ (j : Nat) (st : CSt), j ≤ l.length ∧ a = .int .i64 st.pl ∧ p = .int .i64 st.pv ∧ s = .int .i64 st.sum ∧ i = .int .i64 j ∧ Hid (costTo x m prev l j = some st) ∧ Below w2.heap.size w2 wr) (fun _ _ _ i _ => l.length - (intOf i).toNat)
  case atStart => exact ⟨0, ⟨0, prev, 0⟩, by omega, rfl, rfl, rfl, rfl, rfl, HB3.out⟩
  case round =>
    obtain ⟨j, st, hj, rfl, rfl, rfl, rfl, HS, hbr⟩ := hrel
    obtain ⟨⟨hp0, hp1⟩, ⟨hv0, hv1⟩, hs0, hs1⟩ := costTo_bd HALL.out j st HS.out
    obtain ⟨⟨a0, a1, a2, a3, a4, a5, a6⟩, al⟩ := HBX.out _ hbr
    by_cases hlt : j < l.length
    · obtain ⟨bB, oB, k, rfl, hbB, hkk, dB⟩ := (HBL.out _ hbr).int hlt
      have HNX := Lib.hid (costTo_succ hkk HS.out)
      have hjl := hlt
      have HBr := Lib.hid hbr
      have hjI : (j : Int) < (l.length : Int) := by omega
      have hj0 : (0 : Int) ≤ (j : Int) := by omega
      have hwx : IntKind.i64.wrap ((x.es.length : Int) - 1) = (x.es.length : Int) - 1 := IntWalk.i64_in _ (by omega)
      have HIK : Hid (∀ W, Calls Try.prog 36 #[.int .i64 k, .int .i64 0, .int .i64 ((x.es.length : Int) - 1)] W fun e w' => e = .returned (.bool (inB k 0 ((x.es.length : Int) - 1))) ∧ W = w') := fun W => in_any _ _ _ W
      clear hkk
      by_cases hk01 : ¬ (0 ≤ k ∧ k < (x.es.length : Int))
      · have HR : Hid (cx_costM x m prev l = (0, false)) := cx_costM_none hjl (by
          rw [HNX.out]
          rcases Int.lt_or_le k 0 with h | h
          · exact stepC_neg h
          · exact stepC_big (by omega))
        rw [show inB k 0 ((x.es.length : Int) - 1) = false by unfold inB; simp; omega] at HIK
        clear hk01
        have z0 := True.intro
        go_upto_region 7 with fail
        refine ordB_below (.quiet 0 (.quiet 1 (.quiet 2 (.quiet 3 (.quiet 4 (.quiet 5 (.quiet 6 (.quiet 7 (.quiet 8 (.only 9 (.quiet 10 (.quiet 11 (.quiet 12 (.quiet 13 (.quiet 14 (.quiet 15 (.quiet 16 (.quiet 17 (.quiet 18 (.quiet 19 (.quiet 20 (.quiet 21 (.quiet 22 (.quiet 23 (.quiet 24 .done))))))))))))))))))))))))) (by kernel_rfl) (by kernel_rfl) (by kernel_rfl) (fun _ _ _ _ _ h => h) ?_
        intro T0 hT0
        iterate 9 (first
          | (refine ordB_skip rfl rfl ?_; simp only [Act.put, List.setIfInBounds_toArray, List.set_cons_zero, List.set_cons_succ])
          | (refine ordB_take (v := ?_) rfl rfl ?_ ?_
             rotate_left 1
             focus (intro W hW; obtain ⟨hcW, hfW⟩ := bcell hW; (go_simp <;> with_reducible rfl))
             simp only [Act.put, List.setIfInBounds_toArray, List.set_cons_zero, List.set_cons_succ]))
        refine ordB_only (opB_call rfl rfl (fun K hK => ?_))
        go_simp
        go_at_call 36
        refine (HIK.out T0).mono ?_
        rintro e w' ⟨rfl, rfl⟩
        refine hK.out _ _ hT0 (fun hT0_1 => ?_)
        iterate 15 (first
          | (refine ordB_skip rfl rfl ?_; simp only [Act.put, List.setIfInBounds_toArray, List.set_cons_zero, List.set_cons_succ])
          | (refine ordB_take (v := ?_) rfl rfl ?_ ?_
             rotate_left 1
             focus (intro W hW; obtain ⟨hcW, hfW⟩ := bcell hW; (go_simp <;> with_reducible rfl))
             simp only [Act.put, List.setIfInBounds_toArray, List.set_cons_zero, List.set_cons_succ]))
        refine ordB_nil ?_
        clear z0
        have HBE := Lib.hid (HBr.out.trans (hT0_1.mono HBr.out.size))
        go_wp2_with fail
        go_ret2
        exact ⟨by rw [HR.out]; rfl, bthen HB2.out HBE.out⟩
      obtain ⟨hk3, hk2⟩ := Decidable.not_not.1 hk01
      rw [show inB k 0 ((x.es.length : Int) - 1) = true by unfold inB; simp; omega] at HIK
      clear hk01
      obtain ⟨kk, hkn⟩ : ∃ kk : Nat, k = (kk : Int) := ⟨k.toNat, by omega⟩
      subst hkn
      have hkl : kk < x.es.length := by omega
      obtain ⟨b, off, e, rfl, hbb, hee, d0, d1, d2, d3⟩ := (HX2.out _ hbr).ed hkl
      rw [stepC_at hee] at HNX
      have hem := List.mem_of_getElem? hee
      have hok := HALL.out.2.2.1.2.2.1 e hem
      have hwd := HALL.out.2.2.2 e hem
      clear hee hem
      by_cases hfn : ¬ e.fr = st.pl
      · have hfr := hfn
        have z1 : (e.fr != st.pl) = true := by simpa using hfr
        have HR : Hid (cx_costM x m prev l = (0, false)) := cx_costM_none hjl (by rw [HNX.out]; exact if_neg hfr)
        clear hfr hfn
        go_upto_region 7 with fail
        refine ordB_below (.quiet 0 (.quiet 1 (.quiet 2 (.quiet 3 (.quiet 4 (.quiet 5 (.quiet 6 (.quiet 7 (.quiet 8 (.only 9 (.quiet 10 (.quiet 11 (.quiet 12 (.quiet 13 (.quiet 14 (.quiet 15 (.quiet 16 (.quiet 17 (.quiet 18 (.quiet 19 (.quiet 20 (.quiet 21 (.quiet 22 (.quiet 23 (.quiet 24 .done))))))))))))))))))))))))) (by kernel_rfl) (by kernel_rfl) (by kernel_rfl) (fun _ _ _ _ _ h => h) ?_
        intro T0 hT0
        iterate 9 (first
          | (refine ordB_skip rfl rfl ?_; simp only [Act.put, List.setIfInBounds_toArray, List.set_cons_zero, List.set_cons_succ])
          | (refine ordB_take (v := ?_) rfl rfl ?_ ?_
             rotate_left 1
             focus (intro W hW; obtain ⟨hcW, hfW⟩ := bcell hW; (go_simp <;> with_reducible rfl))
             simp only [Act.put, List.setIfInBounds_toArray, List.set_cons_zero, List.set_cons_succ]))
        refine ordB_only (opB_call rfl rfl (fun K hK => ?_))
        go_simp
        go_at_call 36
        refine (HIK.out T0).mono ?_
        rintro e w' ⟨rfl, rfl⟩
        refine hK.out _ _ hT0 (fun hT0_1 => ?_)
        iterate 15 (first
          | (refine ordB_skip rfl rfl ?_; simp only [Act.put, List.setIfInBounds_toArray, List.set_cons_zero, List.set_cons_succ])
          | (refine ordB_take (v := ?_) rfl rfl ?_ ?_
             rotate_left 1
             focus (intro W hW; obtain ⟨hcW, hfW⟩ := bcell hW; (go_simp <;> with_reducible rfl))
             simp only [Act.put, List.setIfInBounds_toArray, List.set_cons_zero, List.set_cons_succ]))
        refine ordB_nil ?_
        clear z1
        have HBE := Lib.hid (HBr.out.trans (hT0_1.mono HBr.out.size))
        go_wp2_with fail
        go_ret2
        exact ⟨by rw [HR.out]; rfl, bthen HB2.out HBE.out⟩
      have hfr := Decidable.not_not.1 hfn
      clear hfn
      rw [if_pos hfr] at HNX
      obtain ⟨wn, hwn⟩ : ∃ wn : Nat, e.wd = (wn : Int) := ⟨e.wd.toNat, by have := hok.2.1; omega⟩
      have hwnl : wn < m.cs.length := by have hcs : m.cs.length = m.ws.length := HALL.out.1.1.1.2.1; omega
      have hpc := pcost_in HALL.out.1 st.pv hwnl
      have HPR : Hid (∀ W, Below w2.heap.size w2 W → Calls Try.prog 38 #[.agg #[.slice A1 m.ws.length c1, .slice A2 m.cs.length c2, .slice A3 m.ps.length c3, .int .i64 m.back], .int .i64 st.pv, .int .i64 (wn : Int)] W fun e w' => e = .returned (.int .i64 (pcost m st.pv wn)) ∧ Below W.heap.size W w') := fun W hW => HPRA.out W st.pv wn hW hwnl
      have hco := hok.2.2
      obtain ⟨ef, et, ew, ec⟩ := e
      simp only at hwn d0 d1 d2 d3 hco HNX hfr
      subst hwn
      subst hfr
      rw [show ((wn : Int)).toNat = wn from Int.toNat_natCast wn] at HNX
      generalize pcost m st.pv wn = pc at *
      have hw1 : IntKind.i64.wrap (ec + pc) = ec + pc := IntWalk.i64_in _ (by omega)
      have hw2 : IntKind.i64.wrap (st.sum + (ec + pc)) = st.sum + (ec + pc) := IntWalk.i64_in _ (by omega)
      have z1 : (st.pl != st.pl) = false := by simp
      clear hok hwd hbr
      go_upto_region 7 with fail
      refine ordB_below (.quiet 0 (.quiet 1 (.quiet 2 (.quiet 3 (.quiet 4 (.quiet 5 (.quiet 6 (.quiet 7 (.quiet 8 (.only 9 (.quiet 10 (.quiet 11 (.quiet 12 (.quiet 13 (.quiet 14 (.quiet 15 (.quiet 16 (.quiet 17 (.quiet 18 (.quiet 19 (.quiet 20 (.quiet 21 (.quiet 22 (.quiet 23 (.quiet 24 .done))))))))))))))))))))))))) (by kernel_rfl) (by kernel_rfl) (by kernel_rfl) (fun _ _ _ _ _ h => h) ?_
      intro T0 hT0
      iterate 9 (first
        | (refine ordB_skip rfl rfl ?_; simp only [Act.put, List.setIfInBounds_toArray, List.set_cons_zero, List.set_cons_succ])
        | (refine ordB_take (v := ?_) rfl rfl ?_ ?_
           rotate_left 1
           focus (intro W hW; obtain ⟨hcW, hfW⟩ := bcell hW; (go_simp <;> with_reducible rfl))
           simp only [Act.put, List.setIfInBounds_toArray, List.set_cons_zero, List.set_cons_succ]))
      refine ordB_only (opB_call rfl rfl (fun K hK => ?_))
      go_simp
      go_at_call 36
      refine (HIK.out T0).mono ?_
      rintro e w' ⟨rfl, rfl⟩
      refine hK.out _ _ hT0 (fun hT0_1 => ?_)
      iterate 15 (first
        | (refine ordB_skip rfl rfl ?_; simp only [Act.put, List.setIfInBounds_toArray, List.set_cons_zero, List.set_cons_succ])
        | (refine ordB_take (v := ?_) rfl rfl ?_ ?_
           rotate_left 1
           focus (intro W hW; obtain ⟨hcW, hfW⟩ := bcell hW; (go_simp <;> with_reducible rfl))
           simp only [Act.put, List.setIfInBounds_toArray, List.set_cons_zero, List.set_cons_succ]))
      refine ordB_nil ?_
      have HB4 := Lib.hid (HBr.out.trans (hT0_1.mono HBr.out.size))
      obtain ⟨W4, hW4⟩ : ∃ V, T0 = V := ⟨_, rfl⟩
      have d0 := ((bcell hT0_1).1 _ _ hbb).trans d0
      have d1 := ((bcell hT0_1).1 _ _ hbb).trans d1
      have d2 := ((bcell hT0_1).1 _ _ hbb).trans d2
      have d3 := ((bcell hT0_1).1 _ _ hbb).trans d3
      have dB := ((bcell hT0_1).1 _ _ hbB).trans dB
      have hbb := Nat.lt_of_lt_of_le hbb hT0_1.size
      have hbB := Nat.lt_of_lt_of_le hbB hT0_1.size
      rw [hW4] at HB4 d0 d1 d2 d3 dB hbb hbB ⊢
      clear a0 a1 a2 a3 a4 a5 a6 al hW4
      obtain ⟨⟨a0, a1, a2, a3, a4, a5, a6⟩, al⟩ := HBX.out _ HB4.out
      go_upto_region 9 with fail
      refine ordB_below (.quiet 0 (.quiet 1 (.quiet 2 (.quiet 3 (.quiet 4 (.quiet 5 (.quiet 6 (.quiet 7 (.quiet 8 (.only 9 (.only 10 .done))))))))))) (by kernel_rfl) (by kernel_rfl) (by kernel_rfl) (fun _ _ _ _ _ h => h) ?_
      intro V0 hV0
      iterate 9 (first
        | (refine ordB_skip rfl rfl ?_; simp only [Act.put, List.setIfInBounds_toArray, List.set_cons_zero, List.set_cons_succ])
        | (refine ordB_take (v := ?_) rfl rfl ?_ ?_
           rotate_left 1
           focus (intro W hW; obtain ⟨hcW, hfW⟩ := bcell hW; (go_simp <;> with_reducible rfl))
           simp only [Act.put, List.setIfInBounds_toArray, List.set_cons_zero, List.set_cons_succ]))
      refine ordB_only (opB_call rfl rfl (fun K hK => ?_))
      go_simp
      refine hK.out _ _ (hV0.alloc hV0.size _) (fun hV0_1 => ?_)
      have b9 := Blk.new V0 43 #[.int .i64 0, .int .i64 0, .int .i64 0, .int .i64 0]
      have b9b := nw (.cells #[.int .i64 0, .int .i64 0, .int .i64 0, .int .i64 0] 43) (Below.refl V0.heap.size V0)
      have b9g := hV0.size
      obtain ⟨V0_1, qqV0_1⟩ : ∃ W', V0.alloc (.cells #[.int .i64 0, .int .i64 0, .int .i64 0, .int .i64 0] 43) = W' := ⟨_, rfl⟩
      rw [qqV0_1] at hV0_1 b9 b9b ⊢
      clear qqV0_1 b9b
      refine ordB_only (opB_call rfl rfl (fun K hK => ?_))
      have b9c0 := b9.cell 0
      have b9f0 := b9.frozen 0
      have b9c1 := b9.cell 1
      have b9f1 := b9.frozen 1
      have b9c2 := b9.cell 2
      have b9f2 := b9.frozen 2
      have b9c3 := b9.cell 3
      have b9f3 := b9.frozen 3
      simp at b9c0 b9c1 b9c2 b9c3
      go_simp
      refine hK.out _ _ ((((hV0_1.setCell (p := ⟨V0.heap.size, 0, none⟩) b9g _).setCell (p := ⟨V0.heap.size, 1, none⟩) b9g _).setCell (p := ⟨V0.heap.size, 2, none⟩) b9g _).setCell (p := ⟨V0.heap.size, 3, none⟩) b9g _) (fun hV0_1_2 => ?_)
      have b9 := ((((b9.set_ 0 (.int .i64 st.pl)).set_ 1 (.int .i64 et)).set_ 2 (.int .i64 (wn : Int))).set_ 3 (.int .i64 ec))
      obtain ⟨V0_1_2, qqV0_1_2⟩ : ∃ W', ((((V0_1.setCell ⟨V0.heap.size, 0, none⟩ (.int .i64 st.pl)).setCell ⟨V0.heap.size, 1, none⟩ (.int .i64 et)).setCell ⟨V0.heap.size, 2, none⟩ (.int .i64 (wn : Int))).setCell ⟨V0.heap.size, 3, none⟩ (.int .i64 ec)) = W' := ⟨_, rfl⟩
      rw [qqV0_1_2] at hV0_1_2 b9  ⊢
      clear qqV0_1_2 b9c0 b9f0 b9c1 b9f1 b9c2 b9f2 b9c3 b9f3
      refine ordB_nil ?_
      have HB5 := Lib.hid (HB4.out.trans (hV0_1_2.mono HB4.out.size))
      have b9 := (show Blk V0_1_2 _ 43 #[.int .i64 st.pl, .int .i64 et, .int .i64 (wn : Int), .int .i64 ec] by simpa using b9)
      obtain ⟨tE, htE⟩ : ∃ b, V0.heap.size = b := ⟨_, rfl⟩
      rw [htE] at b9 ⊢
      obtain ⟨W5, hW5⟩ : ∃ V, V0_1_2 = V := ⟨_, rfl⟩
      rw [hW5] at HB5 b9 ⊢
      have HEB := Lib.hid b9
      clear a0 a1 a2 a3 a4 a5 a6 al
      obtain ⟨⟨a0, a1, a2, a3, a4, a5, a6⟩, al⟩ := HBX.out _ HB5.out
      have e0 := b9.cell 0
      have e1 := b9.cell 1
      have e2 := b9.cell 2
      have e3 := b9.cell 3
      have el := b9.lt
      simp at e0 e1 e2 e3
      clear b9 d0 d1 d2 d3 hbb dB hbB
      go_upto_region 10 with fail
      refine ordB_below (.quiet 0 (.quiet 1 (.quiet 2 (.quiet 3 (.quiet 4 (.quiet 5 (.quiet 6 (.quiet 7 (.only 8 (.quiet 9 (.quiet 10 (.quiet 11 .done)))))))))))) (by kernel_rfl) (by kernel_rfl) (by kernel_rfl) (fun _ _ _ _ _ h => h) ?_
      intro V0 hV0
      iterate 8 (first
        | (refine ordB_skip rfl rfl ?_; simp only [Act.put, List.setIfInBounds_toArray, List.set_cons_zero, List.set_cons_succ])
        | (refine ordB_take (v := ?_) rfl rfl ?_ ?_
           rotate_left 1
           focus (intro W hW; obtain ⟨hcW, hfW⟩ := bcell hW; (go_simp <;> with_reducible rfl))
           simp only [Act.put, List.setIfInBounds_toArray, List.set_cons_zero, List.set_cons_succ]))
      refine ordB_only (opB_call rfl rfl (fun K hK => ?_))
      go_simp
      go_at_call 38
      refine (HPR.out V0 (HB5.out.trans (hV0.mono HB5.out.size))).mono ?_
      rintro e V0_1 ⟨rfl, hx9⟩
      refine hK.out _ _ (hV0.trans (hx9.mono hV0.size)) (fun hV0_1 => ?_)
      iterate 3 (first
        | (refine ordB_skip rfl rfl ?_; simp only [Act.put, List.setIfInBounds_toArray, List.set_cons_zero, List.set_cons_succ])
        | (refine ordB_take (v := ?_) rfl rfl ?_ ?_
           rotate_left 1
           focus (intro W hW; obtain ⟨hcW, hfW⟩ := bcell hW; (go_simp <;> with_reducible rfl))
           simp only [Act.put, List.setIfInBounds_toArray, List.set_cons_zero, List.set_cons_succ]))
      refine ordB_nil ?_
      have HB6 := Lib.hid (HB5.out.trans (hV0_1.mono HB5.out.size))
      have hE6 := HEB.out.below hV0_1 HEB.out.lt
      obtain ⟨W6, hW6⟩ : ∃ V, V0_1 = V := ⟨_, rfl⟩
      rw [hW6] at HB6 hE6 ⊢
      have y1 := hE6.cell 1
      have y2 := hE6.cell 2
      have yl := hE6.lt
      simp at y1 y2
      clear e0 e1 e2 e3 el a0 a1 a2 a3 a4 a5 a6 al
      go_upto_region 11 with fail
      refine ordB_below (.quiet 0 (.quiet 1 (.quiet 2 (.quiet 3 (.quiet 4 (.quiet 5 .done)))))) (by kernel_rfl) (by kernel_rfl) (by kernel_rfl) (fun _ _ _ _ _ h => h) ?_
      intro U0 hU0
      iterate 6 (first
        | (refine ordB_skip rfl rfl ?_; simp only [Act.put, List.setIfInBounds_toArray, List.set_cons_zero, List.set_cons_succ])
        | (refine ordB_take (v := ?_) rfl rfl ?_ ?_
           rotate_left 1
           focus (intro W hW; obtain ⟨hcW, hfW⟩ := bcell hW; (go_simp <;> with_reducible rfl))
           simp only [Act.put, List.setIfInBounds_toArray, List.set_cons_zero, List.set_cons_succ]))
      refine ordB_nil ?_
      have HBE := Lib.hid (HB6.out.trans (hU0.mono HB6.out.size))
      go_wp2_with fail
      go_roundw
      case rel => exact ⟨j + 1, ⟨et, (wn : Int), st.sum + (ec + pc)⟩, by omega, rfl, rfl, rfl, by go_num, HNX.out, HBE.out⟩
      case measure => simp [intOf]; omega
    · obtain rfl : j = l.length := by omega
      have HE := Lib.hid (cx_costM_end HALL.out HS.out)
      have HBr := Lib.hid hbr
      by_cases ha : st.pl = x.n
      · have z1 : (st.pl != x.n) = false := by simpa using ha
        have HR : Hid (cx_costM x m prev l = (st.sum, true)) := HE.out.trans (if_pos ha)
        clear ha
        go_wp2_with fail
        go_ret2
        exact ⟨by rw [HR.out]; rfl, bthen HB2.out HBr.out⟩
      · have z1 : (st.pl != x.n) = true := by simpa using ha
        have HR : Hid (cx_costM x m prev l = (0, false)) := HE.out.trans (if_neg ha)
        clear ha
        go_wp2_with fail
        go_ret2
        exact ⟨by rw [HR.out]; rfl, bthen HB2.out HBr.out⟩
end Go.Proofs.Ytcimnkijpifkjaa
