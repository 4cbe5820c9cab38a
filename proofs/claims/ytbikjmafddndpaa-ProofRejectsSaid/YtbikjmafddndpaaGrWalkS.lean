/-
  The walks of layer 16: the reference's Candidate.
-/
import Derived.Test.YtbikjmafddndpaaGrWalkR
import Derived.Test.YtbikjmafddndpaaGrWalkE
import Derived.Test.YtbikjmafddndpaaGrWalkJ
import Derived.Test.YtbikjmafddndpaaBase
namespace Go.Proofs.Ytbikjmafddndpaa
open Go Go.RowKit

set_option maxRecDepth 100000 in
set_option maxHeartbeats 4000000 in
theorem refcan_any (a b : Can) (A B : Option Addr) (c d : Nat) (w : World) (hA : SlR 1 RInt w A a.links) (hB : SlR 1 RInt w B b.links) (hl : a.links.length ≤ maxLen) (hl2 : b.links.length ≤ maxLen) :
    Calls Try.prog 54 #[.agg #[.slice A a.links.length c, .int .i64 a.cost], .agg #[.slice B b.links.length d, .int .i64 b.cost]] w fun e w' => e = .returned (.bool (decide (a = b))) ∧ Below w.heap.size w w' := by
  obtain ⟨w2, hw2⟩ : ∃ w2, (w.alloc (.cells #[.slice A a.links.length c, .int .i64 a.cost] 43)).alloc (.cells #[.slice B b.links.length d, .int .i64 b.cost] 43) = w2 := ⟨_, rfl⟩
  have hb2 : Below w.heap.size w w2 := by rw [← hw2]; exact nw _ (nw _ (Below.refl _ _))
  have h1 : Blk w2 w.heap.size 43 #[.slice A a.links.length c, .int .i64 a.cost] := by rw [← hw2]; exact (Blk.new _ _ _).alloc _
  have h2 : Blk w2 (w.heap.size + 1) 43 #[.slice B b.links.length d, .int .i64 b.cost] := by rw [← hw2]; exact Blk.new_ (by simp)
  have e0 := h1.cell 0
  have e1 := h1.cell 1
  have e2 := h2.cell 0
  have e3 := h2.cell 1
  simp at e0 e1 e2 e3
  have HI := Lib.hid (ints_any A B a.links b.links c d w2 (hA.below keeps_int hb2) (hB.below keeps_int hb2) hl hl2)
  have HW2 := Lib.hid hw2
  have hdec : decide (a = b) = (decide (a.cost = b.cost) && decide (a.links = b.links)) := by
    cases a; cases b
    simp [and_comm]
  rw [hdec]
  clear hdec hw2 h1 h2
  by_cases hc : a.cost = b.cost
  · rw [decide_eq_true hc, Bool.true_and]
    have hq : (a.cost == b.cost) = true := by simpa using hc
    clear hc
    go_enter Try.func54, Try.ntmps54
    go_upto_region 1 with fail
    rw [HW2.out]
    go_wp2_with (go_at_call 27; go_loud (refine HI.out.mono ?_; rintro e w3 ⟨rfl, hb3⟩))
    have hE := bthen hb2 hb3
    go_ret
    exact ⟨rfl, hE⟩
  · rw [decide_eq_false hc, Bool.false_and]
    have hq : (a.cost == b.cost) = false := by simpa using hc
    clear hc
    go_enter Try.func54, Try.ntmps54
    go_upto_region 1 with fail
    rw [HW2.out]
    go_wp2_with fail
    go_ret
    exact ⟨rfl, hb2⟩
theorem diffAt_step {l A : List Can} {k : Nat} {x y : Can} (hx : l[k]? = some x) (hy : A[k]? = some y) : diffAt (l.drop k) (A.drop k) k = if x = y then diffAt (l.drop (k + 1)) (A.drop (k + 1)) (k + 1) else some k := by
  have h1 := (List.getElem?_eq_some_iff.1 hx)
  have h2 := (List.getElem?_eq_some_iff.1 hy)
  rw [List.drop_eq_getElem_cons h1.1, List.drop_eq_getElem_cons h2.1, h1.2, h2.2]
  rfl
theorem diffAt_end {l A : List Can} {k : Nat} {x : Can} (hx : l[k]? = some x) (hy : A.length ≤ k) : diffAt (l.drop k) (A.drop k) k = some k := by
  have h1 := (List.getElem?_eq_some_iff.1 hx)
  rw [List.drop_eq_getElem_cons h1.1, List.drop_eq_nil_of_le hy]
  rfl
set_option maxRecDepth 100000 in
set_option maxHeartbeats 16000000 in
theorem refcheck_any (A : Option Addr) (c : Nat) (g : Gr) (N : Nat) (B : Option Addr) (d : Nat) (C : Option Addr) (l : List Can) (e : Nat) (whole : Bool) (w : World) (hx : SlR 4 RLk w A g.ls) (hlm : g.ls.length ≤ maxLen) (hg : GrOK g) (hN : g.n = (N : Int)) (hh : SlR 1 RInt w B (potL g)) (hy : SlR 2 RCan w C l) (hl2 : l.length ≤ 1000000) :
    Calls Try.prog 35 #[.agg #[.int .i64 (N : Int), .slice A g.ls.length c], .slice B (potL g).length d, .agg #[.slice C l.length e, .bool whole]] w fun r w' => r = .returned (.tuple #[.int .i64 (refCheckM (allC g) l whole).1, .int .i64 (refCheckM (allC g) l whole).2]) ∧ Below w.heap.size w w' := by
  obtain ⟨hn1, hn2⟩ := hg.n
  obtain ⟨w2, hw2⟩ : ∃ w2, (w.alloc (.cells #[.int .i64 (N : Int), .slice A g.ls.length c] 30)).alloc (.cells #[.slice C l.length e, .bool whole] 69) = w2 := ⟨_, rfl⟩
  have hb2 : Below w.heap.size w w2 := by rw [← hw2]; exact nw _ (nw _ (Below.refl _ _))
  have hG : Blk w2 w.heap.size 30 #[.int .i64 (N : Int), .slice A g.ls.length c] := by rw [← hw2]; exact (Blk.new _ _ _).alloc _
  have hP : Blk w2 (w.heap.size + 1) 69 #[.slice C l.length e, .bool whole] := by rw [← hw2]; exact Blk.new_ (by simp)
  obtain ⟨bP, hbP⟩ : ∃ b, w.heap.size + 1 = b := ⟨_, rfl⟩
  have HBP := Lib.hid hbP
  rw [hbP] at hP
  have HW2 := Lib.hid hw2
  have HBOX : Hid (∀ W, Below w2.heap.size w2 W → W.cell? ⟨w.heap.size, 0, none⟩ = some (.int .i64 (N : Int)) ∧ W.cell? ⟨w.heap.size, 1, none⟩ = some (.slice A g.ls.length c) ∧ W.cell? ⟨bP, 0, none⟩ = some (.slice C l.length e) ∧ W.cell? ⟨bP, 1, none⟩ = some (.bool whole) ∧ bP < W.heap.size) := fun W hW => by
    have h := hG.below hW hG.lt
    have h' := hP.below hW hP.lt
    have h0 := h.cell 0
    have h1 := h.cell 1
    have h2 := h'.cell 0
    have h3 := h'.cell 1
    simp at h0 h1 h2 h3
    exact ⟨h0, h1, h2, h3, h'.lt⟩
  have HV : Hid (∀ W, Below w2.heap.size w2 W → Calls Try.prog 29 #[.agg #[.int .i64 (N : Int), .slice A g.ls.length c]] W fun e w' => e = .returned (.bool true) ∧ Below W.heap.size W w') := fun W hW => by
    have h := refvalid_any A c g W (hx.below keeps_lk (bthen hb2 hW)) hlm
    rw [hN, grB_iff.2 hg] at h
    exact h
  have hpl : (potL g).length ≤ maxLen := by have := potS_len g g.n.toNat; show (potS g g.n.toNat).length ≤ _; unfold maxLen; omega
  have HRI : Hid (∀ W, Below w2.heap.size w2 W → Calls Try.prog 53 #[.agg #[.int .i64 (N : Int), .slice A g.ls.length c], .slice B (potL g).length d] W fun e w' => e = .returned (.bool true) ∧ Below W.heap.size W w') := fun W hW => by
    have h := refright_any A c g B (potL g) d W (hx.below keeps_lk (bthen hb2 hW)) hlm (hh.below keeps_int (bthen hb2 hW)) hpl
    rw [hN, grB_iff.2 hg, decide_eq_true rfl] at h
    exact h
  have HWA : Hid (∀ W, Below w2.heap.size w2 W → Calls Try.prog 44 #[.agg #[.int .i64 (N : Int), .slice A g.ls.length c], .int .i64 0, .int .i64 2000] W (IsCans (waysM g 2000 N 0) W)) := fun W hW => ways_any A c g N hg hN 2000 (by decide) (by decide) N 0 W (hx.below keeps_lk (bthen hb2 hW)) (by omega) (by omega) (by omega)
  have HAL : Hid (allC g = orderedM (waysM g 2000 N 0)) := by show allC g = _; unfold allC; rw [show g.n.toNat = N by omega]
  have hal := allC_len g
  have HLW : Hid ((waysM g 2000 N 0).length ≤ 2000) := waysM_len g (by decide) N 0
  generalize allC g = al at *
  have hy2 := hy.below keeps_can hb2
  obtain ⟨g0, g1, p0, p1, _⟩ := HBOX.out w2 (Below.refl _ _)
  clear hw2 hbP hG hP hN hg hpl hx hh hy
  go_enter Try.func35, Try.ntmps35
  go_upto_region 1 with fail
  rw [HW2.out, HBP.out]
  go_upto_region 2 with (go_at_call 29; go_loud (refine (HV.out _ (Below.refl _ _)).mono ?_; rintro e w3 ⟨rfl, hb3⟩))
  obtain ⟨g0, g1, p0, p1, _⟩ := HBOX.out w3 hb3
  go_upto_region 5 with (go_at_call 53; go_loud (refine (HRI.out _ hb3).mono ?_; rintro e w4 ⟨rfl, hb4⟩))
  have hb24 := bthen hb3 hb4
  obtain ⟨g0, g1, p0, p1, _⟩ := HBOX.out w4 hb24
  go_upto_region 8 with (first
    | (go_at_call 44; go_loud (refine (HWA.out _ hb24).mono ?_; rintro e w5 ⟨v3, ms3, rfl, hor3, hms3, HX3, hb5⟩; obtain ⟨A3, c3, rfl, hc3, hcm3, hs3⟩ := own_slr (R := RMc) hor3 (fun _ => rfl) (fun _ => rfl) rfl; have hl3 : ms3.length ≤ 2000 := by have := congrArg List.length HX3.out; rw [List.length_map] at this; rw [this]; exact HLW.out))
    | (go_at_call 43; go_loud (refine (reford_any A3 c3 ms3 _ hs3 hms3 hl3).mono ?_; rintro e w6 ⟨v4, ms4, rfl, hor4, hms4, HX4, hb6⟩)))
  obtain ⟨A4, c4, rfl, hc4, hcm4, hs4⟩ := own_slr (R := RMc) hor4 (fun _ => rfl) (fun _ => rfl) rfl
  have HX5 : Hid (ms4.map (·.x) = al) := by show _ = _; rw [HX4.out, HX3.out, HAL.out]
  have HL4 : Hid (ms4.length = al.length) := by have := congrArg List.length HX5.out; rw [List.length_map] at this; exact this
  have hca : SlR 2 RCan w6 A4 al := by rw [← HX5.out]; exact mc_can hs4 hms4
  have hb26 := bthen hb24 (bthen hb5 hb6)
  have hcl := hy2.below keeps_can hb26
  have HB26 := Lib.hid hb26
  have HCA := Lib.hid hca
  have HCC := Lib.hid hcl
  have HBE : Hid (∀ W', Below w6.heap.size w6 W' → Below w.heap.size w W') := fun W' hW' => hb2.trans ((bthen hb26 hW').mono hb2.size)
  clear hor3 hms3 hs3 hb5 hb6 hb4 hb3 hb24 hor4 hms4 hs4 hb26 hca hcl g0 g1 p0 p1 HV HRI HWA
  rw [HL4.out]
  obtain ⟨_, _, p0, p1, pl⟩ := HBOX.out _ HB26.out
  go_wp2_with fail
  clear p0 p1 pl
  go_loopw [11] (fun i wr => ∃ k : Nat, k ≤ l.length ∧ i = .int .i64 k ∧ Hid (diffAt l al 0 = diffAt (l.drop k) (al.drop k) k) ∧ Below w6.heap.size w6 wr) (fun i _ => l.length - (intOf i).toNat)
  case atStart => exact ⟨0, by omega, rfl, rfl, Below.refl _ _⟩
  case round =>
    obtain ⟨k, hk, rfl, HDF, hb⟩ := hrel
    obtain ⟨_, _, p0, p1, pl⟩ := HBOX.out _ (bthen HB26.out hb)
    by_cases hlt : k < l.length
    · obtain ⟨b, off, cx, A', cc, rfl, hbb, hxc, d0, d1, hsx, hcx1, hcx2⟩ := (HCC.out.below keeps_can hb).can hlt
      have HSX := Lib.hid hsx
      have HXC := Lib.hid hxc
      have hlt' : (k : Int) < (l.length : Int) := by omega
      have HB := Lib.hid hb
      clear hsx hxc hb
      by_cases hla : k < al.length
      · obtain ⟨b2, off2, cy, A2', cc2, rfl, hbb2, hyc, f0, f1, hsy, hcy1, hcy2⟩ := (HCA.out.below keeps_can HB.out).can hla
        have HSY := Lib.hid hsy
        have HST := Lib.hid (diffAt_step HXC.out hyc)
        have hla' : ¬ (al.length : Int) ≤ (k : Int) := by omega
        have HCN : Hid (∀ W, Below wr.heap.size wr W → Calls Try.prog 54 #[.agg #[.slice A' cx.links.length cc, .int .i64 cx.cost], .agg #[.slice A2' cy.links.length cc2, .int .i64 cy.cost]] W fun e w' => e = .returned (.bool (decide (cx = cy))) ∧ Below W.heap.size W w') := fun W hW => refcan_any cx cy A' A2' cc cc2 W (HSX.out.below keeps_int hW) (HSY.out.below keeps_int hW) (by omega) (by omega)
        obtain ⟨bb, hbb0⟩ : ∃ b, decide (cx = cy) = b := ⟨_, rfl⟩
        have HBB := Lib.hid hbb0
        rw [hbb0] at HCN
        clear hbb0 hsy hyc
        cases bb with
        | true =>
          have HNX : Hid (diffAt l al 0 = diffAt (l.drop (k + 1)) (al.drop (k + 1)) (k + 1)) := by show _ = _; rw [HDF.out, HST.out, if_pos (of_decide_eq_true HBB.out)]
          go_upto_region 11 with fail
          refine ordB_below (.quiet 0 (.quiet 1 (.quiet 2 (.quiet 3 (.quiet 4 (.quiet 5 (.quiet 6 (.quiet 7 (.quiet 8 (.quiet 9 (.quiet 10 (.quiet 11 (.quiet 12 (.quiet 13 (.only 14 (.quiet 15 (.quiet 16 .done))))))))))))))))) (by kernel_rfl) (by kernel_rfl) (by kernel_rfl) (fun _ _ _ _ _ h => h) ?_
          intro V0 hV0
          iterate 14 (first
            | (refine ordB_skip rfl rfl ?_; simp only [Act.put, List.setIfInBounds_toArray, List.set_cons_zero, List.set_cons_succ])
            | (refine ordB_take (v := ?_) rfl rfl ?_ ?_
               rotate_left 1
               focus (intro W hW; obtain ⟨hcW, hfW⟩ := bcell hW; (go_simp <;> with_reducible rfl))
               simp only [Act.put, List.setIfInBounds_toArray, List.set_cons_zero, List.set_cons_succ]))
          refine ordB_only (opB_call rfl rfl (fun K hK => ?_))
          go_simp
          go_at_call 54
          refine (HCN.out V0 hV0).mono ?_
          rintro e V0_1 ⟨rfl, hb9⟩
          refine hK.out _ _ (hV0.trans (hb9.mono hV0.size)) (fun hV0_1 => ?_)
          iterate 2 (first
            | (refine ordB_skip rfl rfl ?_; simp only [Act.put, List.setIfInBounds_toArray, List.set_cons_zero, List.set_cons_succ])
            | (refine ordB_take (v := ?_) rfl rfl ?_ ?_
               rotate_left 1
               focus (intro W hW; obtain ⟨hcW, hfW⟩ := bcell hW; (go_simp <;> with_reducible rfl))
               simp only [Act.put, List.setIfInBounds_toArray, List.set_cons_zero, List.set_cons_succ]))
          refine ordB_nil ?_
          have hE8 := bthen HB.out hV0_1
          go_wp2_with fail
          go_roundw
          case rel => exact ⟨k + 1, by omega, by go_num, HNX, hE8⟩
          case measure => simp [intOf]; omega
        | false =>
          have HNX : Hid (refCheckM al l whole = ((k : Int), 160)) := by show _ = _; unfold refCheckM; rw [HDF.out, HST.out, if_neg (of_decide_eq_false HBB.out)]
          go_upto_region 11 with fail
          refine ordB_below (.quiet 0 (.quiet 1 (.quiet 2 (.quiet 3 (.quiet 4 (.quiet 5 (.quiet 6 (.quiet 7 (.quiet 8 (.quiet 9 (.quiet 10 (.quiet 11 (.quiet 12 (.quiet 13 (.only 14 (.quiet 15 (.quiet 16 .done))))))))))))))))) (by kernel_rfl) (by kernel_rfl) (by kernel_rfl) (fun _ _ _ _ _ h => h) ?_
          intro V0 hV0
          iterate 14 (first
            | (refine ordB_skip rfl rfl ?_; simp only [Act.put, List.setIfInBounds_toArray, List.set_cons_zero, List.set_cons_succ])
            | (refine ordB_take (v := ?_) rfl rfl ?_ ?_
               rotate_left 1
               focus (intro W hW; obtain ⟨hcW, hfW⟩ := bcell hW; (go_simp <;> with_reducible rfl))
               simp only [Act.put, List.setIfInBounds_toArray, List.set_cons_zero, List.set_cons_succ]))
          refine ordB_only (opB_call rfl rfl (fun K hK => ?_))
          go_simp
          go_at_call 54
          refine (HCN.out V0 hV0).mono ?_
          rintro e V0_1 ⟨rfl, hb9⟩
          refine hK.out _ _ (hV0.trans (hb9.mono hV0.size)) (fun hV0_1 => ?_)
          iterate 2 (first
            | (refine ordB_skip rfl rfl ?_; simp only [Act.put, List.setIfInBounds_toArray, List.set_cons_zero, List.set_cons_succ])
            | (refine ordB_take (v := ?_) rfl rfl ?_ ?_
               rotate_left 1
               focus (intro W hW; obtain ⟨hcW, hfW⟩ := bcell hW; (go_simp <;> with_reducible rfl))
               simp only [Act.put, List.setIfInBounds_toArray, List.set_cons_zero, List.set_cons_succ]))
          refine ordB_nil ?_
          have hE8 := HBE.out _ (bthen HB.out hV0_1)
          go_wp2_with fail
          go_ret2
          exact ⟨by rw [HNX.out]; rfl, hE8⟩
      · have HNX : Hid (refCheckM al l whole = ((k : Int), 160)) := by show _ = _; unfold refCheckM; rw [HDF.out, diffAt_end HXC.out (by omega)]
        have hla' : (al.length : Int) ≤ (k : Int) := by omega
        go_upto_region 11 with fail
        refine ordB_below (.quiet 0 (.quiet 1 (.quiet 2 (.quiet 3 (.quiet 4 (.quiet 5 (.quiet 6 (.quiet 7 (.quiet 8 (.quiet 9 (.quiet 10 (.quiet 11 (.quiet 12 (.quiet 13 (.only 14 (.quiet 15 (.quiet 16 .done))))))))))))))))) (by kernel_rfl) (by kernel_rfl) (by kernel_rfl) (fun _ _ _ _ _ h => h) ?_
        intro V0 hV0
        iterate 14 (first
          | (refine ordB_skip rfl rfl ?_; simp only [Act.put, List.setIfInBounds_toArray, List.set_cons_zero, List.set_cons_succ])
          | (refine ordB_take (v := ?_) rfl rfl ?_ ?_
             rotate_left 1
             focus (intro W hW; obtain ⟨hcW, hfW⟩ := bcell hW; (go_simp <;> with_reducible rfl))
             simp only [Act.put, List.setIfInBounds_toArray, List.set_cons_zero, List.set_cons_succ]))
        refine ordB_only (opB_cskip rfl rfl hV0 ?_)
        simp only [Act.put, List.setIfInBounds_toArray, List.set_cons_zero, List.set_cons_succ]
        iterate 2 (first
          | (refine ordB_skip rfl rfl ?_; simp only [Act.put, List.setIfInBounds_toArray, List.set_cons_zero, List.set_cons_succ])
          | (refine ordB_take (v := ?_) rfl rfl ?_ ?_
             rotate_left 1
             focus (intro W hW; obtain ⟨hcW, hfW⟩ := bcell hW; (go_simp <;> with_reducible rfl))
             simp only [Act.put, List.setIfInBounds_toArray, List.set_cons_zero, List.set_cons_succ]))
        refine ordB_nil ?_
        have hE8 := HBE.out _ (bthen HB.out hV0)
        go_wp2_with fail
        go_ret2
        exact ⟨by rw [HNX.out]; rfl, hE8⟩
    · have hkl : k = l.length := by omega
      have hlt' : ¬ (k : Int) < (l.length : Int) := by omega
      have HD2 : Hid (diffAt l al 0 = none) := by show _ = _; rw [HDF.out, List.drop_eq_nil_of_le (by omega)]; rfl
      have hE := HBE.out _ hb
      by_cases hle : l.length = al.length
      · cases hwh : whole with
        | true =>
          have HNX : Hid (refCheckM al l whole = ((l.length : Int), 0)) := by show _ = _; unfold refCheckM; rw [HD2.out]; simp [hwh, hle]
          have z : ((l.length : Int) == (al.length : Int)) = true := by simp; omega
          rw [hwh] at p1
          clear hwh hle
          go_wp2_with fail
          go_ret2
          exact ⟨by rw [HNX.out]; rfl, hE⟩
        | false =>
          have HNX : Hid (refCheckM al l whole = ((l.length : Int), 160)) := by show _ = _; unfold refCheckM; rw [HD2.out]; simp [hwh, hle]
          have z : ((l.length : Int) == (al.length : Int)) = true := by simp; omega
          rw [hwh] at p1
          clear hwh hle
          go_wp2_with fail
          go_ret2
          exact ⟨by rw [HNX.out]; rfl, hE⟩
      · cases hwh : whole with
        | true =>
          have HNX : Hid (refCheckM al l whole = ((l.length : Int), 160)) := by show _ = _; unfold refCheckM; rw [HD2.out]; simp [hwh, hle]
          have z : ((l.length : Int) == (al.length : Int)) = false := by simp; omega
          rw [hwh] at p1
          clear hwh hle
          go_wp2_with fail
          go_ret2
          exact ⟨by rw [HNX.out]; rfl, hE⟩
        | false =>
          have HNX : Hid (refCheckM al l whole = ((l.length : Int), 0)) := by show _ = _; unfold refCheckM; rw [HD2.out]; simp [hwh, hle]
          have z : ((l.length : Int) == (al.length : Int)) = false := by simp; omega
          rw [hwh] at p1
          clear hwh hle
          go_wp2_with fail
          go_ret2
          exact ⟨by rw [HNX.out]; rfl, hE⟩
end Go.Proofs.Ytbikjmafddndpaa
