/-
  SiWalkB, OuRow, joined. No conditions.
-/
import Derived.Test.YtfpnhgahkjglgaaGreatQ18
import Derived.Test.YtfpnhgahkjglgaaGreatQ06
import Derived.Test.YtfpnhgahkjglgaaGreatQ14
import Derived.ArgAppend
/-
  The walk of package single: a gap after both outputs have grown.
-/
namespace Go.Proofs.YtfpnhgahkjglgaaGreat
open Go Go.RowKit Go.Maps

theorem ba_app (a b : List UInt8) : ba a ++ ba b = ba (a ++ b) := bl_inj (by rw [bl_app]; rfl)
theorem ba_drop (l : List UInt8) (n : Nat) : (ba l).extract n (ba l).size = ba (l.drop n) := bl_inj (by rw [bl_drop]; rfl)
theorem gapOf_take {A B : List UInt8} {n : Nat} (h : A.take n = B.take n) : gapOf A B = gapOf (A.drop n) (B.drop n) := by
  have e1 : A = A.take n ++ A.drop n := (List.take_append_drop n A).symm
  have e2 : B = A.take n ++ B.drop n := by rw [h]; exact (List.take_append_drop n B).symm
  conv => lhs; rw [e1, e2]
  exact gapOf_app _ _ _
theorem gapOf_end {A B : List UInt8} {n : Nat} (h : A.take n = B.take n) (hn : A.length ≤ n ∨ B.length ≤ n) : gapOf A B = ⟨A.drop n, B.drop n, false⟩ := by
  rw [gapOf_take h]
  rcases hn with hn | hn
  · rw [List.drop_eq_nil_of_le hn, gapOf_nil_l]
  · rw [List.drop_eq_nil_of_le hn, gapOf_nil_r]
theorem gapOf_ne {A B : List UInt8} {n : Nat} {a b : UInt8} (h : A.take n = B.take n) (ha : A[n]? = some a) (hb : B[n]? = some b) (hne : a ≠ b) : gapOf A B = Gp.part := by
  obtain ⟨h1, h2⟩ := List.getElem?_eq_some_iff.1 ha
  obtain ⟨h3, h4⟩ := List.getElem?_eq_some_iff.1 hb
  rw [gapOf_take h, List.drop_eq_getElem_cons h1, List.drop_eq_getElem_cons h3, h2, h4]
  exact if_neg hne
theorem ba_get {l : List UInt8} {n : Nat} (h : n < (ba l).size) : l[n]? = some (ba l)[n] := by
  have h2 : n < l.length := h
  rw [List.getElem?_eq_getElem h2]
  rfl
set_option maxRecDepth 100000 in
set_option maxHeartbeats 8000000 in
theorem gwider_any (g : Gp) (x y : List UInt8) (w : World) (hsz : g.sz + x.length + y.length ≤ 1000000000) :
    Calls Tryz.prog 91 #[.agg #[.string (ba g.a), .string (ba g.b), .bool g.p], .string (ba x), .string (ba y)] w fun e w' => e = .returned (.agg #[.string (ba (widen g x y).a), .string (ba (widen g x y).b), .bool (widen g x y).p]) ∧ Below w.heap.size w w' := by
  obtain ⟨w2, hw2⟩ : ∃ w2, (w.alloc (.cells #[.string (ba g.a), .string (ba g.b), .bool g.p] 120)).alloc (.cells #[.string { data := #[] }, .string { data := #[] }, .bool false] 120) = w2 := ⟨_, rfl⟩
  obtain ⟨gb, hgb⟩ : ∃ g, w.heap.size = g := ⟨_, rfl⟩
  obtain ⟨gr, hgr⟩ : ∃ h, gb + 1 = h := ⟨_, rfl⟩
  have hb2 : Below w.heap.size w w2 := by rw [← hw2]; exact nw _ (nw _ (Below.refl _ _))
  have hA : Blk w2 gb 120 #[.string (ba g.a), .string (ba g.b), .bool g.p] := by rw [← hw2, ← hgb]; exact (Blk.new _ _ _).alloc _
  have hC : Blk w2 gr 120 #[.string { data := #[] }, .string { data := #[] }, .bool false] := by rw [← hw2]; exact Blk.new_ (by simp; omega)
  have hgrw : w.heap.size ≤ gr := by omega
  have HW2 := Lib.hid hw2
  have HB2 := Lib.hid hb2
  have HC := Lib.hid hC
  have HG := Lib.hid hgb
  have HGR := Lib.hid hgr
  have b0 := hA.cell 0
  have b1 := hA.cell 1
  have b2 := hA.cell 2
  have bl := hA.lt
  simp at b0 b1 b2
  have hsa : g.a.length + x.length ≤ 1000000000 := by unfold Gp.sz at hsz; omega
  have hsb : g.b.length + y.length ≤ 1000000000 := by unfold Gp.sz at hsz; omega
  have hz1 : ¬ 9223372036854775807 < (ba g.a).size + (ba x).size := by rw [ba_size, ba_size]; omega
  have hz2 : ¬ 9223372036854775807 < (ba g.b).size + (ba y).size := by rw [ba_size, ba_size]; omega
  clear hw2 hb2 hA hgb hgr hsz
  cases hp : g.p with
  | true =>
    have HWD : Hid (widen g x y = g) := by show _ = _; unfold widen; rw [if_pos hp]
    have HPT := Lib.hid hp
    rw [hp] at HW2 b2
    clear hp
    go_enter Tryz.func91, Tryz.ntmps91
    go_upto_region 1 with fail
    rw [HW2.out, HG.out, HGR.out]
    have r0 := hC.cell 0
    have r1 := hC.cell 1
    have r2 := hC.cell 2
    have rf0 := hC.frozen 0
    have rf1 := hC.frozen 1
    have rf2 := hC.frozen 2
    have rl := hC.lt
    simp at r0 r1 r2
    go_wp2_with fail
    have hE := (((hC.set_ 0 (.string (ba g.a))).set_ 1 (.string (ba g.b))).set_ 2 (.bool true))
    have hbE := (((HB2.out.setCell (p := ⟨gr, 0, none⟩) hgrw (.string (ba g.a))).setCell (p := ⟨gr, 1, none⟩) hgrw (.string (ba g.b))).setCell (p := ⟨gr, 2, none⟩) hgrw (.bool true))
    obtain ⟨w5, hw5⟩ : ∃ W, (((w2.setCell ⟨gr, 0, none⟩ (.string (ba g.a))).setCell ⟨gr, 1, none⟩ (.string (ba g.b))).setCell ⟨gr, 2, none⟩ (.bool true)) = W := ⟨_, rfl⟩
    rw [hw5] at hE hbE ⊢
    have z0 := hE.cell 0
    have z1 := hE.cell 1
    have z2 := hE.cell 2
    simp at z0 z1 z2
    refine bodyPost_ret (v := .agg #[.string (ba g.a), .string (ba g.b), .bool true]) (by simp [results, Tryz.results91, go_sem, z0, z1, z2]; done) rfl ?_
    exact ⟨by rw [HWD.out, HPT.out], hbE⟩
  | false =>
    have HWD : Hid (widen g x y = gapOf (g.a ++ x) (g.b ++ y)) := by show _ = _; unfold widen; rw [if_neg (by rw [hp]; simp)]
    rw [hp] at HW2 b2
    obtain ⟨A, hA⟩ : ∃ A, g.a ++ x = A := ⟨_, rfl⟩
    obtain ⟨B, hB⟩ : ∃ A, g.b ++ y = A := ⟨_, rfl⟩
    obtain ⟨P, hP⟩ : ∃ P, ba A = P := ⟨_, rfl⟩
    obtain ⟨Q, hQ⟩ : ∃ P, ba B = P := ⟨_, rfl⟩
    have hlP : P.size ≤ 1000000000 := by rw [← hP, ba_size, ← hA, List.length_append]; omega
    have hlQ : Q.size ≤ 1000000000 := by rw [← hQ, ba_size, ← hB, List.length_append]; omega
    have HP : Hid (ba g.a ++ ba x = P) := by show _ = _; rw [ba_app, hA, hP]
    have HQ : Hid (ba g.b ++ ba y = Q) := by show _ = _; rw [ba_app, hB, hQ]
    rw [hA, hB] at HWD
    have HPA := Lib.hid hP
    have HQB := Lib.hid hQ
    clear hp hA hB hP hQ hsa hsb
    go_enter Tryz.func91, Tryz.ntmps91
    go_upto_region 1 with fail
    rw [HW2.out, HG.out, HGR.out]
    clear hC
    go_upto_region 3 with fail
    refine ordB_below (.quiet 0 (.quiet 1 (.quiet 2 (.quiet 3 (.quiet 4 (.quiet 5 (.quiet 6 (.quiet 7 (.quiet 8 (.quiet 9 .done)))))))))) (by kernel_rfl) (by kernel_rfl) (by kernel_rfl) (fun _ _ _ _ _ h => h) ?_
    intro V0 hV0
    iterate 10 (first
      | (refine ordB_skip rfl rfl ?_; simp only [Act.put, List.setIfInBounds_toArray, List.set_cons_zero, List.set_cons_succ])
      | (refine ordB_take (v := ?_) rfl rfl ?_ ?_
         rotate_left 1
         focus (intro W hW; obtain ⟨hcW, hfW⟩ := bcell hW; (go_simp <;> with_reducible rfl))
         simp only [Act.put, List.setIfInBounds_toArray, List.set_cons_zero, List.set_cons_succ]))
    refine ordB_nil ?_
    have HB3 := Lib.hid (HB2.out.trans (hV0.mono HB2.out.size))
    have HC3 := Lib.hid (HC.out.below hV0 HC.out.lt)
    obtain ⟨W3, hW3⟩ : ∃ W, V0 = W := ⟨_, rfl⟩
    rw [hW3] at HB3 HC3 ⊢
    rw [HP.out, HQ.out]
    clear hW3 hV0 b0 b1 b2 bl
    go_wp2_with fail
    go_loopw [9] (fun iv wr => ∃ n : Nat, n ≤ P.size ∧ n ≤ Q.size ∧ Hid (A.take n = B.take n) ∧ iv = .int .i64 (n : Int) ∧ Below w.heap.size w wr ∧ Blk wr gr 120 #[.string { data := #[] }, .string { data := #[] }, .bool false]) (fun iv _ => P.size - (intOf iv).toNat)
    case atStart => exact ⟨0, Nat.zero_le _, Nat.zero_le _, (by show A.take 0 = B.take 0; simp), rfl, HB3.out, HC3.out⟩
    case round =>
      obtain ⟨wR, rfl⟩ : ∃ W, W = wr := ⟨wr, rfl⟩
      obtain ⟨n, hnP, hnQ, HT, rfl, hbr, hcr⟩ := hrel
      have HBR := Lib.hid hbr
      have HCR := Lib.hid hcr
      have hn0 : (0 : Int) ≤ (n : Int) := by omega
      have hnp1 : (n : Int) ≤ (P.size : Int) := by omega
      have hnq1 : (n : Int) ≤ (Q.size : Int) := by omega
      clear hbr hcr hz1 hz2
      by_cases h1 : n < P.size
      · have q0 : (n : Int) < (P.size : Int) := by omega
        have HGA : Hid (A[n]? = some P[n]) := by show _ = _; have := HPA.out; subst this; exact ba_get h1
        by_cases h2 : n < Q.size
        · have q1 : (n : Int) < (Q.size : Int) := by omega
          have HGB : Hid (B[n]? = some Q[n]) := by show _ = _; have := HQB.out; subst this; exact ba_get h2
          by_cases h3 : P[n] = Q[n]
          · have q2 : ((P[n].toNat : Int) == (Q[n].toNat : Int)) = true := by rw [h3]; simp
            have HTN : Hid (A.take (n + 1) = B.take (n + 1)) := by show _ = _; rw [take_succ_of HGA.out, take_succ_of HGB.out, HT.out, h3]
            clear h3
            go_upto_region 5 with fail
            refine ordB_below (.quiet 0 (.quiet 1 (.quiet 2 (.quiet 3 (.quiet 4 (.quiet 5 (.quiet 6 (.quiet 7 (.quiet 8 (.quiet 9 (.quiet 10 (.quiet 11 (.quiet 12 (.quiet 13 (.quiet 14 (.quiet 15 (.quiet 16 (.quiet 17 (.quiet 18 .done))))))))))))))))))) (by kernel_rfl) (by kernel_rfl) (by kernel_rfl) (fun _ _ _ _ _ h => h) ?_
            intro V0 hV0
            iterate 19 (first
              | (refine ordB_skip rfl rfl ?_; simp only [Act.put, List.setIfInBounds_toArray, List.set_cons_zero, List.set_cons_succ])
              | (refine ordB_take (v := ?_) rfl rfl ?_ ?_
                 rotate_left 1
                 focus (intro W hW; obtain ⟨hcW, hfW⟩ := bcell hW; (go_simp <;> with_reducible rfl))
                 simp only [Act.put, List.setIfInBounds_toArray, List.set_cons_zero, List.set_cons_succ]))
            refine ordB_nil ?_
            have HBE := Lib.hid (HBR.out.trans (hV0.mono (by have := HBR.out.size; omega)))
            have HCE := Lib.hid (HCR.out.below hV0 HCR.out.lt)
            obtain ⟨W5, hW5⟩ : ∃ W, V0 = W := ⟨_, rfl⟩
            rw [hW5] at HBE HCE ⊢
            clear hW5 hV0
            clear HGA HGB
            go_wp2_with fail
            go_roundw
            case rel => exact ⟨n + 1, by omega, by omega, HTN.out, by go_num, HBE.out, HCE.out⟩
            case measure => simp [intOf]; omega
          · have q2 : ((P[n].toNat : Int) == (Q[n].toNat : Int)) = false := by rw [beq_eq_false_iff_ne]; exact fun e => h3 (UInt8.toNat_inj.1 (by omega))
            have HFN : Hid (widen g x y = Gp.part) := by show _ = _; rw [HWD.out]; exact gapOf_ne HT.out HGA.out HGB.out h3
            clear h3
            go_upto_region 5 with fail
            refine ordB_below (.quiet 0 (.quiet 1 (.quiet 2 (.quiet 3 (.quiet 4 (.quiet 5 (.quiet 6 (.quiet 7 (.quiet 8 (.quiet 9 (.quiet 10 (.quiet 11 (.quiet 12 (.quiet 13 (.quiet 14 (.quiet 15 (.quiet 16 (.quiet 17 (.quiet 18 .done))))))))))))))))))) (by kernel_rfl) (by kernel_rfl) (by kernel_rfl) (fun _ _ _ _ _ h => h) ?_
            intro V0 hV0
            iterate 19 (first
              | (refine ordB_skip rfl rfl ?_; simp only [Act.put, List.setIfInBounds_toArray, List.set_cons_zero, List.set_cons_succ])
              | (refine ordB_take (v := ?_) rfl rfl ?_ ?_
                 rotate_left 1
                 focus (intro W hW; obtain ⟨hcW, hfW⟩ := bcell hW; (go_simp <;> with_reducible rfl))
                 simp only [Act.put, List.setIfInBounds_toArray, List.set_cons_zero, List.set_cons_succ]))
            refine ordB_nil ?_
            have HBE := Lib.hid (HBR.out.trans (hV0.mono (by have := HBR.out.size; omega)))
            have HCE := Lib.hid (HCR.out.below hV0 HCR.out.lt)
            obtain ⟨W5, hW5⟩ : ∃ W, V0 = W := ⟨_, rfl⟩
            rw [hW5] at HBE HCE ⊢
            clear hW5 hV0
            clear HGA HGB
            have hC := HCE.out
            have r0 := hC.cell 0
            have r1 := hC.cell 1
            have r2 := hC.cell 2
            have rf0 := hC.frozen 0
            have rf1 := hC.frozen 1
            have rf2 := hC.frozen 2
            have rl := hC.lt
            simp at r0 r1 r2
            go_wp2_with fail
            have hE := (((hC.set_ 0 (.string { data := #[] })).set_ 1 (.string { data := #[] })).set_ 2 (.bool true))
            have hbE := (((HBE.out.setCell (p := ⟨gr, 0, none⟩) hgrw (.string { data := #[] })).setCell (p := ⟨gr, 1, none⟩) hgrw (.string { data := #[] })).setCell (p := ⟨gr, 2, none⟩) hgrw (.bool true))
            obtain ⟨w5, hw5⟩ : ∃ W, (((W5.setCell ⟨gr, 0, none⟩ (.string { data := #[] })).setCell ⟨gr, 1, none⟩ (.string { data := #[] })).setCell ⟨gr, 2, none⟩ (.bool true)) = W := ⟨_, rfl⟩
            rw [hw5] at hE hbE ⊢
            have z0 := hE.cell 0
            have z1 := hE.cell 1
            have z2 := hE.cell 2
            simp at z0 z1 z2
            refine bodyPost_ret (v := .agg #[.string { data := #[] }, .string { data := #[] }, .bool true]) (by simp [results, Tryz.results91, go_sem, z0, z1, z2]; done) rfl ?_
            exact ⟨by rw [HFN.out]; rfl, hbE⟩
        · have q1 : ¬ (n : Int) < (Q.size : Int) := by omega
          have HFN : Hid (widen g x y = ⟨A.drop n, B.drop n, false⟩) := by show _ = _; rw [HWD.out]; exact gapOf_end HT.out (.inr (by have := HQB.out; rw [← this] at h2; exact Nat.not_lt.1 h2))
          have HX1 : Hid (ba (A.drop n) = P.extract n P.size) := by show _ = _; have := HPA.out; subst this; exact (ba_drop _ _).symm
          have HX2 : Hid (ba (B.drop n) = Q.extract n Q.size) := by show _ = _; have := HQB.out; subst this; exact (ba_drop _ _).symm
          go_upto_region 5 with fail
          refine ordB_below (.quiet 0 (.quiet 1 (.quiet 2 (.quiet 3 (.quiet 4 (.quiet 5 (.quiet 6 (.quiet 7 (.quiet 8 (.quiet 9 (.quiet 10 (.quiet 11 (.quiet 12 (.quiet 13 (.quiet 14 (.quiet 15 (.quiet 16 (.quiet 17 (.quiet 18 .done))))))))))))))))))) (by kernel_rfl) (by kernel_rfl) (by kernel_rfl) (fun _ _ _ _ _ h => h) ?_
          intro V0 hV0
          iterate 19 (first
            | (refine ordB_skip rfl rfl ?_; simp only [Act.put, List.setIfInBounds_toArray, List.set_cons_zero, List.set_cons_succ])
            | (refine ordB_take (v := ?_) rfl rfl ?_ ?_
               rotate_left 1
               focus (intro W hW; obtain ⟨hcW, hfW⟩ := bcell hW; (go_simp <;> with_reducible rfl))
               simp only [Act.put, List.setIfInBounds_toArray, List.set_cons_zero, List.set_cons_succ]))
          refine ordB_nil ?_
          have HBE := Lib.hid (HBR.out.trans (hV0.mono (by have := HBR.out.size; omega)))
          have HCE := Lib.hid (HCR.out.below hV0 HCR.out.lt)
          obtain ⟨W5, hW5⟩ : ∃ W, V0 = W := ⟨_, rfl⟩
          rw [hW5] at HBE HCE ⊢
          clear hW5 hV0
          go_upto_region 9 with fail
          refine ordB_start (ButB gr W5) (.quiet 0 (.quiet 1 (.quiet 2 (.quiet 3 (.quiet 4 (.quiet 5 (.quiet 6 (.only 7 .done)))))))) (by kernel_rfl) (by kernel_rfl) (by kernel_rfl) (fun _ _ _ _ _ h => h) (ButB.of_below (Below.refl _ _).drew) ?_
          have hV0 : ButB gr W5 W5.drew := ButB.of_below (Below.refl _ _).drew
          have hC : Blk W5.drew gr 120 #[.string { data := #[] }, .string { data := #[] }, .bool false] := HCE.out
          have hB0 : Below w.heap.size w W5.drew := HBE.out.drew
          obtain ⟨V0, qqV0⟩ : ∃ W, W5.drew = W := ⟨_, rfl⟩
          rw [qqV0] at hV0 hC hB0 ⊢
          clear qqV0
          iterate 7 (first
            | (refine ordB_skip rfl rfl ?_; simp only [Act.put, List.setIfInBounds_toArray, List.set_cons_zero, List.set_cons_succ])
            | (refine ordB_take (v := ?_) rfl rfl ?_ ?_
               rotate_left 1
               focus (intro W hW; have hcW := hW.cell; (go_simp <;> with_reducible rfl))
               simp only [Act.put, List.setIfInBounds_toArray, List.set_cons_zero, List.set_cons_succ]))
          refine ordB_only (opB_call rfl rfl (fun K hK => ?_))
          have r0 := hC.cell 0
          have r1 := hC.cell 1
          have r2 := hC.cell 2
          have f0 := hC.frozen 0
          have f1 := hC.frozen 1
          have f2 := hC.frozen 2
          have rl := hC.lt
          simp at r0 r1 r2
          go_simp
          refine hK.out _ _ (((hV0.set_ 0 (.string (P.extract n P.size))).set_ 1 (.string (Q.extract n Q.size))).set_ 2 (.bool false)) (fun hV0_1 => ?_)
          clear hK K
          refine ordB_nil ?_
          try simp only [Act.put, List.setIfInBounds_toArray, List.set_cons_zero, List.set_cons_succ]
          have hE := (((hC.set_ 0 (.string (P.extract n P.size))).set_ 1 (.string (Q.extract n Q.size))).set_ 2 (.bool false))
          have hbE := (((hB0.setCell (p := ⟨gr, 0, none⟩) hgrw (.string (P.extract n P.size))).setCell (p := ⟨gr, 1, none⟩) hgrw (.string (Q.extract n Q.size))).setCell (p := ⟨gr, 2, none⟩) hgrw (.bool false))
          obtain ⟨w5, hw5⟩ : ∃ W, (((V0.setCell ⟨gr, 0, none⟩ (.string (P.extract n P.size))).setCell ⟨gr, 1, none⟩ (.string (Q.extract n Q.size))).setCell ⟨gr, 2, none⟩ (.bool false)) = W := ⟨_, rfl⟩
          rw [hw5] at hE hbE ⊢
          have z0 := hE.cell 0
          have z1 := hE.cell 1
          have z2 := hE.cell 2
          simp at z0 z1 z2
          clear hV0_1 hw5 r0 r1 r2 f0 f1 f2 rl hC hB0
          go_wp2_with fail
          refine bodyPost_ret (v := .agg #[.string (P.extract n P.size), .string (Q.extract n Q.size), .bool false]) (by simp [results, Tryz.results91, go_sem, z0, z1, z2]; done) rfl ?_
          exact ⟨by rw [HFN.out, HX1.out, HX2.out], hbE⟩
      · have q0 : ¬ (n : Int) < (P.size : Int) := by omega
        have HFN : Hid (widen g x y = ⟨A.drop n, B.drop n, false⟩) := by show _ = _; rw [HWD.out]; exact gapOf_end HT.out (.inl (by have := HPA.out; rw [← this] at h1; exact Nat.not_lt.1 h1))
        have HX1 : Hid (ba (A.drop n) = P.extract n P.size) := by show _ = _; have := HPA.out; subst this; exact (ba_drop _ _).symm
        have HX2 : Hid (ba (B.drop n) = Q.extract n Q.size) := by show _ = _; have := HQB.out; subst this; exact (ba_drop _ _).symm
        go_upto_region 5 with fail
        refine ordB_below (.quiet 0 (.quiet 1 (.quiet 2 (.quiet 3 (.quiet 4 (.quiet 5 (.quiet 6 (.quiet 7 (.quiet 8 (.quiet 9 (.quiet 10 (.quiet 11 (.quiet 12 (.quiet 13 (.quiet 14 (.quiet 15 (.quiet 16 (.quiet 17 (.quiet 18 .done))))))))))))))))))) (by kernel_rfl) (by kernel_rfl) (by kernel_rfl) (fun _ _ _ _ _ h => h) ?_
        intro V0 hV0
        iterate 19 (first
          | (refine ordB_skip rfl rfl ?_; simp only [Act.put, List.setIfInBounds_toArray, List.set_cons_zero, List.set_cons_succ])
          | (refine ordB_take (v := ?_) rfl rfl ?_ ?_
             rotate_left 1
             focus (intro W hW; obtain ⟨hcW, hfW⟩ := bcell hW; (go_simp <;> with_reducible rfl))
             simp only [Act.put, List.setIfInBounds_toArray, List.set_cons_zero, List.set_cons_succ]))
        refine ordB_nil ?_
        have HBE := Lib.hid (HBR.out.trans (hV0.mono (by have := HBR.out.size; omega)))
        have HCE := Lib.hid (HCR.out.below hV0 HCR.out.lt)
        obtain ⟨W5, hW5⟩ : ∃ W, V0 = W := ⟨_, rfl⟩
        rw [hW5] at HBE HCE ⊢
        clear hW5 hV0
        go_upto_region 9 with fail
        refine ordB_start (ButB gr W5) (.quiet 0 (.quiet 1 (.quiet 2 (.quiet 3 (.quiet 4 (.quiet 5 (.quiet 6 (.only 7 .done)))))))) (by kernel_rfl) (by kernel_rfl) (by kernel_rfl) (fun _ _ _ _ _ h => h) (ButB.of_below (Below.refl _ _).drew) ?_
        have hV0 : ButB gr W5 W5.drew := ButB.of_below (Below.refl _ _).drew
        have hC : Blk W5.drew gr 120 #[.string { data := #[] }, .string { data := #[] }, .bool false] := HCE.out
        have hB0 : Below w.heap.size w W5.drew := HBE.out.drew
        obtain ⟨V0, qqV0⟩ : ∃ W, W5.drew = W := ⟨_, rfl⟩
        rw [qqV0] at hV0 hC hB0 ⊢
        clear qqV0
        iterate 7 (first
          | (refine ordB_skip rfl rfl ?_; simp only [Act.put, List.setIfInBounds_toArray, List.set_cons_zero, List.set_cons_succ])
          | (refine ordB_take (v := ?_) rfl rfl ?_ ?_
             rotate_left 1
             focus (intro W hW; have hcW := hW.cell; (go_simp <;> with_reducible rfl))
             simp only [Act.put, List.setIfInBounds_toArray, List.set_cons_zero, List.set_cons_succ]))
        refine ordB_only (opB_call rfl rfl (fun K hK => ?_))
        have r0 := hC.cell 0
        have r1 := hC.cell 1
        have r2 := hC.cell 2
        have f0 := hC.frozen 0
        have f1 := hC.frozen 1
        have f2 := hC.frozen 2
        have rl := hC.lt
        simp at r0 r1 r2
        go_simp
        refine hK.out _ _ (((hV0.set_ 0 (.string (P.extract n P.size))).set_ 1 (.string (Q.extract n Q.size))).set_ 2 (.bool false)) (fun hV0_1 => ?_)
        clear hK K
        refine ordB_nil ?_
        try simp only [Act.put, List.setIfInBounds_toArray, List.set_cons_zero, List.set_cons_succ]
        have hE := (((hC.set_ 0 (.string (P.extract n P.size))).set_ 1 (.string (Q.extract n Q.size))).set_ 2 (.bool false))
        have hbE := (((hB0.setCell (p := ⟨gr, 0, none⟩) hgrw (.string (P.extract n P.size))).setCell (p := ⟨gr, 1, none⟩) hgrw (.string (Q.extract n Q.size))).setCell (p := ⟨gr, 2, none⟩) hgrw (.bool false))
        obtain ⟨w5, hw5⟩ : ∃ W, (((V0.setCell ⟨gr, 0, none⟩ (.string (P.extract n P.size))).setCell ⟨gr, 1, none⟩ (.string (Q.extract n Q.size))).setCell ⟨gr, 2, none⟩ (.bool false)) = W := ⟨_, rfl⟩
        rw [hw5] at hE hbE ⊢
        have z0 := hE.cell 0
        have z1 := hE.cell 1
        have z2 := hE.cell 2
        simp at z0 z1 z2
        clear hV0_1 hw5 r0 r1 r2 f0 f1 f2 rl hC hB0
        go_wp2_with fail
        refine bodyPost_ret (v := .agg #[.string (P.extract n P.size), .string (Q.extract n Q.size), .bool false]) (by simp [results, Tryz.results91, go_sem, z0, z1, z2]; done) rfl ?_
        exact ⟨by rw [HFN.out, HX1.out, HX2.out], hbE⟩
end Go.Proofs.YtfpnhgahkjglgaaGreat

/-
  Rows that a call may append to, its own or without room; rules' bytes as they come in. No conditions.
-/
namespace Go.Proofs.YtfpnhgahkjglgaaGreat
open Go Go.RowKit

/-- A rule's bytes as they come in. -/
structure Rw where
  a : List Int
  b : List Int
  A : Option Addr
  B : Option Addr
  c : Nat
  d : Nat
  f : Int
  t : Int
  co : Int
def encRw (x : Rw) : List Value := [.slice x.A x.a.length x.c, .slice x.B x.b.length x.d, .int .u8 x.f, .int .u8 x.t, .int .u8 x.co]
structure RwOK (w : World) (x : Rw) : Prop where
  sa : SlR 1 RU8 w x.A x.a
  sb : SlR 1 RU8 w x.B x.b
  la : x.a.length ≤ maxLen
  lb : x.b.length ≤ maxLen
  ba : ∀ y ∈ x.a, 0 ≤ y ∧ y ≤ 255
  bb : ∀ y ∈ x.b, 0 ≤ y ∧ y ≤ 255
  f : 0 ≤ x.f ∧ x.f ≤ 255
  t : 0 ≤ x.t ∧ x.t ≤ 255
  co : 0 ≤ x.co ∧ x.co ≤ 255
def RRw (w : World) (x : Rw) (vs : List Value) : Prop := vs = encRw x ∧ RwOK w x
theorem RwOK.below {w w' : World} {x : Rw} (h : RwOK w x) (hb : Below w.heap.size w w') : RwOK w' x := ⟨h.sa.below keeps_u8 hb, h.sb.below keeps_u8 hb, h.la, h.lb, h.ba, h.bb, h.f, h.t, h.co⟩
theorem keeps_rw : Keeps RRw := fun _ _ _ _ hb h => ⟨h.1, h.2.below hb⟩
theorem SlR.rw5 {w : World} {A : Option Addr} {k : Nat} {xs : List Rw} (h : SlR 5 RRw w A xs) (hk : k < xs.length) : ∃ b off x, A = some ⟨b, off, none⟩ ∧ b < w.heap.size ∧ xs[k]? = some x ∧ RwOK w x ∧
    w.cell? ⟨b, off + k * 5, none⟩ = some (.slice x.A x.a.length x.c) ∧ w.cell? ⟨b, off + k * 5 + 1, none⟩ = some (.slice x.B x.b.length x.d) ∧ w.cell? ⟨b, off + k * 5 + 2, none⟩ = some (.int .u8 x.f) ∧ w.cell? ⟨b, off + k * 5 + 3, none⟩ = some (.int .u8 x.t) ∧ w.cell? ⟨b, off + k * 5 + 4, none⟩ = some (.int .u8 x.co) := by
  obtain ⟨b, off, x, vs, hA, hlt, hx, ⟨hr, hr2⟩, _, hv⟩ := h.at_ hk
  exact ⟨b, off, x, hA, hlt, hx, hr2, hv 0 _ (by rw [hr]; rfl), hv 1 _ (by rw [hr]; rfl), hv 2 _ (by rw [hr]; rfl), hv 3 _ (by rw [hr]; rfl), hv 4 _ (by rw [hr]; rfl)⟩

/-- A row that may be appended to: the call's own behind block hi, or one without room in the blocks lo to hi. -/
def RowG (w : World) (lo hi : Nat) (e : TypeId) (s : Nat) (v : Value) (n : Nat) (xs : List Value) : Prop :=
  w.ownsRow (hi + 1) e s v n xs ∨ ∃ g off, v = .slice (some ⟨g, off, none⟩) n n ∧ (lo ≤ g ∧ g < hi) ∧ xs.length = n * s ∧ ∀ j u, xs[j]? = some u → w.cell? ⟨g, off + j, none⟩ = some u
section
variable {w w' : World} {lo hi : Nat} {e : TypeId} {s n : Nat} {v : Value} {xs : List Value}
theorem RowG.ne (h : RowG w lo hi e s v n xs) {b : Nat} (hb : b = hi ∨ b < lo) (hl : lo ≤ hi) : v.ownBlock ≠ some b := fun e => by
  rcases h with h | ⟨g, off, rfl, hg, _⟩
  · have := own_block_le h _ e; omega
  · simp [Value.ownBlock] at e; omega
theorem RowG.below (h : RowG w lo hi e s v n xs) (hh : hi ≤ w.heap.size) (hb : Below w.heap.size w w') : RowG w' lo hi e s v n xs := by
  rcases h with h | ⟨g, off, rfl, hg, hl, hc⟩
  · exact .inl (own_below h hb)
  · exact .inr ⟨g, off, rfl, hg, hl, fun j u hj => (hb.cell (p := ⟨g, _, none⟩) (Nat.lt_of_lt_of_le hg.2 hh)).trans (hc j u hj)⟩
theorem RowG.setN (h : RowG w lo hi e s v n xs) {b : Nat} (hb : v.ownBlock ≠ some b) (o : Nat) (u : Value) : RowG (w.setCell ⟨b, o, none⟩ u) lo hi e s v n xs := by
  rcases h with h | ⟨g, off, rfl, hg, hl, hc⟩
  · exact .inl (own_set h (a := ⟨b, o, none⟩) hb u)
  · refine .inr ⟨g, off, rfl, hg, hl, fun j x hj => ?_⟩
    rw [World.cell?_of_block (Below.heap_setCell w ⟨b, o, none⟩ u g (fun e => hb (by simp [Value.ownBlock]; exact e)))]
    exact hc j x hj
theorem RowG.set (h : RowG w lo hi e s v n xs) (o : Nat) (u : Value) : RowG (w.setCell ⟨hi, o, none⟩ u) lo hi e s v n xs := by
  rcases h with h | ⟨g, off, rfl, hg, hl, hc⟩
  · exact .inl (own_set h (a := ⟨hi, o, none⟩) (fun e => absurd (own_block_le h _ e) (Nat.not_succ_le_self _)) u)
  · refine .inr ⟨g, off, rfl, hg, hl, fun j x hj => ?_⟩
    rw [World.cell?_of_block (Below.heap_setCell w ⟨hi, o, none⟩ u g (by simp; omega))]
    exact hc j x hj
end
theorem info_partsR {t : TypeId} {z : Value} {s b : Nat} (h : (Tryz.prog.info? t).map (fun i => (i.zero, i.size, i.bytes)) = some (some z, s, b)) : ∃ i, Tryz.prog.info? t = some i ∧ i.zero = some z ∧ i.size = s ∧ i.bytes = b := by
  cases hi : Tryz.prog.info? t with
  | none => rw [hi] at h; cases h
  | some i =>
    rw [hi] at h
    simp at h
    exact ⟨i, rfl, h.1, h.2.1, h.2.2⟩
theorem rule_info : (Tryz.prog.info? 61).map (fun i => (i.zero, i.size, i.bytes)) = some (some (.agg #[.int .i64 0, .int .i64 0, .string ⟨#[]⟩, .string ⟨#[]⟩, .int .i64 0]), 5, 56) := by kernel_rfl
theorem news_blk {w : World} {g : Nat} {t : TypeId} {cs : Array Value} (h : Blk w g t cs) : ∀ j u, cs.toList[j]? = some u → w.cell? ((⟨g, 0, none⟩ : Addr).add j) = some u := fun j u hu => by
  rw [Addr.add_lit, Nat.zero_add, h.cell]
  simpa using hu
theorem getG {α : Type} {s : Nat} {enc : α → List Value} (hl : ∀ x, (enc x).length = s) : ∀ (l : List α) (k : Nat) (x : α), l[k]? = some x → ∀ j u, (enc x)[j]? = some u → (l.flatMap enc)[k * s + j]? = some u := by
  intro l
  induction l with
  | nil => intro k x h; simp at h
  | cons y l ih =>
    intro k x hx j u hu
    rw [List.flatMap_cons]
    cases k with
    | zero =>
      simp at hx
      subst hx
      rw [List.getElem?_append_left (by have := (List.getElem?_eq_some_iff.1 hu).1; omega)]
      simpa using hu
    | succ k =>
      rw [List.getElem?_cons_succ] at hx
      rw [List.getElem?_append_right (by rw [hl, Nat.add_mul]; omega), hl, show (k + 1) * s + j - s = k * s + j by rw [Nat.add_mul]; omega]
      exact ih k x hx j u hu
theorem RowG.slr {α : Type} {enc : α → List Value} {R : World → α → List Value → Prop} {w : World} {lo hi : Nat} {e : TypeId} {s : Nat} {v : Value} {ks : List α} (h : RowG w lo hi e s v ks.length (ks.flatMap enc)) (hl : ∀ x, (enc x).length = s) (hR : ∀ w x, R w x (enc x)) (hm : ks.length ≤ maxLen) (hh : hi ≤ w.heap.size) :
    ∃ A c, v = .slice A ks.length c ∧ ks.length ≤ c ∧ c ≤ maxLen ∧ SlR s R w A ks := by
  rcases h with h | ⟨g, off, rfl, hg, _, hc⟩
  · exact own_slr h hl (hR w) rfl
  · exact ⟨some ⟨g, off, none⟩, ks.length, rfl, Nat.le_refl _, hm, fun _ => ⟨g, off, rfl, by omega, fun k x hx => ⟨enc x, hR w x, hl x, fun j u hj => by have := hc (k * s + j) u (getG hl ks k x hx j u hj); rw [← Nat.add_assoc] at this; exact this⟩⟩⟩
/-- A row's beginning. -/
theorem own_cut {w : World} {base : Nat} {e : TypeId} {s n m : Nat} {A : Option Addr} {c : Nat} {xs ys : List Value} (h : w.ownsRow base e s (.slice A (n + (m + 1)) c) (n + (m + 1)) (xs ++ ys)) (hx : xs.length = n * s) : w.ownsRow base e s (.slice A n c) n xs := by
  obtain ⟨_, h2⟩ := h
  rcases h2 with ⟨_, h0⟩ | ⟨g, cap, cur, hv, hg, hh, hnc, hcm, hcs, htk⟩
  · omega
  · injection hv with h1 h2 h3
    subst h1 h3
    refine ⟨hx, .inr ⟨g, c, cur, rfl, hg, hh, by omega, hcm, hcs, ?_⟩⟩
    have h4 : (xs ++ ys).take (n * s) = xs := by rw [← hx]; exact List.take_left
    rw [← h4, ← htk, List.take_take, Nat.min_eq_left (Nat.mul_le_mul_right _ (by omega))]
/-- Every old block but the own row's is as it was. -/
structure ButR (v : Value) (w w' : World) : Prop where
  size : w.heap.size ≤ w'.heap.size
  block : ∀ b, b < w.heap.size → v.ownBlock ≠ some b → w'.heap[b]? = w.heap[b]?
theorem ButR.of_below {v : Value} {w w' : World} (h : Below w.heap.size w w') : ButR v w w' := ⟨h.size, fun b hb _ => h.block b hb⟩
theorem ButR.cell {v : Value} {w w' : World} (h : ButR v w w') : ∀ b o, b < w.heap.size → v.ownBlock ≠ some b → w'.cell? ⟨b, o, none⟩ = w.cell? ⟨b, o, none⟩ := fun b _ hb hv => World.cell?_of_block (h.block b hb hv)
theorem ButR.apps {v v' : Value} {w w1 w2 : World} (h : ButR v w w1) (hs : w1.heap.size ≤ w2.heap.size) (ha : Apps w1 w2 v v') : ButR v w w2 :=
  ⟨Nat.le_trans h.size hs, fun b hb hv => (ha.keep b (Nat.lt_of_lt_of_le hb h.size) hv).trans (h.block b hb hv)⟩
section
variable {P : Program}
/-- 'append(out, x)', onto a row of the call's own or one without room. -/
theorem wp_appG {o : Oper} {a : Act} {K : Act → World → Prop} {Q : Exit → Act → World → Prop} {w : World} (s x : Operand) (t : TypeId)
    (ho : o.op = .call { callee := .builtin .append, args := #[s, x], argTypes := #[t, t] })
    (lo hi : Nat) (e : TypeId) (i : TypeInfo) (z : Value) (size bytes : Nat) (ht : P.underlying t = some (.slice e)) (hi' : P.info? e = some i) (hz : i.zero = some z)
    (hsize : i.size = size) (hby : i.bytes = bytes) (hzs : z.cells.size = size) (hsz : 0 < size)
    (v : Value) (n : Nat) (xs : List Value) (hs : a.eval s = v) (hown : RowG w lo hi e size v n xs)
    (ad : Addr) (c : Nat) (news : List Value) (hx : a.eval x = .slice (some ad) 1 c) (hl : news.length = size) (hnews : ∀ j u, news[j]? = some u → w.cell? (ad.add j) = some u) (h1 : ∀ u ∈ news, u.oneCell' = true)
    (hn : n + 1 ≤ 1000000) (hbb : bytes ≤ 1000) (hbase : hi + 1 ≤ w.heap.size)
    (h : ∀ v' w', w'.ownsRow (hi + 1) e size v' (n + 1) (xs ++ news) → Below (hi + 1) w w' → Apps w w' v v' → K (a.put o.dst v') w') : o.wp P a w K Q := by
  have hb1 : (n + 1) * bytes ≤ 1000000 * 1000 := Nat.mul_le_mul hn hbb
  have key : ∃ v' w', (Builtin.append_ #[t, t] o.type #[v, .slice (some ad) 1 c]).run P w = .ok v' w' ∧ w'.ownsRow (hi + 1) e size v' (n + 1) (xs ++ news) ∧ Below (hi + 1) w w' ∧ Apps w w' v v' := by
    rcases hown with hown | ⟨g, off, rfl, hg, hxl, hc⟩
    · obtain ⟨v', w', hrun, h2, h3, _, h5⟩ := run_append_own_at (P := P) w (hi + 1) t o.type e i z size bytes ht hi' hz hsize hby hzs hsz v n xs hown ad 1 c news (by rw [hl, Nat.one_mul]) hnews h1 (by unfold maxLen; omega) (by omega) hbase
      refine ⟨v', w', hrun, h2, (Below.refl _ _).grown h3 hbase (own_block_le hown), ⟨fun k hk hne => h3.block k hk (fun e => hne e.symm), ?_⟩⟩
      rcases h5 with h5 | h5
      · exact .inl h5
      · exact .inr ⟨_, h5, Nat.le_refl _⟩
    · obtain ⟨v', w', hrun, h2, h3⟩ := run_append_arg_grows (P := P) w t o.type e i z size bytes ht hi' hz hsize hby hzs hsz ⟨g, off, none⟩ n n xs hxl (fun j u hj => by rw [Addr.add_lit]; exact hc j u hj) ad 1 c news (by rw [hl, Nat.one_mul]) hnews (by omega) (by unfold maxLen; omega) (by omega)
      refine ⟨v', w', hrun, own_base h2 hbase, (Below.refl _ _).grown h3 hbase (fun k hk => by cases hk), ⟨fun k hk _ => h3.block k hk (fun e => by cases e), ?_⟩⟩
      rcases h2.2 with ⟨_, h0⟩ | ⟨g', _, _, hv, hg', _⟩
      · omega
      · exact .inr ⟨g', by rw [hv]; rfl, hg'⟩
  obtain ⟨v', w', hrun, h2, h3, h5⟩ := key
  unfold Oper.wp execOp
  simp only [ho, resolve, invoke, builtin, Sem.run_bind, Sem.run_pure, Result.andThen_ok, List.map_toArray, List.map_cons, List.map_nil, hs, hx, hrun]
  exact h v' w' h2 h3 h5
end
end Go.Proofs.YtfpnhgahkjglgaaGreat
