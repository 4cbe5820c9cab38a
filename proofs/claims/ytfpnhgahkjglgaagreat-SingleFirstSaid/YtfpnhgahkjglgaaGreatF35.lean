/-
  SiWalkB, SiWalkC, joined. No conditions.
-/
import Derived.Test.YtfpnhgahkjglgaaGreatF34
import Derived.Test.YtfpnhgahkjglgaaGreatF27
import Derived.Test.YtfpnhgahkjglgaaGreatF19
import Derived.Test.YtfpnhgahkjglgaaGreatF21
import Derived.Carry
import Derived.Deep.DeepCutAuto
set_option maxRecDepth 100000
namespace Go.Proofs.YtfpnhgahkjglgaaGreat
open Go Go.RowKit Go.Maps
theorem ba_app (a b : List UInt8) : ba a ++ ba b = ba (a ++ b) := bl_inj (by rw [bl_app]; rfl)
theorem ba_drop (l : List UInt8) (n : Nat) : (ba l).extract n (ba l).size = ba (l.drop n) := bl_inj (by rw [bl_drop]; rfl)
theorem gapOf_take {A B : List UInt8} {n : Nat} (h : A.take n = B.take n) : gapOf A B = gapOf (A.drop n) (B.drop n) := by
 have e1 : A = A.take n ++ A.drop n := (List.take_append_drop n A).symm
 have e2 : B = A.take n ++ B.drop n := by rw [h]; exact (List.take_append_drop n B).symm
 conv => lhs; rw [e1, e2]
 exact gapOf_app _ _ _
theorem gapOf_end {A B : List UInt8} {n : Nat} (h : A.take n = B.take n) (hn : A.length ≤ n ∨ B.length ≤ n) : gapOf A B = ⟨A.drop n, B.drop n, false⟩ := by
 rw [gapOf_take h]
 rcases hn with hn | hn
 ·rw [List.drop_eq_nil_of_le hn, gapOf_nil_l]
 ·rw [List.drop_eq_nil_of_le hn, gapOf_nil_r]
theorem gapOf_ne {A B : List UInt8} {n : Nat} {a b : UInt8} (h : A.take n = B.take n) (ha : A[n]? = some a) (hb : B[n]? = some b) (hne : a ≠ b) : gapOf A B = Gp.part := by
 obtain ⟨h1, h2⟩ := List.getElem?_eq_some_iff.1 ha
 obtain ⟨h3, h4⟩ := List.getElem?_eq_some_iff.1 hb
 rw [gapOf_take h, List.drop_eq_getElem_cons h1, List.drop_eq_getElem_cons h3, h2, h4]
 exact if_neg hne
theorem ba_get {l : List UInt8} {n : Nat} (h : n < (ba l).size) : l[n]? = some (ba l)[n] := by
 have h2 : n < l.length := h
 rw [List.getElem?_eq_getElem h2]
 rfl
set_option maxHeartbeats 8000000 in
theorem gwider_any (g : Gp) (x y : List UInt8) (w : World) (hsz : g.sz + x.length + y.length ≤ 1000000000) :
 Calls Tryz.prog 91 #[.agg #[.string (ba g.a), .string (ba g.b), .bool g.p], .string (ba x), .string (ba y)] w fun e w' => e = .returned (.agg #[.string (ba (widen g x y).a), .string (ba (widen g x y).b), .bool (widen g x y).p]) ∧ Below w.heap.size w w' := by
 obtain ⟨w2, hw2⟩ : ∃ w2, (w.alloc (.cells #[.string (ba g.a), .string (ba g.b), .bool g.p] 120)).alloc (.cells #[.string { data := #[] }, .string { data := #[] }, .bool false] 120) = w2 := ⟨_, rfl⟩
 obtain ⟨gb, hgb⟩ : ∃ g, w.heap.size = g := ⟨_, rfl⟩
 obtain ⟨gr, hgr⟩ : ∃ h, gb + 1 = h := ⟨_, rfl⟩
 have hb2 : Below w.heap.size w w2 := by rw [← hw2]; exact nw _ (nw _ (Below.refl _ _))
 have hA : Blk w2 gb 120 #[.string (ba g.a), .string (ba g.b), .bool g.p] := by rw [← hw2, ← hgb]; exact (Blk.new _ _ _).alloc _
 have hC : Blk w2 gr 120 #[.string { data := #[] }, .string { data := #[] }, .bool false] := by rw [← hw2]; exact Blk.new_ (by simp; omega)
 have hgrw : w.heap.size ≤ gr := by omega
 have HW2 := Lib.hid hw2
 have HB2 := Lib.hid hb2
 have HC := Lib.hid hC
 have HG := Lib.hid hgb
 have HGR := Lib.hid hgr
 have b0 := hA.cell 0
 have b1 := hA.cell 1
 have b2 := hA.cell 2
 have bl := hA.lt
 simp at b0 b1 b2
 have hsa : g.a.length + x.length ≤ 1000000000 := by unfold Gp.sz at hsz; omega
 have hsb : g.b.length + y.length ≤ 1000000000 := by unfold Gp.sz at hsz; omega
 have hz1 : ¬ 9223372036854775807 < (ba g.a).size + (ba x).size := by rw [ba_size, ba_size]; omega
 have hz2 : ¬ 9223372036854775807 < (ba g.b).size + (ba y).size := by rw [ba_size, ba_size]; omega
 clear hw2 hb2 hA hgb hgr hsz
 cases hp : g.p with
 | true =>
  have HWD : Hid (widen g x y = g) := by show _ = _; unfold widen; rw [if_pos hp]
  have HPT := Lib.hid hp
  rw [hp] at HW2 b2
  clear hp
  go_enter Tryz.func91, Tryz.ntmps91
  go_upto_region 1 with fail
  rw [HW2.out, HG.out, HGR.out]
  have r0 := hC.cell 0
  have r1 := hC.cell 1
  have r2 := hC.cell 2
  have rf0 := hC.frozen 0
  have rf1 := hC.frozen 1
  have rf2 := hC.frozen 2
  have rl := hC.lt
  simp at r0 r1 r2
  go_wp2_with fail
  have hE := (((hC.set_ 0 (.string (ba g.a))).set_ 1 (.string (ba g.b))).set_ 2 (.bool true))
  have hbE := (((HB2.out.setCell (p := ⟨gr, 0, none⟩) hgrw (.string (ba g.a))).setCell (p := ⟨gr, 1, none⟩) hgrw (.string (ba g.b))).setCell (p := ⟨gr, 2, none⟩) hgrw (.bool true))
  obtain ⟨w5, hw5⟩ : ∃ W, (((w2.setCell ⟨gr, 0, none⟩ (.string (ba g.a))).setCell ⟨gr, 1, none⟩ (.string (ba g.b))).setCell ⟨gr, 2, none⟩ (.bool true)) = W := ⟨_, rfl⟩
  rw [hw5] at hE hbE ⊢
  have z0 := hE.cell 0
  have z1 := hE.cell 1
  have z2 := hE.cell 2
  simp at z0 z1 z2
  refine bodyPost_ret (v := .agg #[.string (ba g.a), .string (ba g.b), .bool true]) (by simp [results, Tryz.results91, go_sem, z0, z1, z2]; done) rfl ?_
  exact ⟨by rw [HWD.out, HPT.out], hbE⟩
 | false =>
  have HWD : Hid (widen g x y = gapOf (g.a ++ x) (g.b ++ y)) := by show _ = _; unfold widen; rw [if_neg (by rw [hp]; simp)]
  rw [hp] at HW2 b2
  obtain ⟨A, hA⟩ : ∃ A, g.a ++ x = A := ⟨_, rfl⟩
  obtain ⟨B, hB⟩ : ∃ A, g.b ++ y = A := ⟨_, rfl⟩
  obtain ⟨P, hP⟩ : ∃ P, ba A = P := ⟨_, rfl⟩
  obtain ⟨Q, hQ⟩ : ∃ P, ba B = P := ⟨_, rfl⟩
  have hlP : P.size ≤ 1000000000 := by rw [← hP, ba_size, ← hA, List.length_append]; omega
  have hlQ : Q.size ≤ 1000000000 := by rw [← hQ, ba_size, ← hB, List.length_append]; omega
  have HP : Hid (ba g.a ++ ba x = P) := by show _ = _; rw [ba_app, hA, hP]
  have HQ : Hid (ba g.b ++ ba y = Q) := by show _ = _; rw [ba_app, hB, hQ]
  rw [hA, hB] at HWD
  have HPA := Lib.hid hP
  have HQB := Lib.hid hQ
  clear hp hA hB hP hQ hsa hsb
  go_enter Tryz.func91, Tryz.ntmps91
  go_upto_region 1 with fail
  rw [HW2.out, HG.out, HGR.out]
  clear hC
  go_upto_region 3 with fail
  refine ordB_below (.quiet 0 (.quiet 1 (.quiet 2 (.quiet 3 (.quiet 4 (.quiet 5 (.quiet 6 (.quiet 7 (.quiet 8 (.quiet 9 .done)))))))))) (by kernel_rfl) (by kernel_rfl) (by kernel_rfl) (fun _ _ _ _ _ h => h) ?_
  intro V0 hV0
  iterate 10 ((first | refine ordB_skip rfl rfl ?_ | (refine ordB_take (v := ?_) rfl rfl ?_ ?_; rotate_left 1; (focus (intro W hW; obtain ⟨hcW, hfW⟩ := bcell hW; (go_simp <;> with_reducible rfl))))); simp only [Act.put, zA, zB, zC])
  refine ordB_nil ?_
  have HB3 := Lib.hid (HB2.out.trans (hV0.mono HB2.out.size))
  have HC3 := Lib.hid (HC.out.below hV0 HC.out.lt)
  obtain ⟨W3, hW3⟩ : ∃ W, V0 = W := ⟨_, rfl⟩
  rw [hW3] at HB3 HC3 ⊢
  rw [HP.out, HQ.out]
  clear hW3 hV0 b0 b1 b2 bl
  go_wp2_with fail
  go_loopw [9] (fun iv wr => ∃ n : Nat, n ≤ P.size ∧ n ≤ Q.size ∧ Hid (A.take n = B.take n) ∧ iv = .int .i64 (n : Int) ∧ Below w.heap.size w wr ∧ Blk wr gr 120 #[.string { data := #[] }, .string { data := #[] }, .bool false]) (fun iv _ => P.size - (intOf iv).toNat)
  case atStart => exact ⟨0, Nat.zero_le _, Nat.zero_le _, (by show A.take 0 = B.take 0; simp), rfl, HB3.out, HC3.out⟩
  case round =>
   obtain ⟨wR, rfl⟩ : ∃ W, W = wr := ⟨wr, rfl⟩
   obtain ⟨n, hnP, hnQ, HT, rfl, hbr, hcr⟩ := hrel
   have HBR := Lib.hid hbr
   have HCR := Lib.hid hcr
   have hn0 : (0 : Int) ≤ (n : Int) := by omega
   have hnp1 : (n : Int) ≤ (P.size : Int) := by omega
   have hnq1 : (n : Int) ≤ (Q.size : Int) := by omega
   clear hbr hcr hz1 hz2
   by_cases h1 : n < P.size
   ·have q0 : (n : Int) < (P.size : Int) := by omega
    have HGA : Hid (A[n]? = some P[n]) := by show _ = _; have := HPA.out; subst this; exact ba_get h1
    by_cases h2 : n < Q.size
    ·have q1 : (n : Int) < (Q.size : Int) := by omega
     have HGB : Hid (B[n]? = some Q[n]) := by show _ = _; have := HQB.out; subst this; exact ba_get h2
     by_cases h3 : P[n] = Q[n]
     ·have q2 : ((P[n].toNat : Int) == (Q[n].toNat : Int)) = true := by rw [h3]; simp
      have HTN : Hid (A.take (n + 1) = B.take (n + 1)) := by show _ = _; rw [take_succ_of HGA.out, take_succ_of HGB.out, HT.out, h3]
      clear h3
      go_upto_region 5 with fail
      refine ordB_below (.quiet 0 (.quiet 1 (.quiet 2 (.quiet 3 (.quiet 4 (.quiet 5 (.quiet 6 (.quiet 7 (.quiet 8 (.quiet 9 (.quiet 10 (.quiet 11 (.quiet 12 (.quiet 13 (.quiet 14 (.quiet 15 (.quiet 16 (.quiet 17 (.quiet 18 .done))))))))))))))))))) (by kernel_rfl) (by kernel_rfl) (by kernel_rfl) (fun _ _ _ _ _ h => h) ?_
      intro V0 hV0
      iterate 19 ((first | refine ordB_skip rfl rfl ?_ | (refine ordB_take (v := ?_) rfl rfl ?_ ?_; rotate_left 1; (focus (intro W hW; obtain ⟨hcW, hfW⟩ := bcell hW; (go_simp <;> with_reducible rfl))))); simp only [Act.put, zA, zB, zC])
      refine ordB_nil ?_
      have HBE := Lib.hid (HBR.out.trans (hV0.mono (by have := HBR.out.size; omega)))
      have HCE := Lib.hid (HCR.out.below hV0 HCR.out.lt)
      obtain ⟨W5, hW5⟩ : ∃ W, V0 = W := ⟨_, rfl⟩
      rw [hW5] at HBE HCE ⊢
      clear hW5 hV0
      clear HGA HGB
      go_wp2_with fail
      go_roundw
      case rel => exact ⟨n + 1, by omega, by omega, HTN.out, by go_num, HBE.out, HCE.out⟩
      case measure => simp [intOf]; omega
     ·have q2 : ((P[n].toNat : Int) == (Q[n].toNat : Int)) = false := by rw [beq_eq_false_iff_ne]; exact fun e => h3 (UInt8.toNat_inj.1 (by omega))
      have HFN : Hid (widen g x y = Gp.part) := by show _ = _; rw [HWD.out]; exact gapOf_ne HT.out HGA.out HGB.out h3
      clear h3
      go_upto_region 5 with fail
      refine ordB_below (.quiet 0 (.quiet 1 (.quiet 2 (.quiet 3 (.quiet 4 (.quiet 5 (.quiet 6 (.quiet 7 (.quiet 8 (.quiet 9 (.quiet 10 (.quiet 11 (.quiet 12 (.quiet 13 (.quiet 14 (.quiet 15 (.quiet 16 (.quiet 17 (.quiet 18 .done))))))))))))))))))) (by kernel_rfl) (by kernel_rfl) (by kernel_rfl) (fun _ _ _ _ _ h => h) ?_
      intro V0 hV0
      iterate 19 ((first | refine ordB_skip rfl rfl ?_ | (refine ordB_take (v := ?_) rfl rfl ?_ ?_; rotate_left 1; (focus (intro W hW; obtain ⟨hcW, hfW⟩ := bcell hW; (go_simp <;> with_reducible rfl))))); simp only [Act.put, zA, zB, zC])
      refine ordB_nil ?_
      have HBE := Lib.hid (HBR.out.trans (hV0.mono (by have := HBR.out.size; omega)))
      have HCE := Lib.hid (HCR.out.below hV0 HCR.out.lt)
      obtain ⟨W5, hW5⟩ : ∃ W, V0 = W := ⟨_, rfl⟩
      rw [hW5] at HBE HCE ⊢
      clear hW5 hV0
      clear HGA HGB
      have hC := HCE.out
      have r0 := hC.cell 0
      have r1 := hC.cell 1
      have r2 := hC.cell 2
      have rf0 := hC.frozen 0
      have rf1 := hC.frozen 1
      have rf2 := hC.frozen 2
      have rl := hC.lt
      simp at r0 r1 r2
      go_wp2_with fail
      have hE := (((hC.set_ 0 (.string { data := #[] })).set_ 1 (.string { data := #[] })).set_ 2 (.bool true))
      have hbE := (((HBE.out.setCell (p := ⟨gr, 0, none⟩) hgrw (.string { data := #[] })).setCell (p := ⟨gr, 1, none⟩) hgrw (.string { data := #[] })).setCell (p := ⟨gr, 2, none⟩) hgrw (.bool true))
      obtain ⟨w5, hw5⟩ : ∃ W, (((W5.setCell ⟨gr, 0, none⟩ (.string { data := #[] })).setCell ⟨gr, 1, none⟩ (.string { data := #[] })).setCell ⟨gr, 2, none⟩ (.bool true)) = W := ⟨_, rfl⟩
      rw [hw5] at hE hbE ⊢
      have z0 := hE.cell 0
      have z1 := hE.cell 1
      have z2 := hE.cell 2
      simp at z0 z1 z2
      refine bodyPost_ret (v := .agg #[.string { data := #[] }, .string { data := #[] }, .bool true]) (by simp [results, Tryz.results91, go_sem, z0, z1, z2]; done) rfl ?_
      exact ⟨by rw [HFN.out]; rfl, hbE⟩
    ·have q1 : ¬ (n : Int) < (Q.size : Int) := by omega
     have HFN : Hid (widen g x y = ⟨A.drop n, B.drop n, false⟩) := by show _ = _; rw [HWD.out]; exact gapOf_end HT.out (.inr (by have := HQB.out; rw [← this] at h2; exact Nat.not_lt.1 h2))
     have HX1 : Hid (ba (A.drop n) = P.extract n P.size) := by show _ = _; have := HPA.out; subst this; exact (ba_drop _ _).symm
     have HX2 : Hid (ba (B.drop n) = Q.extract n Q.size) := by show _ = _; have := HQB.out; subst this; exact (ba_drop _ _).symm
     go_upto_region 5 with fail
     refine ordB_below (.quiet 0 (.quiet 1 (.quiet 2 (.quiet 3 (.quiet 4 (.quiet 5 (.quiet 6 (.quiet 7 (.quiet 8 (.quiet 9 (.quiet 10 (.quiet 11 (.quiet 12 (.quiet 13 (.quiet 14 (.quiet 15 (.quiet 16 (.quiet 17 (.quiet 18 .done))))))))))))))))))) (by kernel_rfl) (by kernel_rfl) (by kernel_rfl) (fun _ _ _ _ _ h => h) ?_
     intro V0 hV0
     iterate 19 ((first | refine ordB_skip rfl rfl ?_ | (refine ordB_take (v := ?_) rfl rfl ?_ ?_; rotate_left 1; (focus (intro W hW; obtain ⟨hcW, hfW⟩ := bcell hW; (go_simp <;> with_reducible rfl))))); simp only [Act.put, zA, zB, zC])
     refine ordB_nil ?_
     have HBE := Lib.hid (HBR.out.trans (hV0.mono (by have := HBR.out.size; omega)))
     have HCE := Lib.hid (HCR.out.below hV0 HCR.out.lt)
     obtain ⟨W5, hW5⟩ : ∃ W, V0 = W := ⟨_, rfl⟩
     rw [hW5] at HBE HCE ⊢
     clear hW5 hV0
     go_upto_region 9 with fail
     refine ordB_start (ButB gr W5) (.quiet 0 (.quiet 1 (.quiet 2 (.quiet 3 (.quiet 4 (.quiet 5 (.quiet 6 (.only 7 .done)))))))) (by kernel_rfl) (by kernel_rfl) (by kernel_rfl) (fun _ _ _ _ _ h => h) (ButB.of_below (Below.refl _ _).drew) ?_
     have hV0 : ButB gr W5 W5.drew := ButB.of_below (Below.refl _ _).drew
     have hC : Blk W5.drew gr 120 #[.string { data := #[] }, .string { data := #[] }, .bool false] := HCE.out
     have hB0 : Below w.heap.size w W5.drew := HBE.out.drew
     obtain ⟨V0, qqV0⟩ : ∃ W, W5.drew = W := ⟨_, rfl⟩
     rw [qqV0] at hV0 hC hB0 ⊢
     clear qqV0
     iterate 7 ((first | refine ordB_skip rfl rfl ?_ | (refine ordB_take (v := ?_) rfl rfl ?_ ?_; rotate_left 1; (focus (intro W hW; have hcW := hW.cell; (go_simp <;> with_reducible rfl))))); simp only [Act.put, zA, zB, zC])
     refine ordB_only (opB_call rfl rfl (fun K hK => ?_))
     have r0 := hC.cell 0
     have r1 := hC.cell 1
     have r2 := hC.cell 2
     have f0 := hC.frozen 0
     have f1 := hC.frozen 1
     have f2 := hC.frozen 2
     have rl := hC.lt
     simp at r0 r1 r2
     go_simp
     refine hK.out _ _ (((hV0.set_ 0 (.string (P.extract n P.size))).set_ 1 (.string (Q.extract n Q.size))).set_ 2 (.bool false)) (fun hV0_1 => ?_)
     clear hK K
     refine ordB_nil ?_
     try simp only [Act.put, zA, zB, zC]
     have hE := (((hC.set_ 0 (.string (P.extract n P.size))).set_ 1 (.string (Q.extract n Q.size))).set_ 2 (.bool false))
     have hbE := (((hB0.setCell (p := ⟨gr, 0, none⟩) hgrw (.string (P.extract n P.size))).setCell (p := ⟨gr, 1, none⟩) hgrw (.string (Q.extract n Q.size))).setCell (p := ⟨gr, 2, none⟩) hgrw (.bool false))
     obtain ⟨w5, hw5⟩ : ∃ W, (((V0.setCell ⟨gr, 0, none⟩ (.string (P.extract n P.size))).setCell ⟨gr, 1, none⟩ (.string (Q.extract n Q.size))).setCell ⟨gr, 2, none⟩ (.bool false)) = W := ⟨_, rfl⟩
     rw [hw5] at hE hbE ⊢
     have z0 := hE.cell 0
     have z1 := hE.cell 1
     have z2 := hE.cell 2
     simp at z0 z1 z2
     clear hV0_1 hw5 r0 r1 r2 f0 f1 f2 rl hC hB0
     go_wp2_with fail
     refine bodyPost_ret (v := .agg #[.string (P.extract n P.size), .string (Q.extract n Q.size), .bool false]) (by simp [results, Tryz.results91, go_sem, z0, z1, z2]; done) rfl ?_
     exact ⟨by rw [HFN.out, HX1.out, HX2.out], hbE⟩
   ·have q0 : ¬ (n : Int) < (P.size : Int) := by omega
    have HFN : Hid (widen g x y = ⟨A.drop n, B.drop n, false⟩) := by show _ = _; rw [HWD.out]; exact gapOf_end HT.out (.inl (by have := HPA.out; rw [← this] at h1; exact Nat.not_lt.1 h1))
    have HX1 : Hid (ba (A.drop n) = P.extract n P.size) := by show _ = _; have := HPA.out; subst this; exact (ba_drop _ _).symm
    have HX2 : Hid (ba (B.drop n) = Q.extract n Q.size) := by show _ = _; have := HQB.out; subst this; exact (ba_drop _ _).symm
    go_upto_region 5 with fail
    refine ordB_below (.quiet 0 (.quiet 1 (.quiet 2 (.quiet 3 (.quiet 4 (.quiet 5 (.quiet 6 (.quiet 7 (.quiet 8 (.quiet 9 (.quiet 10 (.quiet 11 (.quiet 12 (.quiet 13 (.quiet 14 (.quiet 15 (.quiet 16 (.quiet 17 (.quiet 18 .done))))))))))))))))))) (by kernel_rfl) (by kernel_rfl) (by kernel_rfl) (fun _ _ _ _ _ h => h) ?_
    intro V0 hV0
    iterate 19 ((first | refine ordB_skip rfl rfl ?_ | (refine ordB_take (v := ?_) rfl rfl ?_ ?_; rotate_left 1; (focus (intro W hW; obtain ⟨hcW, hfW⟩ := bcell hW; (go_simp <;> with_reducible rfl))))); simp only [Act.put, zA, zB, zC])
    refine ordB_nil ?_
    have HBE := Lib.hid (HBR.out.trans (hV0.mono (by have := HBR.out.size; omega)))
    have HCE := Lib.hid (HCR.out.below hV0 HCR.out.lt)
    obtain ⟨W5, hW5⟩ : ∃ W, V0 = W := ⟨_, rfl⟩
    rw [hW5] at HBE HCE ⊢
    clear hW5 hV0
    go_upto_region 9 with fail
    refine ordB_start (ButB gr W5) (.quiet 0 (.quiet 1 (.quiet 2 (.quiet 3 (.quiet 4 (.quiet 5 (.quiet 6 (.only 7 .done)))))))) (by kernel_rfl) (by kernel_rfl) (by kernel_rfl) (fun _ _ _ _ _ h => h) (ButB.of_below (Below.refl _ _).drew) ?_
    have hV0 : ButB gr W5 W5.drew := ButB.of_below (Below.refl _ _).drew
    have hC : Blk W5.drew gr 120 #[.string { data := #[] }, .string { data := #[] }, .bool false] := HCE.out
    have hB0 : Below w.heap.size w W5.drew := HBE.out.drew
    obtain ⟨V0, qqV0⟩ : ∃ W, W5.drew = W := ⟨_, rfl⟩
    rw [qqV0] at hV0 hC hB0 ⊢
    clear qqV0
    iterate 7 ((first | refine ordB_skip rfl rfl ?_ | (refine ordB_take (v := ?_) rfl rfl ?_ ?_; rotate_left 1; (focus (intro W hW; have hcW := hW.cell; (go_simp <;> with_reducible rfl))))); simp only [Act.put, zA, zB, zC])
    refine ordB_only (opB_call rfl rfl (fun K hK => ?_))
    have r0 := hC.cell 0
    have r1 := hC.cell 1
    have r2 := hC.cell 2
    have f0 := hC.frozen 0
    have f1 := hC.frozen 1
    have f2 := hC.frozen 2
    have rl := hC.lt
    simp at r0 r1 r2
    go_simp
    refine hK.out _ _ (((hV0.set_ 0 (.string (P.extract n P.size))).set_ 1 (.string (Q.extract n Q.size))).set_ 2 (.bool false)) (fun hV0_1 => ?_)
    clear hK K
    refine ordB_nil ?_
    try simp only [Act.put, zA, zB, zC]
    have hE := (((hC.set_ 0 (.string (P.extract n P.size))).set_ 1 (.string (Q.extract n Q.size))).set_ 2 (.bool false))
    have hbE := (((hB0.setCell (p := ⟨gr, 0, none⟩) hgrw (.string (P.extract n P.size))).setCell (p := ⟨gr, 1, none⟩) hgrw (.string (Q.extract n Q.size))).setCell (p := ⟨gr, 2, none⟩) hgrw (.bool false))
    obtain ⟨w5, hw5⟩ : ∃ W, (((V0.setCell ⟨gr, 0, none⟩ (.string (P.extract n P.size))).setCell ⟨gr, 1, none⟩ (.string (Q.extract n Q.size))).setCell ⟨gr, 2, none⟩ (.bool false)) = W := ⟨_, rfl⟩
    rw [hw5] at hE hbE ⊢
    have z0 := hE.cell 0
    have z1 := hE.cell 1
    have z2 := hE.cell 2
    simp at z0 z1 z2
    clear hV0_1 hw5 r0 r1 r2 f0 f1 f2 rl hC hB0
    go_wp2_with fail
    refine bodyPost_ret (v := .agg #[.string (P.extract n P.size), .string (Q.extract n Q.size), .bool false]) (by simp [results, Tryz.results91, go_sem, z0, z1, z2]; done) rfl ?_
    exact ⟨by rw [HFN.out, HX1.out, HX2.out], hbE⟩
def IsAddS (gf gm gg : Nat) (s : Sc) (A : Option Addr) (c : Nat) (H : Hst Pl) (u : List UInt8) (v : Value) (xs : List (St Pl)) (x : St Pl) (w : World) (e : Ending) (w' : World) : Prop :=
 e = .returned (.tuple #[]) ∧ ∃ v', SrI w' gf gm s A c (addH H u x) ∧ GrI w' gm gg u v' (if known H x then xs else xs ++ [x]) ∧ BelS gm (fun k => k = gg ∨ v.ownBlock = some k) w.heap.size w w' ∧ (v'.ownBlock = v.ownBlock ∨ ∃ k, v'.ownBlock = some k ∧ w.heap.size ≤ k)
theorem gaps_addF {H : Hst Pl} {u : List UInt8} {x : St Pl} (h : known H x = false) : (fun k : Pl × Pl => gapsAt (addH H u x) k.1 k.2) = fun k => if k = (x.l, x.r) then gapsAt H k.1 k.2 ++ [x.g] else gapsAt H k.1 k.2 := by
 funext k
 obtain ⟨l, r⟩ := k
 show gapsAt (addH H u x) l r = _
 rw [gaps_add h]
 by_cases e : x.l = l ∧ x.r = r
 ·rw [if_pos e, if_pos (by rw [e.1, e.2])]
 ·rw [if_neg e, if_neg (fun h2 => e ⟨(congrArg Prod.fst h2).symm, (congrArg Prod.snd h2).symm⟩), List.append_nil]
theorem addH_len {H : Hst Pl} {u : List UInt8} {x : St Pl} (h : known H x = false) : (addH H u x).length = H.length + 1 := by
 unfold addH
 rw [if_neg (by rw [h]; simp), List.length_append]
 rfl
set_option maxHeartbeats 16000000 in
theorem sadd_any (s : Sc) (A : Option Addr) (c gf gm gg : Nat) (H : Hst Pl) (u : List UInt8) (v : Value) (xs : List (St Pl)) (x : St Pl) (w : World) (hS : SrI w gf gm s A c H) (hG : GrI w gm gg u v xs) (hH : H.length ≤ 300000) (hxs : xs.length ≤ 300000) (hfew : (gapsAt H x.l x.r).length ≤ 2)
 (hl : 0 ≤ x.l.1 ∧ x.l.1 < 8 ∧ x.l.2.length ≤ 4) (hr : 0 ≤ x.r.1 ∧ x.r.1 < 8 ∧ x.r.2.length ≤ 4) :
 Calls Tryz.prog 57 #[.pointer (some ⟨gf, 0, none⟩), .pointer (some ⟨gg, 0, none⟩), .agg #[.int .i64 x.l.1, .string (ba x.l.2), .int .i64 x.r.1, .string (ba x.r.2), .string (ba x.g.a), .string (ba x.g.b), .bool x.g.p]] w (IsAddS gf gm gg s A c H u v xs x w) := by
 obtain ⟨i0, hinf, hz0, hz1, hz2⟩ := info_partsR siGapInfo
 obtain ⟨j0, jinf, jz0, jz1, jz2⟩ := info_partsR siStInfo
 obtain ⟨kl, hkl⟩ : ∃ kl, keyOf Tryz.prog 118 (vKey (x.l, x.r)) = some kl := keySt_ok (wf_small hl.1 (by show x.l.1 ≤ _; omega)) (by show x.l.2.length ≤ _; unfold maxLen; omega) (wf_small hr.1 (by show x.r.1 ≤ _; omega)) (by show x.r.2.length ≤ _; unfold maxLen; omega)
 obtain ⟨w1, hw1⟩ : ∃ w1, w.alloc (.cells #[.int .i64 x.l.1, .string (ba x.l.2), .int .i64 x.r.1, .string (ba x.r.2), .string (ba x.g.a), .string (ba x.g.b), .bool x.g.p] 122) = w1 := ⟨_, rfl⟩
 obtain ⟨gx, hgx⟩ : ∃ g, w.heap.size = g := ⟨_, rfl⟩
 have hb1 : Below w.heap.size w w1 := by rw [← hw1]; exact nw _ (Below.refl _ _)
 have hB : Blk w1 gx 122 #[.int .i64 x.l.1, .string (ba x.l.2), .int .i64 x.r.1, .string (ba x.r.2), .string (ba x.g.a), .string (ba x.g.b), .bool x.g.p] := by rw [← hw1, ← hgx]; exact Blk.new _ _ _
 have hS1 := hS.below hb1
 have hG1 := hG.below hb1
 obtain ⟨A1, c1, rfl, hx1, hx2, hx3⟩ := hG1.slr
 obtain ⟨nn, V, DD, hnn, hgm⟩ := hS1.map
 have hrow := hgm.row (x.l, x.r)
 obtain ⟨gs, hgs⟩ : ∃ gs, gapsAt H x.l x.r = gs := ⟨_, rfl⟩
 have hrow : w1.ownsRow (gm + 1) 120 3 (V (x.l, x.r)) (gapsAt H x.l x.r).length ((gapsAt H x.l x.r).flatMap encGp) := hrow
 have hKN : known H x = (decide (2 ≤ (gapsAt H x.l x.r).length) || (gapsAt H x.l x.r).contains x.g || (gapsAt H x.l x.r).contains Gp.part) := rfl
 rw [hgs] at hrow hfew hKN
 obtain ⟨A0, c0, hV, hv1, hv2, hv3⟩ := own_slr (R := RGp) hrow (fun _ => rfl) (fun _ => rfl) rfl
 rw [hV] at hrow
 have HVE := Lib.hid hV
 have HGS := Lib.hid hgs
 have HKL := Lib.hid hkl
 have HNN := Lib.hid hnn
 have HW1 := Lib.hid hw1
 have HB1 := Lib.hid hb1
 have HGX := Lib.hid hgx
 have HGM0 := Lib.hid hgm
 have HS1 := Lib.hid hS1
 have HG1 := Lib.hid hG1
 have HOW0 := Lib.hid hrow
 have HLK : Hid (∀ W, Below w1.heap.size w1 W → (Instr.lookup 107 (.map (some gm)) (.agg #[.int .i64 x.l.1, .string (ba x.l.2), .int .i64 x.r.1, .string (ba x.r.2)]) false).run Tryz.prog W = .ok (.slice A0 gs.length c0) W) := fun W hW => by
  have h2 := HGM0.out.bel hW
  have := si_look h2.own HKL.out (h2.at_ _ _ HKL.out) (slE_own (h2.row (x.l, x.r)))
  rw [HVE.out] at this
  exact this
 have HC1 : Hid (∀ W, Below w1.heap.size w1 W → Calls Tryz.prog 90 #[.slice A0 gs.length c0, .agg #[.string (ba x.g.a), .string (ba x.g.b), .bool x.g.p]] W fun e w' => e = .returned (.bool (gs.contains x.g)) ∧ Below W.heap.size W w') := fun W hW => gcont_any A0 gs c0 x.g W (hv3.below keeps_gp hW) (by omega)
 have HC2 : Hid (∀ W, Below w1.heap.size w1 W → Calls Tryz.prog 90 #[.slice A0 gs.length c0, .agg #[.string { data := #[] }, .string { data := #[] }, .bool true]] W fun e w' => e = .returned (.bool (gs.contains Gp.part)) ∧ Below W.heap.size W w') := fun W hW => gcont_any A0 gs c0 Gp.part W (hv3.below keeps_gp hW) (by omega)
 obtain ⟨k2, hk2⟩ : ∃ b, gs.contains x.g = b := ⟨_, rfl⟩
 obtain ⟨k3, hk3⟩ : ∃ b, gs.contains Gp.part = b := ⟨_, rfl⟩
 rw [hk2, hk3] at hKN
 rw [hk2] at HC1
 rw [hk3] at HC2
 have f3 := hS1.blk.cell 3
 have fl := hS1.blk.lt
 have x0 := hB.cell 0
 have x1 := hB.cell 1
 have x2 := hB.cell 2
 have x3 := hB.cell 3
 have x4 := hB.cell 4
 have x5 := hB.cell 5
 have x6 := hB.cell 6
 have xl := hB.lt
 simp at f3 x0 x1 x2 x3 x4 x5 x6
 have HXB := Lib.hid hB
 have HOX : Hid ((Value.slice A1 xs.length c1).ownBlock ≠ some gx) := by show _ ≠ _; rw [← hgx]; exact own_lt hG.row (Nat.le_refl _)
 have hcr : gs.length ≤ c0 := hv1
 have hx1' : xs.length ≤ c1 := hx1
 clear hS hG hw1 hb1 hB hS1 hG1 hgm hrow hgs hV hkl hnn hgx hx3 hk2 hk3 hv3
 go_enter Tryz.func57, Tryz.ntmps57
 go_upto_region 1 with fail
 rw [HW1.out, HGX.out]
 refine ordB_below (.quiet 0 (.quiet 1 (.quiet 2 (.quiet 3 (.quiet 4 (.quiet 5 (.quiet 6 (.quiet 7 .done)))))))) (by kernel_rfl) (by kernel_rfl) (by kernel_rfl) (fun _ _ _ _ _ h => h) ?_
 intro V0 hV0
 iterate 8 ((first | refine ordB_skip rfl rfl ?_ | (refine ordB_take (v := ?_) rfl rfl ?_ ?_; rotate_left 1; (focus (intro W hW; obtain ⟨hcW, hfW⟩ := bcell hW; have hlkv := HLK.out W hW; (go_simp <;> with_reducible rfl))))); simp only [Act.put, zA, zB, zC])
 refine ordB_nil ?_
 have hbV := HB1.out.trans (hV0.mono HB1.out.size)
 have HBV := Lib.hid hbV
 have HBD := Lib.hid hV0
 obtain ⟨W2, hW2⟩ : ∃ W, V0 = W := ⟨_, rfl⟩
 rw [hW2] at HBV HBD ⊢
 clear hW2 hbV hV0
 have x4 := (HXB.out.below HBD.out HXB.out.lt).cell 4
 have x5 := (HXB.out.below HBD.out HXB.out.lt).cell 5
 have x6 := (HXB.out.below HBD.out HXB.out.lt).cell 6
 have xl := (HXB.out.below HBD.out HXB.out.lt).lt
 simp at x4 x5 x6
 have HKN := Lib.hid hKN
 clear hKN x0 x1 x2 x3 f3 fl
 go_upto_region 2 with fail
 go_cut [27] (fun s27 W => s27 = .bool (known H x) ∧ Below w1.heap.size w1 W)
 case first =>
  by_cases h2 : 2 ≤ gs.length
  ·have h2i : (2 : Int) ≤ (gs.length : Int) := by omega
   have HE : Hid (known H x = true) := by show _ = _; rw [HKN.out, decide_eq_true h2]; rfl
   clear h2
   go_wp2_with fail
   go_meet
   exact ⟨by rw [HE.out], HBD.out⟩
  ·have h2i : ¬ (2 : Int) ≤ (gs.length : Int) := by omega
   have HE : Hid (known H x = (k2 || k3)) := by show _ = _; rw [HKN.out, decide_eq_false h2]; simp
   clear h2
   cases k2 with
   | true =>
    go_wp2_with (go_at_call 90; go_loud (refine (HC1.out _ HBD.out).mono ?_; rintro e W3 ⟨rfl, hb3⟩))
    go_meet
    exact ⟨by rw [HE.out]; rfl, HBD.out.trans (hb3.mono HBD.out.size)⟩
   | false =>
    go_wp2_with (go_at_call 90; go_loud (first | (with_reducible refine (HC2.out _ (HBD.out.trans (hb3.mono HBD.out.size))).mono ?_; rintro e W4 ⟨rfl, hb4⟩) | (with_reducible refine (HC1.out _ HBD.out).mono ?_; rintro e W3 ⟨rfl, hb3⟩)))
    go_meet
    have hb34 := bthen hb3 hb4
    exact ⟨by rw [HE.out]; rfl, HBD.out.trans (hb34.mono HBD.out.size)⟩
 case rest =>
  obtain ⟨X1, rfl⟩ : ∃ W, W = wc := ⟨wc, rfl⟩
  obtain ⟨rfl, hb2⟩ := hcut
  have HBX := Lib.hid hb2
  have HXX := Lib.hid (HXB.out.below hb2 HXB.out.lt)
  have HSX := Lib.hid (HS1.out.below hb2)
  have HGRX := Lib.hid (HG1.out.below hb2)
  have HGM := Lib.hid (HGM0.out.bel hb2)
  have HOW := Lib.hid (own_below HOW0.out hb2)
  have hgxl : gx < X1.heap.size := HXX.out.lt
  clear hb2 x4 x5 x6 xl
  cases hkn : known H x with
  | true =>
   have HKT := Lib.hid hkn
   clear hkn
   go_wp2_with fail
   refine bodyPost_ret (results_none rfl _ _ _) rfl ?_
   refine ⟨rfl, .slice A1 xs.length c1, ?_, ?_, ?_, .inl rfl⟩
   ·rw [grp_add_out HKT.out]; exact HSX.out
   ·rw [HKT.out, if_pos rfl]; exact HGRX.out
   ·exact .of_below (bthen HB1.out HBX.out)
  | false =>
   have HKF := Lib.hid hkn
   have x0 := HXX.out.cell 0
   have x1 := HXX.out.cell 1
   have x2 := HXX.out.cell 2
   have x3 := HXX.out.cell 3
   have x4 := HXX.out.cell 4
   have x5 := HXX.out.cell 5
   have x6 := HXX.out.cell 6
   have xl := HXX.out.lt
   have f3 := HSX.out.blk.cell 3
   have fl := HSX.out.blk.lt
   simp at x0 x1 x2 x3 x4 x5 x6 f3
   have hnex : (Value.slice A0 gs.length c0).ownBlock ≠ some gx := own_blk_ne HOW.out HXX.out (by decide)
   have hnef : (Value.slice A0 gs.length c0).ownBlock ≠ some gf := own_blk_ne HOW.out HSX.out.blk (by decide)
   have hgmX : gm < X1.heap.size := HGM.out.lt
   clear hkn
   go_upto_region 3 with fail
   refine ordV_start (ButOwn (.slice A0 gs.length c0) X1) (fun _ => True) [11] [(0, some false), (1, some false), (2, some false), (3, some false), (4, some false), (5, some false), (6, some false), (7, some false), (8, some false), (9, some true), (10, some true), (11, some true)] (by kernel_rfl) (by kernel_rfl) (by kernel_rfl) (fun _ _ _ _ _ h => h) trivial ?_
   have HD : RowKit.Below X1.heap.size X1 X1.drew := (Below.refl _ _).drew
   obtain ⟨Wd, hWd⟩ : ∃ Wd, X1.drew = Wd := ⟨_, rfl⟩
   rw [hWd] at HD ⊢
   clear hWd
   have HS0 := ButOwn.of_below (v := .slice A0 gs.length c0) HD
   iterate 9 (refine ordV_takeS (v := ?_) rfl rfl HS0 ?_ ?_; rotate_left 1; (focus (intro W hW; have hcW := hW.cell; (go_simp <;> (try with_reducible rfl)))); simp only [Act.put, zA, zB, zC])
   refine ordV_call rfl rfl (fun K hK => ?_)
   go_simp
   have HD2 := HD.alloc HD.size (.cells #[.string (ba x.g.a), .string (ba x.g.b), .bool x.g.p] 120)
   have HS1 := ButOwn.of_below (v := .slice A0 gs.length c0) HD2
   refine hK.out _ _ trivial (fun _ _ => HS1) ?_
   clear hK K
   try simp only [Act.put, zA, zB, zC]
   refine ordV_call rfl rfl (fun K hK => ?_)
   refine wp_appS (enc := encGp) (R := RGp) _ _ 173 rfl (gm + 1) 120 i0 _ 3 40 Tryz.underlying173 hinf hz0 hz1 hz2 rfl (by decide) (.slice A0 gs.length c0) _ _ rfl ((own_below HOW.out HD).alloc _) (some ⟨Wd.heap.size, 0, none⟩) 1 [x.g] rfl (slr_blkR (enc := encGp) (Blk.new_ rfl) (fun _ => rfl) (fun _ => rfl)) (fun _ _ _ h => h) (fun _ => rfl) (fun u hu => by simp [encGp] at hu; rcases hu with rfl | rfl | rfl <;> rfl) (by simp; omega) (by decide) (by have := HD2.size; omega) ?_
   intro v4 w4 hown4 hb4 ha4
   have HS2 := HS1.apps hb4.size ha4
   refine hK.out _ _ trivial (fun _ _ => HS2) ?_
   clear hK K
   refine ordV_call rfl rfl (fun K hK => ?_)
   have hown5 : w4.ownsRow (gm + 1) 120 3 v4 (gs.length + 1) (gs.flatMap encGp ++ encGp x.g) := by simpa using hown4
   have hvg : (Value.slice A0 gs.length c0).ownBlock ≠ some gm := fun e => by have := own_block_le HOW.out _ e; omega
   have hkp4 : w4.heap[gm]? = X1.heap[gm]? := (ha4.keep gm (by have := HD2.size; have := HGM.out.lt; omega) hvg).trans ((Below.heap_alloc _ _ _ (by have := HD.size; have := HGM.out.lt; omega)).trans (HD.block gm HGM.out.lt))
   have hO4 : w4.ownsMap Tryz.prog 118 slE gm nn DD := by obtain ⟨es, clock, q1, q2, q3, q4⟩ := HGM.out.own; exact ⟨es, clock, hkp4.trans q1, q2, q3, q4⟩
   obtain ⟨w5, hst, hO5, htn⟩ := hO4.store siPairLaw Tryz.underlying107 (by have := HNN.out; unfold maxLen; omega) HKL.out (slE_own hown5)
   have hg5 := htn.grown
   unfold vKey at hst
   go_simp
   refine hK.out _ _ trivial (fun _ h => by cases h) ?_
   clear hK K
   refine ordV_nil ?_
   have hmore : GpM w5 gm (nn + 1) (gm + 1) (fun k => if k = (x.l, x.r) then v4 else V k) (fun k => if k = (x.l, x.r) then gapsAt H k.1 k.2 ++ [x.g] else gapsAt H k.1 k.2) (DD.put kl (slD v4)) := by
    refine GpM.more (k0 := (x.l, x.r)) (HGM.out.bel (HD.alloc HD.size (.cells #[.string (ba x.g.a), .string (ba x.g.b), .bool x.g.p] 120))) HKL.out ?_ (by rw [HVE.out]; exact ha4) hO5 hg5
    show w4.ownsRow (gm + 1) 120 3 v4 ((gapsAt H x.l x.r).length + 1) ((gapsAt H x.l x.r).flatMap encGp ++ encGp x.g)
    rw [HGS.out]
    exact hown5
   rw [← gaps_addF (u := u) HKF.out] at hmore
   have hbs5 : ∀ Y : Nat → Prop, BelS gm Y X1.heap.size X1 w5 := fun Y => ((BelS.of_below (HD.alloc HD.size (.cells #[.string (ba x.g.a), .string (ba x.g.b), .bool x.g.p] 120))).trans (.apps ((own_below HOW.out HD).alloc _) hb4 ha4 HD2.size (.inl rfl))).trans (.grown hg5 (by have := HD2.size; have := hb4.size; omega))
   have hXl := HXX.out.lt
   have hS5 : SrI w5 gf gm s A c (addH H u x) := ⟨(hbs5 (fun _ => False)).blk HSX.out.blk HSX.out.blk.lt id (by have := HSX.out.lt; omega) (by decide), ⟨_, _, _, by rw [addH_len HKF.out]; have := HNN.out; omega, hmore⟩, HSX.out.lt⟩
   have hG5 : GrI w5 gm gg u (.slice A1 xs.length c1) xs := HGRX.out.belS (hbs5 (fun _ => False)) HGRX.out.blk.lt id (fun g hg => ⟨(HGRX.out.row.lt g hg).2, id⟩)
   have hX5 : Blk w5 gx 122 #[.int .i64 x.l.1, .string (ba x.l.2), .int .i64 x.r.1, .string (ba x.r.2), .string (ba x.g.a), .string (ba x.g.b), .bool x.g.p] := (hbs5 (fun _ => False)).blk HXX.out HXX.out.lt id (HGM.out.ne HXX.out) (by decide)
   have HS5 := Lib.hid hS5
   have HG5 := Lib.hid hG5
   have HX5 := Lib.hid hX5
   have HBS5 := Lib.hid hbs5
   have h5s : w1.heap.size ≤ w5.heap.size := Nat.le_trans HBX.out.size (hbs5 (fun _ => False)).size
   clear hmore hbs5 hS5 hG5 hX5 hown4 hown5 hb4 ha4 hvg hkp4 hO4 hO5 hst htn hg5 HD HD2 HS0 HS2 x0 x1 x2 x3 x4 x5 x6 xl f3 fl
   have x0 := HX5.out.cell 0
   have x1 := HX5.out.cell 1
   have x2 := HX5.out.cell 2
   have x3 := HX5.out.cell 3
   have x4 := HX5.out.cell 4
   have x5 := HX5.out.cell 5
   have x6 := HX5.out.cell 6
   have xl := HX5.out.lt
   have g1 := HG5.out.blk.cell 1
   have gl := HG5.out.blk.lt
   simp at x0 x1 x2 x3 x4 x5 x6 g1
   have hnex5 : (Value.slice A1 xs.length c1).ownBlock ≠ some gx := HOX.out
   have hneg5 : (Value.slice A1 xs.length c1).ownBlock ≠ some gg := own_blk_ne HG5.out.row HG5.out.blk (by decide)
   have hgmg : gm < gg := HG5.out.lt
   go_upto_region 4 with fail
   refine ordV_start (ButOwn (.slice A1 xs.length c1) w5) (fun _ => True) [10] [(0, some false), (1, some false), (2, some false), (3, some false), (4, some false), (5, some false), (6, some true), (7, some true), (8, none), (9, none), (10, some true)] (by kernel_rfl) (by kernel_rfl) (by kernel_rfl) (fun _ _ _ _ _ h => h) trivial ?_
   have HD : RowKit.Below w5.heap.size w5 w5.drew := (Below.refl _ _).drew
   obtain ⟨Wd, hWd⟩ : ∃ Wd, w5.drew = Wd := ⟨_, rfl⟩
   rw [hWd] at HD ⊢
   clear hWd
   have HS0 := ButOwn.of_below (v := .slice A1 xs.length c1) HD
   iterate 6 (refine ordV_takeS (v := ?_) rfl rfl HS0 ?_ ?_; rotate_left 1; (focus (intro W hW; have hcW := hW.cell; (go_simp <;> (try with_reducible rfl)))); simp only [Act.put, zA, zB, zC])
   refine ordV_call rfl rfl (fun K hK => ?_)
   go_simp
   have HD2 := HD.alloc HD.size (.cells #[.int .i64 x.l.1, .string (ba x.l.2), .int .i64 x.r.1, .string (ba x.r.2), .string (ba x.g.a), .string (ba x.g.b), .bool x.g.p] 122)
   have HS1 := ButOwn.of_below (v := .slice A1 xs.length c1) HD2
   refine hK.out _ _ trivial (fun _ _ => HS1) ?_
   clear hK K
   try simp only [Act.put, zA, zB, zC]
   refine ordV_call rfl rfl (fun K hK => ?_)
   refine wp_appS (enc := encSt) (R := RSt) _ _ 111 rfl (gm + 1) 122 j0 _ 7 88 Tryz.underlying111 jinf jz0 jz1 jz2 rfl (by decide) (.slice A1 xs.length c1) _ _ rfl ((own_below HG5.out.row HD).alloc _) (some ⟨Wd.heap.size, 0, none⟩) 1 [x] rfl (slr_blkR (enc := encSt) (Blk.new_ rfl) (fun _ => rfl) (fun _ => rfl)) (fun _ _ _ h => h) (fun _ => rfl) (fun u hu => by simp [encSt] at hu; rcases hu with rfl | rfl | rfl | rfl | rfl | rfl | rfl <;> rfl) (by simp; omega) (by decide) (by have := HD2.size; omega) ?_
   intro v4 w4 hown4 hb4 ha4
   have HS2 := HS1.apps hb4.size ha4
   refine hK.out _ _ trivial (fun _ _ => HS2) ?_
   clear hK K
   try simp only [Act.put, zA, zB, zC]
   iterate 2 (refine ordV_takeR (v := ?_) rfl rfl ?_ ?_; rotate_left 1; (focus (intro W hW; (go_simp <;> (try with_reducible rfl)))); simp only [Act.put, zA, zB, zC])
   refine ordV_call rfl rfl (fun K hK => ?_)
   obtain ⟨A4, c4, rfl⟩ := own_sl hown4
   have hGB4 : Blk w4 gg 113 #[.string (ba u), .slice A1 xs.length c1] := ((HG5.out.blk.below HD HG5.out.blk.lt).alloc _).apps ha4 (own_blk_ne HG5.out.row HG5.out.blk (by decide))
   have g4 := hGB4.cell 1
   have gf4 := hGB4.frozen 1
   have gl4 := hGB4.lt
   simp at g4
   go_simp
   refine hK.out _ _ trivial (fun _ h => by cases h) ?_
   clear hK K
   refine ordV_nil ?_
   have hown6 : w4.ownsRow (gm + 1) 122 7 (.slice A4 (xs ++ [x]).length c4) (xs ++ [x]).length ((xs ++ [x]).flatMap encSt) := by rw [List.length_append, List.flatMap_append]; simpa using hown4
   have hGW4 := (HG5.out.blk.below HD HG5.out.blk.lt).alloc ((.cells #[.int .i64 x.l.1, .string (ba x.l.2), .int .i64 x.r.1, .string (ba x.r.2), .string (ba x.g.a), .string (ba x.g.b), .bool x.g.p] 122))
   have hb6 : ∀ k, k < w5.heap.size → k ≠ gg → (Value.slice A1 xs.length c1).ownBlock ≠ some k → (w4.setCell ⟨gg, 1, none⟩ (.slice A4 (xs.length + 1) c4)).heap[k]? = w5.heap[k]? := fun k hk hkg hko => ((Below.heap_setCell _ _ _ _ hkg).trans (ha4.keep k (Nat.lt_of_lt_of_le hk HD2.size) hko)).trans (HD2.block k hk)
   have hbs6 : BelS gm (fun k => k = gg ∨ (Value.slice A1 xs.length c1).ownBlock = some k) w5.heap.size w5 (w4.setCell ⟨gg, 1, none⟩ (.slice A4 (xs.length + 1) c4)) := ((BelS.of_below HD2).trans (.apps ((own_below HG5.out.row HD).alloc _) hb4 ha4 HD2.size (.inr fun k hk => .inr hk))).trans (.set _ _ (.inl rfl))
   have hS6 : SrI (w4.setCell ⟨gg, 1, none⟩ (.slice A4 (xs.length + 1) c4)) gf gm s A c (addH H u x) := by
    refine HS5.out.keepX (X := fun k => k = gg ∨ (Value.slice A1 xs.length c1).ownBlock = some k) (fun k hk => ?_) (fun k hk hx => hb6 k hk (fun e => hx (.inl e)) (fun e => hx (.inr e)))
    rcases hk with rfl | hk
    ·exact ⟨blk_ne HG5.out.blk HS5.out.blk (by decide), by omega, .of_blk HG5.out.blk (by decide)⟩
    ·exact ⟨fun e => own_blk_ne HG5.out.row HS5.out.blk (by decide) (by rw [← e]; exact hk), by have := own_block_le HG5.out.row k hk; omega, .of_own HG5.out.row (by decide) hk⟩
   have hne6 : (Value.slice A4 (xs.length + 1) c4).ownBlock ≠ some gg := by
    rcases ha4.at_ with e | ⟨k, e, hk⟩
    ·exact fun h => hneg5 (e.symm.trans h)
    ·have e : (Value.slice A4 (xs.length + 1) c4).ownBlock = some k := e
     intro h2
     rw [e] at h2
     have := Option.some.inj h2
     have := HD2.size
     omega
   have hG6 : GrI (w4.setCell ⟨gg, 1, none⟩ (.slice A4 (xs.length + 1) c4)) gm gg u (.slice A4 (xs.length + 1) c4) (xs ++ [x]) :=
    ⟨by simpa using (hGW4.apps ha4 hneg5).set_ 1 (.slice A4 (xs.length + 1) c4), by have := own_set hown6 (a := ⟨gg, 1, none⟩) (by rw [List.length_append]; exact hne6) (.slice A4 (xs.length + 1) c4); simpa using this, HG5.out.lt⟩
   have hat : (Value.slice A4 (xs.length + 1) c4).ownBlock = (Value.slice A1 xs.length c1).ownBlock ∨ ∃ k, (Value.slice A4 (xs.length + 1) c4).ownBlock = some k ∧ w.heap.size ≤ k := by
    rcases ha4.at_ with e | ⟨k, e, hk⟩
    ·exact .inl e
    ·exact .inr ⟨k, e, by have := HD2.size; have := HB1.out.size; omega⟩
   have HS6 := Lib.hid hS6
   have HG6 := Lib.hid hG6
   have HAT := Lib.hid hat
   have HBS6 := Lib.hid hbs6
   obtain ⟨w6, hw6⟩ : ∃ W, w4.setCell ⟨gg, 1, none⟩ (.slice A4 (xs.length + 1) c4) = W := ⟨_, rfl⟩
   rw [hw6] at HS6 HG6 HBS6 ⊢
   clear hw6 hS6 hG6 hat hbs6 hne6 hown6 hGW4 hb6 hb4 ha4 hown4
   go_wp2_with fail
   go_end0
   refine ⟨rfl, .slice A4 (xs.length + 1) c4, HS6.out, ?_, ?_, HAT.out⟩
   ·rw [HKF.out]; exact HG6.out
   ·exact ((BelS.of_below (bthen HB1.out HBX.out)).trans ((HBS5.out _).mono (by have := HB1.out.size; have := HBX.out.size; omega) fun k _ h => h)).trans (HBS6.out.mono (by have := HB1.out.size; omega) fun k _ h => h)
end Go.Proofs.YtfpnhgahkjglgaaGreat
