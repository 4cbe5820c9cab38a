/-
  The walks of layer 20: the reference's order of edges, and which lattices it holds valid (layer 14).
-/
import Derived.Test.YtcimnkijpifkjaaQ06
import Derived.Test.YtcimnkijpifkjaaQ07
namespace Go.Proofs.Ytcimnkijpifkjaa
open Go Go.RowKit

theorem lessE_eq (a b : Ed) : lessE a b = if a.fr = b.fr then (decide (a.to < b.to) || (a.to == b.to && decide (a.wd < b.wd))) else decide (a.fr < b.fr) := by
  unfold lessE
  by_cases h : a.fr = b.fr
  · simp [h]
  · rw [if_neg h]
    by_cases h2 : a.fr < b.fr <;> simp [h, h2]
set_option maxRecDepth 100000 in
set_option maxHeartbeats 4000000 in
theorem lessE_any (a b : Ed) (w : World) : Calls Try.prog 55 #[vEd a, vEd b] w fun e w' => e = .returned (.bool (lessE a b)) ∧ Below w.heap.size w w' := by
  obtain ⟨w2, hw2⟩ : ∃ w2, (w.alloc (.cells #[.int .i64 a.fr, .int .i64 a.to, .int .i64 a.wd, .int .i64 a.co] 43)).alloc (.cells #[.int .i64 b.fr, .int .i64 b.to, .int .i64 b.wd, .int .i64 b.co] 43) = w2 := ⟨_, rfl⟩
  have hb2 : Below w.heap.size w w2 := by rw [← hw2]; exact nw _ (nw _ (Below.refl _ _))
  have hA : Blk w2 w.heap.size 43 #[.int .i64 a.fr, .int .i64 a.to, .int .i64 a.wd, .int .i64 a.co] := by rw [← hw2]; exact (Blk.new _ _ _).alloc _
  have hB : Blk w2 (w.heap.size + 1) 43 #[.int .i64 b.fr, .int .i64 b.to, .int .i64 b.wd, .int .i64 b.co] := by rw [← hw2]; exact Blk.new_ (by simp)
  have HW2 := Lib.hid hw2
  have HBW := Lib.hid hb2
  have a0 := hA.cell 0
  have a1 := hA.cell 1
  have a2 := hA.cell 2
  have al := hA.lt
  have b0 := hB.cell 0
  have b1 := hB.cell 1
  have b2 := hB.cell 2
  have bl := hB.lt
  simp at a0 a1 a2 b0 b1 b2
  clear hw2 hb2
  obtain ⟨v, hv⟩ : ∃ v, lessE a b = v := ⟨_, rfl⟩
  have HV : Hid ((if a.fr = b.fr then (decide (a.to < b.to) || (a.to == b.to && decide (a.wd < b.wd))) else decide (a.fr < b.fr)) = v) := by show _ = _; rw [← hv, lessE_eq]
  rw [hv]
  clear hv
  by_cases h1 : a.fr = b.fr
  · have z1 : (a.fr != b.fr) = false := by simpa using h1
    have HV : Hid ((decide (a.to < b.to) || (a.to == b.to && decide (a.wd < b.wd))) = v) := by have := HV.out; rw [if_pos h1] at this; exact this
    clear h1
    by_cases h2 : a.to < b.to
    · have HR : Hid (true = v) := by show _ = _; rw [← HV.out]; simp [h2]
      have z2 : decide (a.to < b.to) = true := decide_eq_true h2
      clear h2
      go_enter Try.func55, Try.ntmps55
      go_upto_region 1 with fail
      rw [HW2.out]
      go_wp2_with fail
      go_ret
      exact ⟨by rw [← HR.out]; rfl, HBW.out⟩
    · have z2 : decide (a.to < b.to) = false := decide_eq_false h2
      by_cases h3 : a.to = b.to
      · have z3 : (a.to == b.to) = true := by simpa using h3
        have HR : Hid (decide (a.wd < b.wd) = v) := by show _ = _; rw [← HV.out]; simp [h3]
        clear h2 h3
        go_enter Try.func55, Try.ntmps55
        go_upto_region 1 with fail
        rw [HW2.out]
        go_wp2_with fail
        go_ret
        exact ⟨by rw [← HR.out]; rfl, HBW.out⟩
      · have z3 : (a.to == b.to) = false := by simpa using h3
        have HR : Hid (false = v) := by show _ = _; rw [← HV.out]; simp [h2, h3]
        clear h2 h3
        go_enter Try.func55, Try.ntmps55
        go_upto_region 1 with fail
        rw [HW2.out]
        go_wp2_with fail
        go_ret
        exact ⟨by rw [← HR.out]; rfl, HBW.out⟩
  · have z1 : (a.fr != b.fr) = true := by simpa using h1
    have HR : Hid (decide (a.fr < b.fr) = v) := by have := HV.out; rw [if_neg h1] at this; exact this
    clear h1
    go_enter Try.func55, Try.ntmps55
    go_upto_region 1 with fail
    rw [HW2.out]
    go_wp2_with fail
    go_ret
    exact ⟨by rw [← HR.out]; rfl, HBW.out⟩
set_option maxRecDepth 100000 in
set_option maxHeartbeats 8000000 in
theorem reflvalid_any (A : Option Addr) (c : Nat) (x : La) (w : World) (hx : SlR 4 REd w A x.es) (hl : x.es.length ≤ maxLen) :
    Calls Try.prog 61 #[.agg #[.int .i64 x.n, .slice A x.es.length c]] w fun e w' => e = .returned (.bool (decide (LaOK x))) ∧ Below w.heap.size w w' := by
  unfold maxLen at hl
  obtain ⟨w1, hw1⟩ : ∃ w1, w.alloc (.cells #[.int .i64 x.n, .slice A x.es.length c] 38) = w1 := ⟨_, rfl⟩
  have hb1 : Below w.heap.size w w1 := by rw [← hw1]; exact nw _ (Below.refl _ _)
  have hB1 : Blk w1 w.heap.size 38 #[.int .i64 x.n, .slice A x.es.length c] := by rw [← hw1]; exact Blk.new _ _ _
  have HW1 := Lib.hid hw1
  have c0 := hB1.cell 0
  have c1 := hB1.cell 1
  have lb := hB1.lt
  simp at c0 c1
  clear hw1
  have HI0 : Hid (∀ W, Calls Try.prog 36 #[.int .i64 x.n, .int .i64 0, .int .i64 40] W fun e w' => e = .returned (.bool (inB x.n 0 40)) ∧ W = w') := fun W => in_any x.n 0 40 W
  obtain ⟨v0, hv0⟩ : ∃ v, inB x.n 0 40 = v := ⟨_, rfl⟩
  rw [hv0] at HI0
  have Hv0 := Lib.hid hv0
  clear hv0
  cases v0 with
  | false =>
    have HR : Hid (decide (LaOK x) = false) := by
      show _ = _
      refine decide_eq_false fun h => ?_
      have h1 := Hv0.out
      unfold inB at h1
      simp at h1
      have := h.1
      omega
    go_enter Try.func61, Try.ntmps61
    go_upto_region 1 with fail
    rw [HW1.out]
    go_wp2_with (go_at_call 36; refine (HI0.out _).mono ?_; rintro e w' ⟨rfl, rfl⟩)
    go_ret
    exact ⟨by rw [HR.out]; rfl, hb1⟩
  | true =>
  have Hn : Hid (0 ≤ x.n ∧ x.n ≤ 40) := by show _ ∧ _; have h1 := Hv0.out; unfold inB at h1; simpa using h1
  by_cases hl2 : ¬ x.es.length ≤ 20000
  · have HR : Hid (decide (LaOK x) = false) := by show _ = _; exact decide_eq_false fun h => hl2 h.2.1
    have z1 : (20000 : Int) < (x.es.length : Int) := by omega
    go_enter Try.func61, Try.ntmps61
    go_upto_region 1 with fail
    rw [HW1.out]
    go_wp2_with (go_at_call 36; refine (HI0.out _).mono ?_; rintro e w' ⟨rfl, rfl⟩)
    go_ret
    exact ⟨by rw [HR.out]; rfl, hb1⟩
  have hl2 := Decidable.not_not.1 hl2
  have hl2' : (x.es.length : Int) ≤ 20000 := by omega
  have HE0 := EsTo.zero x.n x.es
  go_enter Try.func61, Try.ntmps61
  go_upto_region 1 with fail
  rw [HW1.out]
  go_wp2_with (go_at_call 36; refine (HI0.out _).mono ?_; rintro e w' ⟨rfl, rfl⟩)
  go_loopw [3] (fun i wr => ∃ k : Nat, k ≤ x.es.length ∧ Hid (EsTo x.n x.es k) ∧ i = .int .i64 k ∧ Below w1.heap.size w1 wr) (fun i _ => x.es.length - (intOf i).toNat)
  case atStart => exact ⟨0, by omega, HE0, rfl, Below.refl _ _⟩
  case round =>
    obtain ⟨k, hk, HS, rfl, hbr⟩ := hrel
    have hB := hB1.below hbr lb
    have r0 := hB.cell 0
    have r1 := hB.cell 1
    have rl := hB.lt
    simp at r0 r1
    have HBr := Lib.hid hbr
    have hbw := bthen hb1 hbr
    by_cases hlt : k < x.es.length
    · obtain ⟨b, off, e, rfl, hbb, hee, d0, d1, d2, d3⟩ := (hx.below keeps_ed hbw).ed hlt
      have HL := Lib.hid hee
      have HI1 : Hid (∀ W, Calls Try.prog 36 #[.int .i64 e.wd, .int .i64 0, .int .i64 199] W fun e' w' => e' = .returned (.bool (inB e.wd 0 199)) ∧ W = w') := fun W => in_any _ _ _ W
      have HI2 : Hid (∀ W, Calls Try.prog 36 #[.int .i64 e.co, .int .i64 0, .int .i64 1000000] W fun e' w' => e' = .returned (.bool (inB e.co 0 1000000)) ∧ W = w') := fun W => in_any _ _ _ W
      obtain ⟨v1, hv1⟩ : ∃ v, inB e.wd 0 199 = v := ⟨_, rfl⟩
      obtain ⟨v2, hv2⟩ : ∃ v, inB e.co 0 1000000 = v := ⟨_, rfl⟩
      rw [hv1] at HI1
      rw [hv2] at HI2
      have Hv1 := Lib.hid hv1
      have Hv2 := Lib.hid hv2
      clear hee hB hbr hv1 hv2
      go_upto_region 7 with fail
      obtain ⟨W2, hW2⟩ : ∃ W, wr.alloc (.cells #[.int .i64 e.fr, .int .i64 e.to, .int .i64 e.wd, .int .i64 e.co] 43) = W := ⟨_, rfl⟩
      have hb3 : Below wr.heap.size wr W2 := by rw [← hW2]; exact nw _ (Below.refl _ _)
      have hEb : Blk W2 wr.heap.size 43 #[.int .i64 e.fr, .int .i64 e.to, .int .i64 e.wd, .int .i64 e.co] := by rw [← hW2]; exact Blk.new _ _ _
      rw [hW2]
      have HBR := Lib.hid (HBr.out.trans (hb3.mono HBr.out.size))
      have e0 := hEb.cell 0
      have e1 := hEb.cell 1
      have e2 := hEb.cell 2
      have e3 := hEb.cell 3
      have el := hEb.lt
      have hB := hB1.below HBR.out lb
      have r0 := hB.cell 0
      have r1 := hB.cell 1
      have rl := hB.lt
      simp at e0 e1 e2 e3 r0 r1
      clear hW2 hB d0 d1 d2 d3 hbb
      by_cases hz : e.fr < 0
      · have HZ := Lib.hid hz
        have z : decide (e.fr < 0) = true := decide_eq_true hz
        refine ordB_below (.quiet 0 (.quiet 1 (.quiet 2 (.quiet 3 (.quiet 4 (.quiet 5 (.quiet 6 (.quiet 7 (.quiet 8 (.quiet 9 (.quiet 10 (.quiet 11 (.quiet 12 (.quiet 13 (.quiet 14 (.quiet 15 (.quiet 16 (.quiet 17 (.quiet 18 (.quiet 19 (.only 20 (.quiet 21 (.quiet 22 (.quiet 23 (.quiet 24 (.quiet 25 (.only 26 (.quiet 27 (.quiet 28 (.quiet 29 (.quiet 30 (.quiet 31 (.quiet 32 (.quiet 33 (.quiet 34 (.quiet 35 (.quiet 36 (.quiet 37 (.quiet 38 (.quiet 39 (.only 40 (.quiet 41 (.quiet 42 (.quiet 43 .done)))))))))))))))))))))))))))))))))))))))))))) (by kernel_rfl) (by kernel_rfl) (by kernel_rfl) (fun _ _ _ _ _ h => h) ?_
        intro V0 hV0
        iterate 20 (first
          | (refine ordB_skip rfl rfl ?_; simp only [Act.put, List.setIfInBounds_toArray, List.set_cons_zero, List.set_cons_succ])
          | (refine ordB_take (v := ?_) rfl rfl ?_ ?_
             rotate_left 1
             focus (intro W hW; obtain ⟨hcW, hfW⟩ := bcell hW; (go_simp <;> with_reducible rfl))
             simp only [Act.put, List.setIfInBounds_toArray, List.set_cons_zero, List.set_cons_succ]))
        refine ordB_only (opB_cskip rfl rfl hV0 ?_)
        simp only [Act.put, List.setIfInBounds_toArray, List.set_cons_zero, List.set_cons_succ]
        iterate 5 (first
          | (refine ordB_skip rfl rfl ?_; simp only [Act.put, List.setIfInBounds_toArray, List.set_cons_zero, List.set_cons_succ])
          | (refine ordB_take (v := ?_) rfl rfl ?_ ?_
             rotate_left 1
             focus (intro W hW; obtain ⟨hcW, hfW⟩ := bcell hW; (go_simp <;> with_reducible rfl))
             simp only [Act.put, List.setIfInBounds_toArray, List.set_cons_zero, List.set_cons_succ]))
        refine ordB_only (opB_cskip rfl rfl hV0 ?_)
        simp only [Act.put, List.setIfInBounds_toArray, List.set_cons_zero, List.set_cons_succ]
        iterate 13 (first
          | (refine ordB_skip rfl rfl ?_; simp only [Act.put, List.setIfInBounds_toArray, List.set_cons_zero, List.set_cons_succ])
          | (refine ordB_take (v := ?_) rfl rfl ?_ ?_
             rotate_left 1
             focus (intro W hW; obtain ⟨hcW, hfW⟩ := bcell hW; (go_simp <;> with_reducible rfl))
             simp only [Act.put, List.setIfInBounds_toArray, List.set_cons_zero, List.set_cons_succ]))
        refine ordB_only (opB_cskip rfl rfl hV0 ?_)
        simp only [Act.put, List.setIfInBounds_toArray, List.set_cons_zero, List.set_cons_succ]
        iterate 3 (first
          | (refine ordB_skip rfl rfl ?_; simp only [Act.put, List.setIfInBounds_toArray, List.set_cons_zero, List.set_cons_succ])
          | (refine ordB_take (v := ?_) rfl rfl ?_ ?_
             rotate_left 1
             focus (intro W hW; obtain ⟨hcW, hfW⟩ := bcell hW; (go_simp <;> with_reducible rfl))
             simp only [Act.put, List.setIfInBounds_toArray, List.set_cons_zero, List.set_cons_succ]))
        refine ordB_nil ?_
        have HBE := Lib.hid (HBR.out.trans (hV0.mono HBR.out.size))
        have HR : Hid (decide (LaOK x) = false) := by
          show _ = _
          exact decide_eq_false (LaOK.not_ok HL.out fun h => by have := h.1; have := HZ.out; omega)
        clear hz
        go_wp2_with fail
        go_ret
        exact ⟨by rw [HR.out]; rfl, bthen hb1 HBE.out⟩
      have zf := decide_eq_false hz
      have zn := Int.not_lt.1 hz
      by_cases hz : e.to ≤ e.fr
      · have HZ := Lib.hid hz
        have z : decide (e.to ≤ e.fr) = true := decide_eq_true hz
        refine ordB_below (.quiet 0 (.quiet 1 (.quiet 2 (.quiet 3 (.quiet 4 (.quiet 5 (.quiet 6 (.quiet 7 (.quiet 8 (.quiet 9 (.quiet 10 (.quiet 11 (.quiet 12 (.quiet 13 (.quiet 14 (.quiet 15 (.quiet 16 (.quiet 17 (.quiet 18 (.quiet 19 (.only 20 (.quiet 21 (.quiet 22 (.quiet 23 (.quiet 24 (.quiet 25 (.only 26 (.quiet 27 (.quiet 28 (.quiet 29 (.quiet 30 (.quiet 31 (.quiet 32 (.quiet 33 (.quiet 34 (.quiet 35 (.quiet 36 (.quiet 37 (.quiet 38 (.quiet 39 (.only 40 (.quiet 41 (.quiet 42 (.quiet 43 .done)))))))))))))))))))))))))))))))))))))))))))) (by kernel_rfl) (by kernel_rfl) (by kernel_rfl) (fun _ _ _ _ _ h => h) ?_
        intro V0 hV0
        iterate 20 (first
          | (refine ordB_skip rfl rfl ?_; simp only [Act.put, List.setIfInBounds_toArray, List.set_cons_zero, List.set_cons_succ])
          | (refine ordB_take (v := ?_) rfl rfl ?_ ?_
             rotate_left 1
             focus (intro W hW; obtain ⟨hcW, hfW⟩ := bcell hW; (go_simp <;> with_reducible rfl))
             simp only [Act.put, List.setIfInBounds_toArray, List.set_cons_zero, List.set_cons_succ]))
        refine ordB_only (opB_cskip rfl rfl hV0 ?_)
        simp only [Act.put, List.setIfInBounds_toArray, List.set_cons_zero, List.set_cons_succ]
        iterate 5 (first
          | (refine ordB_skip rfl rfl ?_; simp only [Act.put, List.setIfInBounds_toArray, List.set_cons_zero, List.set_cons_succ])
          | (refine ordB_take (v := ?_) rfl rfl ?_ ?_
             rotate_left 1
             focus (intro W hW; obtain ⟨hcW, hfW⟩ := bcell hW; (go_simp <;> with_reducible rfl))
             simp only [Act.put, List.setIfInBounds_toArray, List.set_cons_zero, List.set_cons_succ]))
        refine ordB_only (opB_cskip rfl rfl hV0 ?_)
        simp only [Act.put, List.setIfInBounds_toArray, List.set_cons_zero, List.set_cons_succ]
        iterate 13 (first
          | (refine ordB_skip rfl rfl ?_; simp only [Act.put, List.setIfInBounds_toArray, List.set_cons_zero, List.set_cons_succ])
          | (refine ordB_take (v := ?_) rfl rfl ?_ ?_
             rotate_left 1
             focus (intro W hW; obtain ⟨hcW, hfW⟩ := bcell hW; (go_simp <;> with_reducible rfl))
             simp only [Act.put, List.setIfInBounds_toArray, List.set_cons_zero, List.set_cons_succ]))
        refine ordB_only (opB_cskip rfl rfl hV0 ?_)
        simp only [Act.put, List.setIfInBounds_toArray, List.set_cons_zero, List.set_cons_succ]
        iterate 3 (first
          | (refine ordB_skip rfl rfl ?_; simp only [Act.put, List.setIfInBounds_toArray, List.set_cons_zero, List.set_cons_succ])
          | (refine ordB_take (v := ?_) rfl rfl ?_ ?_
             rotate_left 1
             focus (intro W hW; obtain ⟨hcW, hfW⟩ := bcell hW; (go_simp <;> with_reducible rfl))
             simp only [Act.put, List.setIfInBounds_toArray, List.set_cons_zero, List.set_cons_succ]))
        refine ordB_nil ?_
        have HBE := Lib.hid (HBR.out.trans (hV0.mono HBR.out.size))
        have HR : Hid (decide (LaOK x) = false) := by
          show _ = _
          exact decide_eq_false (LaOK.not_ok HL.out fun h => by have := h.1; have := HZ.out; omega)
        clear hz
        go_wp2_with fail
        go_ret
        exact ⟨by rw [HR.out]; rfl, bthen hb1 HBE.out⟩
      have zf := decide_eq_false hz
      have zn := Int.not_le.1 hz
      by_cases hz : x.n < e.to
      · have HZ := Lib.hid hz
        have z : decide (x.n < e.to) = true := decide_eq_true hz
        refine ordB_below (.quiet 0 (.quiet 1 (.quiet 2 (.quiet 3 (.quiet 4 (.quiet 5 (.quiet 6 (.quiet 7 (.quiet 8 (.quiet 9 (.quiet 10 (.quiet 11 (.quiet 12 (.quiet 13 (.quiet 14 (.quiet 15 (.quiet 16 (.quiet 17 (.quiet 18 (.quiet 19 (.only 20 (.quiet 21 (.quiet 22 (.quiet 23 (.quiet 24 (.quiet 25 (.only 26 (.quiet 27 (.quiet 28 (.quiet 29 (.quiet 30 (.quiet 31 (.quiet 32 (.quiet 33 (.quiet 34 (.quiet 35 (.quiet 36 (.quiet 37 (.quiet 38 (.quiet 39 (.only 40 (.quiet 41 (.quiet 42 (.quiet 43 .done)))))))))))))))))))))))))))))))))))))))))))) (by kernel_rfl) (by kernel_rfl) (by kernel_rfl) (fun _ _ _ _ _ h => h) ?_
        intro V0 hV0
        iterate 20 (first
          | (refine ordB_skip rfl rfl ?_; simp only [Act.put, List.setIfInBounds_toArray, List.set_cons_zero, List.set_cons_succ])
          | (refine ordB_take (v := ?_) rfl rfl ?_ ?_
             rotate_left 1
             focus (intro W hW; obtain ⟨hcW, hfW⟩ := bcell hW; (go_simp <;> with_reducible rfl))
             simp only [Act.put, List.setIfInBounds_toArray, List.set_cons_zero, List.set_cons_succ]))
        refine ordB_only (opB_cskip rfl rfl hV0 ?_)
        simp only [Act.put, List.setIfInBounds_toArray, List.set_cons_zero, List.set_cons_succ]
        iterate 5 (first
          | (refine ordB_skip rfl rfl ?_; simp only [Act.put, List.setIfInBounds_toArray, List.set_cons_zero, List.set_cons_succ])
          | (refine ordB_take (v := ?_) rfl rfl ?_ ?_
             rotate_left 1
             focus (intro W hW; obtain ⟨hcW, hfW⟩ := bcell hW; (go_simp <;> with_reducible rfl))
             simp only [Act.put, List.setIfInBounds_toArray, List.set_cons_zero, List.set_cons_succ]))
        refine ordB_only (opB_cskip rfl rfl hV0 ?_)
        simp only [Act.put, List.setIfInBounds_toArray, List.set_cons_zero, List.set_cons_succ]
        iterate 13 (first
          | (refine ordB_skip rfl rfl ?_; simp only [Act.put, List.setIfInBounds_toArray, List.set_cons_zero, List.set_cons_succ])
          | (refine ordB_take (v := ?_) rfl rfl ?_ ?_
             rotate_left 1
             focus (intro W hW; obtain ⟨hcW, hfW⟩ := bcell hW; (go_simp <;> with_reducible rfl))
             simp only [Act.put, List.setIfInBounds_toArray, List.set_cons_zero, List.set_cons_succ]))
        refine ordB_only (opB_cskip rfl rfl hV0 ?_)
        simp only [Act.put, List.setIfInBounds_toArray, List.set_cons_zero, List.set_cons_succ]
        iterate 3 (first
          | (refine ordB_skip rfl rfl ?_; simp only [Act.put, List.setIfInBounds_toArray, List.set_cons_zero, List.set_cons_succ])
          | (refine ordB_take (v := ?_) rfl rfl ?_ ?_
             rotate_left 1
             focus (intro W hW; obtain ⟨hcW, hfW⟩ := bcell hW; (go_simp <;> with_reducible rfl))
             simp only [Act.put, List.setIfInBounds_toArray, List.set_cons_zero, List.set_cons_succ]))
        refine ordB_nil ?_
        have HBE := Lib.hid (HBR.out.trans (hV0.mono HBR.out.size))
        have HR : Hid (decide (LaOK x) = false) := by
          show _ = _
          exact decide_eq_false (LaOK.not_ok HL.out fun h => by have := h.1; have := HZ.out; omega)
        clear hz
        go_wp2_with fail
        go_ret
        exact ⟨by rw [HR.out]; rfl, bthen hb1 HBE.out⟩
      have zf := decide_eq_false hz
      have zn := Int.not_lt.1 hz
      cases v1 with
      | false =>
        have hz := True.intro
        refine ordB_below (.quiet 0 (.quiet 1 (.quiet 2 (.quiet 3 (.quiet 4 (.quiet 5 (.quiet 6 (.quiet 7 (.quiet 8 (.quiet 9 (.quiet 10 (.quiet 11 (.quiet 12 (.quiet 13 (.quiet 14 (.quiet 15 (.quiet 16 (.quiet 17 (.quiet 18 (.quiet 19 (.only 20 (.quiet 21 (.quiet 22 (.quiet 23 (.quiet 24 (.quiet 25 (.only 26 (.quiet 27 (.quiet 28 (.quiet 29 (.quiet 30 (.quiet 31 (.quiet 32 (.quiet 33 (.quiet 34 (.quiet 35 (.quiet 36 (.quiet 37 (.quiet 38 (.quiet 39 (.only 40 (.quiet 41 (.quiet 42 (.quiet 43 .done)))))))))))))))))))))))))))))))))))))))))))) (by kernel_rfl) (by kernel_rfl) (by kernel_rfl) (fun _ _ _ _ _ h => h) ?_
        intro V0 hV0
        iterate 20 (first
          | (refine ordB_skip rfl rfl ?_; simp only [Act.put, List.setIfInBounds_toArray, List.set_cons_zero, List.set_cons_succ])
          | (refine ordB_take (v := ?_) rfl rfl ?_ ?_
             rotate_left 1
             focus (intro W hW; obtain ⟨hcW, hfW⟩ := bcell hW; (go_simp <;> with_reducible rfl))
             simp only [Act.put, List.setIfInBounds_toArray, List.set_cons_zero, List.set_cons_succ]))
        refine ordB_only (opB_call rfl rfl (fun K hK => ?_))
        go_simp
        go_at_call 36
        refine (HI1.out V0).mono ?_
        rintro e w' ⟨rfl, rfl⟩
        refine hK.out _ _ hV0 (fun hV0_1 => ?_)
        iterate 5 (first
          | (refine ordB_skip rfl rfl ?_; simp only [Act.put, List.setIfInBounds_toArray, List.set_cons_zero, List.set_cons_succ])
          | (refine ordB_take (v := ?_) rfl rfl ?_ ?_
             rotate_left 1
             focus (intro W hW; obtain ⟨hcW, hfW⟩ := bcell hW; (go_simp <;> with_reducible rfl))
             simp only [Act.put, List.setIfInBounds_toArray, List.set_cons_zero, List.set_cons_succ]))
        refine ordB_only (opB_cskip rfl rfl hV0_1 ?_)
        simp only [Act.put, List.setIfInBounds_toArray, List.set_cons_zero, List.set_cons_succ]
        iterate 13 (first
          | (refine ordB_skip rfl rfl ?_; simp only [Act.put, List.setIfInBounds_toArray, List.set_cons_zero, List.set_cons_succ])
          | (refine ordB_take (v := ?_) rfl rfl ?_ ?_
             rotate_left 1
             focus (intro W hW; obtain ⟨hcW, hfW⟩ := bcell hW; (go_simp <;> with_reducible rfl))
             simp only [Act.put, List.setIfInBounds_toArray, List.set_cons_zero, List.set_cons_succ]))
        refine ordB_only (opB_cskip rfl rfl hV0_1 ?_)
        simp only [Act.put, List.setIfInBounds_toArray, List.set_cons_zero, List.set_cons_succ]
        iterate 3 (first
          | (refine ordB_skip rfl rfl ?_; simp only [Act.put, List.setIfInBounds_toArray, List.set_cons_zero, List.set_cons_succ])
          | (refine ordB_take (v := ?_) rfl rfl ?_ ?_
             rotate_left 1
             focus (intro W hW; obtain ⟨hcW, hfW⟩ := bcell hW; (go_simp <;> with_reducible rfl))
             simp only [Act.put, List.setIfInBounds_toArray, List.set_cons_zero, List.set_cons_succ]))
        refine ordB_nil ?_
        have HBE := Lib.hid (HBR.out.trans (hV0_1.mono HBR.out.size))
        have HR : Hid (decide (LaOK x) = false) := by
          show _ = _
          exact decide_eq_false (LaOK.not_ok HL.out fun h => by have h1 := Hv1.out; unfold inB at h1; simp at h1; have := h.2; omega)
        clear hz
        go_wp2_with fail
        go_ret
        exact ⟨by rw [HR.out]; rfl, bthen hb1 HBE.out⟩
      | true =>
        cases v2 with
        | false =>
          have hz := True.intro
          refine ordB_below (.quiet 0 (.quiet 1 (.quiet 2 (.quiet 3 (.quiet 4 (.quiet 5 (.quiet 6 (.quiet 7 (.quiet 8 (.quiet 9 (.quiet 10 (.quiet 11 (.quiet 12 (.quiet 13 (.quiet 14 (.quiet 15 (.quiet 16 (.quiet 17 (.quiet 18 (.quiet 19 (.only 20 (.quiet 21 (.quiet 22 (.quiet 23 (.quiet 24 (.quiet 25 (.only 26 (.quiet 27 (.quiet 28 (.quiet 29 (.quiet 30 (.quiet 31 (.quiet 32 (.quiet 33 (.quiet 34 (.quiet 35 (.quiet 36 (.quiet 37 (.quiet 38 (.quiet 39 (.only 40 (.quiet 41 (.quiet 42 (.quiet 43 .done)))))))))))))))))))))))))))))))))))))))))))) (by kernel_rfl) (by kernel_rfl) (by kernel_rfl) (fun _ _ _ _ _ h => h) ?_
          intro V0 hV0
          iterate 20 (first
            | (refine ordB_skip rfl rfl ?_; simp only [Act.put, List.setIfInBounds_toArray, List.set_cons_zero, List.set_cons_succ])
            | (refine ordB_take (v := ?_) rfl rfl ?_ ?_
               rotate_left 1
               focus (intro W hW; obtain ⟨hcW, hfW⟩ := bcell hW; (go_simp <;> with_reducible rfl))
               simp only [Act.put, List.setIfInBounds_toArray, List.set_cons_zero, List.set_cons_succ]))
          refine ordB_only (opB_call rfl rfl (fun K hK => ?_))
          go_simp
          go_at_call 36
          refine (HI1.out V0).mono ?_
          rintro e w' ⟨rfl, rfl⟩
          refine hK.out _ _ hV0 (fun hV0_1 => ?_)
          iterate 5 (first
            | (refine ordB_skip rfl rfl ?_; simp only [Act.put, List.setIfInBounds_toArray, List.set_cons_zero, List.set_cons_succ])
            | (refine ordB_take (v := ?_) rfl rfl ?_ ?_
               rotate_left 1
               focus (intro W hW; obtain ⟨hcW, hfW⟩ := bcell hW; (go_simp <;> with_reducible rfl))
               simp only [Act.put, List.setIfInBounds_toArray, List.set_cons_zero, List.set_cons_succ]))
          refine ordB_only (opB_call rfl rfl (fun K hK => ?_))
          go_simp
          go_at_call 36
          refine (HI2.out V0).mono ?_
          rintro e w' ⟨rfl, rfl⟩
          refine hK.out _ _ hV0_1 (fun hV0_1_2 => ?_)
          iterate 13 (first
            | (refine ordB_skip rfl rfl ?_; simp only [Act.put, List.setIfInBounds_toArray, List.set_cons_zero, List.set_cons_succ])
            | (refine ordB_take (v := ?_) rfl rfl ?_ ?_
               rotate_left 1
               focus (intro W hW; obtain ⟨hcW, hfW⟩ := bcell hW; (go_simp <;> with_reducible rfl))
               simp only [Act.put, List.setIfInBounds_toArray, List.set_cons_zero, List.set_cons_succ]))
          refine ordB_only (opB_cskip rfl rfl hV0_1_2 ?_)
          simp only [Act.put, List.setIfInBounds_toArray, List.set_cons_zero, List.set_cons_succ]
          iterate 3 (first
            | (refine ordB_skip rfl rfl ?_; simp only [Act.put, List.setIfInBounds_toArray, List.set_cons_zero, List.set_cons_succ])
            | (refine ordB_take (v := ?_) rfl rfl ?_ ?_
               rotate_left 1
               focus (intro W hW; obtain ⟨hcW, hfW⟩ := bcell hW; (go_simp <;> with_reducible rfl))
               simp only [Act.put, List.setIfInBounds_toArray, List.set_cons_zero, List.set_cons_succ]))
          refine ordB_nil ?_
          have HBE := Lib.hid (HBR.out.trans (hV0_1_2.mono HBR.out.size))
          have HR : Hid (decide (LaOK x) = false) := by
            show _ = _
            exact decide_eq_false (LaOK.not_ok HL.out fun h => by have h1 := Hv2.out; unfold inB at h1; simp at h1; have := h.2; omega)
          clear hz
          go_wp2_with fail
          go_ret
          exact ⟨by rw [HR.out]; rfl, bthen hb1 HBE.out⟩
        | true =>
          have HOK : Hid (EdOK x.n e) := by
            have h1 := Hv1.out
            have h2 := Hv2.out
            unfold inB at h1 h2
            simp at h1 h2
            exact ⟨⟨by omega, by omega, by omega⟩, ⟨by omega, by omega⟩, by omega, by omega⟩
          clear Hv1 Hv2
          by_cases hk0 : k = 0
          · subst hk0
            refine ordB_below (.quiet 0 (.quiet 1 (.quiet 2 (.quiet 3 (.quiet 4 (.quiet 5 (.quiet 6 (.quiet 7 (.quiet 8 (.quiet 9 (.quiet 10 (.quiet 11 (.quiet 12 (.quiet 13 (.quiet 14 (.quiet 15 (.quiet 16 (.quiet 17 (.quiet 18 (.quiet 19 (.only 20 (.quiet 21 (.quiet 22 (.quiet 23 (.quiet 24 (.quiet 25 (.only 26 (.quiet 27 (.quiet 28 (.quiet 29 (.quiet 30 (.quiet 31 (.quiet 32 (.quiet 33 (.quiet 34 (.quiet 35 (.quiet 36 (.quiet 37 (.quiet 38 (.quiet 39 (.only 40 (.quiet 41 (.quiet 42 (.quiet 43 .done)))))))))))))))))))))))))))))))))))))))))))) (by kernel_rfl) (by kernel_rfl) (by kernel_rfl) (fun _ _ _ _ _ h => h) ?_
            intro V0 hV0
            iterate 20 (first
              | (refine ordB_skip rfl rfl ?_; simp only [Act.put, List.setIfInBounds_toArray, List.set_cons_zero, List.set_cons_succ])
              | (refine ordB_take (v := ?_) rfl rfl ?_ ?_
                 rotate_left 1
                 focus (intro W hW; obtain ⟨hcW, hfW⟩ := bcell hW; (go_simp <;> with_reducible rfl))
                 simp only [Act.put, List.setIfInBounds_toArray, List.set_cons_zero, List.set_cons_succ]))
            refine ordB_only (opB_call rfl rfl (fun K hK => ?_))
            go_simp
            go_at_call 36
            refine (HI1.out V0).mono ?_
            rintro e w' ⟨rfl, rfl⟩
            refine hK.out _ _ hV0 (fun hV0_1 => ?_)
            iterate 5 (first
              | (refine ordB_skip rfl rfl ?_; simp only [Act.put, List.setIfInBounds_toArray, List.set_cons_zero, List.set_cons_succ])
              | (refine ordB_take (v := ?_) rfl rfl ?_ ?_
                 rotate_left 1
                 focus (intro W hW; obtain ⟨hcW, hfW⟩ := bcell hW; (go_simp <;> with_reducible rfl))
                 simp only [Act.put, List.setIfInBounds_toArray, List.set_cons_zero, List.set_cons_succ]))
            refine ordB_only (opB_call rfl rfl (fun K hK => ?_))
            go_simp
            go_at_call 36
            refine (HI2.out V0).mono ?_
            rintro e w' ⟨rfl, rfl⟩
            refine hK.out _ _ hV0_1 (fun hV0_1_2 => ?_)
            iterate 13 (first
              | (refine ordB_skip rfl rfl ?_; simp only [Act.put, List.setIfInBounds_toArray, List.set_cons_zero, List.set_cons_succ])
              | (refine ordB_take (v := ?_) rfl rfl ?_ ?_
                 rotate_left 1
                 focus (intro W hW; obtain ⟨hcW, hfW⟩ := bcell hW; (go_simp <;> with_reducible rfl))
                 simp only [Act.put, List.setIfInBounds_toArray, List.set_cons_zero, List.set_cons_succ]))
            refine ordB_only (opB_cskip rfl rfl hV0_1_2 ?_)
            simp only [Act.put, List.setIfInBounds_toArray, List.set_cons_zero, List.set_cons_succ]
            iterate 3 (first
              | (refine ordB_skip rfl rfl ?_; simp only [Act.put, List.setIfInBounds_toArray, List.set_cons_zero, List.set_cons_succ])
              | (refine ordB_take (v := ?_) rfl rfl ?_ ?_
                 rotate_left 1
                 focus (intro W hW; obtain ⟨hcW, hfW⟩ := bcell hW; (go_simp <;> with_reducible rfl))
                 simp only [Act.put, List.setIfInBounds_toArray, List.set_cons_zero, List.set_cons_succ]))
            refine ordB_nil ?_
            have HBE := Lib.hid (HBR.out.trans (hV0_1_2.mono HBR.out.size))
            have HES : Hid (EsTo x.n x.es (0 + 1)) := EsTo.first HL.out HOK.out
            go_wp2_with fail
            go_roundw
            case rel => exact ⟨0 + 1, by omega, HES.out, by go_num, HBE.out⟩
            case measure => simp [intOf]; omega
          ·
            obtain ⟨j, hj⟩ : ∃ j, k = j + 1 := ⟨k - 1, by omega⟩
            have hxW := hx.below keeps_ed (bthen hb1 HBR.out)
            obtain ⟨b', off', e', hA', hbb', hee', f0, f1, f2, f3⟩ := hxW.ed (k := j) (by omega)
            obtain ⟨rfl, rfl⟩ : b = b' ∧ off = off' := by simpa using hA'
            have HL' := Lib.hid hee'
            have hj1 : (0 : Int) < (k : Int) := by omega
            have hjd : decide ((0 : Int) < (k : Int)) = true := decide_eq_true hj1
            have hjn : 0 < k := by omega
            have hje : decide (0 < k) = true := decide_eq_true hjn
            have hj2 : IntKind.i64.wrap ((k : Int) - 1) = (j : Int) := by rw [IntWalk.i64_in _ (by omega)]; omega
            have hj2' : (k : Int) - 1 = (j : Int) := by omega
            have hj3 : (j : Int) < (x.es.length : Int) := by omega
            have hjw : IntKind.i64.wrap (j : Int) = (j : Int) := IntWalk.i64_in _ (by omega)
            have hj4 : (0 : Int) ≤ (j : Int) := by omega
            have HJ := Lib.hid hj
            have HCP : Hid (∀ W, Below W2.heap.size W2 W → Calls Try.prog 55 #[vEd e', vEd e] W fun r w' => r = .returned (.bool (lessE e' e)) ∧ Below W.heap.size W w') := fun W _ => lessE_any e' e W
            obtain ⟨cv, hcv⟩ : ∃ cv, lessE e' e = cv := ⟨_, rfl⟩
            rw [hcv] at HCP
            have HLT : Hid (cv = true ↔ lessE e' e = true) := Lib.hid (by rw [← hcv])
            clear hcv hj hxW hA' hee'
            by_cases hcv : cv = true
            · have HCV := Lib.hid hcv
              have z1 : (!cv) = false := by simp [hcv]
              have z2 := hcv
              refine ordB_below (.quiet 0 (.quiet 1 (.quiet 2 (.quiet 3 (.quiet 4 (.quiet 5 (.quiet 6 (.quiet 7 (.quiet 8 (.quiet 9 (.quiet 10 (.quiet 11 (.quiet 12 (.quiet 13 (.quiet 14 (.quiet 15 (.quiet 16 (.quiet 17 (.quiet 18 (.quiet 19 (.only 20 (.quiet 21 (.quiet 22 (.quiet 23 (.quiet 24 (.quiet 25 (.only 26 (.quiet 27 (.quiet 28 (.quiet 29 (.quiet 30 (.quiet 31 (.quiet 32 (.quiet 33 (.quiet 34 (.quiet 35 (.quiet 36 (.quiet 37 (.quiet 38 (.quiet 39 (.only 40 (.quiet 41 (.quiet 42 (.quiet 43 .done)))))))))))))))))))))))))))))))))))))))))))) (by kernel_rfl) (by kernel_rfl) (by kernel_rfl) (fun _ _ _ _ _ h => h) ?_
              intro V0 hV0
              iterate 20 (first
                | (refine ordB_skip rfl rfl ?_; simp only [Act.put, List.setIfInBounds_toArray, List.set_cons_zero, List.set_cons_succ])
                | (refine ordB_take (v := ?_) rfl rfl ?_ ?_
                   rotate_left 1
                   focus (intro W hW; obtain ⟨hcW, hfW⟩ := bcell hW; (go_simp <;> with_reducible rfl))
                   simp only [Act.put, List.setIfInBounds_toArray, List.set_cons_zero, List.set_cons_succ]))
              refine ordB_only (opB_call rfl rfl (fun K hK => ?_))
              go_simp
              go_at_call 36
              refine (HI1.out V0).mono ?_
              rintro e w' ⟨rfl, rfl⟩
              refine hK.out _ _ hV0 (fun hV0_1 => ?_)
              iterate 5 (first
                | (refine ordB_skip rfl rfl ?_; simp only [Act.put, List.setIfInBounds_toArray, List.set_cons_zero, List.set_cons_succ])
                | (refine ordB_take (v := ?_) rfl rfl ?_ ?_
                   rotate_left 1
                   focus (intro W hW; obtain ⟨hcW, hfW⟩ := bcell hW; (go_simp <;> with_reducible rfl))
                   simp only [Act.put, List.setIfInBounds_toArray, List.set_cons_zero, List.set_cons_succ]))
              refine ordB_only (opB_call rfl rfl (fun K hK => ?_))
              go_simp
              go_at_call 36
              refine (HI2.out V0).mono ?_
              rintro e w' ⟨rfl, rfl⟩
              refine hK.out _ _ hV0_1 (fun hV0_1_2 => ?_)
              iterate 13 (first
                | (refine ordB_skip rfl rfl ?_; simp only [Act.put, List.setIfInBounds_toArray, List.set_cons_zero, List.set_cons_succ])
                | (refine ordB_take (v := ?_) rfl rfl ?_ ?_
                   rotate_left 1
                   focus (intro W hW; obtain ⟨hcW, hfW⟩ := bcell hW; (go_simp <;> with_reducible rfl))
                   simp only [Act.put, List.setIfInBounds_toArray, List.set_cons_zero, List.set_cons_succ]))
              refine ordB_only (opB_call rfl rfl (fun K hK => ?_))
              go_simp
              go_at_call 55
              refine (HCP.out V0 hV0_1_2).mono ?_
              rintro e V0_3 ⟨rfl, hx9⟩
              refine hK.out _ _ (hV0_1_2.trans (hx9.mono hV0_1_2.size)) (fun hV0_1_2_3 => ?_)
              iterate 3 (first
                | (refine ordB_skip rfl rfl ?_; simp only [Act.put, List.setIfInBounds_toArray, List.set_cons_zero, List.set_cons_succ])
                | (refine ordB_take (v := ?_) rfl rfl ?_ ?_
                   rotate_left 1
                   focus (intro W hW; obtain ⟨hcW, hfW⟩ := bcell hW; (go_simp <;> with_reducible rfl))
                   simp only [Act.put, List.setIfInBounds_toArray, List.set_cons_zero, List.set_cons_succ]))
              refine ordB_nil ?_
              have HBE := Lib.hid (HBR.out.trans (hV0_1_2_3.mono HBR.out.size))
              have HES : Hid (EsTo x.n x.es (k + 1)) := by
                have h1 := HL.out
                have h2 := HS.out
                have h3 := HLT.out.1 HCV.out
                obtain rfl := HJ.out
                exact h2.succ HL'.out h1 HOK.out h3
              clear z2
              go_wp2_with fail
              go_roundw
              case rel => exact ⟨k + 1, by omega, HES.out, by go_num, HBE.out⟩
              case measure => simp [intOf]; omega
            · have HCV := Lib.hid hcv
              have z1 : (!cv) = true := by simpa using hcv
              have z2 : cv = false := by simpa using hcv
              refine ordB_below (.quiet 0 (.quiet 1 (.quiet 2 (.quiet 3 (.quiet 4 (.quiet 5 (.quiet 6 (.quiet 7 (.quiet 8 (.quiet 9 (.quiet 10 (.quiet 11 (.quiet 12 (.quiet 13 (.quiet 14 (.quiet 15 (.quiet 16 (.quiet 17 (.quiet 18 (.quiet 19 (.only 20 (.quiet 21 (.quiet 22 (.quiet 23 (.quiet 24 (.quiet 25 (.only 26 (.quiet 27 (.quiet 28 (.quiet 29 (.quiet 30 (.quiet 31 (.quiet 32 (.quiet 33 (.quiet 34 (.quiet 35 (.quiet 36 (.quiet 37 (.quiet 38 (.quiet 39 (.only 40 (.quiet 41 (.quiet 42 (.quiet 43 .done)))))))))))))))))))))))))))))))))))))))))))) (by kernel_rfl) (by kernel_rfl) (by kernel_rfl) (fun _ _ _ _ _ h => h) ?_
              intro V0 hV0
              iterate 20 (first
                | (refine ordB_skip rfl rfl ?_; simp only [Act.put, List.setIfInBounds_toArray, List.set_cons_zero, List.set_cons_succ])
                | (refine ordB_take (v := ?_) rfl rfl ?_ ?_
                   rotate_left 1
                   focus (intro W hW; obtain ⟨hcW, hfW⟩ := bcell hW; (go_simp <;> with_reducible rfl))
                   simp only [Act.put, List.setIfInBounds_toArray, List.set_cons_zero, List.set_cons_succ]))
              refine ordB_only (opB_call rfl rfl (fun K hK => ?_))
              go_simp
              go_at_call 36
              refine (HI1.out V0).mono ?_
              rintro e w' ⟨rfl, rfl⟩
              refine hK.out _ _ hV0 (fun hV0_1 => ?_)
              iterate 5 (first
                | (refine ordB_skip rfl rfl ?_; simp only [Act.put, List.setIfInBounds_toArray, List.set_cons_zero, List.set_cons_succ])
                | (refine ordB_take (v := ?_) rfl rfl ?_ ?_
                   rotate_left 1
                   focus (intro W hW; obtain ⟨hcW, hfW⟩ := bcell hW; (go_simp <;> with_reducible rfl))
                   simp only [Act.put, List.setIfInBounds_toArray, List.set_cons_zero, List.set_cons_succ]))
              refine ordB_only (opB_call rfl rfl (fun K hK => ?_))
              go_simp
              go_at_call 36
              refine (HI2.out V0).mono ?_
              rintro e w' ⟨rfl, rfl⟩
              refine hK.out _ _ hV0_1 (fun hV0_1_2 => ?_)
              iterate 13 (first
                | (refine ordB_skip rfl rfl ?_; simp only [Act.put, List.setIfInBounds_toArray, List.set_cons_zero, List.set_cons_succ])
                | (refine ordB_take (v := ?_) rfl rfl ?_ ?_
                   rotate_left 1
                   focus (intro W hW; obtain ⟨hcW, hfW⟩ := bcell hW; (go_simp <;> with_reducible rfl))
                   simp only [Act.put, List.setIfInBounds_toArray, List.set_cons_zero, List.set_cons_succ]))
              refine ordB_only (opB_call rfl rfl (fun K hK => ?_))
              go_simp
              go_at_call 55
              refine (HCP.out V0 hV0_1_2).mono ?_
              rintro e V0_3 ⟨rfl, hx9⟩
              refine hK.out _ _ (hV0_1_2.trans (hx9.mono hV0_1_2.size)) (fun hV0_1_2_3 => ?_)
              iterate 3 (first
                | (refine ordB_skip rfl rfl ?_; simp only [Act.put, List.setIfInBounds_toArray, List.set_cons_zero, List.set_cons_succ])
                | (refine ordB_take (v := ?_) rfl rfl ?_ ?_
                   rotate_left 1
                   focus (intro W hW; obtain ⟨hcW, hfW⟩ := bcell hW; (go_simp <;> with_reducible rfl))
                   simp only [Act.put, List.setIfInBounds_toArray, List.set_cons_zero, List.set_cons_succ]))
              refine ordB_nil ?_
              have HBE := Lib.hid (HBR.out.trans (hV0_1_2_3.mono HBR.out.size))
              have HR : Hid (decide (LaOK x) = false) := by
                show _ = _
                refine decide_eq_false (LaOK.not_inc HL'.out (HJ.out ▸ HL.out) ?_)
                cases h : lessE e' e
                · rfl
                · exact absurd (HLT.out.2 h) HCV.out
              clear z2
              go_wp2_with fail
              go_ret
              exact ⟨by rw [HR.out]; rfl, bthen hb1 HBE.out⟩
    · obtain rfl : k = x.es.length := by omega
      have HR : Hid (decide (LaOK x) = true) := by show _ = _; exact decide_eq_true (HS.out.all Hn.out hl2)
      go_wp2_with fail
      go_ret
      exact ⟨by rw [HR.out]; rfl, hbw⟩
end Go.Proofs.Ytcimnkijpifkjaa
