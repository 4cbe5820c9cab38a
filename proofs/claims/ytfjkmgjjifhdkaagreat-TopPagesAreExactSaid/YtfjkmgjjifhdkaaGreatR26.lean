/-
  The walks of layer 20: edges of lattices in memory; how edges are compared; which lattices are valid (layer 14), the program's and the reference's.
-/
import Derived.Test.YtfjkmgjjifhdkaaGreatR25
import Derived.Test.YtfjkmgjjifhdkaaGreatR11
import Derived.Test.YtfjkmgjjifhdkaaGreatR05
import Derived.Test.YtfjkmgjjifhdkaaGreatR03
namespace Go.Proofs.YtfjkmgjjifhdkaaGreat
open Go Go.RowKit

def encEd (e : Ed) : List Value := [.int .i64 e.fr, .int .i64 e.to, .int .i64 e.wd, .int .i64 e.co]
abbrev vEd (e : Ed) : Value := .agg #[.int .i64 e.fr, .int .i64 e.to, .int .i64 e.wd, .int .i64 e.co]
def REd (_ : World) (e : Ed) (vs : List Value) : Prop := vs = [.int .i64 e.fr, .int .i64 e.to, .int .i64 e.wd, .int .i64 e.co]
theorem keeps_ed : Keeps REd := fun _ _ _ _ _ h => h
theorem SlR.ed {w : World} {A : Option Addr} {k : Nat} {xs : List Ed} (h : SlR 4 REd w A xs) (hk : k < xs.length) : ∃ b off x, A = some ⟨b, off, none⟩ ∧ b < w.heap.size ∧ xs[k]? = some x ∧
    w.cell? ⟨b, off + k * 4, none⟩ = some (.int .i64 x.fr) ∧ w.cell? ⟨b, off + k * 4 + 1, none⟩ = some (.int .i64 x.to) ∧ w.cell? ⟨b, off + k * 4 + 2, none⟩ = some (.int .i64 x.wd) ∧
    w.cell? ⟨b, off + k * 4 + 3, none⟩ = some (.int .i64 x.co) := by
  obtain ⟨b, off, x, vs, hA, hlt, hx, hr, _, hv⟩ := h.at_ hk
  exact ⟨b, off, x, hA, hlt, hx, hv 0 _ (by rw [hr]; rfl), hv 1 _ (by rw [hr]; rfl), hv 2 _ (by rw [hr]; rfl), hv 3 _ (by rw [hr]; rfl)⟩
def cmpI (x y : Int) : Int := if x < y then -1 else if y < x then 1 else 0
/-- What compare of package lattice answers. -/
def cmpE (a b : Ed) : Int := orL [cmpI a.fr b.fr, cmpI a.to b.to, cmpI a.wd b.wd]
theorem cmpE_lt {a b : Ed} : cmpE a b < 0 ↔ lessE a b = true := by
  unfold cmpE cmpI orL lessE
  by_cases h1 : a.fr < b.fr
  · simp [h1]
  · by_cases h2 : b.fr < a.fr
    · simp [h1, h2]; omega
    · have e1 : a.fr = b.fr := by omega
      by_cases h3 : a.to < b.to
      · simp [e1, h3, orL]
      · by_cases h4 : b.to < a.to
        · simp [e1, h3, h4, orL]; omega
        · have e2 : a.to = b.to := by omega
          by_cases h5 : a.wd < b.wd
          · simp [e1, e2, h5, orL]
          · by_cases h6 : b.wd < a.wd
            · simp [e1, e2, h5, h6, orL]
            · simp [e1, e2, h5, h6, orL]
set_option maxRecDepth 100000 in
set_option maxHeartbeats 4000000 in
theorem compareE_any (a b : Ed) (w : World) : Calls Tryz.prog 98 #[vEd a, vEd b] w fun e w' => e = .returned (.int .i64 (cmpE a b)) ∧ Below w.heap.size w w' := by
  obtain ⟨w2, hw2⟩ : ∃ w2, (w.alloc (.cells #[.int .i64 a.fr, .int .i64 a.to, .int .i64 a.wd, .int .i64 a.co] 44)).alloc (.cells #[.int .i64 b.fr, .int .i64 b.to, .int .i64 b.wd, .int .i64 b.co] 44) = w2 := ⟨_, rfl⟩
  have hb2 : Below w.heap.size w w2 := by rw [← hw2]; exact nw _ (nw _ (Below.refl _ _))
  have hA : Blk w2 w.heap.size 44 #[.int .i64 a.fr, .int .i64 a.to, .int .i64 a.wd, .int .i64 a.co] := by rw [← hw2]; exact (Blk.new _ _ _).alloc _
  have hB : Blk w2 (w.heap.size + 1) 44 #[.int .i64 b.fr, .int .i64 b.to, .int .i64 b.wd, .int .i64 b.co] := by rw [← hw2]; exact Blk.new_ (by simp)
  have HW2 := Lib.hid hw2
  have HBW := Lib.hid hb2
  have a0 := hA.cell 0
  have a1 := hA.cell 1
  have a2 := hA.cell 2
  have al := hA.lt
  have b0 := hB.cell 0
  have b1 := hB.cell 1
  have b2 := hB.cell 2
  have bl := hB.lt
  simp at a0 a1 a2 b0 b1 b2
  have HOR : Hid (∀ (A : Option Addr) (c : Nat) (w : World) {x y z : Int}, SlR 1 RInt w A [x, y, z] → Calls Tryz.prog 70 #[.slice A 3 c] w fun e w' => e = .returned (.int .i64 (orL [x, y, z])) ∧ w = w') := fun A c w x y z h => or_any A [x, y, z] c w h (by unfold maxLen; simp)
  have h1 := fun W => cmpInt_any a.fr b.fr W
  have h2 := fun W => cmpInt_any a.to b.to W
  have h3 := fun W => cmpInt_any a.wd b.wd W
  obtain ⟨k1, e1⟩ : ∃ k, (if a.fr < b.fr then (-1 : Int) else if b.fr < a.fr then 1 else 0) = k := ⟨_, rfl⟩
  obtain ⟨k2, e2⟩ : ∃ k, (if a.to < b.to then (-1 : Int) else if b.to < a.to then 1 else 0) = k := ⟨_, rfl⟩
  obtain ⟨k3, e3⟩ : ∃ k, (if a.wd < b.wd then (-1 : Int) else if b.wd < a.wd then 1 else 0) = k := ⟨_, rfl⟩
  have HR : Hid (cmpE a b = orL [k1, k2, k3]) := by show _ = _; unfold cmpE cmpI; rw [e1, e2, e3]
  rw [e1] at h1
  rw [e2] at h2
  rw [e3] at h3
  have HC1 := Lib.hid h1
  have HC2 := Lib.hid h2
  have HC3 := Lib.hid h3
  clear hw2 hb2 h1 h2 h3 e1 e2 e3
  go_enter Tryz.func98, Tryz.ntmps98
  go_upto_region 1 with fail
  rw [HW2.out]
  refine ordB_below (.quiet 0 (.quiet 1 (.quiet 2 (.quiet 3 (.quiet 5 (.quiet 6 (.quiet 7 (.quiet 8 (.quiet 10 (.quiet 11 (.quiet 12 (.quiet 13 (.only 4 (.only 9 (.only 14 (.only 15 (.only 16 (.quiet 17 .done)))))))))))))))))) (by kernel_rfl) (by kernel_rfl) (by kernel_rfl) (fun _ _ _ _ _ h => h) ?_
  intro V0 hV0
  iterate 12 (first
    | (refine ordB_skip rfl rfl ?_; simp only [Act.put, List.setIfInBounds_toArray, List.set_cons_zero, List.set_cons_succ])
    | (refine ordB_take (v := ?_) rfl rfl ?_ ?_
       rotate_left 1
       focus (intro W hW; obtain ⟨hcW, hfW⟩ := bcell hW; (go_simp <;> with_reducible rfl))
       simp only [Act.put, List.setIfInBounds_toArray, List.set_cons_zero, List.set_cons_succ]))
  refine ordB_only (opB_call rfl rfl (fun K hK => ?_))
  go_simp
  go_at_call 71
  refine (HC1.out V0).mono ?_
  rintro e w' ⟨rfl, rfl⟩
  refine hK.out _ _ hV0 (fun hV0_1 => ?_)
  refine ordB_only (opB_call rfl rfl (fun K hK => ?_))
  go_simp
  go_at_call 71
  refine (HC2.out V0).mono ?_
  rintro e w' ⟨rfl, rfl⟩
  refine hK.out _ _ hV0_1 (fun hV0_1_2 => ?_)
  refine ordB_only (opB_call rfl rfl (fun K hK => ?_))
  go_simp
  go_at_call 71
  refine (HC3.out V0).mono ?_
  rintro e w' ⟨rfl, rfl⟩
  refine hK.out _ _ hV0_1_2 (fun hV0_1_2_3 => ?_)
  refine ordB_only (opB_call rfl rfl (fun K hK => ?_))
  go_simp
  refine hK.out _ _ (hV0_1_2_3.alloc hV0_1_2_3.size _) (fun hV0_1_2_3_4 => ?_)
  have b15 := Blk.new V0 3 #[.int .i64 k1, .int .i64 k2, .int .i64 k3]
  have b15b := nw (.cells #[.int .i64 k1, .int .i64 k2, .int .i64 k3] 3) (Below.refl V0.heap.size V0)
  have b15g := hV0_1_2_3.size
  obtain ⟨V0_4, qqV0_4⟩ : ∃ W', V0.alloc (.cells #[.int .i64 k1, .int .i64 k2, .int .i64 k3] 3) = W' := ⟨_, rfl⟩
  rw [qqV0_4] at hV0_1_2_3_4 b15 b15b ⊢
  clear qqV0_4 b15b
  refine ordB_only (opB_call rfl rfl (fun K hK => ?_))
  go_simp
  go_at_call 70
  refine (HOR.out _ _ _ (slr_blk (enc := fun x => [Value.int .i64 x]) b15 (fun _ => rfl) (fun _ => rfl))).mono ?_
  rintro e w' ⟨rfl, rfl⟩
  refine hK.out _ _ hV0_1_2_3_4 (fun hV0_1_2_3_4_5 => ?_)
  iterate 1 (first
    | (refine ordB_skip rfl rfl ?_; simp only [Act.put, List.setIfInBounds_toArray, List.set_cons_zero, List.set_cons_succ])
    | (refine ordB_take (v := ?_) rfl rfl ?_ ?_
       rotate_left 1
       focus (intro W hW; obtain ⟨hcW, hfW⟩ := bcell hW; (go_simp <;> with_reducible rfl))
       simp only [Act.put, List.setIfInBounds_toArray, List.set_cons_zero, List.set_cons_succ]))
  refine ordB_nil ?_
  go_wp2_with fail
  go_ret
  exact ⟨by rw [HR.out]; rfl, bthen HBW.out hV0_1_2_3_4_5⟩
set_option maxRecDepth 100000 in
set_option maxHeartbeats 8000000 in
theorem lvalid_any (A : Option Addr) (c : Nat) (x : La) (w : World) (hx : SlR 4 REd w A x.es) (hl : x.es.length ≤ maxLen) :
    Calls Tryz.prog 80 #[.agg #[.int .i64 x.n, .slice A x.es.length c]] w fun e w' => e = .returned (.bool (decide (LaOK x))) ∧ Below w.heap.size w w' := by
  unfold maxLen at hl
  obtain ⟨w1, hw1⟩ : ∃ w1, w.alloc (.cells #[.int .i64 x.n, .slice A x.es.length c] 27) = w1 := ⟨_, rfl⟩
  have hb1 : Below w.heap.size w w1 := by rw [← hw1]; exact nw _ (Below.refl _ _)
  have hB1 : Blk w1 w.heap.size 27 #[.int .i64 x.n, .slice A x.es.length c] := by rw [← hw1]; exact Blk.new _ _ _
  have HW1 := Lib.hid hw1
  have c0 := hB1.cell 0
  have c1 := hB1.cell 1
  have lb := hB1.lt
  simp at c0 c1
  clear hw1
  by_cases hh : ¬ ((0 ≤ x.n ∧ x.n ≤ 40) ∧ x.es.length ≤ 20000)
  · have HR : Hid (decide (LaOK x) = false) := by show _ = _; exact decide_eq_false fun h => hh ⟨h.1, h.2.1⟩
    go_enter Tryz.func80, Tryz.ntmps80
    go_upto_region 1 with fail
    rw [HW1.out]
    go_wp2_with fail
    all_goals first
      | (go_ret; exact ⟨by rw [HR.out]; rfl, hb1⟩)
      | (exfalso; omega)
  obtain ⟨⟨n0, n40⟩, hl2⟩ := Decidable.not_not.1 hh
  clear hh
  have hl2' : (x.es.length : Int) ≤ 20000 := by omega
  have HE0 := EsTo.zero x.n x.es
  go_enter Tryz.func80, Tryz.ntmps80
  go_upto_region 1 with fail
  rw [HW1.out]
  go_wp2_with fail
  go_loopw [22] (fun i wr => ∃ k : Nat, k ≤ x.es.length ∧ Hid (EsTo x.n x.es k) ∧ i = .int .i64 k ∧ Below w1.heap.size w1 wr) (fun i _ => x.es.length - (intOf i).toNat)
  case atStart => exact ⟨0, by omega, HE0, rfl, Below.refl _ _⟩
  case round =>
    obtain ⟨k, hk, HS, rfl, hbr⟩ := hrel
    have hB := hB1.below hbr lb
    have r0 := hB.cell 0
    have r1 := hB.cell 1
    have rl := hB.lt
    simp at r0 r1
    have HBr := Lib.hid hbr
    have hbw := bthen hb1 hbr
    by_cases hlt : k < x.es.length
    · obtain ⟨b, off, e, rfl, hbb, hee, d0, d1, d2, d3⟩ := (hx.below keeps_ed hbw).ed hlt
      have HL := Lib.hid hee
      by_cases hok : ¬ EdOK x.n e
      · have HR : Hid (decide (LaOK x) = false) := by show _ = _; exact decide_eq_false (LaOK.not_ok hee hok)
        unfold EdOK at hok
        clear hee hB hbr
        go_upto_region 10 with fail
        all_goals first
          | (go_ret; exact ⟨by rw [HR.out]; rfl, bthen hb1 (nw _ HBr.out)⟩)
          | (exfalso; omega)
      obtain ⟨⟨q1, q2, q3⟩, ⟨q4, q5⟩, q6, q7⟩ := Decidable.not_not.1 hok
      have HOK : Hid (EdOK x.n e) := ⟨⟨q1, q2, q3⟩, ⟨q4, q5⟩, q6, q7⟩
      clear hee hB hbr
      go_upto_region 10 with fail
      obtain ⟨W2, hW2⟩ : ∃ W, wr.alloc (.cells #[.int .i64 e.fr, .int .i64 e.to, .int .i64 e.wd, .int .i64 e.co] 44) = W := ⟨_, rfl⟩
      have hb3 : Below wr.heap.size wr W2 := by rw [← hW2]; exact nw _ (Below.refl _ _)
      have hEb : Blk W2 wr.heap.size 44 #[.int .i64 e.fr, .int .i64 e.to, .int .i64 e.wd, .int .i64 e.co] := by rw [← hW2]; exact Blk.new _ _ _
      rw [hW2]
      have HBR := Lib.hid (HBr.out.trans (hb3.mono HBr.out.size))
      have e0 := hEb.cell 0
      have e1 := hEb.cell 1
      have e2 := hEb.cell 2
      have e3 := hEb.cell 3
      have el := hEb.lt
      have hB := hB1.below HBR.out lb
      have r0 := hB.cell 0
      have r1 := hB.cell 1
      have rl := hB.lt
      simp at e0 e1 e2 e3 r0 r1
      clear hW2 hB d0 d1 d2 d3 hbb
      by_cases hk0 : k = 0
      · subst hk0
        refine ordB_below (.quiet 0 (.quiet 1 (.quiet 2 (.quiet 3 (.quiet 4 (.quiet 5 (.quiet 6 (.quiet 7 (.quiet 8 (.quiet 9 (.only 10 (.quiet 11 (.quiet 12 .done))))))))))))) (by kernel_rfl) (by kernel_rfl) (by kernel_rfl) (fun _ _ _ _ _ h => h) ?_
        intro V0 hV0
        iterate 10 (first
          | (refine ordB_skip rfl rfl ?_; simp only [Act.put, List.setIfInBounds_toArray, List.set_cons_zero, List.set_cons_succ])
          | (refine ordB_take (v := ?_) rfl rfl ?_ ?_
             rotate_left 1
             focus (intro W hW; obtain ⟨hcW, hfW⟩ := bcell hW; (go_simp <;> with_reducible rfl))
             simp only [Act.put, List.setIfInBounds_toArray, List.set_cons_zero, List.set_cons_succ]))
        refine ordB_only (opB_cskip rfl rfl hV0 ?_)
        simp only [Act.put, List.setIfInBounds_toArray, List.set_cons_zero, List.set_cons_succ]
        iterate 2 (first
          | (refine ordB_skip rfl rfl ?_; simp only [Act.put, List.setIfInBounds_toArray, List.set_cons_zero, List.set_cons_succ])
          | (refine ordB_take (v := ?_) rfl rfl ?_ ?_
             rotate_left 1
             focus (intro W hW; obtain ⟨hcW, hfW⟩ := bcell hW; (go_simp <;> with_reducible rfl))
             simp only [Act.put, List.setIfInBounds_toArray, List.set_cons_zero, List.set_cons_succ]))
        refine ordB_nil ?_
        have HBE := Lib.hid (HBR.out.trans (hV0.mono HBR.out.size))
        go_wp2_with fail
        go_roundw
        case rel => exact ⟨0 + 1, by omega, EsTo.first HL.out HOK.out, by go_num, HBE.out⟩
        case measure => simp [intOf]; omega
      ·
        obtain ⟨j, hj⟩ : ∃ j, k = j + 1 := ⟨k - 1, by omega⟩
        have hxW := hx.below keeps_ed (bthen hb1 HBR.out)
        obtain ⟨b', off', e', hA', hbb', hee', f0, f1, f2, f3⟩ := hxW.ed (k := j) (by omega)
        obtain ⟨rfl, rfl⟩ : b = b' ∧ off = off' := by simpa using hA'
        have HL' := Lib.hid hee'
        have hj1 : (0 : Int) < (k : Int) := by omega
        have hjd : decide ((0 : Int) < (k : Int)) = true := decide_eq_true hj1
        have hjn : 0 < k := by omega
        have hje : decide (0 < k) = true := decide_eq_true hjn
        have hj2 : IntKind.i64.wrap ((k : Int) - 1) = (j : Int) := by rw [IntWalk.i64_in _ (by omega)]; omega
        have hj2' : (k : Int) - 1 = (j : Int) := by omega
        have hj3 : (j : Int) < (x.es.length : Int) := by omega
        have hjw : IntKind.i64.wrap (j : Int) = (j : Int) := IntWalk.i64_in _ (by omega)
        have hj4 : (0 : Int) ≤ (j : Int) := by omega
        have HJ := Lib.hid hj
        have HCP : Hid (∀ W, Below W2.heap.size W2 W → Calls Tryz.prog 98 #[vEd e', vEd e] W fun r w' => r = .returned (.int .i64 (cmpE e' e)) ∧ Below W.heap.size W w') := fun W _ => compareE_any e' e W
        obtain ⟨cv, hcv⟩ : ∃ cv, cmpE e' e = cv := ⟨_, rfl⟩
        rw [hcv] at HCP
        have HLT : Hid (cv < 0 ↔ lessE e' e = true) := Lib.hid (by rw [← hcv]; exact cmpE_lt)
        clear hcv hj hxW hA' hee'
        by_cases hcv : cv < 0
        · have HCV := Lib.hid hcv
          have z1 : decide (0 ≤ cv) = false := decide_eq_false (by omega)
          have z2 : ¬ 0 ≤ cv := by omega
          refine ordB_below (.quiet 0 (.quiet 1 (.quiet 2 (.quiet 3 (.quiet 4 (.quiet 5 (.quiet 6 (.quiet 7 (.quiet 8 (.quiet 9 (.only 10 (.quiet 11 (.quiet 12 .done))))))))))))) (by kernel_rfl) (by kernel_rfl) (by kernel_rfl) (fun _ _ _ _ _ h => h) ?_
          intro V0 hV0
          iterate 10 (first
            | (refine ordB_skip rfl rfl ?_; simp only [Act.put, List.setIfInBounds_toArray, List.set_cons_zero, List.set_cons_succ])
            | (refine ordB_take (v := ?_) rfl rfl ?_ ?_
               rotate_left 1
               focus (intro W hW; obtain ⟨hcW, hfW⟩ := bcell hW; (go_simp <;> with_reducible rfl))
               simp only [Act.put, List.setIfInBounds_toArray, List.set_cons_zero, List.set_cons_succ]))
          refine ordB_only (opB_call rfl rfl (fun K hK => ?_))
          go_simp
          go_at_call 98
          refine (HCP.out V0 hV0).mono ?_
          rintro e V0_1 ⟨rfl, hx9⟩
          refine hK.out _ _ (hV0.trans (hx9.mono hV0.size)) (fun hV0_1 => ?_)
          iterate 2 (first
            | (refine ordB_skip rfl rfl ?_; simp only [Act.put, List.setIfInBounds_toArray, List.set_cons_zero, List.set_cons_succ])
            | (refine ordB_take (v := ?_) rfl rfl ?_ ?_
               rotate_left 1
               focus (intro W hW; obtain ⟨hcW, hfW⟩ := bcell hW; (go_simp <;> with_reducible rfl))
               simp only [Act.put, List.setIfInBounds_toArray, List.set_cons_zero, List.set_cons_succ]))
          refine ordB_nil ?_
          have HBE := Lib.hid (HBR.out.trans (hV0_1.mono HBR.out.size))
          have HES : Hid (EsTo x.n x.es (k + 1)) := by
            have h1 := HL.out
            have h2 := HS.out
            have h3 := HLT.out.1 HCV.out
            obtain rfl := HJ.out
            exact h2.succ HL'.out h1 HOK.out h3
          clear z2
          go_wp2_with fail
          go_roundw
          case rel => exact ⟨k + 1, by omega, HES.out, by go_num, HBE.out⟩
          case measure => simp [intOf]; omega
        · have HCV := Lib.hid hcv
          have z1 : decide (0 ≤ cv) = true := decide_eq_true (by omega)
          have z2 : 0 ≤ cv := by omega
          refine ordB_below (.quiet 0 (.quiet 1 (.quiet 2 (.quiet 3 (.quiet 4 (.quiet 5 (.quiet 6 (.quiet 7 (.quiet 8 (.quiet 9 (.only 10 (.quiet 11 (.quiet 12 .done))))))))))))) (by kernel_rfl) (by kernel_rfl) (by kernel_rfl) (fun _ _ _ _ _ h => h) ?_
          intro V0 hV0
          iterate 10 (first
            | (refine ordB_skip rfl rfl ?_; simp only [Act.put, List.setIfInBounds_toArray, List.set_cons_zero, List.set_cons_succ])
            | (refine ordB_take (v := ?_) rfl rfl ?_ ?_
               rotate_left 1
               focus (intro W hW; obtain ⟨hcW, hfW⟩ := bcell hW; (go_simp <;> with_reducible rfl))
               simp only [Act.put, List.setIfInBounds_toArray, List.set_cons_zero, List.set_cons_succ]))
          refine ordB_only (opB_call rfl rfl (fun K hK => ?_))
          go_simp
          go_at_call 98
          refine (HCP.out V0 hV0).mono ?_
          rintro e V0_1 ⟨rfl, hx9⟩
          refine hK.out _ _ (hV0.trans (hx9.mono hV0.size)) (fun hV0_1 => ?_)
          iterate 2 (first
            | (refine ordB_skip rfl rfl ?_; simp only [Act.put, List.setIfInBounds_toArray, List.set_cons_zero, List.set_cons_succ])
            | (refine ordB_take (v := ?_) rfl rfl ?_ ?_
               rotate_left 1
               focus (intro W hW; obtain ⟨hcW, hfW⟩ := bcell hW; (go_simp <;> with_reducible rfl))
               simp only [Act.put, List.setIfInBounds_toArray, List.set_cons_zero, List.set_cons_succ]))
          refine ordB_nil ?_
          have HBE := Lib.hid (HBR.out.trans (hV0_1.mono HBR.out.size))
          have HR : Hid (decide (LaOK x) = false) := by
            show _ = _
            refine decide_eq_false (LaOK.not_inc HL'.out (HJ.out ▸ HL.out) ?_)
            cases h : lessE e' e
            · rfl
            · exact absurd (HLT.out.2 h) HCV.out
          clear z2
          go_wp2_with fail
          go_ret
          exact ⟨by rw [HR.out]; rfl, bthen hb1 HBE.out⟩
    · obtain rfl : k = x.es.length := by omega
      have HR : Hid (decide (LaOK x) = true) := by show _ = _; exact decide_eq_true (HS.out.all ⟨n0, n40⟩ hl2)
      go_wp2_with fail
      go_ret
      exact ⟨by rw [HR.out]; rfl, hbw⟩
end Go.Proofs.YtfjkmgjjifhdkaaGreat
