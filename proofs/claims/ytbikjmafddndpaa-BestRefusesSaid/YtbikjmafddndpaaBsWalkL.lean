/-
  The walks of layer 15: the fixed examples.
-/
import Derived.Test.YtbikjmafddndpaaBsWalkJ
import Derived.Test.YtbikjmafddndpaaBsWalkK
namespace Go.Proofs.Ytbikjmafddndpaa
open Go Go.RowKit

def gS : Gr := ⟨4, [⟨0, 1, 0, 1⟩, ⟨0, 2, 0, 1⟩, ⟨1, 3, 0, 2⟩, ⟨2, 3, 0, 2⟩, ⟨1, 2, 0, 0⟩]⟩
def wantL : List Can := [⟨[0, 2], 3⟩, ⟨[0, 4, 3], 3⟩, ⟨[1, 3], 3⟩]
theorem gS_take : (allR gS).take 3 = wantL := by kernel_rfl
theorem gS_ok : GrOK gS := grB_iff.1 (by kernel_rfl)
theorem g1_take : (allR ⟨1, []⟩).take 5 = [⟨[], 0⟩] := by kernel_rfl
theorem g1_ok : GrOK ⟨1, []⟩ := grB_iff.1 (by kernel_rfl)
theorem g2_take : (allR ⟨2, []⟩).take 5 = [] := by kernel_rfl
theorem g2_ok : GrOK ⟨2, []⟩ := grB_iff.1 (by kernel_rfl)
/-- The list of a small graph is the reference's. -/
theorem isList_allR {g : Gr} (hg : GrOK g) (h14 : g.ls.length ≤ 14) {k : Nat} {L : List Can} (h : IsList g k L) : L = (allR g).take k := isList_unique h (isList_take (allR_is hg h14) k)
set_option maxRecDepth 100000 in
set_option maxHeartbeats 16000000 in
theorem sanity15_any (w : World) : Calls Try.prog 14 #[] w fun e w' => e = .returned (.bool true) ∧ Below w.heap.size w w' := by
  obtain ⟨w1, hw1⟩ : ∃ W, (w.alloc (.cells (gS.ls.flatMap encLk).toArray 54)).alloc (.cells #[.int .i64 4, .slice (some ⟨w.heap.size, 0, none⟩) 5 5] 30) = W := ⟨_, rfl⟩
  have hb1 : Below w.heap.size w w1 := by rw [← hw1]; exact nw _ (nw _ (Below.refl _ _))
  have hL1 : Blk w1 w.heap.size 54 (gS.ls.flatMap encLk).toArray := by rw [← hw1]; exact (Blk.new _ _ _).alloc _
  have hG1 : Blk w1 (w.heap.size + 1) 30 #[.int .i64 4, .slice (some ⟨w.heap.size, 0, none⟩) 5 5] := by rw [← hw1]; exact Blk.new_ (by simp)
  have hw1' : (w.alloc (.cells #[.int .i64 0, .int .i64 1, .int .i64 0, .int .i64 1, .int .i64 0, .int .i64 2, .int .i64 0, .int .i64 1, .int .i64 1, .int .i64 3, .int .i64 0, .int .i64 2, .int .i64 2, .int .i64 3, .int .i64 0, .int .i64 2, .int .i64 1, .int .i64 2, .int .i64 0, .int .i64 0] 54)).alloc (.cells #[.int .i64 4, .slice (some ⟨w.heap.size, 0, none⟩) 5 5] 30) = w1 := hw1
  have HW1 := Lib.hid hw1'
  have hls : SlR 4 RLk w1 (some ⟨w.heap.size, 0, none⟩) gS.ls := slr_blk (enc := encLk) hL1 (fun _ => rfl) (fun _ => rfl)
  clear hw1 hw1' hL1
  go_enter Try.func14, Try.ntmps14
  go_upto_region 2 with fail
  rw [HW1.out]
  obtain ⟨bl, hbl⟩ : ∃ b, w.heap.size = b := ⟨_, rfl⟩
  rw [hbl] at hG1 hls ⊢
  have HBL := Lib.hid hbl
  have HLI : Hid (∀ (k : Int) W, Below w1.heap.size w1 W → Calls Try.prog 16 #[(.agg #[.int .i64 4, .slice (some ⟨bl, 0, none⟩) 5 5]), .int .i64 k] W (IsBest gS k W)) := fun k W hW => list_any _ 5 gS k W (hls.below keeps_lk hW) (by unfold maxLen; simp [gS])
  have HE3 : Hid (bestErr gS 3 = 0) := by show _ = _; kernel_rfl
  have HE51 : Hid (bestErr gS 51 = 1) := by show _ = _; kernel_rfl
  clear hbl
  have g0 := hG1.cell 0
  have g1 := hG1.cell 1
  have gl := hG1.lt
  simp at g0 g1
  go_upto_region 3 with (go_at_call 16; go_loud (refine (HLI.out 3 _ (Below.refl _ _)).mono ?_; rintro e w2 ⟨ms2, A2, c2, rfl, hs2, hm2, hc2, hcm2, hl2, _, hb2⟩))
  have hL2 : ms2.map (·.x) = wantL := (isList_allR gS_ok (by simp [gS]) (hl2 HE3.out)).trans gS_take
  have hn2 : ms2.length = 3 := by have := congrArg List.length hL2; simpa [wantL] using this
  rw [HE3.out, hn2]
  have hC2 := mc_can hs2 hm2
  rw [hL2] at hC2
  have HC2 := Lib.hid hC2
  clear hs2 hm2 hl2 hc2 hcm2 hL2 hn2 hC2
  go_upto_region 4 with (go_at_call 16; go_loud (refine (list_any none 0 ⟨1, []⟩ 5 _ SlR.nil (by unfold maxLen; simp)).mono ?_; rintro e w3 ⟨ms3, A3, c3, rfl, hs3, hm3, hc3, hcm3, hl3, _, hb3⟩))
  have HE1 : Hid (bestErr ⟨1, []⟩ 5 = 0) := by show _ = _; kernel_rfl
  have hL3 : ms3.map (·.x) = [⟨[], 0⟩] := (isList_allR g1_ok (by simp) (hl3 HE1.out)).trans g1_take
  have hn3 : ms3.length = 1 := by have := congrArg List.length hL3; simpa using this
  rw [HE1.out, hn3]
  have hC3 := mc_can hs3 hm3
  rw [hL3] at hC3
  have HC3 := Lib.hid hC3
  clear hs3 hm3 hl3 hc3 hcm3 hL3 hn3 hC3
  go_upto_region 5 with (go_at_call 16; go_loud (refine (list_any none 0 ⟨2, []⟩ 5 _ SlR.nil (by unfold maxLen; simp)).mono ?_; rintro e w4 ⟨ms4, A4, c4, rfl, hs4, hm4, hc4, hcm4, hl4, _, hb4⟩))
  have HE2 : Hid (bestErr ⟨2, []⟩ 5 = 0) := by show _ = _; kernel_rfl
  have hL4 : ms4.map (·.x) = [] := (isList_allR g2_ok (by simp) (hl4 HE2.out)).trans g2_take
  have hn4 : ms4.length = 0 := by have := congrArg List.length hL4; simpa using this
  rw [HE2.out, hn4]
  clear hs4 hm4 hl4 hc4 hcm4 hL4 hn4
  go_upto_region 6 with (go_at_call 16; go_loud (refine (list_any none 0 ⟨0, []⟩ 5 _ SlR.nil (by unfold maxLen; simp)).mono ?_; rintro e w5 ⟨ms5, A5, c5, rfl, _, _, _, _, _, _, hb5⟩))
  have HE0 : Hid (bestErr ⟨0, []⟩ 5 = 150) := by show _ = _; kernel_rfl
  rw [HE0.out]
  have hb15 := bthen (bthen (bthen hb2 hb3) hb4) hb5
  have hG5 := hG1.below hb15 gl
  have g0 := hG5.cell 0
  have g1 := hG5.cell 1
  have gl := hG5.lt
  simp at g0 g1
  go_upto_region 7 with (go_at_call 16; go_loud (refine (HLI.out 51 _ hb15).mono ?_; rintro e w6 ⟨ms6, A6, c6, rfl, _, _, _, _, _, _, hb6⟩))
  rw [HE51.out]
  have hb16 := bthen hb15 hb6
  have hG6 := hG5.below hb6 gl
  have g0 := hG6.cell 0
  have g1 := hG6.cell 1
  have gl := hG6.lt
  simp at g0 g1
  have HCO : Hid (∀ W B ls d, Below w1.heap.size w1 W → SlR 1 RInt W B ls → ls.length ≤ maxLen → Calls Try.prog 18 #[(.agg #[.int .i64 4, .slice (some ⟨bl, 0, none⟩) 5 5]), .slice B ls.length d] W fun e w' => e = .returned (.tuple #[.int .i64 (costM gS ls).1, .bool (costM gS ls).2]) ∧ Below W.heap.size W w') := fun W B ls d hW hs hm => cost_any _ 5 gS B ls d W (hls.below keeps_lk hW) (by unfold maxLen; simp [gS]) gS_ok hs hm
  have HK1 : Hid (costM gS [0, 4, 3] = (3, true)) := by show _ = _; kernel_rfl
  have HK2 : Hid (costM gS [0, 3] = (0, false)) := by show _ = _; kernel_rfl
  go_upto_region 8 with (go_at_call 18; go_loud (refine (HCO.out _ _ [0, 4, 3] 3 (nw (.cells #[.int .i64 0, .int .i64 4, .int .i64 3] 3) hb16) (Row.new w6 [0, 4, 3]).slr (by unfold maxLen; simp)).mono ?_; rintro e w7 ⟨rfl, hb7⟩))
  rw [HK1.out]
  have hb17 : Below w1.heap.size w1 w7 := bthen (nw (.cells #[.int .i64 0, .int .i64 4, .int .i64 3] 3) hb16) hb7
  have hG7 := hG1.below hb17 hG1.lt
  have g0 := hG7.cell 0
  have g1 := hG7.cell 1
  have gl := hG7.lt
  simp at g0 g1
  go_upto_region 9 with (go_at_call 18; go_loud (refine (HCO.out _ _ [0, 3] 2 (nw (.cells #[.int .i64 0, .int .i64 3] 3) hb17) (Row.new w7 [0, 3]).slr (by unfold maxLen; simp)).mono ?_; rintro e w8 ⟨rfl, hb8⟩))
  rw [HK2.out]
  have hb18 : Below w1.heap.size w1 w8 := bthen (nw (.cells #[.int .i64 0, .int .i64 3] 3) hb17) hb8
  go_upto_region 10 with fail
  obtain ⟨w9, hw9⟩ : ∃ W, (((w8.alloc (.cells #[.int .i64 0, .int .i64 2] 3)).alloc (.cells #[.int .i64 0, .int .i64 4, .int .i64 3] 3)).alloc (.cells #[.int .i64 1, .int .i64 3] 3)).alloc (.cells #[.slice (some ⟨w8.heap.size, 0, none⟩) 2 2, .int .i64 3, .slice (some ⟨w8.heap.size + 1, 0, none⟩) 3 3, .int .i64 3, .slice (some ⟨w8.heap.size + 2, 0, none⟩) 2 2, .int .i64 3] 43) = W := ⟨_, rfl⟩
  have hb9 : Below w8.heap.size w8 w9 := by rw [← hw9]; exact nw _ (nw _ (nw _ (nw _ (Below.refl _ _))))
  have hR1 : Row w9 w8.heap.size [0, 2] := by rw [← hw9]; exact (((Row.new w8 [0, 2]).alloc _).alloc _).alloc _
  have hR2 : Row w9 (w8.heap.size + 1) [0, 4, 3] := by rw [← hw9]; exact ((Blk.new_ (by simp) : Blk _ (w8.heap.size + 1) 3 #[.int .i64 0, .int .i64 4, .int .i64 3]).alloc _).alloc _
  have hR3 : Row w9 (w8.heap.size + 2) [1, 3] := by rw [← hw9]; exact (Blk.new_ (by simp) : Blk _ (w8.heap.size + 2) 3 #[.int .i64 1, .int .i64 3]).alloc _
  have hW9 : Blk w9 (w8.heap.size + 3) 43 #[.slice (some ⟨w8.heap.size, 0, none⟩) 2 2, .int .i64 3, .slice (some ⟨w8.heap.size + 1, 0, none⟩) 3 3, .int .i64 3, .slice (some ⟨w8.heap.size + 2, 0, none⟩) 2 2, .int .i64 3] := by rw [← hw9]; exact Blk.new_ (by simp)
  rw [hw9]
  obtain ⟨b1, hbb1⟩ : ∃ b, w8.heap.size = b := ⟨_, rfl⟩
  have e3 : b1 + 3 = b1 + 1 + 1 + 1 := rfl
  rw [hbb1] at hR1 hR2 hR3 hW9 ⊢
  obtain ⟨b2, hbb2⟩ : ∃ b, b1 + 1 = b := ⟨_, rfl⟩
  obtain ⟨b3, hbb3⟩ : ∃ b, b1 + 2 = b := ⟨_, rfl⟩
  obtain ⟨b4, hbb4⟩ : ∃ b, b1 + 3 = b := ⟨_, rfl⟩
  have hM9 : SlR 2 RMc w9 (some ⟨b1 + 3, 0, none⟩) [⟨some ⟨b1, 0, none⟩, 2, ⟨[0, 2], 3⟩⟩, ⟨some ⟨b1 + 1, 0, none⟩, 3, ⟨[0, 4, 3], 3⟩⟩, ⟨some ⟨b1 + 2, 0, none⟩, 2, ⟨[1, 3], 3⟩⟩] := slr_blk (enc := encMc) hW9 (fun _ => rfl) (fun _ => rfl)
  have hO9 : MsOK w9 [⟨some ⟨b1, 0, none⟩, 2, ⟨[0, 2], 3⟩⟩, ⟨some ⟨b1 + 1, 0, none⟩, 3, ⟨[0, 4, 3], 3⟩⟩, ⟨some ⟨b1 + 2, 0, none⟩, 2, ⟨[1, 3], 3⟩⟩] := fun m hm => by
    simp at hm
    rcases hm with rfl | rfl | rfl
    · exact ⟨hR1.slt, by simp, by unfold maxLen; simp⟩
    · exact ⟨hR2.slt, by simp, by unfold maxLen; simp⟩
    · exact ⟨hR3.slt, by simp, by unfold maxLen; simp⟩
  have hC9 := mc_can hM9 hO9
  have hb19 := bthen hb18 hb9
  have hG9 := hG1.below hb19 hG1.lt
  have hb29 : Below w2.heap.size w2 w9 := bthen (bthen (bthen (bthen (bthen (nw (.cells #[.int .i64 0, .int .i64 4, .int .i64 3] 3) (bthen (bthen (bthen hb3 hb4) hb5) hb6)) hb7) (nw (.cells #[.int .i64 0, .int .i64 3] 3) (Below.refl _ _))) hb8) hb9) (Below.refl _ _)
  have hb39 : Below w3.heap.size w3 w9 := bthen (bthen (bthen (bthen (nw (.cells #[.int .i64 0, .int .i64 4, .int .i64 3] 3) (bthen (bthen hb4 hb5) hb6)) hb7) (nw (.cells #[.int .i64 0, .int .i64 3] 3) (Below.refl _ _))) hb8) hb9
  have HSA : Hid (Calls Try.prog 20 #[.slice A2 3 c2, .slice (some ⟨b1 + 3, 0, none⟩) 3 3] w9 fun e w' => e = .returned (.bool true) ∧ Below w9.heap.size w9 w') := by
    have h := same_any A2 (some ⟨b1 + 3, 0, none⟩) wantL wantL c2 3 w9 (HC2.out.below keeps_can hb29) hC9 (by unfold maxLen; simp [wantL]) (by unfold maxLen; simp [wantL])
    have e : decide (wantL = wantL) = true := decide_eq_true rfl
    rw [e] at h
    exact h
  obtain ⟨bo, oo, x, Ao, co, rfl, hbo, hxo, o0, o1, _, _, _⟩ := (HC3.out.below keeps_can hb39).can (k := 0) (by simp)
  obtain rfl : (⟨[], 0⟩ : Can) = x := by simpa using hxo
  rw [Nat.zero_mul, Nat.add_zero] at o0 o1
  have ol : bo < w9.heap.size := hbo
  clear hbb2 hbb3 hbb4 hxo hbo e3
  go_upto_region 11 with (go_at_call 20; go_loud (refine HSA.out.mono ?_; rintro e wa ⟨rfl, hba⟩; have q0 := ((bcell hba).1 bo oo ol).trans o0; have q1 := ((bcell hba).1 bo (oo + 1) ol).trans o1))
  have hb1a := bthen hb19 hba
  have hGa := hG1.below hb1a hG1.lt
  have hWa := hW9.below hba hW9.lt
  have g0 := hGa.cell 0
  have g1 := hGa.cell 1
  have gl := hGa.lt
  have u0 := hWa.cell 0
  have u1 := hWa.cell 1
  have u2 := hWa.cell 2
  have u3 := hWa.cell 3
  have ul := hWa.lt
  simp at g0 g1 u0 u1 u2 u3
  have HR1 := Lib.hid (hR1.below hba hR1.lt)
  have HR2 := Lib.hid (hR2.below hba hR2.lt)
  have HBE : Hid (Below w.heap.size w wa) := bthen hb1 hb1a
  have HNU : Hid (∀ W, Below wa.heap.size wa W → Calls Try.prog 21 #[(.agg #[.int .i64 4, .slice (some ⟨bl, 0, none⟩) 5 5])] W fun e w' => e = .returned (.int .i64 3) ∧ Below W.heap.size W w') := fun W hW => by
    have h := number_any _ 5 gS W (hls.below keeps_lk (bthen hb1a hW)) (by unfold maxLen; simp [gS])
    rw [show numOf gS = 3 by kernel_rfl] at h
    exact h
  have HVA : Hid (∀ W, Below wa.heap.size wa W → Calls Try.prog 28 #[(.agg #[.int .i64 4, .slice (some ⟨bl, 0, none⟩) 5 5])] W fun e w' => e = .returned (.bool true) ∧ Below W.heap.size W w') := fun W hW => by
    have h := valid_any _ 5 gS W (hls.below keeps_lk (bthen hb1a hW)) (by unfold maxLen; simp [gS])
    rw [show grB gS = true by kernel_rfl] at h
    exact h
  have HL1 : Hid (∀ W, Below wa.heap.size wa W → Calls Try.prog 23 #[(.agg #[.int .i64 4, .slice (some ⟨bl, 0, none⟩) 5 5]), .agg #[.slice (some ⟨b1, 0, none⟩) 2 2, .int .i64 3], .agg #[.slice (some ⟨b1 + 1, 0, none⟩) 3 3, .int .i64 3]] W fun e w' => e = .returned (.bool true) ∧ Below W.heap.size W w') := fun W hW => by
    have h := less_any 4 (.slice (some ⟨bl, 0, none⟩) 5 5) (some ⟨b1, 0, none⟩) (some ⟨b1 + 1, 0, none⟩) ⟨[0, 2], 3⟩ ⟨[0, 4, 3], 3⟩ 2 3 W (Row.below HR1.out hW HR1.out.lt).slr (Row.below HR2.out hW HR2.out.lt).slr (by unfold maxLen; simp) (by unfold maxLen; simp)
    rw [show canLt ⟨[0, 2], 3⟩ ⟨[0, 4, 3], 3⟩ = true by kernel_rfl] at h
    exact h
  have HL2 : Hid (∀ W, Below wa.heap.size wa W → Calls Try.prog 23 #[(.agg #[.int .i64 4, .slice (some ⟨bl, 0, none⟩) 5 5]), .agg #[.slice (some ⟨b1 + 1, 0, none⟩) 3 3, .int .i64 3], .agg #[.slice (some ⟨b1 + 1, 0, none⟩) 3 3, .int .i64 3]] W fun e w' => e = .returned (.bool false) ∧ Below W.heap.size W w') := fun W hW => by
    have h := less_any 4 (.slice (some ⟨bl, 0, none⟩) 5 5) (some ⟨b1 + 1, 0, none⟩) (some ⟨b1 + 1, 0, none⟩) ⟨[0, 4, 3], 3⟩ ⟨[0, 4, 3], 3⟩ 3 3 W (Row.below HR2.out hW HR2.out.lt).slr (Row.below HR2.out hW HR2.out.lt).slr (by unfold maxLen; simp) (by unfold maxLen; simp)
    rw [show canLt ⟨[0, 4, 3], 3⟩ ⟨[0, 4, 3], 3⟩ = false by kernel_rfl] at h
    exact h
  clear q0 q1 o0 o1 hls hR1 hR2 hR3 hM9 hO9 hC9
  refine ordB_below (.quiet 0 (.quiet 1 (.quiet 2 (.quiet 3 (.quiet 4 (.quiet 5 (.quiet 6 (.quiet 7 (.quiet 8 (.quiet 9 (.quiet 10 (.quiet 11 (.quiet 12 (.quiet 13 (.only 14 (.quiet 15 (.quiet 16 (.quiet 17 (.quiet 18 (.quiet 19 (.quiet 20 (.quiet 21 (.quiet 22 (.quiet 23 (.quiet 24 (.only 25 (.quiet 26 (.quiet 27 (.quiet 28 (.quiet 29 (.quiet 30 (.quiet 31 (.quiet 32 (.quiet 33 (.quiet 34 (.only 35 (.quiet 36 (.quiet 37 (.quiet 38 (.quiet 39 (.only 40 (.quiet 41 (.quiet 42 (.quiet 43 (.only 44 (.quiet 45 (.only 46 (.quiet 47 (.quiet 48 (.quiet 49 .done)))))))))))))))))))))))))))))))))))))))))))))))))) (by kernel_rfl) (by kernel_rfl) (by kernel_rfl) (fun _ _ _ _ _ h => h) ?_
  intro V0 hV0
  iterate 14 (first
    | (refine ordB_skip rfl rfl ?_; simp only [Act.put, List.setIfInBounds_toArray, List.set_cons_zero, List.set_cons_succ])
    | (refine ordB_take (v := ?_) rfl rfl ?_ ?_
       rotate_left 1
       focus (intro W hW; obtain ⟨hcW, hfW⟩ := bcell hW; (go_simp <;> with_reducible rfl))
       simp only [Act.put, List.setIfInBounds_toArray, List.set_cons_zero, List.set_cons_succ]))
  refine ordB_only (opB_call rfl rfl (fun K hK => ?_))
  go_simp
  go_at_call 21
  refine (HNU.out _ hV0).mono ?_
  rintro e V0_1 ⟨rfl, hx14⟩
  refine hK.out _ _ (hV0.trans (hx14.mono hV0.size)) (fun hV0_1 => ?_)
  iterate 10 (first
    | (refine ordB_skip rfl rfl ?_; simp only [Act.put, List.setIfInBounds_toArray, List.set_cons_zero, List.set_cons_succ])
    | (refine ordB_take (v := ?_) rfl rfl ?_ ?_
       rotate_left 1
       focus (intro W hW; obtain ⟨hcW, hfW⟩ := bcell hW; (go_simp <;> with_reducible rfl))
       simp only [Act.put, List.setIfInBounds_toArray, List.set_cons_zero, List.set_cons_succ]))
  refine ordB_only (opB_call rfl rfl (fun K hK => ?_))
  go_simp
  go_at_call 23
  refine (HL1.out _ hV0_1).mono ?_
  rintro e V0_1_2 ⟨rfl, hx25⟩
  refine hK.out _ _ (hV0_1.trans (hx25.mono hV0_1.size)) (fun hV0_1_2 => ?_)
  iterate 9 (first
    | (refine ordB_skip rfl rfl ?_; simp only [Act.put, List.setIfInBounds_toArray, List.set_cons_zero, List.set_cons_succ])
    | (refine ordB_take (v := ?_) rfl rfl ?_ ?_
       rotate_left 1
       focus (intro W hW; obtain ⟨hcW, hfW⟩ := bcell hW; (go_simp <;> with_reducible rfl))
       simp only [Act.put, List.setIfInBounds_toArray, List.set_cons_zero, List.set_cons_succ]))
  refine ordB_only (opB_call rfl rfl (fun K hK => ?_))
  go_simp
  go_at_call 23
  refine (HL2.out _ hV0_1_2).mono ?_
  rintro e V0_1_2_3 ⟨rfl, hx35⟩
  refine hK.out _ _ (hV0_1_2.trans (hx35.mono hV0_1_2.size)) (fun hV0_1_2_3 => ?_)
  iterate 4 (first
    | (refine ordB_skip rfl rfl ?_; simp only [Act.put, List.setIfInBounds_toArray, List.set_cons_zero, List.set_cons_succ])
    | (refine ordB_take (v := ?_) rfl rfl ?_ ?_
       rotate_left 1
       focus (intro W hW; obtain ⟨hcW, hfW⟩ := bcell hW; (go_simp <;> with_reducible rfl))
       simp only [Act.put, List.setIfInBounds_toArray, List.set_cons_zero, List.set_cons_succ]))
  refine ordB_only (opB_call rfl rfl (fun K hK => ?_))
  go_simp
  go_at_call 28
  refine (HVA.out _ hV0_1_2_3).mono ?_
  rintro e V0_1_2_3_4 ⟨rfl, hx40⟩
  refine hK.out _ _ (hV0_1_2_3.trans (hx40.mono hV0_1_2_3.size)) (fun hV0_1_2_3_4 => ?_)
  iterate 3 (first
    | (refine ordB_skip rfl rfl ?_; simp only [Act.put, List.setIfInBounds_toArray, List.set_cons_zero, List.set_cons_succ])
    | (refine ordB_take (v := ?_) rfl rfl ?_ ?_
       rotate_left 1
       focus (intro W hW; obtain ⟨hcW, hfW⟩ := bcell hW; (go_simp <;> with_reducible rfl))
       simp only [Act.put, List.setIfInBounds_toArray, List.set_cons_zero, List.set_cons_succ]))
  refine ordB_only (opB_call rfl rfl (fun K hK => ?_))
  go_simp
  refine hK.out _ _ (hV0_1_2_3_4.alloc hV0_1_2_3_4.size _) (fun hV0_1_2_3_4_5 => ?_)
  have b44 := Blk.new V0_1_2_3_4 54 #[(.int .i64 1), (.int .i64 1), (.int .i64 0), (.int .i64 0)]
  have b44b := nw (.cells #[(.int .i64 1), (.int .i64 1), (.int .i64 0), (.int .i64 0)] 54) (Below.refl V0_1_2_3_4.heap.size V0_1_2_3_4)
  have b44g := hV0_1_2_3_4.size
  obtain ⟨V0_1_2_3_4_5, qqV0_1_2_3_4_5⟩ : ∃ W', V0_1_2_3_4.alloc (.cells #[(.int .i64 1), (.int .i64 1), (.int .i64 0), (.int .i64 0)] 54) = W' := ⟨_, rfl⟩
  rw [qqV0_1_2_3_4_5] at hV0_1_2_3_4_5 b44 b44b ⊢
  clear qqV0_1_2_3_4_5 b44b
  iterate 1 (first
    | (refine ordB_skip rfl rfl ?_; simp only [Act.put, List.setIfInBounds_toArray, List.set_cons_zero, List.set_cons_succ])
    | (refine ordB_take (v := ?_) rfl rfl ?_ ?_
       rotate_left 1
       focus (intro W hW; obtain ⟨hcW, hfW⟩ := bcell hW; (go_simp <;> with_reducible rfl))
       simp only [Act.put, List.setIfInBounds_toArray, List.set_cons_zero, List.set_cons_succ]))
  refine ordB_only (opB_call rfl rfl (fun K hK => ?_))
  go_simp
  go_at_call 28
  refine (valid_any _ 1 ⟨2, [⟨1, 1, 0, 0⟩]⟩ _ (slr_blk (enc := encLk) b44 (fun _ => rfl) (fun _ => rfl)) (by unfold maxLen; simp)).mono ?_
  rintro e V0_1_2_3_4_5_6 ⟨rfl, hx46⟩
  refine hK.out _ _ (hV0_1_2_3_4_5.trans (hx46.mono hV0_1_2_3_4_5.size)) (fun hV0_1_2_3_4_5_6 => ?_)
  have b44 := b44.below hx46 b44.lt
  iterate 3 (first
    | (refine ordB_skip rfl rfl ?_; simp only [Act.put, List.setIfInBounds_toArray, List.set_cons_zero, List.set_cons_succ])
    | (refine ordB_take (v := ?_) rfl rfl ?_ ?_
       rotate_left 1
       focus (intro W hW; obtain ⟨hcW, hfW⟩ := bcell hW; (go_simp <;> with_reducible rfl))
       simp only [Act.put, List.setIfInBounds_toArray, List.set_cons_zero, List.set_cons_succ]))
  refine ordB_nil ?_
  go_wp2_with fail
  go_ret
  exact ⟨rfl, HBE.out.trans (hV0_1_2_3_4_5_6.mono HBE.out.size)⟩

end Go.Proofs.Ytbikjmafddndpaa
