/-
  The walk of layer 05: the base schemes.
-/
import Derived.Test.YtfpnhgahkjglgaaGreatF40
import Derived.Test.YtfpnhgahkjglgaaGreatF05
set_option maxRecDepth 100000
namespace Go.Proofs.YtfpnhgahkjglgaaGreat
open Go Go.RowKit
set_option maxHeartbeats 8000000 in
theorem base0_any (q : Int) (w : World) (hq : q % 6 = 0) (h0 : 0 ≤ q ∧ q ≤ 255) : Calls Tryz.prog 23 #[.int .u8 q] w fun e w' => ∃ g, e = .returned (.agg #[.int .i64 1, .int .u8 1, .slice (some ⟨g, 0, none⟩) 3 3]) ∧ ScIn w' (baseS 0) (some ⟨g, 0, none⟩) 3 ∧ w.heap.size ≤ g ∧ Below w.heap.size w w' := by
 have htm : q.tmod 6 = 0 := by rw [Int.tmod_eq_emod_of_nonneg h0.1]; exact hq
 obtain ⟨w3, hw3⟩ : ∃ w3, ((w.alloc (.cells #[.int .i64 0, .int .u8 0, .slice none 0 0] 30)).alloc (.cells #[.int .i64 1, .int .u8 1, .slice none 0 0] 30)).alloc (.cells #[.int .i64 0, .int .i64 0] 100) = w3 := ⟨_, rfl⟩
 have HW3 := Lib.hid hw3
 clear hw3
 go_enter Tryz.func23, Tryz.ntmps23
 go_upto_region 6 with fail
 rw [HW3.out]
 obtain ⟨g, hg⟩ : ∃ g, w.heap.size = g := ⟨_, rfl⟩
 rw [hg]
 have hb3 : Below w.heap.size w w3 := by rw [← HW3.out]; exact nw _ (nw _ (nw _ (Below.refl _ _)))
 have hR : Blk w3 g 30 #[.int .i64 0, .int .u8 0, .slice none 0 0] := by rw [← HW3.out, ← hg]; exact ((Blk.new _ _ _).alloc _).alloc _
 have hQ : Blk w3 (g + 1) 30 #[.int .i64 1, .int .u8 1, .slice none 0 0] := by rw [← HW3.out]; exact (Blk.new_ (by simp; omega)).alloc _
 have hA : Blk w3 (g + 2) 100 #[.int .i64 0, .int .i64 0] := by rw [← HW3.out]; exact Blk.new_ (by simp; omega)
 have HB3 := Lib.hid hb3
 have HR := Lib.hid hR
 have HQ := Lib.hid hQ
 have a0 := hA.cell 0
 have a1 := hA.cell 1
 have al := hA.lt
 have s2 := hQ.cell 2
 have sf2 := hQ.frozen 2
 have sl := hQ.lt
 simp at a0 a1 s2
 clear hb3 hR hQ hA HW3
 refine ordT_below [8] [(0, false), (2, false), (4, false), (1, true), (3, true), (5, true), (6, true), (7, false), (8, true)] (by kernel_rfl) (by kernel_rfl) (by kernel_rfl) (fun _ _ _ _ _ h => h) ?_
 intro W0 hS0
 refine ordT_take (v := ?_) rfl rfl hS0 ?_ ?_
 rotate_left 1
 focus (intro W hW; obtain ⟨hcW, hfW⟩ := bcell hW; (go_simp <;> with_reducible rfl))
 simp only [Act.put, zA, zB, zC]
 refine ordT_take (v := ?_) rfl rfl hS0 ?_ ?_
 rotate_left 1
 focus (intro W hW; obtain ⟨hcW, hfW⟩ := bcell hW; (go_simp <;> with_reducible rfl))
 simp only [Act.put, zA, zB, zC]
 refine ordT_take (v := ?_) rfl rfl hS0 ?_ ?_
 rotate_left 1
 focus (intro W hW; obtain ⟨hcW, hfW⟩ := bcell hW; (go_simp <;> with_reducible rfl))
 simp only [Act.put, zA, zB, zC]
 refine ordT_call rfl rfl (fun K hK => ?_)
 go_simp
 go_at_call 49
 refine (simple_any 0 0 _ _ _).mono ?_
 rintro e W1 ⟨rfl, hq1⟩
 have hS1 := hS0.trans (hq1.mono hS0.size)
 refine hK.out _ _ (fun _ => hS1) ?_
 clear hK K
 refine ordT_call rfl rfl (fun K hK => ?_)
 go_simp
 go_at_call 49
 refine (simple_any 0 0 _ _ _).mono ?_
 rintro e W2 ⟨rfl, hq2⟩
 have hS2 := hS1.trans (hq2.mono hS1.size)
 refine hK.out _ _ (fun _ => hS2) ?_
 clear hK K
 refine ordT_call rfl rfl (fun K hK => ?_)
 go_simp
 go_at_call 49
 refine (simple_any 0 0 _ _ _).mono ?_
 rintro e W3 ⟨rfl, hq3⟩
 have hS3 := hS2.trans (hq3.mono hS2.size)
 refine hK.out _ _ (fun _ => hS3) ?_
 clear hK K
 refine ordT_call rfl rfl (fun K hK => ?_)
 go_simp
 refine hK.out _ _ (fun _ => hS3.alloc hS3.size _) ?_
 clear hK K
 obtain ⟨gs, hgs⟩ : ∃ x, W3.heap.size = x := ⟨_, rfl⟩
 generalize hWX : W3.alloc (.cells _ 61) = WX
 have hLX : Blk WX gs 61 ((baseS 0).rs.flatMap encRu5).toArray := by rw [← hWX]; exact Blk.new_ hgs.symm
 have hS4X : Below w3.heap.size w3 WX := by rw [← hWX]; exact hS3.alloc hS3.size _
 have hgs3 : w3.heap.size ≤ gs := by rw [← hgs]; exact hS3.size
 have HGS := Lib.hid hgs3
 rw [hgs]
 clear hWX hgs hq1 hq2 hq3 hS0 hS1 hS2 hS3
 refine ordT_take (v := ?_) rfl rfl hS4X ?_ ?_
 rotate_left 1
 focus (intro W hW; obtain ⟨hcW, hfW⟩ := bcell hW; (go_simp <;> with_reducible rfl))
 simp only [Act.put, zA, zB, zC]
 refine ordT_call rfl rfl (fun K hK => ?_)
 obtain ⟨hcS, hfS⟩ := bcell hS4X
 go_simp
 refine hK.out _ _ (fun h => by cases h) ?_
 clear hK K hcS hfS
 refine ordT_nil ?_
 have hQ5 := (HQ.out.below hS4X HQ.out.lt).set_ 2 (.slice (some ⟨gs, 0, none⟩) 3 3)
 have hgsl := hLX.lt
 have hR5 := (HR.out.below hS4X HR.out.lt).far (p := ⟨g + 1, 2, none⟩) (by simp) (.slice (some ⟨gs, 0, none⟩) 3 3)
 have hL5 := hLX.far (p := ⟨g + 1, 2, none⟩) (show gs ≠ g + 1 by have := HGS.out; omega) (.slice (some ⟨gs, 0, none⟩) 3 3)
 have hB5 := (HB3.out.trans (hS4X.mono HB3.out.size)).setCell (p := ⟨g + 1, 2, none⟩) (show w.heap.size ≤ g + 1 by omega) (.slice (some ⟨gs, 0, none⟩) 3 3)
 have hgsw : w.heap.size ≤ gs := by have := HGS.out; have := HB3.out.size; omega
 obtain ⟨W5, hW5⟩ : ∃ W, WX.setCell ⟨g + 1, 2, none⟩ (.slice (some ⟨gs, 0, none⟩) 3 3) = W := ⟨_, rfl⟩
 rw [hW5] at hQ5 hR5 hL5 hB5 ⊢
 clear hW5 hLX hS4X a0 a1 al s2 sf2 sl
 have c0 := hQ5.cell 0
 have c1 := hQ5.cell 1
 have c2 := hQ5.cell 2
 have cl := hQ5.lt
 have d0 := hR5.cell 0
 have d1 := hR5.cell 1
 have d2 := hR5.cell 2
 have dl := hR5.lt
 have f0 := hR5.frozen 0
 have f1 := hR5.frozen 1
 have f2 := hR5.frozen 2
 simp at c0 c1 c2 d0 d1 d2
 have hE := ((hR5.set_ 0 (.int .i64 1)).set_ 1 (.int .u8 1)).set_ 2 (.slice (some ⟨gs, 0, none⟩) 3 3)
 have hgn : gs ≠ g := by have := HGS.out; have := HQ.out.lt; omega
 have hL6 := ((hL5.far (p := ⟨g, 0, none⟩) hgn (.int .i64 1)).far (p := ⟨g, 1, none⟩) hgn (.int .u8 1)).far (p := ⟨g, 2, none⟩) hgn (.slice (some ⟨gs, 0, none⟩) 3 3)
 have hgw : w.heap.size ≤ g := by omega
 have hB6 := ((hB5.setCell (p := ⟨g, 0, none⟩) hgw (.int .i64 1)).setCell (p := ⟨g, 1, none⟩) hgw (.int .u8 1)).setCell (p := ⟨g, 2, none⟩) hgw (.slice (some ⟨gs, 0, none⟩) 3 3)
 have HE := Lib.hid hE
 have HL6 := Lib.hid hL6
 have HB6 := Lib.hid hB6
 clear hE hL6 hB6 hL5 hB5 hQ5 hR5
 go_wp2_with fail
 obtain ⟨W, hW⟩ : ∃ W, ((W5.setCell ⟨g, 0, none⟩ (.int .i64 1)).setCell ⟨g, 1, none⟩ (.int .u8 1)).setCell ⟨g, 2, none⟩ (.slice (some ⟨gs, 0, none⟩) 3 3) = W := ⟨_, rfl⟩
 have hE := HE.out
 have hL6 := HL6.out
 have hB6 := HB6.out
 rw [hW] at hE hL6 hB6 ⊢
 clear hW HE HL6 HB6 c0 c1 c2 d0 d1 d2
 have q0 := hE.cell 0
 have q1 := hE.cell 1
 have q2 := hE.cell 2
 simp at q0 q1 q2
 refine bodyPost_ret (v := .agg #[.int .i64 1, .int .u8 1, .slice (some ⟨gs, 0, none⟩) 3 3]) (by simp [results, Tryz.results23, go_sem, q0, q1, q2]; done) rfl ?_
 exact ⟨gs, rfl, ⟨slr_blkR hL6 (fun _ => rfl) (fun _ => rfl), by decide, fun r hr => ⟨Nat.le_trans ((base_ok 0).1.2.2.2.1 r hr).2.1.1 (by decide), Nat.le_trans ((base_ok 0).1.2.2.2.1 r hr).2.2.1.1 (by decide)⟩, by decide, by decide⟩, hgsw, hB6⟩
set_option maxHeartbeats 8000000 in
theorem base1_any (q : Int) (w : World) (hq : q % 6 = 1) (h0 : 0 ≤ q ∧ q ≤ 255) : Calls Tryz.prog 23 #[.int .u8 q] w fun e w' => ∃ g, e = .returned (.agg #[.int .i64 1, .int .u8 1, .slice (some ⟨g, 0, none⟩) 4 4]) ∧ ScIn w' (baseS 1) (some ⟨g, 0, none⟩) 4 ∧ w.heap.size ≤ g ∧ Below w.heap.size w w' := by
 have htm : q.tmod 6 = 1 := by rw [Int.tmod_eq_emod_of_nonneg h0.1]; exact hq
 obtain ⟨w3, hw3⟩ : ∃ w3, ((w.alloc (.cells #[.int .i64 0, .int .u8 0, .slice none 0 0] 30)).alloc (.cells #[.int .i64 1, .int .u8 1, .slice none 0 0] 30)).alloc (.cells #[.int .i64 0, .int .i64 0] 100) = w3 := ⟨_, rfl⟩
 have HW3 := Lib.hid hw3
 clear hw3
 go_enter Tryz.func23, Tryz.ntmps23
 go_upto_region 8 with fail
 rw [HW3.out]
 obtain ⟨g, hg⟩ : ∃ g, w.heap.size = g := ⟨_, rfl⟩
 rw [hg]
 have hb3 : Below w.heap.size w w3 := by rw [← HW3.out]; exact nw _ (nw _ (nw _ (Below.refl _ _)))
 have hR : Blk w3 g 30 #[.int .i64 0, .int .u8 0, .slice none 0 0] := by rw [← HW3.out, ← hg]; exact ((Blk.new _ _ _).alloc _).alloc _
 have hQ : Blk w3 (g + 1) 30 #[.int .i64 1, .int .u8 1, .slice none 0 0] := by rw [← HW3.out]; exact (Blk.new_ (by simp; omega)).alloc _
 have hA : Blk w3 (g + 2) 100 #[.int .i64 0, .int .i64 0] := by rw [← HW3.out]; exact Blk.new_ (by simp; omega)
 have HB3 := Lib.hid hb3
 have HR := Lib.hid hR
 have HQ := Lib.hid hQ
 have a0 := hA.cell 0
 have a1 := hA.cell 1
 have al := hA.lt
 have s2 := hQ.cell 2
 have sf2 := hQ.frozen 2
 have sl := hQ.lt
 simp at a0 a1 s2
 clear hb3 hR hQ hA HW3
 refine ordT_below [10] [(0, false), (2, false), (4, false), (6, false), (1, true), (3, true), (5, true), (7, true), (8, true), (9, false), (10, true)] (by kernel_rfl) (by kernel_rfl) (by kernel_rfl) (fun _ _ _ _ _ h => h) ?_
 intro W0 hS0
 refine ordT_take (v := ?_) rfl rfl hS0 ?_ ?_
 rotate_left 1
 focus (intro W hW; obtain ⟨hcW, hfW⟩ := bcell hW; (go_simp <;> with_reducible rfl))
 simp only [Act.put, zA, zB, zC]
 refine ordT_take (v := ?_) rfl rfl hS0 ?_ ?_
 rotate_left 1
 focus (intro W hW; obtain ⟨hcW, hfW⟩ := bcell hW; (go_simp <;> with_reducible rfl))
 simp only [Act.put, zA, zB, zC]
 refine ordT_take (v := ?_) rfl rfl hS0 ?_ ?_
 rotate_left 1
 focus (intro W hW; obtain ⟨hcW, hfW⟩ := bcell hW; (go_simp <;> with_reducible rfl))
 simp only [Act.put, zA, zB, zC]
 refine ordT_take (v := ?_) rfl rfl hS0 ?_ ?_
 rotate_left 1
 focus (intro W hW; obtain ⟨hcW, hfW⟩ := bcell hW; (go_simp <;> with_reducible rfl))
 simp only [Act.put, zA, zB, zC]
 refine ordT_call rfl rfl (fun K hK => ?_)
 go_simp
 go_at_call 49
 refine (simple_any 0 0 _ _ _).mono ?_
 rintro e W1 ⟨rfl, hq1⟩
 have hS1 := hS0.trans (hq1.mono hS0.size)
 refine hK.out _ _ (fun _ => hS1) ?_
 clear hK K
 refine ordT_call rfl rfl (fun K hK => ?_)
 go_simp
 go_at_call 49
 refine (simple_any 0 0 _ _ _).mono ?_
 rintro e W2 ⟨rfl, hq2⟩
 have hS2 := hS1.trans (hq2.mono hS1.size)
 refine hK.out _ _ (fun _ => hS2) ?_
 clear hK K
 refine ordT_call rfl rfl (fun K hK => ?_)
 go_simp
 go_at_call 49
 refine (simple_any 0 0 _ _ _).mono ?_
 rintro e W3 ⟨rfl, hq3⟩
 have hS3 := hS2.trans (hq3.mono hS2.size)
 refine hK.out _ _ (fun _ => hS3) ?_
 clear hK K
 refine ordT_call rfl rfl (fun K hK => ?_)
 go_simp
 go_at_call 49
 refine (simple_any 0 0 _ _ _).mono ?_
 rintro e W4 ⟨rfl, hq4⟩
 have hS4 := hS3.trans (hq4.mono hS3.size)
 refine hK.out _ _ (fun _ => hS4) ?_
 clear hK K
 refine ordT_call rfl rfl (fun K hK => ?_)
 go_simp
 refine hK.out _ _ (fun _ => hS4.alloc hS4.size _) ?_
 clear hK K
 obtain ⟨gs, hgs⟩ : ∃ x, W4.heap.size = x := ⟨_, rfl⟩
 generalize hWX : W4.alloc (.cells _ 61) = WX
 have hLX : Blk WX gs 61 ((baseS 1).rs.flatMap encRu5).toArray := by rw [← hWX]; exact Blk.new_ hgs.symm
 have hS4X : Below w3.heap.size w3 WX := by rw [← hWX]; exact hS4.alloc hS4.size _
 have hgs3 : w3.heap.size ≤ gs := by rw [← hgs]; exact hS4.size
 have HGS := Lib.hid hgs3
 rw [hgs]
 clear hWX hgs hq1 hq2 hq3 hq4 hS0 hS1 hS2 hS3 hS4
 refine ordT_take (v := ?_) rfl rfl hS4X ?_ ?_
 rotate_left 1
 focus (intro W hW; obtain ⟨hcW, hfW⟩ := bcell hW; (go_simp <;> with_reducible rfl))
 simp only [Act.put, zA, zB, zC]
 refine ordT_call rfl rfl (fun K hK => ?_)
 obtain ⟨hcS, hfS⟩ := bcell hS4X
 go_simp
 refine hK.out _ _ (fun h => by cases h) ?_
 clear hK K hcS hfS
 refine ordT_nil ?_
 have hQ5 := (HQ.out.below hS4X HQ.out.lt).set_ 2 (.slice (some ⟨gs, 0, none⟩) 4 4)
 have hgsl := hLX.lt
 have hR5 := (HR.out.below hS4X HR.out.lt).far (p := ⟨g + 1, 2, none⟩) (by simp) (.slice (some ⟨gs, 0, none⟩) 4 4)
 have hL5 := hLX.far (p := ⟨g + 1, 2, none⟩) (show gs ≠ g + 1 by have := HGS.out; omega) (.slice (some ⟨gs, 0, none⟩) 4 4)
 have hB5 := (HB3.out.trans (hS4X.mono HB3.out.size)).setCell (p := ⟨g + 1, 2, none⟩) (show w.heap.size ≤ g + 1 by omega) (.slice (some ⟨gs, 0, none⟩) 4 4)
 have hgsw : w.heap.size ≤ gs := by have := HGS.out; have := HB3.out.size; omega
 obtain ⟨W5, hW5⟩ : ∃ W, WX.setCell ⟨g + 1, 2, none⟩ (.slice (some ⟨gs, 0, none⟩) 4 4) = W := ⟨_, rfl⟩
 rw [hW5] at hQ5 hR5 hL5 hB5 ⊢
 clear hW5 hLX hS4X a0 a1 al s2 sf2 sl
 have c0 := hQ5.cell 0
 have c1 := hQ5.cell 1
 have c2 := hQ5.cell 2
 have cl := hQ5.lt
 have d0 := hR5.cell 0
 have d1 := hR5.cell 1
 have d2 := hR5.cell 2
 have dl := hR5.lt
 have f0 := hR5.frozen 0
 have f1 := hR5.frozen 1
 have f2 := hR5.frozen 2
 simp at c0 c1 c2 d0 d1 d2
 have hE := ((hR5.set_ 0 (.int .i64 1)).set_ 1 (.int .u8 1)).set_ 2 (.slice (some ⟨gs, 0, none⟩) 4 4)
 have hgn : gs ≠ g := by have := HGS.out; have := HQ.out.lt; omega
 have hL6 := ((hL5.far (p := ⟨g, 0, none⟩) hgn (.int .i64 1)).far (p := ⟨g, 1, none⟩) hgn (.int .u8 1)).far (p := ⟨g, 2, none⟩) hgn (.slice (some ⟨gs, 0, none⟩) 4 4)
 have hgw : w.heap.size ≤ g := by omega
 have hB6 := ((hB5.setCell (p := ⟨g, 0, none⟩) hgw (.int .i64 1)).setCell (p := ⟨g, 1, none⟩) hgw (.int .u8 1)).setCell (p := ⟨g, 2, none⟩) hgw (.slice (some ⟨gs, 0, none⟩) 4 4)
 have HE := Lib.hid hE
 have HL6 := Lib.hid hL6
 have HB6 := Lib.hid hB6
 clear hE hL6 hB6 hL5 hB5 hQ5 hR5
 go_wp2_with fail
 obtain ⟨W, hW⟩ : ∃ W, ((W5.setCell ⟨g, 0, none⟩ (.int .i64 1)).setCell ⟨g, 1, none⟩ (.int .u8 1)).setCell ⟨g, 2, none⟩ (.slice (some ⟨gs, 0, none⟩) 4 4) = W := ⟨_, rfl⟩
 have hE := HE.out
 have hL6 := HL6.out
 have hB6 := HB6.out
 rw [hW] at hE hL6 hB6 ⊢
 clear hW HE HL6 HB6 c0 c1 c2 d0 d1 d2
 have q0 := hE.cell 0
 have q1 := hE.cell 1
 have q2 := hE.cell 2
 simp at q0 q1 q2
 refine bodyPost_ret (v := .agg #[.int .i64 1, .int .u8 1, .slice (some ⟨gs, 0, none⟩) 4 4]) (by simp [results, Tryz.results23, go_sem, q0, q1, q2]; done) rfl ?_
 exact ⟨gs, rfl, ⟨slr_blkR hL6 (fun _ => rfl) (fun _ => rfl), by decide, fun r hr => ⟨Nat.le_trans ((base_ok 1).1.2.2.2.1 r hr).2.1.1 (by decide), Nat.le_trans ((base_ok 1).1.2.2.2.1 r hr).2.2.1.1 (by decide)⟩, by decide, by decide⟩, hgsw, hB6⟩
set_option maxHeartbeats 8000000 in
theorem base3_any (q : Int) (w : World) (hq : q % 6 = 3) (h0 : 0 ≤ q ∧ q ≤ 255) : Calls Tryz.prog 23 #[.int .u8 q] w fun e w' => ∃ g, e = .returned (.agg #[.int .i64 1, .int .u8 1, .slice (some ⟨g, 0, none⟩) 4 4]) ∧ ScIn w' (baseS 3) (some ⟨g, 0, none⟩) 4 ∧ w.heap.size ≤ g ∧ Below w.heap.size w w' := by
 have htm : q.tmod 6 = 3 := by rw [Int.tmod_eq_emod_of_nonneg h0.1]; exact hq
 obtain ⟨w3, hw3⟩ : ∃ w3, ((w.alloc (.cells #[.int .i64 0, .int .u8 0, .slice none 0 0] 30)).alloc (.cells #[.int .i64 1, .int .u8 1, .slice none 0 0] 30)).alloc (.cells #[.int .i64 0, .int .i64 0] 100) = w3 := ⟨_, rfl⟩
 have HW3 := Lib.hid hw3
 clear hw3
 go_enter Tryz.func23, Tryz.ntmps23
 go_upto_region 12 with fail
 rw [HW3.out]
 obtain ⟨g, hg⟩ : ∃ g, w.heap.size = g := ⟨_, rfl⟩
 rw [hg]
 have hb3 : Below w.heap.size w w3 := by rw [← HW3.out]; exact nw _ (nw _ (nw _ (Below.refl _ _)))
 have hR : Blk w3 g 30 #[.int .i64 0, .int .u8 0, .slice none 0 0] := by rw [← HW3.out, ← hg]; exact ((Blk.new _ _ _).alloc _).alloc _
 have hQ : Blk w3 (g + 1) 30 #[.int .i64 1, .int .u8 1, .slice none 0 0] := by rw [← HW3.out]; exact (Blk.new_ (by simp; omega)).alloc _
 have hA : Blk w3 (g + 2) 100 #[.int .i64 0, .int .i64 0] := by rw [← HW3.out]; exact Blk.new_ (by simp; omega)
 have HB3 := Lib.hid hb3
 have HR := Lib.hid hR
 have HQ := Lib.hid hQ
 have a0 := hA.cell 0
 have a1 := hA.cell 1
 have al := hA.lt
 have s2 := hQ.cell 2
 have sf2 := hQ.frozen 2
 have sl := hQ.lt
 simp at a0 a1 s2
 clear hb3 hR hQ hA HW3
 refine ordT_below [10] [(0, false), (2, false), (4, false), (6, false), (1, true), (3, true), (5, true), (7, true), (8, true), (9, false), (10, true)] (by kernel_rfl) (by kernel_rfl) (by kernel_rfl) (fun _ _ _ _ _ h => h) ?_
 intro W0 hS0
 refine ordT_take (v := ?_) rfl rfl hS0 ?_ ?_
 rotate_left 1
 focus (intro W hW; obtain ⟨hcW, hfW⟩ := bcell hW; (go_simp <;> with_reducible rfl))
 simp only [Act.put, zA, zB, zC]
 refine ordT_take (v := ?_) rfl rfl hS0 ?_ ?_
 rotate_left 1
 focus (intro W hW; obtain ⟨hcW, hfW⟩ := bcell hW; (go_simp <;> with_reducible rfl))
 simp only [Act.put, zA, zB, zC]
 refine ordT_take (v := ?_) rfl rfl hS0 ?_ ?_
 rotate_left 1
 focus (intro W hW; obtain ⟨hcW, hfW⟩ := bcell hW; (go_simp <;> with_reducible rfl))
 simp only [Act.put, zA, zB, zC]
 refine ordT_take (v := ?_) rfl rfl hS0 ?_ ?_
 rotate_left 1
 focus (intro W hW; obtain ⟨hcW, hfW⟩ := bcell hW; (go_simp <;> with_reducible rfl))
 simp only [Act.put, zA, zB, zC]
 refine ordT_call rfl rfl (fun K hK => ?_)
 go_simp
 go_at_call 49
 refine (simple_any 0 0 _ _ _).mono ?_
 rintro e W1 ⟨rfl, hq1⟩
 have hS1 := hS0.trans (hq1.mono hS0.size)
 refine hK.out _ _ (fun _ => hS1) ?_
 clear hK K
 refine ordT_call rfl rfl (fun K hK => ?_)
 go_simp
 go_at_call 49
 refine (simple_any 0 0 _ _ _).mono ?_
 rintro e W2 ⟨rfl, hq2⟩
 have hS2 := hS1.trans (hq2.mono hS1.size)
 refine hK.out _ _ (fun _ => hS2) ?_
 clear hK K
 refine ordT_call rfl rfl (fun K hK => ?_)
 go_simp
 go_at_call 49
 refine (simple_any 0 0 _ _ _).mono ?_
 rintro e W3 ⟨rfl, hq3⟩
 have hS3 := hS2.trans (hq3.mono hS2.size)
 refine hK.out _ _ (fun _ => hS3) ?_
 clear hK K
 refine ordT_call rfl rfl (fun K hK => ?_)
 go_simp
 go_at_call 49
 refine (simple_any 0 0 _ _ _).mono ?_
 rintro e W4 ⟨rfl, hq4⟩
 have hS4 := hS3.trans (hq4.mono hS3.size)
 refine hK.out _ _ (fun _ => hS4) ?_
 clear hK K
 refine ordT_call rfl rfl (fun K hK => ?_)
 go_simp
 refine hK.out _ _ (fun _ => hS4.alloc hS4.size _) ?_
 clear hK K
 obtain ⟨gs, hgs⟩ : ∃ x, W4.heap.size = x := ⟨_, rfl⟩
 generalize hWX : W4.alloc (.cells _ 61) = WX
 have hLX : Blk WX gs 61 ((baseS 3).rs.flatMap encRu5).toArray := by rw [← hWX]; exact Blk.new_ hgs.symm
 have hS4X : Below w3.heap.size w3 WX := by rw [← hWX]; exact hS4.alloc hS4.size _
 have hgs3 : w3.heap.size ≤ gs := by rw [← hgs]; exact hS4.size
 have HGS := Lib.hid hgs3
 rw [hgs]
 clear hWX hgs hq1 hq2 hq3 hq4 hS0 hS1 hS2 hS3 hS4
 refine ordT_take (v := ?_) rfl rfl hS4X ?_ ?_
 rotate_left 1
 focus (intro W hW; obtain ⟨hcW, hfW⟩ := bcell hW; (go_simp <;> with_reducible rfl))
 simp only [Act.put, zA, zB, zC]
 refine ordT_call rfl rfl (fun K hK => ?_)
 obtain ⟨hcS, hfS⟩ := bcell hS4X
 go_simp
 refine hK.out _ _ (fun h => by cases h) ?_
 clear hK K hcS hfS
 refine ordT_nil ?_
 have hQ5 := (HQ.out.below hS4X HQ.out.lt).set_ 2 (.slice (some ⟨gs, 0, none⟩) 4 4)
 have hgsl := hLX.lt
 have hR5 := (HR.out.below hS4X HR.out.lt).far (p := ⟨g + 1, 2, none⟩) (by simp) (.slice (some ⟨gs, 0, none⟩) 4 4)
 have hL5 := hLX.far (p := ⟨g + 1, 2, none⟩) (show gs ≠ g + 1 by have := HGS.out; omega) (.slice (some ⟨gs, 0, none⟩) 4 4)
 have hB5 := (HB3.out.trans (hS4X.mono HB3.out.size)).setCell (p := ⟨g + 1, 2, none⟩) (show w.heap.size ≤ g + 1 by omega) (.slice (some ⟨gs, 0, none⟩) 4 4)
 have hgsw : w.heap.size ≤ gs := by have := HGS.out; have := HB3.out.size; omega
 obtain ⟨W5, hW5⟩ : ∃ W, WX.setCell ⟨g + 1, 2, none⟩ (.slice (some ⟨gs, 0, none⟩) 4 4) = W := ⟨_, rfl⟩
 rw [hW5] at hQ5 hR5 hL5 hB5 ⊢
 clear hW5 hLX hS4X a0 a1 al s2 sf2 sl
 have c0 := hQ5.cell 0
 have c1 := hQ5.cell 1
 have c2 := hQ5.cell 2
 have cl := hQ5.lt
 have d0 := hR5.cell 0
 have d1 := hR5.cell 1
 have d2 := hR5.cell 2
 have dl := hR5.lt
 have f0 := hR5.frozen 0
 have f1 := hR5.frozen 1
 have f2 := hR5.frozen 2
 simp at c0 c1 c2 d0 d1 d2
 have hE := ((hR5.set_ 0 (.int .i64 1)).set_ 1 (.int .u8 1)).set_ 2 (.slice (some ⟨gs, 0, none⟩) 4 4)
 have hgn : gs ≠ g := by have := HGS.out; have := HQ.out.lt; omega
 have hL6 := ((hL5.far (p := ⟨g, 0, none⟩) hgn (.int .i64 1)).far (p := ⟨g, 1, none⟩) hgn (.int .u8 1)).far (p := ⟨g, 2, none⟩) hgn (.slice (some ⟨gs, 0, none⟩) 4 4)
 have hgw : w.heap.size ≤ g := by omega
 have hB6 := ((hB5.setCell (p := ⟨g, 0, none⟩) hgw (.int .i64 1)).setCell (p := ⟨g, 1, none⟩) hgw (.int .u8 1)).setCell (p := ⟨g, 2, none⟩) hgw (.slice (some ⟨gs, 0, none⟩) 4 4)
 have HE := Lib.hid hE
 have HL6 := Lib.hid hL6
 have HB6 := Lib.hid hB6
 clear hE hL6 hB6 hL5 hB5 hQ5 hR5
 go_wp2_with fail
 obtain ⟨W, hW⟩ : ∃ W, ((W5.setCell ⟨g, 0, none⟩ (.int .i64 1)).setCell ⟨g, 1, none⟩ (.int .u8 1)).setCell ⟨g, 2, none⟩ (.slice (some ⟨gs, 0, none⟩) 4 4) = W := ⟨_, rfl⟩
 have hE := HE.out
 have hL6 := HL6.out
 have hB6 := HB6.out
 rw [hW] at hE hL6 hB6 ⊢
 clear hW HE HL6 HB6 c0 c1 c2 d0 d1 d2
 have q0 := hE.cell 0
 have q1 := hE.cell 1
 have q2 := hE.cell 2
 simp at q0 q1 q2
 refine bodyPost_ret (v := .agg #[.int .i64 1, .int .u8 1, .slice (some ⟨gs, 0, none⟩) 4 4]) (by simp [results, Tryz.results23, go_sem, q0, q1, q2]; done) rfl ?_
 exact ⟨gs, rfl, ⟨slr_blkR hL6 (fun _ => rfl) (fun _ => rfl), by decide, fun r hr => ⟨Nat.le_trans ((base_ok 3).1.2.2.2.1 r hr).2.1.1 (by decide), Nat.le_trans ((base_ok 3).1.2.2.2.1 r hr).2.2.1.1 (by decide)⟩, by decide, by decide⟩, hgsw, hB6⟩
set_option maxHeartbeats 8000000 in
theorem base5_any (q : Int) (w : World) (hq : q % 6 = 5) (h0 : 0 ≤ q ∧ q ≤ 255) : Calls Tryz.prog 23 #[.int .u8 q] w fun e w' => ∃ g, e = .returned (.agg #[.int .i64 1, .int .u8 1, .slice (some ⟨g, 0, none⟩) 5 5]) ∧ ScIn w' (baseS 5) (some ⟨g, 0, none⟩) 5 ∧ w.heap.size ≤ g ∧ Below w.heap.size w w' := by
 have htm : q.tmod 6 = 5 := by rw [Int.tmod_eq_emod_of_nonneg h0.1]; exact hq
 obtain ⟨w3, hw3⟩ : ∃ w3, ((w.alloc (.cells #[.int .i64 0, .int .u8 0, .slice none 0 0] 30)).alloc (.cells #[.int .i64 1, .int .u8 1, .slice none 0 0] 30)).alloc (.cells #[.int .i64 0, .int .i64 0] 100) = w3 := ⟨_, rfl⟩
 have HW3 := Lib.hid hw3
 clear hw3
 go_enter Tryz.func23, Tryz.ntmps23
 go_upto_region 4 with fail
 rw [HW3.out]
 obtain ⟨g, hg⟩ : ∃ g, w.heap.size = g := ⟨_, rfl⟩
 rw [hg]
 have hb3 : Below w.heap.size w w3 := by rw [← HW3.out]; exact nw _ (nw _ (nw _ (Below.refl _ _)))
 have hR : Blk w3 g 30 #[.int .i64 0, .int .u8 0, .slice none 0 0] := by rw [← HW3.out, ← hg]; exact ((Blk.new _ _ _).alloc _).alloc _
 have hQ : Blk w3 (g + 1) 30 #[.int .i64 1, .int .u8 1, .slice none 0 0] := by rw [← HW3.out]; exact (Blk.new_ (by simp; omega)).alloc _
 have hA : Blk w3 (g + 2) 100 #[.int .i64 0, .int .i64 0] := by rw [← HW3.out]; exact Blk.new_ (by simp; omega)
 have HB3 := Lib.hid hb3
 have HR := Lib.hid hR
 have HQ := Lib.hid hQ
 have a0 := hA.cell 0
 have a1 := hA.cell 1
 have al := hA.lt
 have s2 := hQ.cell 2
 have sf2 := hQ.frozen 2
 have sl := hQ.lt
 simp at a0 a1 s2
 clear hb3 hR hQ hA HW3
 refine ordT_below [11] [(0, false), (2, false), (4, false), (6, false), (8, false), (1, true), (3, true), (5, true), (7, true), (9, true), (10, false), (11, true)] (by kernel_rfl) (by kernel_rfl) (by kernel_rfl) (fun _ _ _ _ _ h => h) ?_
 intro W0 hS0
 refine ordT_take (v := ?_) rfl rfl hS0 ?_ ?_
 rotate_left 1
 focus (intro W hW; obtain ⟨hcW, hfW⟩ := bcell hW; (go_simp <;> with_reducible rfl))
 simp only [Act.put, zA, zB, zC]
 refine ordT_take (v := ?_) rfl rfl hS0 ?_ ?_
 rotate_left 1
 focus (intro W hW; obtain ⟨hcW, hfW⟩ := bcell hW; (go_simp <;> with_reducible rfl))
 simp only [Act.put, zA, zB, zC]
 refine ordT_take (v := ?_) rfl rfl hS0 ?_ ?_
 rotate_left 1
 focus (intro W hW; obtain ⟨hcW, hfW⟩ := bcell hW; (go_simp <;> with_reducible rfl))
 simp only [Act.put, zA, zB, zC]
 refine ordT_take (v := ?_) rfl rfl hS0 ?_ ?_
 rotate_left 1
 focus (intro W hW; obtain ⟨hcW, hfW⟩ := bcell hW; (go_simp <;> with_reducible rfl))
 simp only [Act.put, zA, zB, zC]
 refine ordT_take (v := ?_) rfl rfl hS0 ?_ ?_
 rotate_left 1
 focus (intro W hW; obtain ⟨hcW, hfW⟩ := bcell hW; (go_simp <;> with_reducible rfl))
 simp only [Act.put, zA, zB, zC]
 refine ordT_call rfl rfl (fun K hK => ?_)
 go_simp
 go_at_call 49
 refine (simple_any 0 0 _ _ _).mono ?_
 rintro e W1 ⟨rfl, hq1⟩
 have hS1 := hS0.trans (hq1.mono hS0.size)
 refine hK.out _ _ (fun _ => hS1) ?_
 clear hK K
 refine ordT_call rfl rfl (fun K hK => ?_)
 go_simp
 go_at_call 49
 refine (simple_any 0 0 _ _ _).mono ?_
 rintro e W2 ⟨rfl, hq2⟩
 have hS2 := hS1.trans (hq2.mono hS1.size)
 refine hK.out _ _ (fun _ => hS2) ?_
 clear hK K
 refine ordT_call rfl rfl (fun K hK => ?_)
 go_simp
 go_at_call 49
 refine (simple_any 0 0 _ _ _).mono ?_
 rintro e W3 ⟨rfl, hq3⟩
 have hS3 := hS2.trans (hq3.mono hS2.size)
 refine hK.out _ _ (fun _ => hS3) ?_
 clear hK K
 refine ordT_call rfl rfl (fun K hK => ?_)
 go_simp
 go_at_call 49
 refine (simple_any 0 0 _ _ _).mono ?_
 rintro e W4 ⟨rfl, hq4⟩
 have hS4 := hS3.trans (hq4.mono hS3.size)
 refine hK.out _ _ (fun _ => hS4) ?_
 clear hK K
 refine ordT_call rfl rfl (fun K hK => ?_)
 go_simp
 refine hK.out _ _ (fun _ => hS4.alloc hS4.size _) ?_
 clear hK K
 obtain ⟨gs, hgs⟩ : ∃ x, W4.heap.size = x := ⟨_, rfl⟩
 generalize hWX : W4.alloc (.cells _ 61) = WX
 have hLX : Blk WX gs 61 ((baseS 5).rs.flatMap encRu5).toArray := by rw [← hWX]; exact Blk.new_ hgs.symm
 have hS4X : Below w3.heap.size w3 WX := by rw [← hWX]; exact hS4.alloc hS4.size _
 have hgs3 : w3.heap.size ≤ gs := by rw [← hgs]; exact hS4.size
 have HGS := Lib.hid hgs3
 rw [hgs]
 clear hWX hgs hq1 hq2 hq3 hq4 hS0 hS1 hS2 hS3 hS4
 refine ordT_take (v := ?_) rfl rfl hS4X ?_ ?_
 rotate_left 1
 focus (intro W hW; obtain ⟨hcW, hfW⟩ := bcell hW; (go_simp <;> with_reducible rfl))
 simp only [Act.put, zA, zB, zC]
 refine ordT_call rfl rfl (fun K hK => ?_)
 obtain ⟨hcS, hfS⟩ := bcell hS4X
 go_simp
 refine hK.out _ _ (fun h => by cases h) ?_
 clear hK K hcS hfS
 refine ordT_nil ?_
 have hQ5 := (HQ.out.below hS4X HQ.out.lt).set_ 2 (.slice (some ⟨gs, 0, none⟩) 5 5)
 have hgsl := hLX.lt
 have hR5 := (HR.out.below hS4X HR.out.lt).far (p := ⟨g + 1, 2, none⟩) (by simp) (.slice (some ⟨gs, 0, none⟩) 5 5)
 have hL5 := hLX.far (p := ⟨g + 1, 2, none⟩) (show gs ≠ g + 1 by have := HGS.out; omega) (.slice (some ⟨gs, 0, none⟩) 5 5)
 have hB5 := (HB3.out.trans (hS4X.mono HB3.out.size)).setCell (p := ⟨g + 1, 2, none⟩) (show w.heap.size ≤ g + 1 by omega) (.slice (some ⟨gs, 0, none⟩) 5 5)
 have hgsw : w.heap.size ≤ gs := by have := HGS.out; have := HB3.out.size; omega
 obtain ⟨W5, hW5⟩ : ∃ W, WX.setCell ⟨g + 1, 2, none⟩ (.slice (some ⟨gs, 0, none⟩) 5 5) = W := ⟨_, rfl⟩
 rw [hW5] at hQ5 hR5 hL5 hB5 ⊢
 clear hW5 hLX hS4X a0 a1 al s2 sf2 sl
 have c0 := hQ5.cell 0
 have c1 := hQ5.cell 1
 have c2 := hQ5.cell 2
 have cl := hQ5.lt
 have d0 := hR5.cell 0
 have d1 := hR5.cell 1
 have d2 := hR5.cell 2
 have dl := hR5.lt
 have f0 := hR5.frozen 0
 have f1 := hR5.frozen 1
 have f2 := hR5.frozen 2
 simp at c0 c1 c2 d0 d1 d2
 have hE := ((hR5.set_ 0 (.int .i64 1)).set_ 1 (.int .u8 1)).set_ 2 (.slice (some ⟨gs, 0, none⟩) 5 5)
 have hgn : gs ≠ g := by have := HGS.out; have := HQ.out.lt; omega
 have hL6 := ((hL5.far (p := ⟨g, 0, none⟩) hgn (.int .i64 1)).far (p := ⟨g, 1, none⟩) hgn (.int .u8 1)).far (p := ⟨g, 2, none⟩) hgn (.slice (some ⟨gs, 0, none⟩) 5 5)
 have hgw : w.heap.size ≤ g := by omega
 have hB6 := ((hB5.setCell (p := ⟨g, 0, none⟩) hgw (.int .i64 1)).setCell (p := ⟨g, 1, none⟩) hgw (.int .u8 1)).setCell (p := ⟨g, 2, none⟩) hgw (.slice (some ⟨gs, 0, none⟩) 5 5)
 have HE := Lib.hid hE
 have HL6 := Lib.hid hL6
 have HB6 := Lib.hid hB6
 clear hE hL6 hB6 hL5 hB5 hQ5 hR5
 go_wp2_with fail
 obtain ⟨W, hW⟩ : ∃ W, ((W5.setCell ⟨g, 0, none⟩ (.int .i64 1)).setCell ⟨g, 1, none⟩ (.int .u8 1)).setCell ⟨g, 2, none⟩ (.slice (some ⟨gs, 0, none⟩) 5 5) = W := ⟨_, rfl⟩
 have hE := HE.out
 have hL6 := HL6.out
 have hB6 := HB6.out
 rw [hW] at hE hL6 hB6 ⊢
 clear hW HE HL6 HB6 c0 c1 c2 d0 d1 d2
 have q0 := hE.cell 0
 have q1 := hE.cell 1
 have q2 := hE.cell 2
 simp at q0 q1 q2
 refine bodyPost_ret (v := .agg #[.int .i64 1, .int .u8 1, .slice (some ⟨gs, 0, none⟩) 5 5]) (by simp [results, Tryz.results23, go_sem, q0, q1, q2]; done) rfl ?_
 exact ⟨gs, rfl, ⟨slr_blkR hL6 (fun _ => rfl) (fun _ => rfl), by decide, fun r hr => ⟨Nat.le_trans ((base_ok 5).1.2.2.2.1 r hr).2.1.1 (by decide), Nat.le_trans ((base_ok 5).1.2.2.2.1 r hr).2.2.1.1 (by decide)⟩, by decide, by decide⟩, hgsw, hB6⟩
set_option maxHeartbeats 8000000 in
theorem base2_any (q : Int) (w : World) (hq : q % 6 = 2) (h0 : 0 ≤ q ∧ q ≤ 255) : Calls Tryz.prog 23 #[.int .u8 q] w fun e w' => ∃ g, e = .returned (.agg #[.int .i64 2, .int .u8 1, .slice (some ⟨g, 0, none⟩) 5 5]) ∧ ScIn w' (baseS 2) (some ⟨g, 0, none⟩) 5 ∧ w.heap.size ≤ g ∧ Below w.heap.size w w' := by
 have htm : q.tmod 6 = 2 := by rw [Int.tmod_eq_emod_of_nonneg h0.1]; exact hq
 obtain ⟨w3, hw3⟩ : ∃ w3, ((w.alloc (.cells #[.int .i64 0, .int .u8 0, .slice none 0 0] 30)).alloc (.cells #[.int .i64 1, .int .u8 1, .slice none 0 0] 30)).alloc (.cells #[.int .i64 0, .int .i64 0] 100) = w3 := ⟨_, rfl⟩
 have HW3 := Lib.hid hw3
 clear hw3
 go_enter Tryz.func23, Tryz.ntmps23
 go_upto_region 10 with fail
 rw [HW3.out]
 obtain ⟨g, hg⟩ : ∃ g, w.heap.size = g := ⟨_, rfl⟩
 rw [hg]
 have hb3 : Below w.heap.size w w3 := by rw [← HW3.out]; exact nw _ (nw _ (nw _ (Below.refl _ _)))
 have hR : Blk w3 g 30 #[.int .i64 0, .int .u8 0, .slice none 0 0] := by rw [← HW3.out, ← hg]; exact ((Blk.new _ _ _).alloc _).alloc _
 have hQ : Blk w3 (g + 1) 30 #[.int .i64 1, .int .u8 1, .slice none 0 0] := by rw [← HW3.out]; exact (Blk.new_ (by simp; omega)).alloc _
 have hA : Blk w3 (g + 2) 100 #[.int .i64 0, .int .i64 0] := by rw [← HW3.out]; exact Blk.new_ (by simp; omega)
 have HB3 := Lib.hid hb3
 have HR := Lib.hid hR
 have HQ := Lib.hid hQ
 have a0 := hA.cell 0
 have a1 := hA.cell 1
 have al := hA.lt
 have s0 := hQ.cell 0
 have s1 := hQ.cell 1
 have s2 := hQ.cell 2
 have sf0 := hQ.frozen 0
 have sf1 := hQ.frozen 1
 have sf2 := hQ.frozen 2
 have sl := hQ.lt
 simp at a0 a1 s0 s1 s2
 clear hb3 hR hQ hA HW3
 refine ordT_below [12] [(0, false), (2, false), (4, false), (6, false), (8, false), (1, true), (3, true), (5, true), (7, true), (9, true), (10, true), (11, false), (12, true)] (by kernel_rfl) (by kernel_rfl) (by kernel_rfl) (fun _ _ _ _ _ h => h) ?_
 intro W0 hS0
 refine ordT_take (v := ?_) rfl rfl hS0 ?_ ?_
 rotate_left 1
 focus (intro W hW; obtain ⟨hcW, hfW⟩ := bcell hW; (go_simp <;> with_reducible rfl))
 simp only [Act.put, zA, zB, zC]
 refine ordT_take (v := ?_) rfl rfl hS0 ?_ ?_
 rotate_left 1
 focus (intro W hW; obtain ⟨hcW, hfW⟩ := bcell hW; (go_simp <;> with_reducible rfl))
 simp only [Act.put, zA, zB, zC]
 refine ordT_take (v := ?_) rfl rfl hS0 ?_ ?_
 rotate_left 1
 focus (intro W hW; obtain ⟨hcW, hfW⟩ := bcell hW; (go_simp <;> with_reducible rfl))
 simp only [Act.put, zA, zB, zC]
 refine ordT_take (v := ?_) rfl rfl hS0 ?_ ?_
 rotate_left 1
 focus (intro W hW; obtain ⟨hcW, hfW⟩ := bcell hW; (go_simp <;> with_reducible rfl))
 simp only [Act.put, zA, zB, zC]
 refine ordT_take (v := ?_) rfl rfl hS0 ?_ ?_
 rotate_left 1
 focus (intro W hW; obtain ⟨hcW, hfW⟩ := bcell hW; (go_simp <;> with_reducible rfl))
 simp only [Act.put, zA, zB, zC]
 refine ordT_call rfl rfl (fun K hK => ?_)
 go_simp
 go_at_call 49
 refine (simple_any 0 1 _ _ _).mono ?_
 rintro e W1 ⟨rfl, hq1⟩
 have hS1 := hS0.trans (hq1.mono hS0.size)
 refine hK.out _ _ (fun _ => hS1) ?_
 clear hK K
 refine ordT_call rfl rfl (fun K hK => ?_)
 go_simp
 go_at_call 49
 refine (simple_any 1 0 _ _ _).mono ?_
 rintro e W2 ⟨rfl, hq2⟩
 have hS2 := hS1.trans (hq2.mono hS1.size)
 refine hK.out _ _ (fun _ => hS2) ?_
 clear hK K
 refine ordT_call rfl rfl (fun K hK => ?_)
 go_simp
 go_at_call 49
 refine (simple_any 1 0 _ _ _).mono ?_
 rintro e W3 ⟨rfl, hq3⟩
 have hS3 := hS2.trans (hq3.mono hS2.size)
 refine hK.out _ _ (fun _ => hS3) ?_
 clear hK K
 refine ordT_call rfl rfl (fun K hK => ?_)
 go_simp
 go_at_call 49
 refine (simple_any 0 0 _ _ _).mono ?_
 rintro e W4 ⟨rfl, hq4⟩
 have hS4 := hS3.trans (hq4.mono hS3.size)
 refine hK.out _ _ (fun _ => hS4) ?_
 clear hK K
 refine ordT_call rfl rfl (fun K hK => ?_)
 go_simp
 go_at_call 49
 refine (simple_any 0 0 _ _ _).mono ?_
 rintro e W5 ⟨rfl, hq5⟩
 have hS5 := hS4.trans (hq5.mono hS4.size)
 refine hK.out _ _ (fun _ => hS5) ?_
 clear hK K
 refine ordT_call rfl rfl (fun K hK => ?_)
 go_simp
 refine hK.out _ _ (fun _ => hS5.alloc hS5.size _) ?_
 clear hK K
 obtain ⟨gs, hgs⟩ : ∃ x, W5.heap.size = x := ⟨_, rfl⟩
 generalize hWX : W5.alloc (.cells _ 61) = WX
 have hLX : Blk WX gs 61 ((baseS 2).rs.flatMap encRu5).toArray := by rw [← hWX]; exact Blk.new_ hgs.symm
 have hS4X : Below w3.heap.size w3 WX := by rw [← hWX]; exact hS5.alloc hS5.size _
 have hgs3 : w3.heap.size ≤ gs := by rw [← hgs]; exact hS5.size
 have HGS := Lib.hid hgs3
 rw [hgs]
 clear hWX hgs hq1 hq2 hq3 hq4 hq5 hS0 hS1 hS2 hS3 hS4 hS5
 refine ordT_take (v := ?_) rfl rfl hS4X ?_ ?_
 rotate_left 1
 focus (intro W hW; obtain ⟨hcW, hfW⟩ := bcell hW; (go_simp <;> with_reducible rfl))
 simp only [Act.put, zA, zB, zC]
 refine ordT_call rfl rfl (fun K hK => ?_)
 obtain ⟨hcS, hfS⟩ := bcell hS4X
 go_simp
 refine hK.out _ _ (fun h => by cases h) ?_
 clear hK K hcS hfS
 refine ordT_nil ?_
 have hQ5 := (((HQ.out.below hS4X HQ.out.lt).set_ 0 (.int .i64 2)).set_ 1 (.int .u8 1)).set_ 2 (.slice (some ⟨gs, 0, none⟩) 5 5)
 have hgsl := hLX.lt
 have hR5 := ((((HR.out.below hS4X HR.out.lt).far (p := ⟨g + 1, 0, none⟩) (by simp) (.int .i64 2)).far (p := ⟨g + 1, 1, none⟩) (by simp) (.int .u8 1)).far (p := ⟨g + 1, 2, none⟩) (by simp) (.slice (some ⟨gs, 0, none⟩) 5 5))
 have hgs1 : gs ≠ g + 1 := by have := HGS.out; omega
 have hL5 := (((hLX.far (p := ⟨g + 1, 0, none⟩) hgs1 (.int .i64 2)).far (p := ⟨g + 1, 1, none⟩) hgs1 (.int .u8 1)).far (p := ⟨g + 1, 2, none⟩) hgs1 (.slice (some ⟨gs, 0, none⟩) 5 5))
 have hB5 := ((((HB3.out.trans (hS4X.mono HB3.out.size)).setCell (p := ⟨g + 1, 0, none⟩) (show w.heap.size ≤ g + 1 by omega) (.int .i64 2)).setCell (p := ⟨g + 1, 1, none⟩) (show w.heap.size ≤ g + 1 by omega) (.int .u8 1)).setCell (p := ⟨g + 1, 2, none⟩) (show w.heap.size ≤ g + 1 by omega) (.slice (some ⟨gs, 0, none⟩) 5 5))
 have hgsw : w.heap.size ≤ gs := by have := HGS.out; have := HB3.out.size; omega
 obtain ⟨W5, hW5⟩ : ∃ W, (((WX.setCell ⟨g + 1, 0, none⟩ (.int .i64 2)).setCell ⟨g + 1, 1, none⟩ (.int .u8 1)).setCell ⟨g + 1, 2, none⟩ (.slice (some ⟨gs, 0, none⟩) 5 5)) = W := ⟨_, rfl⟩
 rw [hW5] at hQ5 hR5 hL5 hB5 ⊢
 clear hW5 hLX hS4X a0 a1 al s0 s1 s2 sf0 sf1 sf2 sl
 have c0 := hQ5.cell 0
 have c1 := hQ5.cell 1
 have c2 := hQ5.cell 2
 have cl := hQ5.lt
 have d0 := hR5.cell 0
 have d1 := hR5.cell 1
 have d2 := hR5.cell 2
 have dl := hR5.lt
 have f0 := hR5.frozen 0
 have f1 := hR5.frozen 1
 have f2 := hR5.frozen 2
 simp at c0 c1 c2 d0 d1 d2
 have hE := ((hR5.set_ 0 (.int .i64 2)).set_ 1 (.int .u8 1)).set_ 2 (.slice (some ⟨gs, 0, none⟩) 5 5)
 have hgn : gs ≠ g := by have := HGS.out; have := HQ.out.lt; omega
 have hL6 := ((hL5.far (p := ⟨g, 0, none⟩) hgn (.int .i64 2)).far (p := ⟨g, 1, none⟩) hgn (.int .u8 1)).far (p := ⟨g, 2, none⟩) hgn (.slice (some ⟨gs, 0, none⟩) 5 5)
 have hgw : w.heap.size ≤ g := by omega
 have hB6 := ((hB5.setCell (p := ⟨g, 0, none⟩) hgw (.int .i64 2)).setCell (p := ⟨g, 1, none⟩) hgw (.int .u8 1)).setCell (p := ⟨g, 2, none⟩) hgw (.slice (some ⟨gs, 0, none⟩) 5 5)
 have HE := Lib.hid hE
 have HL6 := Lib.hid hL6
 have HB6 := Lib.hid hB6
 clear hE hL6 hB6 hL5 hB5 hQ5 hR5
 go_wp2_with fail
 obtain ⟨W, hW⟩ : ∃ W, ((W5.setCell ⟨g, 0, none⟩ (.int .i64 2)).setCell ⟨g, 1, none⟩ (.int .u8 1)).setCell ⟨g, 2, none⟩ (.slice (some ⟨gs, 0, none⟩) 5 5) = W := ⟨_, rfl⟩
 have hE := HE.out
 have hL6 := HL6.out
 have hB6 := HB6.out
 rw [hW] at hE hL6 hB6 ⊢
 clear hW HE HL6 HB6 c0 c1 c2 d0 d1 d2
 have q0 := hE.cell 0
 have q1 := hE.cell 1
 have q2 := hE.cell 2
 simp at q0 q1 q2
 refine bodyPost_ret (v := .agg #[.int .i64 2, .int .u8 1, .slice (some ⟨gs, 0, none⟩) 5 5]) (by simp [results, Tryz.results23, go_sem, q0, q1, q2]; done) rfl ?_
 exact ⟨gs, rfl, ⟨slr_blkR hL6 (fun _ => rfl) (fun _ => rfl), by decide, fun r hr => ⟨Nat.le_trans ((base_ok 2).1.2.2.2.1 r hr).2.1.1 (by decide), Nat.le_trans ((base_ok 2).1.2.2.2.1 r hr).2.2.1.1 (by decide)⟩, by decide, by decide⟩, hgsw, hB6⟩
set_option maxHeartbeats 8000000 in
theorem base4_any (q : Int) (w : World) (hq : q % 6 = 4) (h0 : 0 ≤ q ∧ q ≤ 255) : Calls Tryz.prog 23 #[.int .u8 q] w fun e w' => ∃ g, e = .returned (.agg #[.int .i64 1, .int .u8 1, .slice (some ⟨g, 0, none⟩) 4 4]) ∧ ScIn w' (baseS 4) (some ⟨g, 0, none⟩) 4 ∧ w.heap.size ≤ g ∧ Below w.heap.size w w' := by
 have htm : q.tmod 6 = 4 := by rw [Int.tmod_eq_emod_of_nonneg h0.1]; exact hq
 obtain ⟨w3, hw3⟩ : ∃ w3, ((w.alloc (.cells #[.int .i64 0, .int .u8 0, .slice none 0 0] 30)).alloc (.cells #[.int .i64 1, .int .u8 1, .slice none 0 0] 30)).alloc (.cells #[.int .i64 0, .int .i64 0] 100) = w3 := ⟨_, rfl⟩
 have HW3 := Lib.hid hw3
 clear hw3
 go_enter Tryz.func23, Tryz.ntmps23
 go_upto_region 14 with fail
 rw [HW3.out]
 obtain ⟨g, hg⟩ : ∃ g, w.heap.size = g := ⟨_, rfl⟩
 rw [hg]
 have hb3 : Below w.heap.size w w3 := by rw [← HW3.out]; exact nw _ (nw _ (nw _ (Below.refl _ _)))
 have hR : Blk w3 g 30 #[.int .i64 0, .int .u8 0, .slice none 0 0] := by rw [← HW3.out, ← hg]; exact ((Blk.new _ _ _).alloc _).alloc _
 have hQ : Blk w3 (g + 1) 30 #[.int .i64 1, .int .u8 1, .slice none 0 0] := by rw [← HW3.out]; exact (Blk.new_ (by simp; omega)).alloc _
 have hA : Blk w3 (g + 2) 100 #[.int .i64 0, .int .i64 0] := by rw [← HW3.out]; exact Blk.new_ (by simp; omega)
 have HB3 := Lib.hid hb3
 have HR := Lib.hid hR
 have HQ := Lib.hid hQ
 have a0 := hA.cell 0
 have a1 := hA.cell 1
 have al := hA.lt
 have s2 := hQ.cell 2
 have sf2 := hQ.frozen 2
 have sl := hQ.lt
 simp at a0 a1 s2
 clear hb3 hR hQ hA HW3 s2 sf2 sl
 go_upto_region 15 with (go_at_call 49; go_loud (refine (simple_any 0 0 _ _ _).mono ?_; rintro e W1 ⟨rfl, hq1⟩; have s2 := (HQ.out.below hq1 HQ.out.lt).cell 2; have sf2 := (HQ.out.below hq1 HQ.out.lt).frozen 2; have sl := (HQ.out.below hq1 HQ.out.lt).lt; simp at s2))
 obtain ⟨gs, hgs⟩ : ∃ x, W1.heap.size = x := ⟨_, rfl⟩
 rw [hgs]
 have hgs3 : w3.heap.size ≤ gs := by rw [← hgs]; exact hq1.size
 have HGS := Lib.hid hgs3
 have hgsw : w.heap.size ≤ gs := by have := HGS.out; have := HB3.out.size; omega
 have hQ5 := ((HQ.out.below hq1 HQ.out.lt).set_ 2 (.slice (some ⟨gs, 0, none⟩) 4 4)).alloc (.cells #[.int .i64 0, .int .i64 0, .string ⟨#[97]⟩, .string ⟨#[97]⟩, .int .i64 1, .int .i64 0, .int .i64 0, .string ⟨#[98]⟩, .string ⟨#[98]⟩, .int .i64 0, .int .i64 0, .int .i64 0, .string ⟨#[99]⟩, .string ⟨#[98]⟩, .int .i64 7, .int .i64 0, .int .i64 0, .string ⟨#[98]⟩, .string ⟨#[99]⟩, .int .i64 9] 61)
 have hR5 := ((HR.out.below hq1 HR.out.lt).far (p := ⟨g + 1, 2, none⟩) (by simp) (.slice (some ⟨gs, 0, none⟩) 4 4)).alloc (.cells #[.int .i64 0, .int .i64 0, .string ⟨#[97]⟩, .string ⟨#[97]⟩, .int .i64 1, .int .i64 0, .int .i64 0, .string ⟨#[98]⟩, .string ⟨#[98]⟩, .int .i64 0, .int .i64 0, .int .i64 0, .string ⟨#[99]⟩, .string ⟨#[98]⟩, .int .i64 7, .int .i64 0, .int .i64 0, .string ⟨#[98]⟩, .string ⟨#[99]⟩, .int .i64 9] 61)
 have hB5 := nw (.cells #[.int .i64 0, .int .i64 0, .string ⟨#[97]⟩, .string ⟨#[97]⟩, .int .i64 1, .int .i64 0, .int .i64 0, .string ⟨#[98]⟩, .string ⟨#[98]⟩, .int .i64 0, .int .i64 0, .int .i64 0, .string ⟨#[99]⟩, .string ⟨#[98]⟩, .int .i64 7, .int .i64 0, .int .i64 0, .string ⟨#[98]⟩, .string ⟨#[99]⟩, .int .i64 9] 61) ((HB3.out.trans (hq1.mono HB3.out.size)).setCell (p := ⟨g + 1, 2, none⟩) (show w.heap.size ≤ g + 1 by omega) (.slice (some ⟨gs, 0, none⟩) 4 4))
 have hL5 : Blk ((W1.setCell ⟨g + 1, 2, none⟩ (.slice (some ⟨gs, 0, none⟩) 4 4)).alloc (.cells #[.int .i64 0, .int .i64 0, .string ⟨#[97]⟩, .string ⟨#[97]⟩, .int .i64 1, .int .i64 0, .int .i64 0, .string ⟨#[98]⟩, .string ⟨#[98]⟩, .int .i64 0, .int .i64 0, .int .i64 0, .string ⟨#[99]⟩, .string ⟨#[98]⟩, .int .i64 7, .int .i64 0, .int .i64 0, .string ⟨#[98]⟩, .string ⟨#[99]⟩, .int .i64 9] 61)) gs 61 ((baseS 4).rs.flatMap encRu5).toArray := Blk.new_ (by simp [hgs])
 obtain ⟨W5, hW5⟩ : ∃ W, (W1.setCell ⟨g + 1, 2, none⟩ (.slice (some ⟨gs, 0, none⟩) 4 4)).alloc (.cells #[.int .i64 0, .int .i64 0, .string ⟨#[97]⟩, .string ⟨#[97]⟩, .int .i64 1, .int .i64 0, .int .i64 0, .string ⟨#[98]⟩, .string ⟨#[98]⟩, .int .i64 0, .int .i64 0, .int .i64 0, .string ⟨#[99]⟩, .string ⟨#[98]⟩, .int .i64 7, .int .i64 0, .int .i64 0, .string ⟨#[98]⟩, .string ⟨#[99]⟩, .int .i64 9] 61) = W := ⟨_, rfl⟩
 rw [hW5] at hQ5 hR5 hL5 hB5 ⊢
 clear hW5 hq1 hgs a0 a1 al s2 sf2 sl
 have c0 := hQ5.cell 0
 have c1 := hQ5.cell 1
 have c2 := hQ5.cell 2
 have cl := hQ5.lt
 have d0 := hR5.cell 0
 have d1 := hR5.cell 1
 have d2 := hR5.cell 2
 have dl := hR5.lt
 have f0 := hR5.frozen 0
 have f1 := hR5.frozen 1
 have f2 := hR5.frozen 2
 simp at c0 c1 c2 d0 d1 d2
 have hE := ((hR5.set_ 0 (.int .i64 1)).set_ 1 (.int .u8 1)).set_ 2 (.slice (some ⟨gs, 0, none⟩) 4 4)
 have hgn : gs ≠ g := by have := HGS.out; have := HQ.out.lt; omega
 have hL6 := ((hL5.far (p := ⟨g, 0, none⟩) hgn (.int .i64 1)).far (p := ⟨g, 1, none⟩) hgn (.int .u8 1)).far (p := ⟨g, 2, none⟩) hgn (.slice (some ⟨gs, 0, none⟩) 4 4)
 have hgw : w.heap.size ≤ g := by omega
 have hB6 := ((hB5.setCell (p := ⟨g, 0, none⟩) hgw (.int .i64 1)).setCell (p := ⟨g, 1, none⟩) hgw (.int .u8 1)).setCell (p := ⟨g, 2, none⟩) hgw (.slice (some ⟨gs, 0, none⟩) 4 4)
 have HE := Lib.hid hE
 have HL6 := Lib.hid hL6
 have HB6 := Lib.hid hB6
 clear hE hL6 hB6 hL5 hB5 hQ5 hR5
 go_wp2_with fail
 obtain ⟨W, hW⟩ : ∃ W, ((W5.setCell ⟨g, 0, none⟩ (.int .i64 1)).setCell ⟨g, 1, none⟩ (.int .u8 1)).setCell ⟨g, 2, none⟩ (.slice (some ⟨gs, 0, none⟩) 4 4) = W := ⟨_, rfl⟩
 have hE := HE.out
 have hL6 := HL6.out
 have hB6 := HB6.out
 rw [hW] at hE hL6 hB6 ⊢
 clear hW HE HL6 HB6 c0 c1 c2 d0 d1 d2
 have q0 := hE.cell 0
 have q1 := hE.cell 1
 have q2 := hE.cell 2
 simp at q0 q1 q2
 refine bodyPost_ret (v := .agg #[.int .i64 1, .int .u8 1, .slice (some ⟨gs, 0, none⟩) 4 4]) (by simp [results, Tryz.results23, go_sem, q0, q1, q2]; done) rfl ?_
 exact ⟨gs, rfl, ⟨slr_blkR hL6 (fun _ => rfl) (fun _ => rfl), by decide, fun r hr => ⟨Nat.le_trans ((base_ok 4).1.2.2.2.1 r hr).2.1.1 (by decide), Nat.le_trans ((base_ok 4).1.2.2.2.1 r hr).2.2.1.1 (by decide)⟩, by decide, by decide⟩, hgsw, hB6⟩
end Go.Proofs.YtfpnhgahkjglgaaGreat
