/-
  The walks of layer 21: sanity.
-/
import Derived.Test.YtpjecpefbfobdaaAreaWalkN
namespace Go.Proofs.Ytpjecpefbfobdaa
open Go Go.RowKit

set_option maxRecDepth 100000 in
set_option maxHeartbeats 8000000 in
theorem sanity_any (w : World) : Calls Try.prog 11 #[] w fun e w' => e = .returned (.bool true) ∧ Below w.heap.size w w' := by
  have HTwo := Lib.hid (two_any w)
  go_enter Try.func11, Try.ntmps11
  go_wp2_with (go_at_call 30; refine HTwo.out.mono ?_; rintro e wt ⟨g, rfl, hsl, hbt⟩)
  obtain ⟨W1, hW1⟩ : ∃ W1, wt.alloc (.cells #[.slice (some ⟨g, 0, none⟩) 2 2, .slice none 0 0, .slice none 0 0] 31) = W1 := ⟨_, rfl⟩
  have hb1 : Below wt.heap.size wt W1 := by rw [← hW1]; exact nw _ (Below.refl _ _)
  have hB1 : Blk W1 wt.heap.size 31 #[.slice (some ⟨g, 0, none⟩) 2 2, .slice none 0 0, .slice none 0 0] := by rw [← hW1]; exact Blk.new _ _ _
  have HS1 := Lib.hid (hsl.below keeps_ar hb1)
  have HBw := Lib.hid (hbt.trans (hb1.mono hbt.size))
  have HBx : Hid (∀ W, Below W1.heap.size W1 W → W.cell? ⟨wt.heap.size, 0, none⟩ = some (.slice (some ⟨g, 0, none⟩) 2 2) ∧ W.cell? ⟨wt.heap.size, 1, none⟩ = some (.slice none 0 0) ∧ W.cell? ⟨wt.heap.size, 2, none⟩ = some (.slice none 0 0) ∧ wt.heap.size < W.heap.size) := fun W hW =>
    have h := hB1.below hW hB1.lt
    ⟨h.cell 0, h.cell 1, h.cell 2, h.lt⟩
  have T2 : Hid (∀ W, Below W1.heap.size W1 W → Calls Try.prog 15 #[.agg #[.slice (some ⟨g, 0, none⟩) 2 2, .slice none 0 0, .slice none 0 0], .slice none 0 0, vPt ⟨4, 4⟩] W fun e w' => ∃ A' c', e = .returned (.tuple #[.slice A' 2 c', .int .i64 0]) ∧ SlR 2 RCho w' A' [⟨97, 0⟩, ⟨98, 2⟩] ∧ Below W.heap.size W w') := fun W hW => by
    have := touch_any twoA (some ⟨g, 0, none⟩) 2 (.slice none 0 0) (.slice none 0 0) [] none 0 ⟨4, 4⟩ W (HS1.out.below keeps_ar hW) (by decide) twoA_ok.1 twoA_ok.2 SlR.nil (by decide) (by simp)
    rw [want2] at this
    exact this
  have T3 : Hid (∀ W, Below W1.heap.size W1 W → Calls Try.prog 15 #[.agg #[.slice (some ⟨g, 0, none⟩) 2 2, .slice none 0 0, .slice none 0 0], .slice none 0 0, vPt ⟨30, 5⟩] W fun e w' => ∃ A' c', e = .returned (.tuple #[.slice A' 2 c', .int .i64 0]) ∧ SlR 2 RCho w' A' [⟨97, 27⟩, ⟨98, 7⟩] ∧ Below W.heap.size W w') := fun W hW => by
    have := touch_any twoA (some ⟨g, 0, none⟩) 2 (.slice none 0 0) (.slice none 0 0) [] none 0 ⟨30, 5⟩ W (HS1.out.below keeps_ar hW) (by decide) twoA_ok.1 twoA_ok.2 SlR.nil (by decide) (by simp)
    rw [want3] at this
    exact this
  have T4 : Hid (∀ W, Below W1.heap.size W1 W → Calls Try.prog 15 #[.agg #[.slice (some ⟨g, 0, none⟩) 2 2, .slice none 0 0, .slice none 0 0], .slice none 0 0, vPt ⟨1001, 0⟩] W fun e w' => ∃ A' c', e = .returned (.tuple #[.slice A' 0 c', .int .i64 1]) ∧ SlR 2 RCho w' A' [] ∧ Below W.heap.size W w') := fun W hW => by
    have := touch_any twoA (some ⟨g, 0, none⟩) 2 (.slice none 0 0) (.slice none 0 0) [] none 0 ⟨1001, 0⟩ W (HS1.out.below keeps_ar hW) (by decide) twoA_ok.1 twoA_ok.2 SlR.nil (by decide) (by simp)
    rw [want4] at this
    exact this
  have T5 : Hid (∀ W, Below W1.heap.size W1 W → Calls Try.prog 15 #[.agg #[.slice (some ⟨g, 0, none⟩) 2 2, .slice none 0 0, .slice none 0 0], .slice none 0 0, vPt ⟨1000, 1000⟩] W fun e w' => ∃ A' c', e = .returned (.tuple #[.slice A' 0 c', .int .i64 210]) ∧ SlR 2 RCho w' A' [] ∧ Below W.heap.size W w') := fun W hW => by
    have := touch_any twoA (some ⟨g, 0, none⟩) 2 (.slice none 0 0) (.slice none 0 0) [] none 0 ⟨1000, 1000⟩ W (HS1.out.below keeps_ar hW) (by decide) twoA_ok.1 twoA_ok.2 SlR.nil (by decide) (by simp)
    rw [want5] at this
    exact this
  have T6 : Hid (∀ W, Below W1.heap.size W1 W → Calls Try.prog 17 #[.agg #[.slice (some ⟨g, 0, none⟩) 2 2, .slice none 0 0, .slice none 0 0], .slice none 0 0, .int .u8 97, vPt ⟨7, 2⟩] W fun e w' => ∃ A' c', e = .returned (.tuple #[.slice A' 1 c', .int .i64 0]) ∧ SlR 4 RTp w' A' [⟨97, 3, -2, 1⟩] ∧ Below W.heap.size W w') := fun W hW => by
    have := adapt_any twoA (some ⟨g, 0, none⟩) 2 (.slice none 0 0) (.slice none 0 0) [] none 0 97 ⟨7, 2⟩ W (HS1.out.below keeps_ar hW) (by decide) twoA_ok.1 SlR.nil (by decide) (by simp) (by simp) (by unfold IncT; simp)
    rw [want6] at this
    refine this.mono ?_
    rintro e w' ⟨v, rfl, hown, hb⟩
    obtain ⟨A', c', rfl, _, _, hs⟩ := own_slr (R := RTp) hown (fun _ => rfl) (fun _ => rfl) rfl
    exact ⟨A', c', rfl, hs, hb⟩
  have T7 : Hid (∀ W, Below W1.heap.size W1 W → Calls Try.prog 17 #[.agg #[.slice (some ⟨g, 0, none⟩) 2 2, .slice none 0 0, .slice none 0 0], .slice none 0 0, .int .u8 99, vPt ⟨7, 2⟩] W fun e w' => ∃ A' c', e = .returned (.tuple #[.slice A' 0 c', .int .i64 210]) ∧ SlR 4 RTp w' A' [] ∧ Below W.heap.size W w') := fun W hW => by
    have := adapt_any twoA (some ⟨g, 0, none⟩) 2 (.slice none 0 0) (.slice none 0 0) [] none 0 99 ⟨7, 2⟩ W (HS1.out.below keeps_ar hW) (by decide) twoA_ok.1 SlR.nil (by decide) (by simp) (by simp) (by unfold IncT; simp)
    rw [want7] at this
    refine this.mono ?_
    rintro e w' ⟨v, rfl, hown, hb⟩
    obtain ⟨A', c', rfl, _, _, hs⟩ := own_slr (R := RTp) hown (fun _ => rfl) (fun _ => rfl) rfl
    exact ⟨A', c', rfl, hs, hb⟩
  have V8 : Hid (∀ W, Below W1.heap.size W1 W → Calls Try.prog 23 #[.agg #[.slice (some ⟨g, 0, none⟩) 2 2, .slice none 0 0, .slice none 0 0]] W fun e w' => e = .returned (.bool true) ∧ Below W.heap.size W w') := fun W hW => by
    have := valid_by (some ⟨g, 0, none⟩) none none twoA 0 0 2 0 0 W true true (HS1.out.below keeps_ar hW) (by decide) (by decide) (by unfold maxLen; decide) (fun W _ => templates_nil none 0 W) (fun W _ => chords_nil none 0 W)
    rw [want8] at this
    exact this
  have V9 : Hid (∀ W, Calls Try.prog 23 #[.agg #[.slice (some ⟨W.heap.size, 0, none⟩) 2 2, .slice none 0 0, .slice none 0 0]] (W.alloc (.cells #[.int .u8 97, .int .i64 0, .int .i64 0, .int .i64 9, .int .i64 0, .int .u8 98, .int .i64 9, .int .i64 0, .int .i64 12, .int .i64 0] 57)) fun e w' => e = .returned (.bool false) ∧ Below W.heap.size W w') := fun W => by
    have := valid_by (some ⟨W.heap.size, 0, none⟩) none none [⟨97, 0, 0, 9, 0⟩, ⟨98, 9, 0, 12, 0⟩] 0 0 2 0 0 (W.alloc (.cells #[.int .u8 97, .int .i64 0, .int .i64 0, .int .i64 9, .int .i64 0, .int .u8 98, .int .i64 9, .int .i64 0, .int .i64 12, .int .i64 0] 57)) true true (slr_blk (enc := encA) (Blk.new _ _ _) (fun _ => rfl) (fun _ => rfl)) (by decide) (by decide) (by unfold maxLen; decide) (fun W _ => templates_nil none 0 W) (fun W _ => chords_nil none 0 W)
    rw [want9] at this
    exact this.mono fun e w' ⟨h, hb⟩ => ⟨h, unbox (bx hb)⟩
  rw [hW1]
  have hbW : Below W1.heap.size W1 W1 := Below.refl _ _
  have hbWs := hbW.size
  obtain ⟨y0, y1, y2, yl⟩ := HBx.out _ hbW
  clear hW1 hb1 hB1 hsl hbt
  refine ord_below [(0, false), (1, true), (2, true), (3, false), (4, false), (5, false), (6, false), (7, false)] (by kernel_rfl) (by kernel_rfl) (by kernel_rfl) (fun _ _ _ _ _ h => h) ?_
  intro W0 hS0
  iterate 1 (first
    | (refine ord_skip rfl rfl ?_; simp only [Act.put, List.setIfInBounds_toArray, List.set_cons_zero, List.set_cons_succ])
    | (refine ord_take (v := ?_) rfl rfl ?_ ?_
       rotate_left 1
       focus (intro W hW; obtain ⟨hcW, hfW⟩ := bcell hW; (go_simp <;> with_reducible rfl))
       simp only [Act.put, List.setIfInBounds_toArray, List.set_cons_zero, List.set_cons_succ]))
  refine ord_call rfl rfl (fun K hK => ?_)
  go_simp
  (go_at_call 14; refine (point_any _ _ _).mono ?_; rintro e wp ⟨rfl, hbp⟩; refine hK.out _ _ (hS0.trans (hbp.mono hS0.size)) (fun hS1 => ?_))
  skip
  refine ord_call rfl rfl (fun K hK => ?_)
  go_simp
  (go_at_call 15; refine (T2.out _ (hbW.trans (hS1.mono hbWs))).mono ?_; rintro e w2 ⟨A2, c2, rfl, hs2, hb2⟩; refine hK.out _ _ (hS1.trans (hb2.mono hS1.size)) (fun hS2 => ?_))
  skip
  iterate 5 (first
    | (refine ord_skip rfl rfl ?_; simp only [Act.put, List.setIfInBounds_toArray, List.set_cons_zero, List.set_cons_succ])
    | (refine ord_take (v := ?_) rfl rfl ?_ ?_
       rotate_left 1
       focus (intro W hW; obtain ⟨hcW, hfW⟩ := bcell hW; (go_simp <;> with_reducible rfl))
       simp only [Act.put, List.setIfInBounds_toArray, List.set_cons_zero, List.set_cons_succ]))
  refine ord_nil ?_
  have hbN := hbW.trans (hS2.mono hbWs)
  obtain ⟨x0, x1, x2, xl⟩ := HBx.out _ hbN
  clear hS2 hbW hbWs hb2 hbp hS0 hS1 y0 y1 y2 yl
  have hbW := hbN
  have hbWs := hbN.size
  have y0 := x0
  have y1 := x1
  have y2 := x2
  have yl := xl
  clear x0 x1 x2 xl hbN
  go_wp2_with fail
  refine ord_below [(0, false), (1, true), (2, true), (3, false), (4, false), (5, false), (6, false), (7, false)] (by kernel_rfl) (by kernel_rfl) (by kernel_rfl) (fun _ _ _ _ _ h => h) ?_
  intro W0 hS0
  iterate 1 (first
    | (refine ord_skip rfl rfl ?_; simp only [Act.put, List.setIfInBounds_toArray, List.set_cons_zero, List.set_cons_succ])
    | (refine ord_take (v := ?_) rfl rfl ?_ ?_
       rotate_left 1
       focus (intro W hW; obtain ⟨hcW, hfW⟩ := bcell hW; (go_simp <;> with_reducible rfl))
       simp only [Act.put, List.setIfInBounds_toArray, List.set_cons_zero, List.set_cons_succ]))
  refine ord_call rfl rfl (fun K hK => ?_)
  go_simp
  (go_at_call 14; refine (point_any _ _ _).mono ?_; rintro e wp ⟨rfl, hbp⟩; refine hK.out _ _ (hS0.trans (hbp.mono hS0.size)) (fun hS1 => ?_))
  skip
  refine ord_call rfl rfl (fun K hK => ?_)
  go_simp
  (go_at_call 15; refine (T3.out _ (hbW.trans (hS1.mono hbWs))).mono ?_; rintro e w3 ⟨A3, c3, rfl, hs3, hb3⟩; refine hK.out _ _ (hS1.trans (hb3.mono hS1.size)) (fun hS2 => ?_))
  skip
  iterate 5 (first
    | (refine ord_skip rfl rfl ?_; simp only [Act.put, List.setIfInBounds_toArray, List.set_cons_zero, List.set_cons_succ])
    | (refine ord_take (v := ?_) rfl rfl ?_ ?_
       rotate_left 1
       focus (intro W hW; obtain ⟨hcW, hfW⟩ := bcell hW; (go_simp <;> with_reducible rfl))
       simp only [Act.put, List.setIfInBounds_toArray, List.set_cons_zero, List.set_cons_succ]))
  refine ord_nil ?_
  have hbN := hbW.trans (hS2.mono hbWs)
  obtain ⟨x0, x1, x2, xl⟩ := HBx.out _ hbN
  replace hs2 := hs2.below keeps_cho hS2
  clear hS2 hbW hbWs hb3 hbp hS0 hS1 y0 y1 y2 yl
  have hbW := hbN
  have hbWs := hbN.size
  have y0 := x0
  have y1 := x1
  have y2 := x2
  have yl := xl
  clear x0 x1 x2 xl hbN
  go_wp2_with fail
  refine ord_below [(0, false), (1, true), (2, true), (3, false), (4, false), (5, false), (6, false), (7, false)] (by kernel_rfl) (by kernel_rfl) (by kernel_rfl) (fun _ _ _ _ _ h => h) ?_
  intro W0 hS0
  iterate 1 (first
    | (refine ord_skip rfl rfl ?_; simp only [Act.put, List.setIfInBounds_toArray, List.set_cons_zero, List.set_cons_succ])
    | (refine ord_take (v := ?_) rfl rfl ?_ ?_
       rotate_left 1
       focus (intro W hW; obtain ⟨hcW, hfW⟩ := bcell hW; (go_simp <;> with_reducible rfl))
       simp only [Act.put, List.setIfInBounds_toArray, List.set_cons_zero, List.set_cons_succ]))
  refine ord_call rfl rfl (fun K hK => ?_)
  go_simp
  (go_at_call 14; refine (point_any _ _ _).mono ?_; rintro e wp ⟨rfl, hbp⟩; refine hK.out _ _ (hS0.trans (hbp.mono hS0.size)) (fun hS1 => ?_))
  skip
  refine ord_call rfl rfl (fun K hK => ?_)
  go_simp
  (go_at_call 15; refine (T4.out _ (hbW.trans (hS1.mono hbWs))).mono ?_; rintro e w4 ⟨A4, c4, rfl, hs4, hb4⟩; refine hK.out _ _ (hS1.trans (hb4.mono hS1.size)) (fun hS2 => ?_))
  skip
  iterate 5 (first
    | (refine ord_skip rfl rfl ?_; simp only [Act.put, List.setIfInBounds_toArray, List.set_cons_zero, List.set_cons_succ])
    | (refine ord_take (v := ?_) rfl rfl ?_ ?_
       rotate_left 1
       focus (intro W hW; obtain ⟨hcW, hfW⟩ := bcell hW; (go_simp <;> with_reducible rfl))
       simp only [Act.put, List.setIfInBounds_toArray, List.set_cons_zero, List.set_cons_succ]))
  refine ord_nil ?_
  have hbN := hbW.trans (hS2.mono hbWs)
  obtain ⟨x0, x1, x2, xl⟩ := HBx.out _ hbN
  replace hs2 := hs2.below keeps_cho hS2
  replace hs3 := hs3.below keeps_cho hS2
  clear hS2 hbW hbWs hb4 hbp hS0 hS1 y0 y1 y2 yl
  have hbW := hbN
  have hbWs := hbN.size
  have y0 := x0
  have y1 := x1
  have y2 := x2
  have yl := xl
  clear x0 x1 x2 xl hbN
  go_wp2_with fail
  refine ord_below [(0, false), (1, true), (2, true), (3, false), (4, false), (5, false), (6, false), (7, false)] (by kernel_rfl) (by kernel_rfl) (by kernel_rfl) (fun _ _ _ _ _ h => h) ?_
  intro W0 hS0
  iterate 1 (first
    | (refine ord_skip rfl rfl ?_; simp only [Act.put, List.setIfInBounds_toArray, List.set_cons_zero, List.set_cons_succ])
    | (refine ord_take (v := ?_) rfl rfl ?_ ?_
       rotate_left 1
       focus (intro W hW; obtain ⟨hcW, hfW⟩ := bcell hW; (go_simp <;> with_reducible rfl))
       simp only [Act.put, List.setIfInBounds_toArray, List.set_cons_zero, List.set_cons_succ]))
  refine ord_call rfl rfl (fun K hK => ?_)
  go_simp
  (go_at_call 14; refine (point_any _ _ _).mono ?_; rintro e wp ⟨rfl, hbp⟩; refine hK.out _ _ (hS0.trans (hbp.mono hS0.size)) (fun hS1 => ?_))
  skip
  refine ord_call rfl rfl (fun K hK => ?_)
  go_simp
  (go_at_call 15; refine (T5.out _ (hbW.trans (hS1.mono hbWs))).mono ?_; rintro e w5 ⟨A5, c5, rfl, hs5, hb5⟩; refine hK.out _ _ (hS1.trans (hb5.mono hS1.size)) (fun hS2 => ?_))
  skip
  iterate 5 (first
    | (refine ord_skip rfl rfl ?_; simp only [Act.put, List.setIfInBounds_toArray, List.set_cons_zero, List.set_cons_succ])
    | (refine ord_take (v := ?_) rfl rfl ?_ ?_
       rotate_left 1
       focus (intro W hW; obtain ⟨hcW, hfW⟩ := bcell hW; (go_simp <;> with_reducible rfl))
       simp only [Act.put, List.setIfInBounds_toArray, List.set_cons_zero, List.set_cons_succ]))
  refine ord_nil ?_
  have hbN := hbW.trans (hS2.mono hbWs)
  obtain ⟨x0, x1, x2, xl⟩ := HBx.out _ hbN
  replace hs2 := hs2.below keeps_cho hS2
  replace hs3 := hs3.below keeps_cho hS2
  clear hS2 hbW hbWs hb5 hbp hS0 hS1 y0 y1 y2 yl
  have hbW := hbN
  have hbWs := hbN.size
  have y0 := x0
  have y1 := x1
  have y2 := x2
  have yl := xl
  clear x0 x1 x2 xl hbN
  go_wp2_with fail
  refine ord_below [(0, false), (1, true), (2, true), (3, false), (4, false), (5, false), (6, false), (7, false)] (by kernel_rfl) (by kernel_rfl) (by kernel_rfl) (fun _ _ _ _ _ h => h) ?_
  intro W0 hS0
  iterate 1 (first
    | (refine ord_skip rfl rfl ?_; simp only [Act.put, List.setIfInBounds_toArray, List.set_cons_zero, List.set_cons_succ])
    | (refine ord_take (v := ?_) rfl rfl ?_ ?_
       rotate_left 1
       focus (intro W hW; obtain ⟨hcW, hfW⟩ := bcell hW; (go_simp <;> with_reducible rfl))
       simp only [Act.put, List.setIfInBounds_toArray, List.set_cons_zero, List.set_cons_succ]))
  refine ord_call rfl rfl (fun K hK => ?_)
  go_simp
  (go_at_call 14; refine (point_any _ _ _).mono ?_; rintro e wp ⟨rfl, hbp⟩; refine hK.out _ _ (hS0.trans (hbp.mono hS0.size)) (fun hS1 => ?_))
  skip
  refine ord_call rfl rfl (fun K hK => ?_)
  go_simp
  (go_at_call 17; refine (T6.out _ (hbW.trans (hS1.mono hbWs))).mono ?_; rintro e w6 ⟨A6, c6, rfl, hs6, hb6⟩; refine hK.out _ _ (hS1.trans (hb6.mono hS1.size)) (fun hS2 => ?_))
  skip
  iterate 5 (first
    | (refine ord_skip rfl rfl ?_; simp only [Act.put, List.setIfInBounds_toArray, List.set_cons_zero, List.set_cons_succ])
    | (refine ord_take (v := ?_) rfl rfl ?_ ?_
       rotate_left 1
       focus (intro W hW; obtain ⟨hcW, hfW⟩ := bcell hW; (go_simp <;> with_reducible rfl))
       simp only [Act.put, List.setIfInBounds_toArray, List.set_cons_zero, List.set_cons_succ]))
  refine ord_nil ?_
  have hbN := hbW.trans (hS2.mono hbWs)
  obtain ⟨x0, x1, x2, xl⟩ := HBx.out _ hbN
  replace hs2 := hs2.below keeps_cho hS2
  replace hs3 := hs3.below keeps_cho hS2
  clear hS2 hbW hbWs hb6 hbp hS0 hS1 y0 y1 y2 yl
  have hbW := hbN
  have hbWs := hbN.size
  have y0 := x0
  have y1 := x1
  have y2 := x2
  have yl := xl
  clear x0 x1 x2 xl hbN
  go_wp2_with fail
  refine ord_below [(0, false), (1, true), (2, true), (3, false), (4, false), (5, false), (6, false), (7, false)] (by kernel_rfl) (by kernel_rfl) (by kernel_rfl) (fun _ _ _ _ _ h => h) ?_
  intro W0 hS0
  iterate 1 (first
    | (refine ord_skip rfl rfl ?_; simp only [Act.put, List.setIfInBounds_toArray, List.set_cons_zero, List.set_cons_succ])
    | (refine ord_take (v := ?_) rfl rfl ?_ ?_
       rotate_left 1
       focus (intro W hW; obtain ⟨hcW, hfW⟩ := bcell hW; (go_simp <;> with_reducible rfl))
       simp only [Act.put, List.setIfInBounds_toArray, List.set_cons_zero, List.set_cons_succ]))
  refine ord_call rfl rfl (fun K hK => ?_)
  go_simp
  (go_at_call 14; refine (point_any _ _ _).mono ?_; rintro e wp ⟨rfl, hbp⟩; refine hK.out _ _ (hS0.trans (hbp.mono hS0.size)) (fun hS1 => ?_))
  skip
  refine ord_call rfl rfl (fun K hK => ?_)
  go_simp
  (go_at_call 17; refine (T7.out _ (hbW.trans (hS1.mono hbWs))).mono ?_; rintro e w7 ⟨A7, c7, rfl, hs7, hb7⟩; refine hK.out _ _ (hS1.trans (hb7.mono hS1.size)) (fun hS2 => ?_))
  skip
  iterate 5 (first
    | (refine ord_skip rfl rfl ?_; simp only [Act.put, List.setIfInBounds_toArray, List.set_cons_zero, List.set_cons_succ])
    | (refine ord_take (v := ?_) rfl rfl ?_ ?_
       rotate_left 1
       focus (intro W hW; obtain ⟨hcW, hfW⟩ := bcell hW; (go_simp <;> with_reducible rfl))
       simp only [Act.put, List.setIfInBounds_toArray, List.set_cons_zero, List.set_cons_succ]))
  refine ord_nil ?_
  have hbN := hbW.trans (hS2.mono hbWs)
  obtain ⟨x0, x1, x2, xl⟩ := HBx.out _ hbN
  replace hs2 := hs2.below keeps_cho hS2
  replace hs3 := hs3.below keeps_cho hS2
  replace hs6 := hs6.below keeps_tp hS2
  clear hS2 hbW hbWs hb7 hbp hS0 hS1 y0 y1 y2 yl
  have hbW := hbN
  have hbWs := hbN.size
  have y0 := x0
  have y1 := x1
  have y2 := x2
  have yl := xl
  clear x0 x1 x2 xl hbN
  have S2 : Hid (∀ W, Below w7.heap.size w7 W → Calls Try.prog 19 #[.slice A2 2 c2, .slice (some ⟨W.heap.size, 0, none⟩) 2 2] (W.alloc (.cells #[.int .u8 97, .int .i64 0, .int .u8 98, .int .i64 2] 67)) fun e w' => e = .returned (.bool true) ∧ Below W.heap.size W w') := fun W hW =>
    same_cho [⟨97, 0⟩, ⟨98, 2⟩] A2 c2 W (hs2.below keeps_cho hW) (by decide)
  have S3 : Hid (∀ W, Below w7.heap.size w7 W → Calls Try.prog 19 #[.slice A3 2 c3, .slice (some ⟨W.heap.size, 0, none⟩) 2 2] (W.alloc (.cells #[.int .u8 97, .int .i64 27, .int .u8 98, .int .i64 7] 67)) fun e w' => e = .returned (.bool true) ∧ Below W.heap.size W w') := fun W hW =>
    same_cho [⟨97, 27⟩, ⟨98, 7⟩] A3 c3 W (hs3.below keeps_cho hW) (by decide)
  have S6 : Hid (∀ W, Below w7.heap.size w7 W → Calls Try.prog 20 #[.slice A6 1 c6, .slice (some ⟨W.heap.size, 0, none⟩) 1 1] (W.alloc (.cells #[.int .u8 97, .int .i64 3, .int .i64 (-2), .int .i64 1] 82)) fun e w' => e = .returned (.bool true) ∧ Below W.heap.size W w') := fun W hW =>
    same_tap [⟨97, 3, -2, 1⟩] A6 c6 W (hs6.below keeps_tp hW) (by decide)
  have SA : Hid (∀ W, Calls Try.prog 21 #[.slice (some ⟨W.heap.size, 0, none⟩) 1 1, .int .u8 97] (W.alloc (.cells #[.int .u8 97, .int .i64 13, .int .i64 (-9), .int .i64 4] 82)) fun e w' => e = .returned (vPt ⟨3, -2⟩) ∧ Below W.heap.size W w') := fun W =>
    (shift_any (some ⟨W.heap.size, 0, none⟩) [⟨97, 13, -9, 4⟩] 1 97 (W.alloc (.cells #[.int .u8 97, .int .i64 13, .int .i64 (-9), .int .i64 4] 82)) (slr_blk (enc := encT) (Blk.new _ _ _) (fun _ => rfl) (fun _ => rfl)) (by decide) (by simp; exact ⟨by unfold Small; decide, by unfold Small; decide⟩)).mono fun e w' ⟨h, hb⟩ => ⟨h, unbox (bx hb)⟩
  have SB : Hid (∀ W, Below w7.heap.size w7 W → Calls Try.prog 21 #[.slice A6 1 c6, .int .u8 97] W fun e w' => e = .returned (vPt ⟨0, 0⟩) ∧ Below W.heap.size W w') := fun W hW =>
    shift_any A6 [⟨97, 3, -2, 1⟩] c6 97 W (hs6.below keeps_tp hW) (by decide) (by simp; exact ⟨by unfold Small; decide, by unfold Small; decide⟩)
  have HBW := Lib.hid (HBw.out.trans (hbW.mono HBw.out.size))
  have V8' : Hid (∀ W, Below w7.heap.size w7 W → Calls Try.prog 23 #[.agg #[.slice (some ⟨g, 0, none⟩) 2 2, .slice none 0 0, .slice none 0 0]] W fun e w' => e = .returned (.bool true) ∧ Below W.heap.size W w') := fun W hW => V8.out W (hbW.trans (hW.mono hbWs))
  have HBy : Hid (∀ W, Below w7.heap.size w7 W → W.cell? ⟨wt.heap.size, 0, none⟩ = some (.slice (some ⟨g, 0, none⟩) 2 2) ∧ W.cell? ⟨wt.heap.size, 1, none⟩ = some (.slice none 0 0) ∧ W.cell? ⟨wt.heap.size, 2, none⟩ = some (.slice none 0 0) ∧ wt.heap.size < W.heap.size) := fun W hW => HBx.out W (hbW.trans (hW.mono hbWs))
  have hcur : Below w7.heap.size w7 w7 := Below.refl _ _
  clear hbW hbWs T2 T3 T4 T5 T6 T7 V8 HBx HTwo
  go_wp2_with (first | (go_at_call 19; first | (with_reducible refine (S2.out _ hcur).mono ?_; rintro e wz ⟨rfl, hbz⟩; replace hcur := hcur.trans (hbz.mono hcur.size); clear hbz; obtain ⟨y0, y1, y2, yl⟩ := HBy.out _ hcur) | (with_reducible refine (S3.out _ hcur).mono ?_; rintro e wz ⟨rfl, hbz⟩; replace hcur := hcur.trans (hbz.mono hcur.size); clear hbz; obtain ⟨y0, y1, y2, yl⟩ := HBy.out _ hcur)) | (go_at_call 20; refine (S6.out _ hcur).mono ?_; rintro e wz ⟨rfl, hbz⟩; replace hcur := hcur.trans (hbz.mono hcur.size); clear hbz; obtain ⟨y0, y1, y2, yl⟩ := HBy.out _ hcur) | (go_at_call 21; first | (with_reducible refine (SB.out _ hcur).mono ?_; rintro e wz ⟨rfl, hbz⟩; replace hcur := hcur.trans (hbz.mono hcur.size); clear hbz; obtain ⟨y0, y1, y2, yl⟩ := HBy.out _ hcur) | (with_reducible refine (SA.out _).mono ?_; rintro e wz ⟨rfl, hbz⟩; replace hcur := hcur.trans (hbz.mono hcur.size); clear hbz; obtain ⟨y0, y1, y2, yl⟩ := HBy.out _ hcur)) | (go_at_call 14; refine (point_any _ _ _).mono ?_; rintro e wz ⟨rfl, hbz⟩; replace hcur := hcur.trans (hbz.mono hcur.size); clear hbz; obtain ⟨y0, y1, y2, yl⟩ := HBy.out _ hcur) | (go_at_call 23; first | (with_reducible refine (V8'.out _ hcur).mono ?_; rintro e wz ⟨rfl, hbz⟩; replace hcur := hcur.trans (hbz.mono hcur.size); clear hbz; obtain ⟨y0, y1, y2, yl⟩ := HBy.out _ hcur) | (with_reducible refine (V9.out _).mono ?_; rintro e wz ⟨rfl, hbz⟩; replace hcur := hcur.trans (hbz.mono hcur.size); clear hbz; obtain ⟨y0, y1, y2, yl⟩ := HBy.out _ hcur)))
  go_ret
  exact ⟨rfl, HBW.out.trans (hcur.mono HBW.out.size)⟩
end Go.Proofs.Ytpjecpefbfobdaa
