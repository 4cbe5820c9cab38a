/-
  AreaDistance: the walk.
-/
import Derived.Test.YtpjecpefbfobdaaAreaWalkR
import Derived.Test.YtpjecpefbfobdaaAreaLaw3
namespace Go.Proofs.Ytpjecpefbfobdaa
open Go Go.RowKit

set_option maxRecDepth 100000 in
set_option maxHeartbeats 8000000 in
theorem areaDistance_any (pa pb y st : Int) (w : World) (ha : 0 ≤ pa ∧ pa ≤ 255) (hb : 0 ≤ pb ∧ pb ≤ 255) (hy : 0 ≤ y ∧ y ≤ 255) (hst : 0 ≤ st ∧ st ≤ 255) :
    Calls Try.prog 7 #[.agg #[.int .u8 pa, .int .u8 pb], .int .u8 y, .int .u8 st] w fun e w' => e = .returned (.bool true) ∧ Below w.heap.size w w' := by
  obtain ⟨w1, hw1⟩ : ∃ w1, w.alloc (.cells #[.int .u8 pa, .int .u8 pb] 63) = w1 := ⟨_, rfl⟩
  have hb1 : Below w.heap.size w w1 := by rw [← hw1]; exact nw _ (Below.refl _ _)
  have HB1 : Hid (Blk w1 w.heap.size 63 #[.int .u8 pa, .int .u8 pb]) := by rw [← hw1]; exact Blk.new _ _ _
  have HW1 := Lib.hid hw1
  have HSan : Hid (Calls Try.prog 11 #[] w1 fun e w' => e = .returned (.bool true) ∧ Below w1.heap.size w1 w') := sanity_any w1
  have hs1 : w1.heap.size = w.heap.size + 1 := by rw [← hw1]; simp
  have hpok : B2OK ⟨pa, pb⟩ := ⟨ha, hb⟩
  have HMade : Hid (∀ W, Calls Try.prog 12 #[.slice (some ⟨W.heap.size, 0, none⟩) 1 1] (W.alloc (.cells #[.int .u8 pa, .int .u8 pb] 63)) fun e w' => ∃ A' c' B C, e = .returned (.agg #[.slice A' 1 c', .slice B 2 2, .slice C 2 2]) ∧ SlR 5 RAr w' A' [oneAr ⟨pa, pb⟩] ∧ Below W.heap.size W w') := fun W => by
    have := made_any (some ⟨W.heap.size, 0, none⟩) [⟨pa, pb⟩] 1 (W.alloc (.cells #[.int .u8 pa, .int .u8 pb] 63)) (slr_blk (enc := fun x : B2 => [.int .u8 x.a, .int .u8 x.b]) (Blk.new _ _ _) (fun _ => rfl) (fun _ => by unfold RB2; rfl)) (by unfold maxLen; simp) (by simpa using hpok)
    rw [made_one] at this
    refine this.mono ?_
    rintro e w' ⟨A', c', B, C, he, h1, _, _, _, _, h2⟩
    exact ⟨A', c', B, C, he, h1, unbox (bx h2)⟩
  clear hw1
  go_enter Try.func7, Try.ntmps7
  go_wp2_with (first | (go_at_call 11; go_loud (rw [HW1.out]; refine HSan.out.mono ?_; rintro e w2 ⟨rfl, hb2⟩; have h2 := HB1.out.below hb2 HB1.out.lt; have p0 := h2.cell 0; have p1 := h2.cell 1; have pl := h2.lt; simp at p0 p1; clear h2)) | (go_at_call 12; go_loud (refine (HMade.out _).mono ?_; rintro e w3 ⟨A3, c3, B3, C3, rfl, hs3, hb3⟩)))
  obtain ⟨W4, hW4⟩ : ∃ W4, w3.alloc (.cells #[.slice A3 1 c3, .slice B3 2 2, .slice C3 2 2] 31) = W4 := ⟨_, rfl⟩
  have hb4 : Below w3.heap.size w3 W4 := by rw [← hW4]; exact nw _ (Below.refl _ _)
  have hB4 : Blk W4 w3.heap.size 31 #[.slice A3 1 c3, .slice B3 2 2, .slice C3 2 2] := by rw [← hW4]; exact Blk.new _ _ _
  have HBw4 := Lib.hid (hb1.trans (((hb2.trans (hb3.mono hb2.size)).trans (hb4.mono (by have := hb2.size; have := hb3.size; omega))).mono hb1.size))
  have HS4 := Lib.hid (hs3.below keeps_ar hb4)
  have HB4 := Lib.hid hB4
  rw [hW4]
  clear hW4 hb4 hb3 hs3 hB4 hb2 hb1 hs1 p0 p1 pl
  have hrem : st.tmod 20 = st % 20 := Int.tmod_eq_emod_of_nonneg hst.1
  go_wp2_with fail
  go_loopw [9, 10] (fun lst x wr => ∃ X L : Int, 0 ≤ X ∧ X ≤ 146 ∧ 0 ≤ L ∧ L ≤ 1000 ∧ Hid (L ≤ cD (pb % 21) y X) ∧ lst = .int .i64 L ∧ x = .int .i64 X ∧ Below W4.heap.size W4 wr) (fun _ x _ => 400 - (intOf x).toNat)
  case atStart => exact ⟨0, 0, by omega, by omega, by omega, by omega, cD_nonneg, rfl, rfl, Below.refl _ _⟩
  case round =>
    obtain ⟨X, L, hX0, hX1, hL0, hL1, HL, rfl, rfl, hb⟩ := hrel
    have hbs := hb.size
    obtain ⟨b, off, a, rfl, hbb, haa, d0', d1', d2', d3', d4'⟩ := (HS4.out.below keeps_ar hb).ar (k := 0) (by simp)
    have haa' : a = oneAr ⟨pa, pb⟩ := by simpa using haa.symm
    subst haa'
    have d3 : wr.cell? ⟨b, off + 3, none⟩ = some (.int .i64 (pa % 21)) := by simpa [oneAr] using d3'
    have hBw := HB4.out.below hb HB4.out.lt
    have c0 := hBw.cell 0
    have c1 := hBw.cell 1
    have c2 := hBw.cell 2
    have cl := hBw.lt
    simp at c0 c1 c2
    have ht1 := touch_one hpok (x := X) (y := y) (by omega) hy
    have hw1 : IntKind.i64.wrap (pa % 21 + X) = pa % 21 + X := IntWalk.i64_in _ (by omega)
    have hw2 : IntKind.i64.wrap y = y := IntWalk.i64_in _ (by omega)
    have HAk : ∀ a ∈ [oneAr ⟨pa, pb⟩], ArOK a := fun a ha => by
      simp at ha
      subst ha
      unfold oneAr
      exact ⟨by unfold Small; dsimp only; omega, by unfold Small; dsimp only; omega, by unfold Small; dsimp only; omega, by unfold Small; dsimp only; omega⟩
    have HT0 : ∀ W, Below wr.heap.size wr W → _ := fun W hW => touch_any [oneAr ⟨pa, pb⟩] (some ⟨b, off, none⟩) c3 (.slice B3 2 2) (.slice C3 2 2) [] none 0 ⟨pa % 21 + X, y⟩ W ((HS4.out.below keeps_ar (hb.trans (hW.mono hbs)))) (by simp) HAk (by unfold IncA; simp) SlR.nil (by decide) (by simp)
    rw [ht1] at HT0
    have HEnd := Lib.hid (HBw4.out.trans (hb.mono HBw4.out.size))
    clear haa d0' d1' d2' d3' d4' hBw ht1 HAk
    by_cases hc : cD (pb % 21) y X ≤ 1000
    · rw [if_pos hc] at HT0
      have hn := cD_near hX0 hc
      have HM := Lib.hid (cD_mono (y1 := pb % 21) (y := y) hX0 (show X ≤ X + (1 + st % 20) by omega))
      have hge := HL.out
      have HCo : Hid (∀ W A c, SlR 2 RCho W A [⟨97, cD (pb % 21) y X⟩] → Calls Try.prog 27 #[.slice A 1 c, .int .u8 97] W fun e w' => e = .returned (.int .i64 (cD (pb % 21) y X)) ∧ W = w') := fun W A c h =>
        cost_any A [⟨97, cD (pb % 21) y X⟩] c 97 W h (by simp)
      generalize cD (pb % 21) y X = v at *
      have HTc := Lib.hid HT0
      have HBB := Lib.hid hb
      clear HT0 hb
      go_wp2_with fail
      refine ord_below [(0, false), (1, false), (2, false), (3, false), (4, false), (5, false), (6, false), (7, false), (8, false), (9, false), (10, true), (11, true), (12, false), (13, false), (14, false), (15, false), (16, false)] (by kernel_rfl) (by kernel_rfl) (by kernel_rfl) (fun _ _ _ _ _ h => h) ?_
      intro W0 hS0
      iterate 10 (first
        | (refine ord_skip rfl rfl ?_; simp only [Act.put, List.setIfInBounds_toArray, List.set_cons_zero, List.set_cons_succ])
        | (refine ord_take (v := ?_) rfl rfl ?_ ?_
           rotate_left 1
           focus (intro W hW; obtain ⟨hcW, hfW⟩ := bcell hW; (go_simp <;> with_reducible rfl))
           simp only [Act.put, List.setIfInBounds_toArray, List.set_cons_zero, List.set_cons_succ]))
      refine ord_call rfl rfl (fun K hK => ?_)
      go_simp
      (go_at_call 14; refine (point_any _ _ _).mono ?_; rintro e wp ⟨rfl, hbp⟩; refine hK.out _ _ (hS0.trans (hbp.mono hS0.size)) (fun hS1 => ?_))
      skip
      refine ord_call rfl rfl (fun K hK => ?_)
      go_simp
      (go_at_call 15; refine (HTc.out _ hS1).mono ?_; rintro e w7 ⟨A7, c7, rfl, hs7, hb7⟩; refine hK.out _ _ (hS1.trans (hb7.mono hS1.size)) (fun hS2 => ?_))
      skip
      iterate 5 (first
        | (refine ord_skip rfl rfl ?_; simp only [Act.put, List.setIfInBounds_toArray, List.set_cons_zero, List.set_cons_succ])
        | (refine ord_take (v := ?_) rfl rfl ?_ ?_
           rotate_left 1
           focus (intro W hW; obtain ⟨hcW, hfW⟩ := bcell hW; (go_simp <;> with_reducible rfl))
           simp only [Act.put, List.setIfInBounds_toArray, List.set_cons_zero, List.set_cons_succ]))
      refine ord_nil ?_
      go_wp2_with (go_at_call 27; refine (HCo.out _ _ _ hs7).mono ?_; rintro e w8 ⟨rfl, rfl⟩)
      go_roundw
      case rel => exact ⟨X + (1 + st % 20), v, by omega, by omega, by omega, by omega, HM.out, by go_num, by go_num, HBB.out.trans (hS2.mono hbs)⟩
      case measure => simp [intOf]; omega
    · rw [if_neg hc] at HT0
      have hf := cD_far hX0 hy.1 (show 0 ≤ pb % 21 by omega) hc
      have HTc := Lib.hid HT0
      clear HT0 hc HL
      go_wp2_with fail
      refine ord_below [(0, false), (1, false), (2, false), (3, false), (4, false), (5, false), (6, false), (7, false), (8, false), (9, false), (10, true), (11, true), (12, false), (13, false), (14, false), (15, false), (16, false)] (by kernel_rfl) (by kernel_rfl) (by kernel_rfl) (fun _ _ _ _ _ h => h) ?_
      intro W0 hS0
      iterate 10 (first
        | (refine ord_skip rfl rfl ?_; simp only [Act.put, List.setIfInBounds_toArray, List.set_cons_zero, List.set_cons_succ])
        | (refine ord_take (v := ?_) rfl rfl ?_ ?_
           rotate_left 1
           focus (intro W hW; obtain ⟨hcW, hfW⟩ := bcell hW; (go_simp <;> with_reducible rfl))
           simp only [Act.put, List.setIfInBounds_toArray, List.set_cons_zero, List.set_cons_succ]))
      refine ord_call rfl rfl (fun K hK => ?_)
      go_simp
      (go_at_call 14; refine (point_any _ _ _).mono ?_; rintro e wp ⟨rfl, hbp⟩; refine hK.out _ _ (hS0.trans (hbp.mono hS0.size)) (fun hS1 => ?_))
      skip
      refine ord_call rfl rfl (fun K hK => ?_)
      go_simp
      (go_at_call 15; refine (HTc.out _ hS1).mono ?_; rintro e w7 ⟨A7, c7, rfl, hs7, hb7⟩; refine hK.out _ _ (hS1.trans (hb7.mono hS1.size)) (fun hS2 => ?_))
      skip
      iterate 5 (first
        | (refine ord_skip rfl rfl ?_; simp only [Act.put, List.setIfInBounds_toArray, List.set_cons_zero, List.set_cons_succ])
        | (refine ord_take (v := ?_) rfl rfl ?_ ?_
           rotate_left 1
           focus (intro W hW; obtain ⟨hcW, hfW⟩ := bcell hW; (go_simp <;> with_reducible rfl))
           simp only [Act.put, List.setIfInBounds_toArray, List.set_cons_zero, List.set_cons_succ]))
      refine ord_nil ?_
      go_wp2_with fail
      go_ret
      exact ⟨rfl, HEnd.out.trans (hS2.mono HEnd.out.size)⟩
end Go.Proofs.Ytpjecpefbfobdaa
