/-
  The walks of layer 16: the fixed examples.
-/
import Derived.Test.YtbikjmafddndpaaGrWalkM
import Derived.Test.YtbikjmafddndpaaGrThree
namespace Go.Proofs.Ytbikjmafddndpaa
open Go Go.RowKit

set_option maxRecDepth 100000 in
set_option maxHeartbeats 4000000 in
theorem three_any (w : World) : Calls Try.prog 48 #[] w fun e w' => ∃ gl, e = .returned (.agg #[.int .i64 3, .slice (some ⟨gl, 0, none⟩) 3 3]) ∧ Blk w' gl 54 #[.int .i64 0, .int .i64 1, .int .i64 0, .int .i64 1, .int .i64 1, .int .i64 2, .int .i64 0, .int .i64 1, .int .i64 0, .int .i64 2, .int .i64 0, .int .i64 5] ∧ Below w.heap.size w w' := by
  obtain ⟨w1, hw1⟩ : ∃ w1, w.alloc (.cells #[.int .i64 0, .slice none 0 0] 30) = w1 := ⟨_, rfl⟩
  have hb1 : Below w.heap.size w w1 := by rw [← hw1]; exact nw _ (Below.refl _ _)
  have hB1 : Blk w1 w.heap.size 30 #[.int .i64 0, .slice none 0 0] := by rw [← hw1]; exact Blk.new _ _ _
  have HW1 := Lib.hid hw1
  obtain ⟨w2, hw2⟩ : ∃ w2, w1.alloc (.cells #[.int .i64 0, .int .i64 1, .int .i64 0, .int .i64 1, .int .i64 1, .int .i64 2, .int .i64 0, .int .i64 1, .int .i64 0, .int .i64 2, .int .i64 0, .int .i64 5] 54) = w2 := ⟨_, rfl⟩
  have hb2 : Below w1.heap.size w1 w2 := by rw [← hw2]; exact nw _ (Below.refl _ _)
  have hB2 : Blk w2 w1.heap.size 54 #[.int .i64 0, .int .i64 1, .int .i64 0, .int .i64 1, .int .i64 1, .int .i64 2, .int .i64 0, .int .i64 1, .int .i64 0, .int .i64 2, .int .i64 0, .int .i64 5] := by rw [← hw2]; exact Blk.new _ _ _
  have hG2 := hB1.below hb2 hB1.lt
  have hne : w1.heap.size ≠ w.heap.size := by have := hB1.lt; omega
  have c0 := hG2.cell 0
  have c1 := hG2.cell 1
  have f0 := hG2.frozen 0
  have f1 := hG2.frozen 1
  simp at c0 c1
  clear hw1
  go_enter Try.func48, Try.ntmps48
  go_upto_region 1 with fail
  rw [HW1.out]
  go_wp2_with fail
  refine ret_cell (t := 30) (cs := #[.int .i64 3, .slice (some ⟨w1.heap.size, 0, none⟩) 3 3]) (by have := (hG2.set_ 0 (.int .i64 3)).set_ 1 (.slice (some ⟨w1.heap.size, 0, none⟩) 3 3); simpa using this) rfl rfl Try.underlying30 rfl (by kernel_rfl) rfl ?_
  exact ⟨w1.heap.size, rfl, (hB2.far (p := ⟨w.heap.size, 0, none⟩) hne _).far (p := ⟨w.heap.size, 1, none⟩) hne _, ((bthen hb1 hb2).setCell (p := ⟨w.heap.size, 0, none⟩) (Nat.le_refl _) _).setCell (p := ⟨w.heap.size, 1, none⟩) (Nat.le_refl _) _⟩
/-- What sanity's variables hold. -/
structure San (bG gl b1 r1 b2 r2 : Nat) (W : World) : Prop where
  g : Blk W bG 30 #[.int .i64 3, .slice (some ⟨gl, 0, none⟩) 3 3]
  ls : Blk W gl 54 #[.int .i64 0, .int .i64 1, .int .i64 0, .int .i64 1, .int .i64 1, .int .i64 2, .int .i64 0, .int .i64 1, .int .i64 0, .int .i64 2, .int .i64 0, .int .i64 5]
  c1 : Blk W b1 43 #[.slice (some ⟨r1, 0, none⟩) 2 2, .int .i64 2]
  l1 : Row W r1 [0, 1]
  c2 : Blk W b2 43 #[.slice (some ⟨r2, 0, none⟩) 1 1, .int .i64 5]
  l2 : Row W r2 [2]
section
variable {bG gl b1 r1 b2 r2 : Nat} {W W' : World}
theorem San.mono (h : San bG gl b1 r1 b2 r2 W) (hb : Below W.heap.size W W') : San bG gl b1 r1 b2 r2 W' :=
  ⟨h.g.below hb h.g.lt, h.ls.below hb h.ls.lt, h.c1.below hb h.c1.lt, h.l1.below hb h.l1.lt, h.c2.below hb h.c2.lt, h.l2.below hb h.l2.lt⟩
theorem San.cells (h : San bG gl b1 r1 b2 r2 W) : W.cell? ⟨bG, 0, none⟩ = some (.int .i64 3) ∧ W.cell? ⟨bG, 1, none⟩ = some (.slice (some ⟨gl, 0, none⟩) 3 3) ∧ W.cell? ⟨b1, 0, none⟩ = some (.slice (some ⟨r1, 0, none⟩) 2 2) ∧ W.cell? ⟨b1, 1, none⟩ = some (.int .i64 2) ∧
    W.cell? ⟨b2, 0, none⟩ = some (.slice (some ⟨r2, 0, none⟩) 1 1) ∧ W.cell? ⟨b2, 1, none⟩ = some (.int .i64 5) ∧ b1 < W.heap.size ∧ b2 < W.heap.size :=
  ⟨by rw [h.g.cell]; rfl, by rw [h.g.cell]; rfl, by rw [h.c1.cell]; rfl, by rw [h.c1.cell]; rfl, by rw [h.c2.cell]; rfl, by rw [h.c2.cell]; rfl, h.c1.lt, h.c2.lt⟩
theorem San.links (h : San bG gl b1 r1 b2 r2 W) : SlR 4 RLk W (some ⟨gl, 0, none⟩) threeG.ls := slr_blk (enc := encLk) h.ls (fun _ => rfl) (fun _ => rfl)
theorem San.canA_ (h : San bG gl b1 r1 b2 r2 W) : RCan W canA [.slice (some ⟨r1, 0, none⟩) 2 2, .int .i64 2] := ⟨some ⟨r1, 0, none⟩, 2, rfl, h.l1.slr, by decide, by decide⟩
theorem San.canB__ (h : San bG gl b1 r1 b2 r2 W) : RCan W canB_ [.slice (some ⟨r2, 0, none⟩) 1 1, .int .i64 5] := ⟨some ⟨r2, 0, none⟩, 1, rfl, h.l2.slr, by decide, by decide⟩
end
theorem slr_oneC {W : World} {x : Can} {a b : Value} {g : Nat} (hx : RCan W x [a, b]) (h : Blk W g 43 #[a, b]) : SlR 2 RCan W (some ⟨g, 0, none⟩) [x] := fun _ =>
  ⟨g, 0, rfl, h.lt, fun k y hy => by
    match k, hy with
    | 0, hy =>
      simp at hy
      subst hy
      refine ⟨[a, b], hx, rfl, fun j v hj => ?_⟩
      rw [h.cell]
      match j, hj with
      | 0, hj => simpa using hj
      | 1, hj => simpa using hj⟩
theorem slr_two {W : World} {x y : Can} {a b c d : Value} {g : Nat} (hx : RCan W x [a, b]) (hy : RCan W y [c, d]) (h : Blk W g 43 #[a, b, c, d]) : SlR 2 RCan W (some ⟨g, 0, none⟩) [x, y] := fun _ =>
  ⟨g, 0, rfl, h.lt, fun k z hz => by
    match k, hz with
    | 0, hz =>
      simp at hz
      subst hz
      refine ⟨[a, b], hx, rfl, fun j v hj => ?_⟩
      rw [h.cell]
      match j, hj with
      | 0, hj => simpa using hj
      | 1, hj => simpa using hj
    | 1, hz =>
      simp at hz
      subst hz
      refine ⟨[c, d], hy, rfl, fun j v hj => ?_⟩
      rw [h.cell]
      match j, hj with
      | 0, hj => simpa using hj
      | 1, hj => simpa using hj⟩
theorem san_c6 {bG gl b1 r1 b2 r2 : Nat} {W : World} (h : San bG gl b1 r1 b2 r2 W) :
    Calls Try.prog 34 #[(.agg #[.int .i64 3, .slice (some ⟨gl, 0, none⟩) 3 3]), .slice (some ⟨W.heap.size, 0, none⟩) 3 3, .agg #[.slice (some ⟨W.heap.size + 1, 0, none⟩) 1 1, .bool false]] ((W.alloc (.cells #[.int .i64 2, .int .i64 1, .int .i64 0] 3)).alloc (.cells #[.slice (some ⟨r1, 0, none⟩) 2 2, .int .i64 2] 43)) fun e w' =>
      e = .returned (.tuple #[.int .i64 1, .int .i64 0]) ∧ Below W.heap.size W w' := by
  obtain ⟨P, hP⟩ : ∃ P, (W.alloc (.cells #[.int .i64 2, .int .i64 1, .int .i64 0] 3)).alloc (.cells #[.slice (some ⟨r1, 0, none⟩) 2 2, .int .i64 2] 43) = P := ⟨_, rfl⟩
  have hb : Below W.heap.size W P := by rw [← hP]; exact nw _ (nw _ (Below.refl _ _))
  have hR : Row P W.heap.size [2, 1, 0] := by rw [← hP]; exact (Row.new W [2, 1, 0]).alloc _
  have hC : Blk P (W.heap.size + 1) 43 #[.slice (some ⟨r1, 0, none⟩) 2 2, .int .i64 2] := by rw [← hP]; exact Blk.new_ (by simp)
  have h := h.mono hb
  rw [hP]
  have hc := check_any (some ⟨gl, 0, none⟩) 3 threeG (some ⟨W.heap.size, 0, none⟩) [2, 1, 0] 3 (some ⟨W.heap.size + 1, 0, none⟩) [canA] 1 false P h.links (by decide) hR.slr (by decide) ((slr_oneC h.canA_) hC) (by decide) (by decide)
  rw [show checkAll threeG [2, 1, 0] [canA] false = (1, 0) by unfold checkAll; rw [three_b, three_pot]; first | (rw [if_neg (by decide), if_neg (by decide), three_check]; decide) | (rw [if_neg (by decide), if_pos (by decide)])] at hc
  exact hc.mono fun e w' ⟨he, hb'⟩ => ⟨he, bthen hb hb'⟩
theorem san_c7 {bG gl b1 r1 b2 r2 : Nat} {W : World} (h : San bG gl b1 r1 b2 r2 W) :
    Calls Try.prog 34 #[(.agg #[.int .i64 3, .slice (some ⟨gl, 0, none⟩) 3 3]), .slice (some ⟨W.heap.size, 0, none⟩) 3 3, .agg #[.slice (some ⟨W.heap.size + 1, 0, none⟩) 1 1, .bool false]] ((W.alloc (.cells #[.int .i64 2, .int .i64 1, .int .i64 0] 3)).alloc (.cells #[.slice (some ⟨r2, 0, none⟩) 1 1, .int .i64 5] 43)) fun e w' =>
      e = .returned (.tuple #[.int .i64 0, .int .i64 160]) ∧ Below W.heap.size W w' := by
  obtain ⟨P, hP⟩ : ∃ P, (W.alloc (.cells #[.int .i64 2, .int .i64 1, .int .i64 0] 3)).alloc (.cells #[.slice (some ⟨r2, 0, none⟩) 1 1, .int .i64 5] 43) = P := ⟨_, rfl⟩
  have hb : Below W.heap.size W P := by rw [← hP]; exact nw _ (nw _ (Below.refl _ _))
  have hR : Row P W.heap.size [2, 1, 0] := by rw [← hP]; exact (Row.new W [2, 1, 0]).alloc _
  have hC : Blk P (W.heap.size + 1) 43 #[.slice (some ⟨r2, 0, none⟩) 1 1, .int .i64 5] := by rw [← hP]; exact Blk.new_ (by simp)
  have h := h.mono hb
  rw [hP]
  have hc := check_any (some ⟨gl, 0, none⟩) 3 threeG (some ⟨W.heap.size, 0, none⟩) [2, 1, 0] 3 (some ⟨W.heap.size + 1, 0, none⟩) [canB_] 1 false P h.links (by decide) hR.slr (by decide) ((slr_oneC h.canB__) hC) (by decide) (by decide)
  rw [show checkAll threeG [2, 1, 0] [canB_] false = (0, 160) by unfold checkAll; rw [three_b, three_pot]; first | (rw [if_neg (by decide), if_neg (by decide), three_check]; decide) | (rw [if_neg (by decide), if_pos (by decide)])] at hc
  exact hc.mono fun e w' ⟨he, hb'⟩ => ⟨he, bthen hb hb'⟩
theorem san_c8 {bG gl b1 r1 b2 r2 : Nat} {W : World} (h : San bG gl b1 r1 b2 r2 W) :
    Calls Try.prog 34 #[(.agg #[.int .i64 3, .slice (some ⟨gl, 0, none⟩) 3 3]), .slice (some ⟨W.heap.size, 0, none⟩) 3 3, .agg #[.slice (some ⟨W.heap.size + 1, 0, none⟩) 2 2, .bool false]] ((W.alloc (.cells #[.int .i64 2, .int .i64 1, .int .i64 0] 3)).alloc (.cells #[.slice (some ⟨r1, 0, none⟩) 2 2, .int .i64 2, .slice (some ⟨r2, 0, none⟩) 1 1, .int .i64 5] 43)) fun e w' =>
      e = .returned (.tuple #[.int .i64 2, .int .i64 160]) ∧ Below W.heap.size W w' := by
  obtain ⟨P, hP⟩ : ∃ P, (W.alloc (.cells #[.int .i64 2, .int .i64 1, .int .i64 0] 3)).alloc (.cells #[.slice (some ⟨r1, 0, none⟩) 2 2, .int .i64 2, .slice (some ⟨r2, 0, none⟩) 1 1, .int .i64 5] 43) = P := ⟨_, rfl⟩
  have hb : Below W.heap.size W P := by rw [← hP]; exact nw _ (nw _ (Below.refl _ _))
  have hR : Row P W.heap.size [2, 1, 0] := by rw [← hP]; exact (Row.new W [2, 1, 0]).alloc _
  have hC : Blk P (W.heap.size + 1) 43 #[.slice (some ⟨r1, 0, none⟩) 2 2, .int .i64 2, .slice (some ⟨r2, 0, none⟩) 1 1, .int .i64 5] := by rw [← hP]; exact Blk.new_ (by simp)
  have h := h.mono hb
  rw [hP]
  have hc := check_any (some ⟨gl, 0, none⟩) 3 threeG (some ⟨W.heap.size, 0, none⟩) [2, 1, 0] 3 (some ⟨W.heap.size + 1, 0, none⟩) [canA, canB_] 2 false P h.links (by decide) hR.slr (by decide) ((slr_two h.canA_ h.canB__) hC) (by decide) (by decide)
  rw [show checkAll threeG [2, 1, 0] [canA, canB_] false = (2, 160) by unfold checkAll; rw [three_b, three_pot]; first | (rw [if_neg (by decide), if_neg (by decide), three_check]; decide) | (rw [if_neg (by decide), if_pos (by decide)])] at hc
  exact hc.mono fun e w' ⟨he, hb'⟩ => ⟨he, bthen hb hb'⟩
theorem san_c11 {bG gl b1 r1 b2 r2 : Nat} {W : World} (h : San bG gl b1 r1 b2 r2 W) :
    Calls Try.prog 34 #[(.agg #[.int .i64 3, .slice (some ⟨gl, 0, none⟩) 3 3]), .slice (some ⟨W.heap.size, 0, none⟩) 3 3, .agg #[.slice (some ⟨W.heap.size + 1, 0, none⟩) 2 2, .bool true]] ((W.alloc (.cells #[.int .i64 2, .int .i64 1, .int .i64 0] 3)).alloc (.cells #[.slice (some ⟨r1, 0, none⟩) 2 2, .int .i64 2, .slice (some ⟨r2, 0, none⟩) 1 1, .int .i64 5] 43)) fun e w' =>
      e = .returned (.tuple #[.int .i64 2, .int .i64 0]) ∧ Below W.heap.size W w' := by
  obtain ⟨P, hP⟩ : ∃ P, (W.alloc (.cells #[.int .i64 2, .int .i64 1, .int .i64 0] 3)).alloc (.cells #[.slice (some ⟨r1, 0, none⟩) 2 2, .int .i64 2, .slice (some ⟨r2, 0, none⟩) 1 1, .int .i64 5] 43) = P := ⟨_, rfl⟩
  have hb : Below W.heap.size W P := by rw [← hP]; exact nw _ (nw _ (Below.refl _ _))
  have hR : Row P W.heap.size [2, 1, 0] := by rw [← hP]; exact (Row.new W [2, 1, 0]).alloc _
  have hC : Blk P (W.heap.size + 1) 43 #[.slice (some ⟨r1, 0, none⟩) 2 2, .int .i64 2, .slice (some ⟨r2, 0, none⟩) 1 1, .int .i64 5] := by rw [← hP]; exact Blk.new_ (by simp)
  have h := h.mono hb
  rw [hP]
  have hc := check_any (some ⟨gl, 0, none⟩) 3 threeG (some ⟨W.heap.size, 0, none⟩) [2, 1, 0] 3 (some ⟨W.heap.size + 1, 0, none⟩) [canA, canB_] 2 true P h.links (by decide) hR.slr (by decide) ((slr_two h.canA_ h.canB__) hC) (by decide) (by decide)
  rw [show checkAll threeG [2, 1, 0] [canA, canB_] true = (2, 0) by unfold checkAll; rw [three_b, three_pot]; first | (rw [if_neg (by decide), if_neg (by decide), three_check]; decide) | (rw [if_neg (by decide), if_pos (by decide)])] at hc
  exact hc.mono fun e w' ⟨he, hb'⟩ => ⟨he, bthen hb hb'⟩

theorem san_c9 {bG gl b1 r1 b2 r2 : Nat} {W : World} (h : San bG gl b1 r1 b2 r2 W) :
    Calls Try.prog 34 #[(.agg #[.int .i64 3, .slice (some ⟨gl, 0, none⟩) 3 3]), .slice (some ⟨W.heap.size, 0, none⟩) 3 3, .agg #[.slice none 0 0, .bool false]] (W.alloc (.cells #[.int .i64 2, .int .i64 1, .int .i64 1] 3)) fun e w' => e = .returned (.tuple #[.int .i64 (-1), .int .i64 160]) ∧ Below W.heap.size W w' := by
  obtain ⟨P, hP⟩ : ∃ P, W.alloc (.cells #[.int .i64 2, .int .i64 1, .int .i64 1] 3) = P := ⟨_, rfl⟩
  have hb : Below W.heap.size W P := by rw [← hP]; exact nw _ (Below.refl _ _)
  have hR : Row P W.heap.size [2, 1, 1] := by rw [← hP]; exact Row.new W [2, 1, 1]
  have h := h.mono hb
  rw [hP]
  have hc := check_any (some ⟨gl, 0, none⟩) 3 threeG (some ⟨W.heap.size, 0, none⟩) [2, 1, 1] 3 none [] 0 false P h.links (by decide) hR.slr (by decide) SlR.nil (by decide) (by decide)
  rw [show checkAll threeG [2, 1, 1] [] false = (-1, 160) by unfold checkAll; rw [three_b, three_pot, if_neg (by decide), if_pos (by decide)]] at hc
  exact hc.mono fun e w' ⟨he, hb'⟩ => ⟨he, bthen hb hb'⟩
theorem san_c10 (W : World) :
    Calls Try.prog 34 #[.agg #[.int .i64 0, .slice none 0 0], .slice none 0 0, .agg #[.slice none 0 0, .bool false]] W fun e w' => e = .returned (.tuple #[.int .i64 0, .int .i64 150]) ∧ Below W.heap.size W w' := by
  have hc := check_any none 0 ⟨0, []⟩ none [] 0 none [] 0 false W SlR.nil (by decide) SlR.nil (by decide) SlR.nil (by decide) (by decide)
  rw [show checkAll ⟨0, []⟩ [] [] false = (0, 150) by unfold checkAll; rw [empty_b, if_pos rfl]] at hc
  exact hc
theorem san_p4 {bG gl b1 r1 b2 r2 : Nat} {W : World} (h : San bG gl b1 r1 b2 r2 W) :
    Calls Try.prog 36 #[(.agg #[.int .i64 3, .slice (some ⟨gl, 0, none⟩) 3 3])] W fun e w' => ∃ A c, e = .returned (.tuple #[.slice A 3 c, .int .i64 0]) ∧ SlR 1 RInt w' A [2, 1, 0] ∧ Below W.heap.size W w' := by
  have hc := pot_any (some ⟨gl, 0, none⟩) 3 threeG W h.links (by decide)
  rw [show potsOf threeG = ([2, 1, 0], 0) by unfold potsOf; rw [three_b, three_pot]; rfl] at hc
  exact hc.mono fun e w' ⟨A, c, he, hs, hb, _⟩ => ⟨A, c, he, hs, hb⟩
theorem san_p5 (W : World) :
    Calls Try.prog 36 #[.agg #[.int .i64 0, .slice none 0 0]] W fun e w' => ∃ A c, e = .returned (.tuple #[.slice A 0 c, .int .i64 150]) ∧ Below W.heap.size W w' := by
  have hc := pot_any none 0 ⟨0, []⟩ W SlR.nil (by decide)
  rw [show potsOf ⟨0, []⟩ = ([], 150) by unfold potsOf; rw [empty_b]; rfl] at hc
  exact hc.mono fun e w' ⟨A, c, he, _, hb, _⟩ => ⟨A, c, he, hb⟩
theorem san_i {A : Option Addr} {c : Nat} {W : World} (h : SlR 1 RInt W A [2, 1, 0]) :
    Calls Try.prog 27 #[.slice A 3 c, .slice (some ⟨W.heap.size, 0, none⟩) 3 3] (W.alloc (.cells #[.int .i64 2, .int .i64 1, .int .i64 0] 3)) fun e w' => e = .returned (.bool true) ∧ Below W.heap.size W w' := by
  obtain ⟨P, hP⟩ : ∃ P, W.alloc (.cells #[.int .i64 2, .int .i64 1, .int .i64 0] 3) = P := ⟨_, rfl⟩
  have hb : Below W.heap.size W P := by rw [← hP]; exact nw _ (Below.refl _ _)
  have hR : Row P W.heap.size [2, 1, 0] := by rw [← hP]; exact Row.new W [2, 1, 0]
  rw [hP]
  have hc := ints_any A (some ⟨W.heap.size, 0, none⟩) [2, 1, 0] [2, 1, 0] c 3 P (h.below keeps_int hb) hR.slr (by decide) (by decide)
  exact hc.mono fun e w' ⟨he, hb'⟩ => ⟨by rw [he]; simp, bthen hb hb'⟩
theorem san_r {bG gl b1 r1 b2 r2 : Nat} {W : World} (h : San bG gl b1 r1 b2 r2 W) (hs : List Int) (hl : hs.length ≤ maxLen) :
    Calls Try.prog 49 #[(.agg #[.int .i64 3, .slice (some ⟨gl, 0, none⟩) 3 3]), .slice (some ⟨W.heap.size, 0, none⟩) hs.length hs.length] (W.alloc (.cells (hs.map (Value.int .i64)).toArray 3)) fun e w' => e = .returned (.bool (decide (hs = [2, 1, 0]))) ∧ Below W.heap.size W w' := by
  obtain ⟨P, hP⟩ : ∃ P, W.alloc (.cells (hs.map (Value.int .i64)).toArray 3) = P := ⟨_, rfl⟩
  have hb : Below W.heap.size W P := by rw [← hP]; exact nw _ (Below.refl _ _)
  have hR : Row P W.heap.size hs := by rw [← hP]; exact Row.new W hs
  have h := h.mono hb
  rw [hP]
  have hc := right_any (some ⟨gl, 0, none⟩) 3 threeG (some ⟨W.heap.size, 0, none⟩) hs hs.length P h.links (by decide) hR.slr hl
  rw [three_b, three_pot, Bool.true_and] at hc
  exact hc.mono fun e w' ⟨he, hb'⟩ => ⟨he, bthen hb hb'⟩
theorem san_r1 {bG gl b1 r1 b2 r2 : Nat} {W : World} (h : San bG gl b1 r1 b2 r2 W) :
    Calls Try.prog 49 #[(.agg #[.int .i64 3, .slice (some ⟨gl, 0, none⟩) 3 3]), .slice (some ⟨W.heap.size, 0, none⟩) 3 3] (W.alloc (.cells #[.int .i64 2, .int .i64 1, .int .i64 0] 3)) fun e w' => e = .returned (.bool true) ∧ Below W.heap.size W w' := san_r h [2, 1, 0] (by decide)
theorem san_r2 {bG gl b1 r1 b2 r2 : Nat} {W : World} (h : San bG gl b1 r1 b2 r2 W) :
    Calls Try.prog 49 #[(.agg #[.int .i64 3, .slice (some ⟨gl, 0, none⟩) 3 3]), .slice (some ⟨W.heap.size, 0, none⟩) 2 2] (W.alloc (.cells #[.int .i64 2, .int .i64 1] 3)) fun e w' => e = .returned (.bool false) ∧ Below W.heap.size W w' := san_r h [2, 1] (by decide)
theorem san_r3 (W : World) :
    Calls Try.prog 49 #[.agg #[.int .i64 0, .slice none 0 0], .slice none 0 0] W fun e w' => e = .returned (.bool false) ∧ Below W.heap.size W w' := by
  have hc := right_any none 0 ⟨0, []⟩ none [] 0 W SlR.nil (by decide) SlR.nil (by decide)
  rw [empty_b, Bool.false_and] at hc
  exact hc
set_option maxRecDepth 100000 in
set_option maxHeartbeats 8000000 in
theorem sanity_any (w : World) : Calls Try.prog 30 #[] w fun e w' => e = .returned (.bool true) ∧ Below w.heap.size w w' := by
  go_enter Try.func30, Try.ntmps30
  go_upto_region 2 with (go_at_call 48; go_loud (refine (three_any w).mono ?_; rintro e w1 ⟨gl, rfl, hgl, hb1⟩))
  obtain ⟨W2, hW2⟩ : ∃ W, w1.alloc (.cells #[.int .i64 3, .slice (some ⟨gl, 0, none⟩) 3 3] 30) = W := ⟨_, rfl⟩
  have hb2 : Below w1.heap.size w1 W2 := by rw [← hW2]; exact nw _ (Below.refl _ _)
  have hG2 : Blk W2 w1.heap.size 30 #[.int .i64 3, .slice (some ⟨gl, 0, none⟩) 3 3] := by rw [← hW2]; exact Blk.new _ _ _
  have hgl2 := hgl.below hb2 hgl.lt
  rw [hW2]
  obtain ⟨bG, hbG⟩ : ∃ b, w1.heap.size = b := ⟨_, rfl⟩
  have hbw2 := bthen hb1 hb2
  rw [hbG] at hG2 ⊢
  clear hW2 hbG hgl hb2 hb1
  have go_ := hG2.lt
  obtain ⟨W6, hW6⟩ : ∃ W, (((W2.alloc (.cells #[.int .i64 0, .int .i64 1] 3)).alloc (.cells #[.slice (some ⟨W2.heap.size, 0, none⟩) 2 2, .int .i64 2] 43)).alloc (.cells #[.int .i64 2] 3)).alloc (.cells #[.slice (some ⟨W2.heap.size + 1 + 1, 0, none⟩) 1 1, .int .i64 5] 43) = W := ⟨_, rfl⟩
  have hb6 : Below W2.heap.size W2 W6 := by rw [← hW6]; exact nw _ (nw _ (nw _ (nw _ (Below.refl _ _))))
  have hS : San bG gl (W2.heap.size + 1) W2.heap.size (W2.heap.size + 1 + 1 + 1) (W2.heap.size + 1 + 1) W6 := by
    refine ⟨hG2.below hb6 hG2.lt, hgl2.below hb6 hgl2.lt, ?_, ?_, ?_, ?_⟩
    · rw [← hW6]; exact ((Blk.new_ (by simp)).alloc _).alloc _
    · rw [← hW6]; exact (((Row.new W2 [0, 1]).alloc _).alloc _).alloc _
    · rw [← hW6]; exact Blk.new_ (by simp)
    · rw [← hW6]
      have : Row (((W2.alloc (.cells #[.int .i64 0, .int .i64 1] 3)).alloc (.cells #[.slice (some ⟨W2.heap.size, 0, none⟩) 2 2, .int .i64 2] 43)).alloc (.cells #[.int .i64 2] 3)) (W2.heap.size + 1 + 1) [2] := Blk.new_ (by simp)
      exact this.alloc _
  have HW6 := Lib.hid hW6
  have hbw6 := bthen hbw2 hb6
  clear hW6 hb6 hgl2 hG2 hbw2
  go_upto_region 4 with fail
  rw [HW6.out]
  obtain ⟨r1, hr1⟩ : ∃ b, W2.heap.size = b := ⟨_, rfl⟩
  rw [hr1] at hS ⊢
  obtain ⟨b1, hb1e⟩ : ∃ b, r1 + 1 = b := ⟨_, rfl⟩
  rw [hb1e] at hS ⊢
  obtain ⟨r2, hr2⟩ : ∃ b, b1 + 1 = b := ⟨_, rfl⟩
  rw [hr2] at hS ⊢
  obtain ⟨b2, hb2e⟩ : ∃ b, r2 + 1 = b := ⟨_, rfl⟩
  rw [hb2e] at hS ⊢
  clear hr1 hb1e hr2 hb2e go_
  obtain ⟨s1, s2, s3, s4, s5, s6, s7, s8⟩ := hS.cells
  go_upto_region 5 with (go_at_call 36; go_loud (refine (san_p4 hS).mono ?_; rintro e V4 ⟨A4, c4, rfl, hs4, hb4⟩))
  have hS4 := hS.mono hb4
  have hbw := bthen hbw6 hb4
  clear hb4 hbw6 hS HW6 s1 s2 s3 s4 s5 s6 s7 s8
  obtain ⟨s1, s2, s3, s4, s5, s6, s7, s8⟩ := hS4.cells
  go_upto_region 6 with (go_at_call 36; go_loud (refine (san_p5 _).mono ?_; rintro e V5 ⟨A5, c5, rfl, hb5⟩))
  have hS5 := hS4.mono hb5
  have hbw5 := bthen hbw hb5
  have hs5 := hs4.below keeps_int hb5
  clear hb5 hS4 hs4 s1 s2 s3 s4 s5 s6 s7 s8
  obtain ⟨s1, s2, s3, s4, s5, s6, s7, s8⟩ := hS5.cells
  go_upto_region 7 with (go_at_call 34; go_loud (refine (san_c6 hS5).mono ?_; rintro e V6 ⟨rfl, hb6⟩))
  have hS6 := hS5.mono hb6
  have hbw6 := bthen hbw5 hb6
  have hs6 := hs5.below keeps_int hb6
  clear hb6 hS5 hs5 s1 s2 s3 s4 s5 s6 s7 s8
  obtain ⟨s1, s2, s3, s4, s5, s6, s7, s8⟩ := hS6.cells
  go_upto_region 8 with (go_at_call 34; go_loud (refine (san_c7 hS6).mono ?_; rintro e V7 ⟨rfl, hb7⟩))
  have hS7 := hS6.mono hb7
  have hbw7 := bthen hbw6 hb7
  have hs7 := hs6.below keeps_int hb7
  clear hb7 hS6 hs6 s1 s2 s3 s4 s5 s6 s7 s8
  obtain ⟨s1, s2, s3, s4, s5, s6, s7, s8⟩ := hS7.cells
  go_upto_region 9 with (go_at_call 34; go_loud (refine (san_c8 hS7).mono ?_; rintro e V8 ⟨rfl, hb8⟩))
  have hS8 := hS7.mono hb8
  have hbw8 := bthen hbw7 hb8
  have hs8 := hs7.below keeps_int hb8
  clear hb8 hS7 hs7 s1 s2 s3 s4 s5 s6 s7 s8
  obtain ⟨s1, s2, s3, s4, s5, s6, s7, s8⟩ := hS8.cells
  go_upto_region 10 with (go_at_call 34; go_loud (refine (san_c9 hS8).mono ?_; rintro e V9 ⟨rfl, hb9⟩))
  have hS9 := hS8.mono hb9
  have hbw9 := bthen hbw8 hb9
  have hs9 := hs8.below keeps_int hb9
  clear hb9 hS8 hs8 s1 s2 s3 s4 s5 s6 s7 s8
  obtain ⟨s1, s2, s3, s4, s5, s6, s7, s8⟩ := hS9.cells
  go_upto_region 11 with (go_at_call 34; go_loud (refine (san_c10 _).mono ?_; rintro e V10 ⟨rfl, hb10⟩))
  have hS10 := hS9.mono hb10
  have hbw10 := bthen hbw9 hb10
  have hs10 := hs9.below keeps_int hb10
  clear hb10 hS9 hs9 s1 s2 s3 s4 s5 s6 s7 s8
  obtain ⟨s1, s2, s3, s4, s5, s6, s7, s8⟩ := hS10.cells
  go_upto_region 12 with (go_at_call 34; go_loud (refine (san_c11 hS10).mono ?_; rintro e V11 ⟨rfl, hb11⟩))
  have hS11 := hS10.mono hb11
  have hbw11 := bthen hbw10 hb11
  have hs11 := hs10.below keeps_int hb11
  clear hb11 hS10 hs10 s1 s2 s3 s4 s5 s6 s7 s8
  obtain ⟨s1, s2, s3, s4, s5, s6, s7, s8⟩ := hS11.cells
  go_upto_region 13 with fail
  have hs13 := hs11
  go_wp2_with (first
    | (go_at_call 27; (with_reducible refine (san_i hs13).mono ?_); rintro e V13 ⟨rfl, hb13⟩; have hS13 := hS11.mono hb13; obtain ⟨y1, y2, _⟩ := hS13.cells)
    | (go_at_call 49; (with_reducible refine (san_r1 hS13).mono ?_); rintro e V14 ⟨rfl, hb14⟩; have hS14 := hS13.mono hb14; obtain ⟨y3, y4, _⟩ := hS14.cells)
    | (go_at_call 49; (with_reducible refine (san_r2 hS14).mono ?_); rintro e V15 ⟨rfl, hb15⟩)
    | (go_at_call 49; (with_reducible refine (san_r3 _).mono ?_); rintro e V16 ⟨rfl, hb16⟩))
  go_ret
  exact ⟨rfl, bthen (bthen (bthen (bthen hbw11 hb13) hb14) hb15) hb16⟩
end Go.Proofs.Ytbikjmafddndpaa
