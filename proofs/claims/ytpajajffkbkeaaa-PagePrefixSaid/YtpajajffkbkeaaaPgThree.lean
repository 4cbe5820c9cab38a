/-
  The fixed examples of layer 19: a graph with two ways.
-/
import Derived.Test.YtpajajffkbkeaaaGrWalkM
import Derived.Test.YtpajajffkbkeaaaGrThree
namespace Go.Proofs.Ytpajajffkbkeaaa
open Go Go.RowKit

set_option maxRecDepth 100000 in
set_option maxHeartbeats 4000000 in
theorem three_any (w : World) : Calls Try.prog 22 #[] w fun e w' => ∃ gl, e = .returned (.agg #[.int .i64 3, .slice (some ⟨gl, 0, none⟩) 3 3]) ∧ Blk w' gl 59 #[.int .i64 0, .int .i64 1, .int .i64 0, .int .i64 1, .int .i64 1, .int .i64 2, .int .i64 0, .int .i64 1, .int .i64 0, .int .i64 2, .int .i64 0, .int .i64 5] ∧ Below w.heap.size w w' := by
  obtain ⟨w1, hw1⟩ : ∃ w1, w.alloc (.cells #[.int .i64 0, .slice none 0 0] 29) = w1 := ⟨_, rfl⟩
  have hb1 : Below w.heap.size w w1 := by rw [← hw1]; exact nw _ (Below.refl _ _)
  have hB1 : Blk w1 w.heap.size 29 #[.int .i64 0, .slice none 0 0] := by rw [← hw1]; exact Blk.new _ _ _
  have HW1 := Lib.hid hw1
  obtain ⟨w2, hw2⟩ : ∃ w2, w1.alloc (.cells #[.int .i64 0, .int .i64 1, .int .i64 0, .int .i64 1, .int .i64 1, .int .i64 2, .int .i64 0, .int .i64 1, .int .i64 0, .int .i64 2, .int .i64 0, .int .i64 5] 59) = w2 := ⟨_, rfl⟩
  have hb2 : Below w1.heap.size w1 w2 := by rw [← hw2]; exact nw _ (Below.refl _ _)
  have hB2 : Blk w2 w1.heap.size 59 #[.int .i64 0, .int .i64 1, .int .i64 0, .int .i64 1, .int .i64 1, .int .i64 2, .int .i64 0, .int .i64 1, .int .i64 0, .int .i64 2, .int .i64 0, .int .i64 5] := by rw [← hw2]; exact Blk.new _ _ _
  have hG2 := hB1.below hb2 hB1.lt
  have hne : w1.heap.size ≠ w.heap.size := by have := hB1.lt; omega
  have c0 := hG2.cell 0
  have c1 := hG2.cell 1
  have f0 := hG2.frozen 0
  have f1 := hG2.frozen 1
  simp at c0 c1
  clear hw1
  go_enter Try.func22, Try.ntmps22
  go_upto_region 1 with fail
  rw [HW1.out]
  go_wp2_with fail
  refine ret_cell (t := 29) (cs := #[.int .i64 3, .slice (some ⟨w1.heap.size, 0, none⟩) 3 3]) (by have := (hG2.set_ 0 (.int .i64 3)).set_ 1 (.slice (some ⟨w1.heap.size, 0, none⟩) 3 3); simpa using this) rfl rfl Try.underlying29 rfl (by kernel_rfl) rfl ?_
  exact ⟨w1.heap.size, rfl, (hB2.far (p := ⟨w.heap.size, 0, none⟩) hne _).far (p := ⟨w.heap.size, 1, none⟩) hne _, ((bthen hb1 hb2).setCell (p := ⟨w.heap.size, 0, none⟩) (Nat.le_refl _) _).setCell (p := ⟨w.heap.size, 1, none⟩) (Nat.le_refl _) _⟩
/-- What sanity's variables hold. -/
structure San (bG gl b1 r1 b2 r2 : Nat) (W : World) : Prop where
  g : Blk W bG 29 #[.int .i64 3, .slice (some ⟨gl, 0, none⟩) 3 3]
  ls : Blk W gl 59 #[.int .i64 0, .int .i64 1, .int .i64 0, .int .i64 1, .int .i64 1, .int .i64 2, .int .i64 0, .int .i64 1, .int .i64 0, .int .i64 2, .int .i64 0, .int .i64 5]
  c1 : Blk W b1 61 #[.slice (some ⟨r1, 0, none⟩) 2 2, .int .i64 2]
  l1 : Row W r1 [0, 1]
  c2 : Blk W b2 61 #[.slice (some ⟨r2, 0, none⟩) 1 1, .int .i64 5]
  l2 : Row W r2 [2]
section
variable {bG gl b1 r1 b2 r2 : Nat} {W W' : World}
theorem San.mono (h : San bG gl b1 r1 b2 r2 W) (hb : Below W.heap.size W W') : San bG gl b1 r1 b2 r2 W' :=
  ⟨h.g.below hb h.g.lt, h.ls.below hb h.ls.lt, h.c1.below hb h.c1.lt, h.l1.below hb h.l1.lt, h.c2.below hb h.c2.lt, h.l2.below hb h.l2.lt⟩
theorem San.cells (h : San bG gl b1 r1 b2 r2 W) : W.cell? ⟨bG, 0, none⟩ = some (.int .i64 3) ∧ W.cell? ⟨bG, 1, none⟩ = some (.slice (some ⟨gl, 0, none⟩) 3 3) ∧ W.cell? ⟨b1, 0, none⟩ = some (.slice (some ⟨r1, 0, none⟩) 2 2) ∧ W.cell? ⟨b1, 1, none⟩ = some (.int .i64 2) ∧
    W.cell? ⟨b2, 0, none⟩ = some (.slice (some ⟨r2, 0, none⟩) 1 1) ∧ W.cell? ⟨b2, 1, none⟩ = some (.int .i64 5) ∧ b1 < W.heap.size ∧ b2 < W.heap.size :=
  ⟨by rw [h.g.cell]; rfl, by rw [h.g.cell]; rfl, by rw [h.c1.cell]; rfl, by rw [h.c1.cell]; rfl, by rw [h.c2.cell]; rfl, by rw [h.c2.cell]; rfl, h.c1.lt, h.c2.lt⟩
theorem San.links (h : San bG gl b1 r1 b2 r2 W) : SlR 4 RLk W (some ⟨gl, 0, none⟩) threeG.ls := slr_blk (enc := encLk) h.ls (fun _ => rfl) (fun _ => rfl)
theorem San.canA_ (h : San bG gl b1 r1 b2 r2 W) : RCan W canA [.slice (some ⟨r1, 0, none⟩) 2 2, .int .i64 2] := ⟨some ⟨r1, 0, none⟩, 2, rfl, h.l1.slr, by decide, by decide⟩
theorem San.canB__ (h : San bG gl b1 r1 b2 r2 W) : RCan W canB_ [.slice (some ⟨r2, 0, none⟩) 1 1, .int .i64 5] := ⟨some ⟨r2, 0, none⟩, 1, rfl, h.l2.slr, by decide, by decide⟩
end
theorem slr_oneC {W : World} {x : Can} {a b : Value} {g : Nat} (hx : RCan W x [a, b]) (h : Blk W g 61 #[a, b]) : SlR 2 RCan W (some ⟨g, 0, none⟩) [x] := fun _ =>
  ⟨g, 0, rfl, h.lt, fun k y hy => by
    match k, hy with
    | 0, hy =>
      simp at hy
      subst hy
      refine ⟨[a, b], hx, rfl, fun j v hj => ?_⟩
      rw [h.cell]
      match j, hj with
      | 0, hj => simpa using hj
      | 1, hj => simpa using hj⟩
theorem slr_two {W : World} {x y : Can} {a b c d : Value} {g : Nat} (hx : RCan W x [a, b]) (hy : RCan W y [c, d]) (h : Blk W g 61 #[a, b, c, d]) : SlR 2 RCan W (some ⟨g, 0, none⟩) [x, y] := fun _ =>
  ⟨g, 0, rfl, h.lt, fun k z hz => by
    match k, hz with
    | 0, hz =>
      simp at hz
      subst hz
      refine ⟨[a, b], hx, rfl, fun j v hj => ?_⟩
      rw [h.cell]
      match j, hj with
      | 0, hj => simpa using hj
      | 1, hj => simpa using hj
    | 1, hz =>
      simp at hz
      subst hz
      refine ⟨[c, d], hy, rfl, fun j v hj => ?_⟩
      rw [h.cell]
      match j, hj with
      | 0, hj => simpa using hj
      | 1, hj => simpa using hj⟩
theorem san_i {A : Option Addr} {c : Nat} {W : World} (h : SlR 1 RInt W A [2, 1, 0]) :
    Calls Try.prog 17 #[.slice A 3 c, .slice (some ⟨W.heap.size, 0, none⟩) 3 3] (W.alloc (.cells #[.int .i64 2, .int .i64 1, .int .i64 0] 3)) fun e w' => e = .returned (.bool true) ∧ Below W.heap.size W w' := by
  obtain ⟨P, hP⟩ : ∃ P, W.alloc (.cells #[.int .i64 2, .int .i64 1, .int .i64 0] 3) = P := ⟨_, rfl⟩
  have hb : Below W.heap.size W P := by rw [← hP]; exact nw _ (Below.refl _ _)
  have hR : Row P W.heap.size [2, 1, 0] := by rw [← hP]; exact Row.new W [2, 1, 0]
  rw [hP]
  have hc := ints_any A (some ⟨W.heap.size, 0, none⟩) [2, 1, 0] [2, 1, 0] c 3 P (h.below keeps_int hb) hR.slr (by decide) (by decide)
  exact hc.mono fun e w' ⟨he, hb'⟩ => ⟨by rw [he]; simp, bthen hb hb'⟩
end Go.Proofs.Ytpajajffkbkeaaa
