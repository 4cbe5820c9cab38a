/-
  The walks of layer 16: the reference's Right.
-/
import Derived.Test.YtbikjmafddndpaaGrWalkD
namespace Go.Proofs.Ytbikjmafddndpaa
open Go Go.RowKit

set_option maxRecDepth 100000 in
set_option maxHeartbeats 4000000 in
theorem refright_any (A : Option Addr) (c : Nat) (g : Gr) (B : Option Addr) (hs : List Int) (d : Nat) (w : World) (hx : SlR 4 RLk w A g.ls) (hl : g.ls.length ≤ maxLen) (hy : SlR 1 RInt w B hs) (hl2 : hs.length ≤ maxLen) :
    Calls Try.prog 53 #[.agg #[.int .i64 g.n, .slice A g.ls.length c], .slice B hs.length d] w fun e w' => e = .returned (.bool (grB g && decide (hs = potL g))) ∧ Below w.heap.size w w' := by
  obtain ⟨w1, hw1⟩ : ∃ w1, w.alloc (.cells #[.int .i64 g.n, .slice A g.ls.length c] 30) = w1 := ⟨_, rfl⟩
  have hb1 : Below w.heap.size w w1 := by rw [← hw1]; exact nw _ (Below.refl _ _)
  have hB1 : Blk w1 w.heap.size 30 #[.int .i64 g.n, .slice A g.ls.length c] := by rw [← hw1]; exact Blk.new _ _ _
  have HW1 := Lib.hid hw1
  have c0 := hB1.cell 0
  have c1 := hB1.cell 1
  have lb := hB1.lt
  simp at c0 c1
  have HPot := Lib.hid (refpot_any A c g w1 (hx.below keeps_lk hb1) hl)
  have HY := Lib.hid (hy.below keeps_int hb1)
  have hpl : (potL g).length ≤ maxLen ∨ grB g = false := by
    cases hgr : grB g with
    | false => exact .inr rfl
    | true =>
      have := (grB_iff.1 hgr).n
      left
      unfold potL
      rw [potS_len]
      unfold maxLen
      omega
  clear hw1 hx hy
  cases hgr : grB g with
  | false =>
    rw [show potsOf g = ([], 150) by unfold potsOf; rw [hgr]; rfl] at HPot
    clear hgr hpl
    go_enter Try.func53, Try.ntmps53
    go_wp2_with (go_at_call 31; go_loud (rw [HW1.out]; refine HPot.out.mono ?_; rintro e w2 ⟨A2, c2, rfl, hs2, hb2, _⟩))
    go_ret
    exact ⟨rfl, bthen hb1 hb2⟩
  | true =>
    rw [show potsOf g = (potL g, 0) by unfold potsOf; rw [hgr]; rfl] at HPot
    have hpl' : (potL g).length ≤ maxLen := hpl.resolve_right (by rw [hgr]; simp)
    clear hgr hpl
    generalize potL g = ps at *
    go_enter Try.func53, Try.ntmps53
    go_wp2_with (first | (go_at_call 31; go_loud (rw [HW1.out]; refine HPot.out.mono ?_; rintro e w2 ⟨A2, c2, rfl, hs2, hb2, _⟩)) | (go_at_call 27; go_loud (refine (ints_any B A2 hs ps d c2 _ (HY.out.below keeps_int hb2) hs2 hl2 hpl').mono ?_; rintro e w3 ⟨rfl, hb3⟩)))
    go_ret
    exact ⟨ret_bool (by simp), bthen hb1 (bthen hb2 hb3)⟩
end Go.Proofs.Ytbikjmafddndpaa
