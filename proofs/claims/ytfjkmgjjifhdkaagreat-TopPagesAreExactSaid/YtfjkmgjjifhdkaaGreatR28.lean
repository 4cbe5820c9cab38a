/-
  The walks of layer 20: the reference's order of edges, and which lattices it holds valid (layer 14).
-/
import Derived.Test.YtfjkmgjjifhdkaaGreatR26
import Derived.Test.YtfjkmgjjifhdkaaGreatR27
namespace Go.Proofs.YtfjkmgjjifhdkaaGreat
open Go Go.RowKit

theorem lessE_eq (a b : Ed) : lessE a b = if a.fr = b.fr then (decide (a.to < b.to) || (a.to == b.to && decide (a.wd < b.wd))) else decide (a.fr < b.fr) := by
  unfold lessE
  by_cases h : a.fr = b.fr
  · simp [h]
  · rw [if_neg h]
    by_cases h2 : a.fr < b.fr <;> simp [h, h2]
set_option maxRecDepth 100000 in
set_option maxHeartbeats 4000000 in
theorem lessE_any (a b : Ed) (w : World) : Calls Tryz.prog 64 #[vEd a, vEd b] w fun e w' => e = .returned (.bool (lessE a b)) ∧ Below w.heap.size w w' := by
  obtain ⟨w2, hw2⟩ : ∃ w2, (w.alloc (.cells #[.int .i64 a.fr, .int .i64 a.to, .int .i64 a.wd, .int .i64 a.co] 44)).alloc (.cells #[.int .i64 b.fr, .int .i64 b.to, .int .i64 b.wd, .int .i64 b.co] 44) = w2 := ⟨_, rfl⟩
  have hb2 : Below w.heap.size w w2 := by rw [← hw2]; exact nw _ (nw _ (Below.refl _ _))
  have hA : Blk w2 w.heap.size 44 #[.int .i64 a.fr, .int .i64 a.to, .int .i64 a.wd, .int .i64 a.co] := by rw [← hw2]; exact (Blk.new _ _ _).alloc _
  have hB : Blk w2 (w.heap.size + 1) 44 #[.int .i64 b.fr, .int .i64 b.to, .int .i64 b.wd, .int .i64 b.co] := by rw [← hw2]; exact Blk.new_ (by simp)
  have HW2 := Lib.hid hw2
  have HBW := Lib.hid hb2
  have a0 := hA.cell 0
  have a1 := hA.cell 1
  have a2 := hA.cell 2
  have al := hA.lt
  have b0 := hB.cell 0
  have b1 := hB.cell 1
  have b2 := hB.cell 2
  have bl := hB.lt
  simp at a0 a1 a2 b0 b1 b2
  clear hw2 hb2
  obtain ⟨v, hv⟩ : ∃ v, lessE a b = v := ⟨_, rfl⟩
  have HV : Hid ((if a.fr = b.fr then (decide (a.to < b.to) || (a.to == b.to && decide (a.wd < b.wd))) else decide (a.fr < b.fr)) = v) := by show _ = _; rw [← hv, lessE_eq]
  rw [hv]
  clear hv
  by_cases h1 : a.fr = b.fr
  · have z1 : (a.fr != b.fr) = false := by simpa using h1
    have HV : Hid ((decide (a.to < b.to) || (a.to == b.to && decide (a.wd < b.wd))) = v) := by have := HV.out; rw [if_pos h1] at this; exact this
    clear h1
    by_cases h2 : a.to < b.to
    · have HR : Hid (true = v) := by show _ = _; rw [← HV.out]; simp [h2]
      have z2 : decide (a.to < b.to) = true := decide_eq_true h2
      clear h2
      go_enter Tryz.func64, Tryz.ntmps64
      go_upto_region 1 with fail
      rw [HW2.out]
      go_wp2_with fail
      go_ret
      exact ⟨by rw [← HR.out]; rfl, HBW.out⟩
    · have z2 : decide (a.to < b.to) = false := decide_eq_false h2
      by_cases h3 : a.to = b.to
      · have z3 : (a.to == b.to) = true := by simpa using h3
        have HR : Hid (decide (a.wd < b.wd) = v) := by show _ = _; rw [← HV.out]; simp [h3]
        clear h2 h3
        go_enter Tryz.func64, Tryz.ntmps64
        go_upto_region 1 with fail
        rw [HW2.out]
        go_wp2_with fail
        go_ret
        exact ⟨by rw [← HR.out]; rfl, HBW.out⟩
      · have z3 : (a.to == b.to) = false := by simpa using h3
        have HR : Hid (false = v) := by show _ = _; rw [← HV.out]; simp [h2, h3]
        clear h2 h3
        go_enter Tryz.func64, Tryz.ntmps64
        go_upto_region 1 with fail
        rw [HW2.out]
        go_wp2_with fail
        go_ret
        exact ⟨by rw [← HR.out]; rfl, HBW.out⟩
  · have z1 : (a.fr != b.fr) = true := by simpa using h1
    have HR : Hid (decide (a.fr < b.fr) = v) := by have := HV.out; rw [if_neg h1] at this; exact this
    clear h1
    go_enter Tryz.func64, Tryz.ntmps64
    go_upto_region 1 with fail
    rw [HW2.out]
    go_wp2_with fail
    go_ret
    exact ⟨by rw [← HR.out]; rfl, HBW.out⟩
end Go.Proofs.YtfjkmgjjifhdkaaGreat
