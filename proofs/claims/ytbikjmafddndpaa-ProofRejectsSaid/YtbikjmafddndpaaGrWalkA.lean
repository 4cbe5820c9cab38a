/-
  The walks of layers 15 and 16: graphs in memory; whether a graph is valid.
-/
import Derived.Test.YtbikjmafddndpaaChecked
import Derived.Test.YtbikjmafddndpaaBase
import Derived.Outline
import Derived.Deep.Light
import Derived.WalkLawsBesides
import Derived.Handy
import Derived.IntWalk
namespace Go.Proofs.Ytbikjmafddndpaa
open Go Go.RowKit

abbrev vLk (l : Lk) : Value := .agg #[.int .i64 l.fr, .int .i64 l.to, .int .i64 l.lb, .int .i64 l.cost]
def RLk (_ : World) (x : Lk) (vs : List Value) : Prop := vs = [.int .i64 x.fr, .int .i64 x.to, .int .i64 x.lb, .int .i64 x.cost]
theorem keeps_lk : Keeps RLk := fun _ _ _ _ _ h => h
theorem SlR.lk {w : World} {A : Option Addr} {k : Nat} {xs : List Lk} (h : SlR 4 RLk w A xs) (hk : k < xs.length) : ∃ b off x, A = some ⟨b, off, none⟩ ∧ b < w.heap.size ∧ xs[k]? = some x ∧
    w.cell? ⟨b, off + k * 4, none⟩ = some (.int .i64 x.fr) ∧ w.cell? ⟨b, off + k * 4 + 1, none⟩ = some (.int .i64 x.to) ∧ w.cell? ⟨b, off + k * 4 + 2, none⟩ = some (.int .i64 x.lb) ∧
    w.cell? ⟨b, off + k * 4 + 3, none⟩ = some (.int .i64 x.cost) := by
  obtain ⟨b, off, x, vs, hA, hlt, hx, hr, _, hv⟩ := h.at_ hk
  exact ⟨b, off, x, hA, hlt, hx, hv 0 _ (by rw [hr]; rfl), hv 1 _ (by rw [hr]; rfl), hv 2 _ (by rw [hr]; rfl), hv 3 _ (by rw [hr]; rfl)⟩
theorem nw {w W : World} (o : Obj) (h : Below w.heap.size w W) : Below w.heap.size w (W.alloc o) := h.alloc h.size o
theorem bthen {a b c : World} (h1 : Below a.heap.size a b) (h2 : Below b.heap.size b c) : Below a.heap.size a c := h1.trans (h2.mono h1.size)
theorem gr_no {g : Gr} {k : Nat} {l : Lk} (h : g.ls[k]? = some l) (hl : lkB g.n l = false) : grB g = false := by
  unfold grB
  rw [show g.ls.all (lkB g.n) = false from List.all_eq_false.2 ⟨l, List.mem_of_getElem? h, by rw [hl]; simp⟩]
  simp

set_option maxRecDepth 100000 in
set_option maxHeartbeats 4000000 in
theorem valid_any (A : Option Addr) (c : Nat) (g : Gr) (w : World) (hx : SlR 4 RLk w A g.ls) (hl : g.ls.length ≤ maxLen) :
    Calls Try.prog 28 #[.agg #[.int .i64 g.n, .slice A g.ls.length c]] w fun e w' => e = .returned (.bool (grB g)) ∧ Below w.heap.size w w' := by
  unfold maxLen at hl
  obtain ⟨w1, hw1⟩ : ∃ w1, w.alloc (.cells #[.int .i64 g.n, .slice A g.ls.length c] 30) = w1 := ⟨_, rfl⟩
  have hb1 : Below w.heap.size w w1 := by rw [← hw1]; exact nw _ (Below.refl _ _)
  have HB1 : Hid (Blk w1 w.heap.size 30 #[.int .i64 g.n, .slice A g.ls.length c]) := by rw [← hw1]; exact Blk.new _ _ _
  have HW1 := Lib.hid hw1
  have c0 := HB1.out.cell 0
  have c1 := HB1.out.cell 1
  have lb := HB1.out.lt
  simp at c0 c1
  clear hw1
  go_enter Try.func28, Try.ntmps28
  go_wp2_with fail
  all_goals (rw [HW1.out])
  all_goals first
    | (go_ret; exact ⟨ret_bool (by unfold grB; simp; omega), hb1⟩)
    | skip
  go_loopw [22] (fun i wr => ∃ k : Nat, k ≤ g.ls.length ∧ Hid (∀ l ∈ g.ls.take k, lkB g.n l = true) ∧ i = .int .i64 k ∧ Below w1.heap.size w1 wr) (fun i _ => g.ls.length - (intOf i).toNat)
  case atStart => exact ⟨0, by omega, (by show ∀ l ∈ g.ls.take 0, _; simp), rfl, Below.refl _ _⟩
  case round =>
    obtain ⟨k, hk, HS, rfl, hbr⟩ := hrel
    have hB := HB1.out.below hbr lb
    have r0 := hB.cell 0
    have r1 := hB.cell 1
    have rl := hB.lt
    simp at r0 r1
    have HBr := Lib.hid hbr
    have hbw := bthen hb1 hbr
    by_cases hlt : k < g.ls.length
    · obtain ⟨b, off, l, rfl, hbb, hll, d0, d1, d2, d3⟩ := (hx.below keeps_lk hbw).lk hlt
      have HL := Lib.hid hll
      clear hll hB hbr
      go_wp2_with fail
      all_goals first
        | (go_roundw
           case rel => exact ⟨k + 1, by omega, (by
              show ∀ l ∈ g.ls.take (k + 1), lkB g.n l = true
              rw [take_succ_of HL.out]
              intro l' hl'
              rcases List.mem_append.1 hl' with h | h
              · exact HS.out l' h
              · obtain rfl := List.mem_singleton.1 h
                unfold lkB; simp; omega), by go_num, nw _ HBr.out⟩
           case measure => simp [intOf]; omega)
        | (go_ret; exact ⟨ret_bool (gr_no HL.out (by unfold lkB; simp; omega)).symm, bthen hb1 (nw _ HBr.out)⟩)
    · go_wp2_with fail
      go_ret
      refine ⟨ret_bool ?_, hbw⟩
      have h1 := HS.out
      rw [List.take_of_length_le (by omega)] at h1
      unfold grB
      rw [List.all_eq_true.2 h1]
      simp
      omega

set_option maxRecDepth 100000 in
set_option maxHeartbeats 4000000 in
theorem refvalid_any (A : Option Addr) (c : Nat) (g : Gr) (w : World) (hx : SlR 4 RLk w A g.ls) (hl : g.ls.length ≤ maxLen) :
    Calls Try.prog 29 #[.agg #[.int .i64 g.n, .slice A g.ls.length c]] w fun e w' => e = .returned (.bool (grB g)) ∧ Below w.heap.size w w' := by
  unfold maxLen at hl
  obtain ⟨w1, hw1⟩ : ∃ w1, w.alloc (.cells #[.int .i64 g.n, .slice A g.ls.length c] 30) = w1 := ⟨_, rfl⟩
  have hb1 : Below w.heap.size w w1 := by rw [← hw1]; exact nw _ (Below.refl _ _)
  have HB1 : Hid (Blk w1 w.heap.size 30 #[.int .i64 g.n, .slice A g.ls.length c]) := by rw [← hw1]; exact Blk.new _ _ _
  have HW1 := Lib.hid hw1
  have c0 := HB1.out.cell 0
  have c1 := HB1.out.cell 1
  have lb := HB1.out.lt
  simp at c0 c1
  clear hw1
  go_enter Try.func29, Try.ntmps29
  go_wp2_with fail
  all_goals (rw [HW1.out])
  all_goals first
    | (go_ret; exact ⟨ret_bool (by unfold grB; simp; omega), hb1⟩)
    | skip
  go_loopw [3] (fun i wr => ∃ k : Nat, k ≤ g.ls.length ∧ Hid (∀ l ∈ g.ls.take k, lkB g.n l = true) ∧ i = .int .i64 k ∧ Below w1.heap.size w1 wr) (fun i _ => g.ls.length - (intOf i).toNat)
  case atStart => exact ⟨0, by omega, (by show ∀ l ∈ g.ls.take 0, _; simp), rfl, Below.refl _ _⟩
  case round =>
    obtain ⟨k, hk, HS, rfl, hbr⟩ := hrel
    have hB := HB1.out.below hbr lb
    have r0 := hB.cell 0
    have r1 := hB.cell 1
    have rl := hB.lt
    simp at r0 r1
    have HBr := Lib.hid hbr
    have hbw := bthen hb1 hbr
    by_cases hlt : k < g.ls.length
    · obtain ⟨b, off, l, rfl, hbb, hll, d0, d1, d2, d3⟩ := (hx.below keeps_lk hbw).lk hlt
      have HL := Lib.hid hll
      clear hll hB hbr
      go_wp2_with fail
      all_goals first
        | (go_roundw
           case rel => exact ⟨k + 1, by omega, (by
              show ∀ l ∈ g.ls.take (k + 1), lkB g.n l = true
              rw [take_succ_of HL.out]
              intro l' hl'
              rcases List.mem_append.1 hl' with h | h
              · exact HS.out l' h
              · obtain rfl := List.mem_singleton.1 h
                unfold lkB; simp; omega), by go_num, nw _ HBr.out⟩
           case measure => simp [intOf]; omega)
        | (go_ret; exact ⟨ret_bool (gr_no HL.out (by unfold lkB; simp; omega)).symm, bthen hb1 (nw _ HBr.out)⟩)
    · go_wp2_with fail
      go_ret
      refine ⟨ret_bool ?_, hbw⟩
      have h1 := HS.out
      rw [List.take_of_length_le (by omega)] at h1
      unfold grB
      rw [List.all_eq_true.2 h1]
      simp
      omega
end Go.Proofs.Ytbikjmafddndpaa
