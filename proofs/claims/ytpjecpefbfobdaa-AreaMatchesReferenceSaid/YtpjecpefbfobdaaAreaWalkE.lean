/-
  The walks of layer 21: how choices are compared and sorted.
-/
import Derived.Test.YtpjecpefbfobdaaAreaWalkD
import Derived.Test.YtpjecpefbfobdaaShelf
import Derived.LoopN
namespace Go.Proofs.Ytpjecpefbfobdaa
open Go Go.RowKit Go.Shelf Go.Lib Go.Sort

set_option maxHeartbeats 1000000 in
theorem cmpByte_any (x y : Int) (w : World) : Calls Try.prog 34 #[.int .u8 x, .int .u8 y] w fun e w' => e = .returned (.int .i64 (Lib.compareInt x y)) ∧ w = w' := by
  unfold Lib.compareInt
  rcases Int.lt_trichotomy x y with h | h | h
  · go_enter Try.func34, Try.ntmps34
    go_wp2
    go_ret
    exact ⟨rfl, rfl⟩
  · subst h
    go_enter Try.func34, Try.ntmps34
    go_wp2
    go_ret
    exact ⟨rfl, rfl⟩
  · go_enter Try.func34, Try.ntmps34
    go_wp2
    go_ret
    exact ⟨rfl, rfl⟩

def byKey (x y : Cho) : Int := Lib.compareInt x.key y.key
def byCost (x y : Cho) : Int := Lib.compareInt x.cost y.cost
def byBoth (x y : Cho) : Int := if byCost x y ≠ 0 then byCost x y else byKey x y
def encCho (x : Cho) : List Value := [.int .u8 x.key, .int .i64 x.cost]

theorem byKey_any (x y : Cho) (W : World) : Calls Try.prog 33 #[vCho x, vCho y] W fun e w' => e = .returned (.int .i64 (byKey x y)) ∧ ∃ os', w' = grow W os' := by
  unfold byKey
  obtain ⟨r, hr⟩ : ∃ r, Lib.compareInt x.key y.key = r := ⟨_, rfl⟩
  have HC := fun W => cmpByte_any x.key y.key W
  rw [hr] at *
  clear hr
  go_enter Try.func33, Try.ntmps33
  go_wp2_with (go_at_call 34; refine (HC _).mono ?_; rintro e w' ⟨rfl, rfl⟩)
  go_ret
  exact ⟨rfl, _, by rw [alloc_eq_grow, alloc_eq_grow, grow_grow]⟩
theorem byCost_any (x y : Cho) (W : World) : Calls Try.prog 35 #[vCho x, vCho y] W fun e w' => e = .returned (.int .i64 (byCost x y)) ∧ ∃ os', w' = grow W os' := by
  unfold byCost
  obtain ⟨r, hr⟩ : ∃ r, Lib.compareInt x.cost y.cost = r := ⟨_, rfl⟩
  have HC := fun W => Try.cmp_Compare_int x.cost y.cost W
  rw [hr] at *
  clear hr
  go_enter Try.func35, Try.ntmps35
  go_wp2_with (go_at_call 36; refine (HC _).mono ?_; rintro e w' ⟨rfl, rfl⟩)
  go_ret
  exact ⟨rfl, _, by rw [alloc_eq_grow, alloc_eq_grow, grow_grow]⟩

theorem gcell {W : World} {b o : Nat} {v : Value} (h : b < W.heap.size) (hc : W.cell? ⟨b, o, none⟩ = some v) (os : Array Obj) : (grow W os).cell? ⟨b, o, none⟩ = some v := by
  rw [cell?_grow _ _ _ (by exact h)]; exact hc
theorem gsize {W : World} {b : Nat} (h : b < W.heap.size) (os : Array Obj) : b < (grow W os).heap.size := by
  have := Sort.size_grow W os
  omega

set_option maxHeartbeats 2000000 in
/-- The closure of 'order' over the one function byKey. -/
theorem order1_any (x y : Cho) (W : World) (B g : Nat) (hB : B < W.heap.size) (hg : g < W.heap.size) (h0 : W.cell? ⟨B, 0, none⟩ = some (.slice (some ⟨g, 0, none⟩) 1 1)) (h1 : W.cell? ⟨g, 0, none⟩ = some (.func (.func 33) #[] #[])) :
    Calls Try.prog 59 #[vCho x, vCho y, .pointer (some ⟨B, 0, none⟩)] W fun e w' => e = .returned (.int .i64 (byKey x y)) ∧ ∃ os', w' = grow W os' := by
  have HC := fun W => byKey_any x y W
  generalize byKey x y = r at HC ⊢
  have hB' : B ≠ W.heap.size := by omega
  have hg' : g ≠ W.heap.size := by omega
  have hB2 : B ≠ W.heap.size + 1 := by omega
  have hg2 : g ≠ W.heap.size + 1 := by omega
  by_cases hr : r = 0
  · subst hr
    go_enter Try.func59, Try.ntmps59
    go_wp2_with fail
    refine wp_loop_rounds 2 ?_
    rw [rounds_succ]
    go_wp2_with (go_at_call 33; refine (HC _).mono ?_; rintro e w' ⟨rfl, os1, rfl⟩)
    rw [rounds_succ]
    go_wp2_with fail
    go_ret
    exact ⟨rfl, _, by rw [alloc_eq_grow, alloc_eq_grow, grow_grow, grow_grow]⟩
  · go_enter Try.func59, Try.ntmps59
    go_wp2_with fail
    refine wp_loop_rounds 1 ?_
    rw [rounds_succ]
    go_wp2_with (go_at_call 33; refine (HC _).mono ?_; rintro e w' ⟨rfl, os1, rfl⟩)
    go_ret
    exact ⟨rfl, _, by rw [alloc_eq_grow, alloc_eq_grow, grow_grow, grow_grow]⟩
set_option maxHeartbeats 2000000 in
/-- The closure of 'order' over byCost and byKey. -/
theorem order2_any (x y : Cho) (W : World) (B g : Nat) (hB : B < W.heap.size) (hg : g < W.heap.size) (h0 : W.cell? ⟨B, 0, none⟩ = some (.slice (some ⟨g, 0, none⟩) 2 2)) (h1 : W.cell? ⟨g, 0, none⟩ = some (.func (.func 35) #[] #[])) (h2 : W.cell? ⟨g, 1, none⟩ = some (.func (.func 33) #[] #[])) :
    Calls Try.prog 59 #[vCho x, vCho y, .pointer (some ⟨B, 0, none⟩)] W fun e w' => e = .returned (.int .i64 (byBoth x y)) ∧ ∃ os', w' = grow W os' := by
  have HK := fun W => byKey_any x y W
  have HC := fun W => byCost_any x y W
  unfold byBoth
  generalize byKey x y = r at HK ⊢
  generalize byCost x y = q at HC ⊢
  have hB' : B ≠ W.heap.size := by omega
  have hg' : g ≠ W.heap.size := by omega
  have hB2 : B ≠ W.heap.size + 1 := by omega
  have hg2 : g ≠ W.heap.size + 1 := by omega
  have HB0 := Blk.new W 67 #[.int .u8 x.key, .int .i64 x.cost]
  have HB1 := HB0.alloc (.cells #[.int .u8 y.key, .int .i64 y.cost] 67)
  have HB2 : Blk ((W.alloc (.cells #[.int .u8 x.key, .int .i64 x.cost] 67)).alloc (.cells #[.int .u8 y.key, .int .i64 y.cost] 67)) (W.heap.size + 1) 67 #[.int .u8 y.key, .int .i64 y.cost] := Blk.new_ (by simp)
  have hbW := nw (.cells #[.int .u8 y.key, .int .i64 y.cost] 67) (nw (.cells #[.int .u8 x.key, .int .i64 x.cost] 67) (Below.refl W.heap.size W))
  have g0 : ∀ os, (grow ((W.alloc (.cells #[.int .u8 x.key, .int .i64 x.cost] 67)).alloc (.cells #[.int .u8 y.key, .int .i64 y.cost] 67)) os).cell? ⟨W.heap.size, 0, none⟩ = some (.int .u8 x.key) := fun os => gcell HB1.lt (HB1.cell 0) os
  have g1 : ∀ os, (grow ((W.alloc (.cells #[.int .u8 x.key, .int .i64 x.cost] 67)).alloc (.cells #[.int .u8 y.key, .int .i64 y.cost] 67)) os).cell? ⟨W.heap.size, 1, none⟩ = some (.int .i64 x.cost) := fun os => gcell HB1.lt (HB1.cell 1) os
  have g2 : ∀ os, (grow ((W.alloc (.cells #[.int .u8 x.key, .int .i64 x.cost] 67)).alloc (.cells #[.int .u8 y.key, .int .i64 y.cost] 67)) os).cell? ⟨W.heap.size + 1, 0, none⟩ = some (.int .u8 y.key) := fun os => gcell HB2.lt (HB2.cell 0) os
  have g3 : ∀ os, (grow ((W.alloc (.cells #[.int .u8 x.key, .int .i64 x.cost] 67)).alloc (.cells #[.int .u8 y.key, .int .i64 y.cost] 67)) os).cell? ⟨W.heap.size + 1, 1, none⟩ = some (.int .i64 y.cost) := fun os => gcell HB2.lt (HB2.cell 1) os
  have g4 : ∀ os, (grow ((W.alloc (.cells #[.int .u8 x.key, .int .i64 x.cost] 67)).alloc (.cells #[.int .u8 y.key, .int .i64 y.cost] 67)) os).cell? ⟨g, 1, none⟩ = some (.func (.func 33) #[] #[]) := fun os => gcell (Nat.lt_of_lt_of_le hg hbW.size) ((hbW.cell (p := ⟨g, 1, none⟩) hg).trans h2) os
  clear HB0 HB1 HB2 hbW
  by_cases hq : q = 0
  · subst hq
    by_cases hr : r = 0
    · subst hr
      go_enter Try.func59, Try.ntmps59
      go_wp2_with fail
      refine wp_loop_rounds 3 ?_
      rw [rounds_succ]
      go_wp2_with (go_at_call 35; refine (HC _).mono ?_; rintro e w' ⟨rfl, os1, rfl⟩)
      rw [rounds_succ]
      go_wp2_with (go_at_call 33; refine (HK _).mono ?_; rintro e w' ⟨rfl, os2, rfl⟩)
      rw [rounds_succ]
      go_wp2_with fail
      go_ret
      exact ⟨rfl, _, by rw [alloc_eq_grow, alloc_eq_grow, grow_grow, grow_grow, grow_grow]⟩
    · go_enter Try.func59, Try.ntmps59
      go_wp2_with fail
      refine wp_loop_rounds 2 ?_
      rw [rounds_succ]
      go_wp2_with (go_at_call 35; refine (HC _).mono ?_; rintro e w' ⟨rfl, os1, rfl⟩)
      rw [rounds_succ]
      go_wp2_with (go_at_call 33; refine (HK _).mono ?_; rintro e w' ⟨rfl, os2, rfl⟩)
      go_ret
      exact ⟨rfl, _, by rw [alloc_eq_grow, alloc_eq_grow, grow_grow, grow_grow, grow_grow]⟩
  · rw [if_pos hq]
    go_enter Try.func59, Try.ntmps59
    go_wp2_with fail
    refine wp_loop_rounds 1 ?_
    rw [rounds_succ]
    go_wp2_with (go_at_call 35; refine (HC _).mono ?_; rintro e w' ⟨rfl, os1, rfl⟩)
    go_ret
    exact ⟨rfl, _, by rw [alloc_eq_grow, alloc_eq_grow, grow_grow, grow_grow]⟩
end Go.Proofs.Ytpjecpefbfobdaa
