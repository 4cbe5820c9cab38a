/-
  The walks of layer 11: sums, searches and comparisons over slices.
-/
import Derived.Test.YtbfpcleogdalfaaChecked
import Derived.Test.YtbfpcleogdalfaaLib
import Derived.Test.YtbfpcleogdalfaaCostMath
import Derived.Outline
import Derived.Deep.Light
namespace Go.Proofs.Ytbfpcleogdalfaa
open Go Go.RowKit

def RPr (_ : World) (x : Pr) (vs : List Value) : Prop := vs = [.int .i64 x.a, .int .i64 x.b, .int .i64 x.n]
theorem keeps_pr : Keeps RPr := fun _ _ _ _ _ h => h
theorem SlR.pr {w : World} {A : Option Addr} {xs : List Pr} (h : SlR 3 RPr w A xs) {k : Nat} (hk : k < xs.length) :
    ∃ b off x, A = some ⟨b, off, none⟩ ∧ b < w.heap.size ∧ xs[k]? = some x ∧ w.cell? ⟨b, off + k * 3, none⟩ = some (.int .i64 x.a) ∧ w.cell? ⟨b, off + k * 3 + 1, none⟩ = some (.int .i64 x.b) ∧ w.cell? ⟨b, off + k * 3 + 2, none⟩ = some (.int .i64 x.n) := by
  obtain ⟨b, off, x, vs, hA, hlt, hx, hr, _, hv⟩ := h.at_ hk
  exact ⟨b, off, x, hA, hlt, hx, hv 0 _ (by rw [hr]; rfl), hv 1 _ (by rw [hr]; rfl), hv 2 _ (by rw [hr]; rfl)⟩

/-! syllabaryref02.In. -/
def inB (n lo hi : Int) : Bool := decide (lo ≤ n) && decide (n ≤ hi)
set_option maxHeartbeats 400000 in
theorem in_any (n lo hi : Int) (w : World) : Calls Try.prog 36 #[.int .i64 n, .int .i64 lo, .int .i64 hi] w fun e w' => e = .returned (.bool (inB n lo hi)) ∧ w = w' := by
  unfold inB
  by_cases h1 : lo ≤ n
  · by_cases h2 : n ≤ hi
    all_goals
      go_enter Try.func36, Try.ntmps36
      go_wp2
      go_ret
      exact ⟨ret_bool (by simp; omega), rfl⟩
  · go_enter Try.func36, Try.ntmps36
    go_wp2
    go_ret
    exact ⟨ret_bool (by simp; omega), rfl⟩

/-! syllabaryref11.Total. -/
set_option maxHeartbeats 400000 in
theorem total_any (A : Option Addr) (xs : List Int) (c : Nat) (w : World) (hr : SlR 1 RInt w A xs) (hl : xs.length ≤ 65536) (hw : Within 4294967296 xs) :
    Calls Try.prog 28 #[.slice A xs.length c] w fun e w' => e = .returned (.int .i64 (total xs)) ∧ w = w' := by
  go_enter Try.func28, Try.ntmps28
  go_wp2
  go_loop [3, 4] (fun n i => ∃ k : Nat, k ≤ xs.length ∧ i = .int .i64 k ∧ n = .int .i64 (total (xs.take k))) (fun _ i => xs.length - (intOf i).toNat)
  case atStart => exact ⟨0, by omega, rfl, rfl⟩
  case round =>
    obtain ⟨k, hk, rfl, rfl⟩ := hrel
    have hb := total_bd (hw.take k) (by omega)
    have hlk : (xs.take k).length ≤ 65536 := by rw [List.length_take]; omega
    by_cases hlt : k < xs.length
    · obtain ⟨b, off, x, rfl, hbb, hx, hc⟩ := hr.int hlt
      have hxb := hw x (List.mem_of_getElem? hx)
      have HX := Lib.hid (take_succ_of hx)
      clear hx
      go_wp2
      go_round
      case rel => exact ⟨k + 1, by omega, by go_num, by rw [HX.out, total_snoc]⟩
      case measure => simp [intOf]; omega
    · go_wp2
      go_ret
      exact ⟨ret_int (by rw [List.take_of_length_le (by omega)]), rfl⟩

/-! syllabaryref11.Sum. -/
set_option maxHeartbeats 400000 in
theorem sum_any (v0 v1 v3 : Value) (A : Option Addr) (xs : List Pr) (c : Nat) (a : Int) (w : World) (hr : SlR 3 RPr w A xs) (hl : xs.length ≤ 65536) (hw : Within 4294967296 (xs.map Pr.n)) :
    Calls Try.prog 31 #[.agg #[v0, v1, .slice A xs.length c, v3], .int .i64 a] w fun e w' => e = .returned (.int .i64 (sumAt xs a)) ∧ Below w.heap.size w w' := by
  go_enter Try.func31, Try.ntmps31
  go_wp2
  go_loop [5, 6] (fun n i => ∃ k : Nat, k ≤ xs.length ∧ i = .int .i64 k ∧ n = .int .i64 (sumAt (xs.take k) a)) (fun _ i => xs.length - (intOf i).toNat)
  case atStart => exact ⟨0, by omega, rfl, rfl⟩
  case round =>
    obtain ⟨k, hk, rfl, rfl⟩ := hrel
    have hb := sumAt_bd (xs.take k) a (B := 4294967296) (by rw [List.map_take]; exact hw.take k) (by omega)
    have hlk : (xs.take k).length ≤ 65536 := by rw [List.length_take]; omega
    by_cases hlt : k < xs.length
    · obtain ⟨b, off, x, rfl, hbb, hx, hc0, _, hc2⟩ := hr.pr hlt
      have hxb := hw x.n (List.mem_map.2 ⟨x, List.mem_of_getElem? hx, rfl⟩)
      have HX := Lib.hid (take_succ_of hx)
      clear hx
      by_cases he : x.a = a
      · go_wp2
        go_round
        case rel => exact ⟨k + 1, by omega, by go_num, by rw [HX.out, sumAt_snoc, if_pos (by simp [he])]⟩
        case measure => simp [intOf]; omega
      · go_wp2
        go_round
        case rel => exact ⟨k + 1, by omega, by go_num, by rw [HX.out, sumAt_snoc, if_neg (by simp [he])]⟩
        case measure => simp [intOf]; omega
    · go_wp2
      go_ret
      exact ⟨ret_int (by rw [List.take_of_length_le (by omega)]), (Below.refl _ _).alloc (Nat.le_refl _) _⟩

/-! syllabaryref11.Less. -/
set_option maxHeartbeats 400000 in
theorem less_any (p q : Pr) (w : World) : Calls Try.prog 42 #[.agg #[.int .i64 p.a, .int .i64 p.b, .int .i64 p.n], .agg #[.int .i64 q.a, .int .i64 q.b, .int .i64 q.n]] w fun e w' => e = .returned (.bool (lessP p q)) ∧ Below w.heap.size w w' := by
  unfold lessP
  by_cases h1 : p.a < q.a
  · go_enter Try.func42, Try.ntmps42
    go_wp2
    go_ret
    exact ⟨ret_bool (by simp [h1]), ((Below.refl _ _).alloc (Nat.le_refl _) _).alloc (by simp) _⟩
  · by_cases h2 : p.a = q.a
    · go_enter Try.func42, Try.ntmps42
      go_wp2
      go_ret
      exact ⟨ret_bool (by first | (simp; done) | simp [h1, h2]), ((Below.refl _ _).alloc (Nat.le_refl _) _).alloc (by simp) _⟩
    · go_enter Try.func42, Try.ntmps42
      go_wp2
      go_ret
      exact ⟨ret_bool (by first | (simp; done) | simp [h1, h2]), ((Below.refl _ _).alloc (Nat.le_refl _) _).alloc (by simp) _⟩
end Go.Proofs.Ytbfpcleogdalfaa
