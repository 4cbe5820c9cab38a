/-
  The walks of layer 11: comparisons of lists, validity.
-/
import Derived.Test.YtbfpcleogdalfaaCostWalkC
import Derived.WalkLawsBesides
namespace Go.Proofs.Ytbfpcleogdalfaa
open Go Go.RowKit

def SameTo {α : Type} (xs ys : List α) (k : Nat) : Prop := xs.take k = ys.take k
theorem SameTo.succ {α : Type} {xs ys : List α} {k : Nat} {x : α} (h : SameTo xs ys k) (hx : xs[k]? = some x) (hy : ys[k]? = some x) : SameTo xs ys (k + 1) := by
  unfold SameTo at *
  rw [take_succ_of hx, take_succ_of hy, h]
theorem SameTo.all {α : Type} {xs ys : List α} {k : Nat} (h : SameTo xs ys k) (hx : xs.length ≤ k) (hy : ys.length ≤ k) : xs = ys := by
  unfold SameTo at h
  rwa [List.take_of_length_le hx, List.take_of_length_le hy] at h
theorem ne_at {α : Type} {xs ys : List α} {k : Nat} {x y : α} (hx : xs[k]? = some x) (hy : ys[k]? = some y) (h : x ≠ y) : xs ≠ ys := fun e => by
  subst e; rw [hx] at hy; exact h (Option.some.inj hy)

theorem bytes_ne {x y : ByteArray} (h : ¬ x = y) : (x.toList == y.toList) = false := by
  rw [beq_eq_false_iff_ne, ByteArray.toList_eq, ByteArray.toList_eq]
  intro e
  exact h (by cases x; cases y; congr; exact Array.toList_inj.1 e)

set_option maxHeartbeats 1000000 in
theorem ints_any (A B : Option Addr) (xs ys : List Int) (c d : Nat) (w : World) (hx : SlR 1 RInt w A xs) (hy : SlR 1 RInt w B ys) (hl : xs.length ≤ 65536) :
    Calls Try.prog 37 #[.slice A xs.length c, .slice B ys.length d] w fun e w' => e = .returned (.bool (decide (xs = ys))) ∧ Below w.heap.size w w' := by
  by_cases hlen : xs.length = ys.length
  · have HL := Lib.hid hlen
    rw [← hlen]
    clear hlen
    go_enter Try.func37, Try.ntmps37
    go_wp2
    go_loopw [5] (fun i wr => ∃ k : Nat, k ≤ xs.length ∧ SameTo xs ys k ∧ i = .int .i64 k ∧ Below w.heap.size w wr) (fun i _ => xs.length - (intOf i).toNat)
    case atStart => exact ⟨0, by omega, rfl, rfl, Below.refl _ _⟩
    case round =>
      obtain ⟨k, hk, hs, rfl, hb⟩ := hrel
      have HS := Lib.hid hs
      clear hs
      by_cases hlt : k < xs.length
      · obtain ⟨b, off, x, rfl, hbb, hxx, hc⟩ := (hx.below keeps_int hb).int hlt
        obtain ⟨b', off', y, rfl, hbb', hyy, hc'⟩ := (hy.below keeps_int hb).int (k := k) (by have := HL.out; omega)
        have HX := Lib.hid hxx
        have HY := Lib.hid hyy
        clear hxx hyy
        by_cases he : x = y
        · subst he
          go_wp2
          go_quiet (fail)
          go_wp2
          go_roundw
          case rel => exact ⟨k + 1, by omega, HS.out.succ HX.out HY.out, by go_num, below_drewN hb _⟩
          case measure => simp [intOf]; omega
        · go_wp2
          go_quiet (fail)
          go_wp2
          go_ret
          exact ⟨ret_bool (by simp [ne_at HX.out HY.out he]), below_drewN hb _⟩
      · go_wp2
        go_ret
        exact ⟨ret_bool (by simp [HS.out.all (by omega) (by have := HL.out; omega)]), hb⟩
  · go_enter Try.func37, Try.ntmps37
    go_wp2
    go_ret
    exact ⟨ret_bool (by simp; rintro rfl; exact hlen rfl), Below.refl _ _⟩

set_option maxHeartbeats 1000000 in
theorem sameWords_any (A B : Option Addr) (xs ys : List ByteArray) (c d : Nat) (w : World) (hx : SlR 1 RStr w A xs) (hy : SlR 1 RStr w B ys) (hl : xs.length ≤ 65536) :
    Calls Try.prog 24 #[.slice A xs.length c, .slice B ys.length d] w fun e w' => e = .returned (.bool (decide (xs = ys))) ∧ Below w.heap.size w w' := by
  by_cases hlen : xs.length = ys.length
  · have HL := Lib.hid hlen
    rw [← hlen]
    clear hlen
    go_enter Try.func24, Try.ntmps24
    go_wp2
    go_loopw [5] (fun i wr => ∃ k : Nat, k ≤ xs.length ∧ SameTo xs ys k ∧ i = .int .i64 k ∧ Below w.heap.size w wr) (fun i _ => xs.length - (intOf i).toNat)
    case atStart => exact ⟨0, by omega, rfl, rfl, Below.refl _ _⟩
    case round =>
      obtain ⟨k, hk, hs, rfl, hb⟩ := hrel
      have HS := Lib.hid hs
      clear hs
      by_cases hlt : k < xs.length
      · obtain ⟨b, off, x, rfl, hbb, hxx, hc⟩ := (hx.below keeps_str hb).str hlt
        obtain ⟨b', off', y, rfl, hbb', hyy, hc'⟩ := (hy.below keeps_str hb).str (k := k) (by have := HL.out; omega)
        have HX := Lib.hid hxx
        have HY := Lib.hid hyy
        clear hxx hyy
        by_cases he : x = y
        · subst he
          go_wp2
          go_quiet (fail)
          go_wp2
          go_roundw
          case rel => exact ⟨k + 1, by omega, HS.out.succ HX.out HY.out, by go_num, below_drewN hb _⟩
          case measure => simp [intOf]; omega
        · have hne := bytes_ne he
          go_wp2
          go_quiet (fail)
          go_wp2
          go_ret
          exact ⟨ret_bool (by simp [ne_at HX.out HY.out he]), below_drewN hb _⟩
      · go_wp2
        go_ret
        exact ⟨ret_bool (by simp [HS.out.all (by omega) (by have := HL.out; omega)]), hb⟩
  · go_enter Try.func24, Try.ntmps24
    go_wp2
    go_ret
    exact ⟨ret_bool (by simp; rintro rfl; exact hlen rfl), Below.refl _ _⟩

set_option maxHeartbeats 1000000 in
theorem validCounts_any (A : Option Addr) (xs : List Int) (c n : Nat) (w : World) (hx : SlR 1 RInt w A xs) (hl : xs.length ≤ 65536) (hn : n ≤ 65536) :
    Calls Try.prog 39 #[.slice A xs.length c, .int .i64 n] w fun e w' => e = .returned (.bool (decide (CsOK xs n))) ∧ w = w' := by
  by_cases hlen : xs.length = n
  · subst hlen
    go_enter Try.func39, Try.ntmps39
    go_wp2
    go_loop [5, 7, 14] (fun s _ i => ∃ k : Nat, k ≤ xs.length ∧ CsTo xs k ∧ i = .int .i64 k ∧ s = .int .i64 (total (xs.take k))) (fun _ _ i => xs.length - (intOf i).toNat)
    case atStart => exact ⟨0, by omega, ⟨by simp, by simp [total]⟩, rfl, rfl⟩
    case round =>
      obtain ⟨k, hk, hs, rfl, rfl⟩ := hrel
      have hb0 := total_nonneg hs.1
      have hb1 := hs.2
      have HS := Lib.hid hs
      clear hs
      by_cases hlt : k < xs.length
      · obtain ⟨b, off, x, rfl, hbb, hxx, hc⟩ := hx.int hlt
        have HX := Lib.hid (take_succ_of hxx)
        have HM := Lib.hid (List.mem_of_getElem? hxx)
        clear hxx
        by_cases h0 : 0 ≤ x
        · by_cases h1 : total (xs.take k) + x ≤ 1073741824
          · go_wp2
            go_round
            case rel => exact ⟨k + 1, by omega, HS.out.succ HX.out h0 h1, by go_num, by rw [HX.out, total_snoc]⟩
            case measure => simp [intOf]; omega
          · go_wp2
            go_ret
            exact ⟨ret_bool (by
              symm; rw [decide_eq_false_iff_not]; intro hok
              have := (hok.to (k := k + 1)).2
              rw [HX.out, total_snoc] at this
              omega), rfl⟩
        · go_wp2
          go_ret
          exact ⟨ret_bool (by
            symm; rw [decide_eq_false_iff_not]; intro hok
            have := hok.2.1 x HM.out
            omega), rfl⟩
      · go_wp2
        go_ret
        exact ⟨ret_bool (by symm; rw [decide_eq_true_iff]; exact HS.out.all (by omega) rfl), rfl⟩
  · go_enter Try.func39, Try.ntmps39
    go_wp2
    go_ret
    exact ⟨ret_bool (by symm; rw [decide_eq_false_iff_not]; exact fun h => hlen h.1), rfl⟩
end Go.Proofs.Ytbfpcleogdalfaa
