/-
  CostWalkA, CostMath2, CostWalkI, CxNod, joined. No conditions.
-/
import Derived.Test.YtcimnkijpifkjaaShelf
import Derived.Test.YtcimnkijpifkjaaChecked
import Derived.Test.YtcimnkijpifkjaaQ01
import Derived.Test.YtcimnkijpifkjaaQ07
import Derived.Outline
import Derived.Deep.Light
import Derived.Test.YtcimnkijpifkjaaQ12
/-
  The walks of layer 11's small functions: each function's contract.
-/
namespace Go.Proofs.Ytcimnkijpifkjaa
open Go Go.RowKit

set_option maxRecDepth 100000 in
set_option maxHeartbeats 400000 in
theorem log_neg (n : Int) (w : World) (h : n < 1) : Calls Try.prog 72 #[.int .i64 n] w fun e w' => e = .returned (.int .i64 (lg n)) ∧ w = w' := by
  have H := Lib.hid (lg_neg n h)
  go_enter Try.func72, Try.ntmps72
  go_wp2
  go_ret
  exact ⟨ret_int H.out.symm, rfl⟩

theorem log_small_fit (n : Int) (k : Nat) (h : IsLog n k) (h3 : k < 3) (h2 : n ≤ 4611686018427387904) :
    wrap64 (8 * ↑k + wrap64 (wrap64 (n - wrap64 (2 ^ k)) * 2 ^ (3 - k))) = lg n := by
  rw [lg_small n k h h3]
  obtain ⟨h4, h5⟩ := h
  match k, h3 with
  | 0, _ => simp [wrap64] at *; omega
  | 1, _ => simp [wrap64] at *; omega
  | 2, _ => simp [wrap64] at *; omega
theorem log_big_fit (n : Int) (k : Nat) (h : IsLog n k) (h3 : 3 ≤ k) (h2 : n ≤ 4611686018427387904) :
    wrap64 (8 * ↑k + wrap64 (n - wrap64 (2 ^ k)) / 2 ^ (k - 3)) = lg n := by
  have hk := isLog_le62 h h2
  rw [lg_big n k h h3]
  obtain ⟨h4, h5⟩ := h
  have hp := pow_le62 hk
  have hp0 : (0 : Int) < 2 ^ k := Int.pow_pos (by decide)
  have hq0 : (0 : Int) < 2 ^ (k - 3) := Int.pow_pos (by decide)
  rw [IntWalk.wrap64_in (2 ^ k) ⟨by omega, by omega⟩, IntWalk.wrap64_in (n - 2 ^ k) ⟨by omega, by omega⟩]
  have hd0 : 0 ≤ (n - 2 ^ k) / 2 ^ (k - 3) := Int.ediv_nonneg (by omega) (by omega)
  have hd1 : (n - 2 ^ k) / 2 ^ (k - 3) ≤ n - 2 ^ k := Int.ediv_le_self _ (by omega)
  rw [IntWalk.wrap64_in _ ⟨by omega, by omega⟩]

set_option maxRecDepth 100000 in
set_option maxHeartbeats 400000 in
theorem log_pos (n : Int) (w : World) (h : 1 ≤ n) (h2 : n ≤ 4611686018427387904) : Calls Try.prog 72 #[.int .i64 n] w fun e w' => e = .returned (.int .i64 (lg n)) ∧ w = w' := by
  obtain ⟨k, hk⟩ : ∃ k, k = n.toNat.log2 := ⟨_, rfl⟩
  have hb : Lib.bitLen n.toNat = k + 1 := by rw [hk]; exact bitLen_log _ (by omega) (by omega)
  have hl := isLog_log2 n h
  rw [← hk] at hl
  have hk62 := isLog_le62 hl h2
  clear hk
  have Hb := Lib.hid hb
  clear hb
  have Hl := Lib.hid hl
  clear hl
  by_cases h3 : k < 3
  all_goals
    go_enter Try.func72, Try.ntmps72
    go_wp2_with (go_at_call 87; refine (Try.bits_Len _ _ (by omega) (by omega)).mono ?_; rintro e w' ⟨rfl, rfl⟩; rw [Hb.out])
    go_ret
  · exact ⟨ret_int (log_small_fit n k Hl.out h3 h2), rfl⟩
  · exact ⟨ret_int (log_big_fit n k Hl.out (by omega) h2), rfl⟩

theorem log_any (n : Int) (w : World) (h2 : n ≤ 4611686018427387904) : Calls Try.prog 72 #[.int .i64 n] w fun e w' => e = .returned (.int .i64 (lg n)) ∧ w = w' := by
  by_cases h : n < 1
  · exact log_neg n w h
  · exact log_pos n w (by omega) h2

/-! The reference's logarithm: a loop that doubles. -/
theorem reflog_neg (n : Int) (w : World) (h : n < 1) : Calls Try.prog 44 #[.int .i64 n] w fun e w' => e = .returned (.int .i64 (lg n)) ∧ w = w' := by
  have H := Lib.hid (lg_neg n h)
  go_enter Try.func44, Try.ntmps44
  go_wp2
  go_ret
  exact ⟨ret_int H.out.symm, rfl⟩
set_option maxRecDepth 100000 in
set_option maxHeartbeats 400000 in
theorem reflog_pos (n : Int) (w : World) (h : 1 ≤ n) (h2 : n ≤ 4611686018427387904) : Calls Try.prog 44 #[.int .i64 n] w fun e w' => e = .returned (.int .i64 (lg n)) ∧ w = w' := by
  go_enter Try.func44, Try.ntmps44
  go_wp2
  go_loop [3, 4] (fun k p => ∃ j : Nat, ∃ q : Int, Hid (q = 2 ^ j) ∧ 1 ≤ q ∧ q ≤ n ∧ j ≤ 62 ∧ k = .int .i64 j ∧ p = .int .i64 q) (fun _ p => (n - intOf p).toNat)
  case atStart => exact ⟨0, 1, rfl, by omega, h, by omega, rfl, rfl⟩
  case round =>
    obtain ⟨j, q, Hq, hq1, hq2, hj, rfl, rfl⟩ := hrel
    by_cases hlt : q ≤ n / 2
    · go_wp2
      go_round
      case rel => exact ⟨j + 1, 2 * q, by have := Hq.out; show 2 * q = 2 ^ (j + 1); rw [Int.pow_succ, ← this]; omega, by omega, by omega, pow_bound Hq.out (by omega), by go_num, rfl⟩
      case measure => simp [intOf]; omega
    · by_cases h8 : q < 8
      · go_wp2
        go_ret
        exact ⟨ret_int (reflog_small_fit n q j hj Hq.out hq2 (by omega) h8), rfl⟩
      · go_wp2
        go_ret
        exact ⟨ret_int (reflog_big_fit n q j hj Hq.out hq2 (by omega) h8 h2), rfl⟩
theorem reflog_any (n : Int) (w : World) (h2 : n ≤ 4611686018427387904) : Calls Try.prog 44 #[.int .i64 n] w fun e w' => e = .returned (.int .i64 (lg n)) ∧ w = w' := by
  by_cases h : n < 1
  · exact reflog_neg n w h
  · exact reflog_pos n w (by omega) h2
end Go.Proofs.Ytcimnkijpifkjaa

/-
  The plain mathematics of layer 11, continued: bounds of logarithms, costs of words and pairs.
-/
namespace Go.Proofs.Ytcimnkijpifkjaa
open Go Go.RowKit

theorem lg_bd (n : Int) (h : n ≤ 4611686018427387904) : 0 ≤ lg n ∧ lg n ≤ 512 := by
  refine ⟨by unfold lg; omega, ?_⟩
  by_cases h1 : n < 1
  · rw [lg_neg n h1]; decide
  · have hl := isLog_log2 n (by omega)
    have hk := isLog_le62 hl h
    obtain ⟨h2, h3⟩ := isLog_nat hl
    unfold lg
    rw [lgN_of _ _ h2 h3]
    have h4 : 8 * (n.toNat - 2 ^ n.toNat.log2) / 2 ^ n.toNat.log2 < 8 := by
      rw [Nat.div_lt_iff_lt_mul (Nat.two_pow_pos _)]
      rw [Nat.pow_succ] at h3
      omega
    omega
/-- The cost of a word. -/
def wcost (m : Mo) (k : Nat) : Int := lg (total m.cs + m.ws.length) - lg (m.cs.getD k 0 + 1)
theorem wcost_at {m : Mo} {k : Nat} {x : Int} (hx : m.cs[k]? = some x) : wcost m k = lg (total m.cs + m.ws.length) - lg (x + 1) := by
  unfold wcost; simp [hx]
end Go.Proofs.Ytcimnkijpifkjaa

/-
  The walks of layer 11: valid models (the program), the cost of a word.
-/
namespace Go.Proofs.Ytcimnkijpifkjaa
open Go Go.RowKit

set_option maxRecDepth 100000 in
set_option maxHeartbeats 2000000 in
theorem co_valid_any (m : Mo) (A1 A2 A3 : Option Addr) (c1 c2 c3 : Nat) (w : World) (h : MoR w m A1 A2 A3) :
    Calls Try.prog 39 #[.agg #[.slice A1 m.ws.length c1, .slice A2 m.cs.length c2, .slice A3 m.ps.length c3, .int .i64 m.back]] w fun e w' => e = .returned (.bool (decide (MoOK m))) ∧ Below w.heap.size w w' := by
  have hB : Below w.heap.size w (w.alloc (.cells #[.slice A1 m.ws.length c1, .slice A2 m.cs.length c2, .slice A3 m.ps.length c3, .int .i64 m.back] 34)) := unbox (rebox w _)
  have HV1 := Lib.hid (validWords_any A1 m.ws c1 _ (h.below hB).h1 h.l1 h.s)
  have HV2 := Lib.hid (validCounts_any A2 m.cs c2 m.ws.length _ (h.below hB).h2 h.l2 h.l1)
  have HV3 := Lib.hid (validPairs_any A3 m.ps c3 m.ws.length _ (h.below hB).h3 h.l3 h.l1)
  clear h hB
  by_cases g1 : WsOK m.ws
  · have G1 := Lib.hid g1
    have d1 := decide_eq_true g1
    by_cases g2 : CsOK m.cs m.ws.length
    · have G2 := Lib.hid g2
      have d2 := decide_eq_true g2
      by_cases g3 : PsOK m.ps m.ws.length
      · have G3 := Lib.hid g3
        have d3 := decide_eq_true g3
        clear g1 g2 g3
        by_cases g4 : 0 ≤ m.back
        · by_cases g5 : m.back ≤ 1000
          all_goals
            go_enter Try.func39, Try.ntmps39
            go_wp2_with (first
              | (go_at_call 63; refine HV1.out.mono ?_; rintro e w' ⟨rfl, rfl⟩; simp only [d1])
              | (go_at_call 64; refine HV2.out.mono ?_; rintro e w' ⟨rfl, rfl⟩; simp only [d2])
              | (go_at_call 65; refine HV3.out.mono ?_; rintro e w1 ⟨rfl, hb1⟩; simp only [d3]; have hm3 := box_cell (bx hb1) 3))
            go_ret
          · exact ⟨ret_bool (decide_eq_true ⟨⟨⟨G1.out, G2.out⟩, G3.out⟩, g4, g5⟩).symm, unbox (bx hb1)⟩
          · exact ⟨ret_bool (decide_eq_false (fun hok => by have := hok.2.2; omega)).symm, unbox (bx hb1)⟩
        · go_enter Try.func39, Try.ntmps39
          go_wp2_with (first
            | (go_at_call 63; refine HV1.out.mono ?_; rintro e w' ⟨rfl, rfl⟩; simp only [d1])
            | (go_at_call 64; refine HV2.out.mono ?_; rintro e w' ⟨rfl, rfl⟩; simp only [d2])
            | (go_at_call 65; refine HV3.out.mono ?_; rintro e w1 ⟨rfl, hb1⟩; simp only [d3]; have hm3 := box_cell (bx hb1) 3))
          go_ret
          exact ⟨ret_bool (decide_eq_false (fun hok => by have := hok.2.1; omega)).symm, unbox (bx hb1)⟩
      · have G3 := Lib.hid g3
        have d3 := decide_eq_false g3
        clear g1 g2 g3
        go_enter Try.func39, Try.ntmps39
        go_wp2_with (first
          | (go_at_call 63; refine HV1.out.mono ?_; rintro e w' ⟨rfl, rfl⟩; simp only [d1])
          | (go_at_call 64; refine HV2.out.mono ?_; rintro e w' ⟨rfl, rfl⟩; simp only [d2])
          | (go_at_call 65; refine HV3.out.mono ?_; rintro e w1 ⟨rfl, hb1⟩; simp only [d3]; have hm3 := box_cell (bx hb1) 3))
        go_ret
        exact ⟨ret_bool (decide_eq_false (fun hok => G3.out hok.1.2)).symm, unbox (bx hb1)⟩
    · have G2 := Lib.hid g2
      have d2 := decide_eq_false g2
      clear g1 g2
      go_enter Try.func39, Try.ntmps39
      go_wp2_with (first
        | (go_at_call 63; refine HV1.out.mono ?_; rintro e w' ⟨rfl, rfl⟩; simp only [d1])
        | (go_at_call 64; refine HV2.out.mono ?_; rintro e w' ⟨rfl, rfl⟩; simp only [d2]))
      go_ret
      exact ⟨ret_bool (decide_eq_false (fun hok => G2.out hok.1.1.2)).symm, unbox (rebox _ _)⟩
  · have G1 := Lib.hid g1
    have d1 := decide_eq_false g1
    clear g1
    go_enter Try.func39, Try.ntmps39
    go_wp2_with (go_at_call 63; refine HV1.out.mono ?_; rintro e w' ⟨rfl, rfl⟩; simp only [d1])
    go_ret
    exact ⟨ret_bool (decide_eq_false (fun hok => G1.out hok.1.1.1)).symm, unbox (rebox _ _)⟩

/-! the cost of a word -/
set_option maxRecDepth 100000 in
set_option maxHeartbeats 2000000 in
theorem wcost_any (m : Mo) (A1 A2 A3 : Option Addr) (c1 c2 c3 : Nat) (k : Nat) (w : World) (h : MoR w m A1 A2 A3) (hok : CsOK m.cs m.ws.length) (hk : k < m.cs.length) :
    Calls Try.prog 69 #[.agg #[.slice A1 m.ws.length c1, .slice A2 m.cs.length c2, .slice A3 m.ps.length c3, .int .i64 m.back], .int .i64 k] w fun e w' => e = .returned (.int .i64 (wcost m k)) ∧ Below w.heap.size w w' := by
  have hB : Below w.heap.size w (w.alloc (.cells #[.slice A1 m.ws.length c1, .slice A2 m.cs.length c2, .slice A3 m.ps.length c3, .int .i64 m.back] 34)) := unbox (rebox w _)
  have h2 := (h.below hB).h2
  have hl1 := h.l1
  have hl2 := h.l2
  have HOK := Lib.hid hok
  obtain ⟨b, off, x, rfl, hbb, hxx, hcx⟩ := h.h2.int hk
  have HW := Lib.hid (wcost_at hxx)
  have hx0 := hok.2.1 x (List.mem_of_getElem? hxx)
  have ht0 := (hok.to (k := m.cs.length))
  rw [List.take_length] at ht0
  have lb1 := lg_bd (total m.cs + m.ws.length) (by omega)
  have lb2 := lg_bd (x + 1) (by omega)
  have hwr : IntKind.i64.wrap (lg (total m.cs + m.ws.length) - lg (x + 1)) = lg (total m.cs + m.ws.length) - lg (x + 1) := IntWalk.i64_in _ (by omega)
  have hwx : IntKind.i64.wrap (x + 1) = x + 1 := IntWalk.i64_in _ (by omega)
  have hki : (k : Int) < (m.cs.length : Int) := by omega
  have hk0 : (0 : Int) ≤ (k : Int) := by omega
  clear h hB hok hxx
  go_enter Try.func69, Try.ntmps69
  go_wp2_with fail
  go_loop [5, 7, 23] (fun s _ i => ∃ j : Nat, j ≤ m.cs.length ∧ i = .int .i64 j ∧ s = .int .i64 (total (m.cs.take j) + m.ws.length)) (fun _ _ i => m.cs.length - (intOf i).toNat)
  case atStart => exact ⟨0, by omega, rfl, by simp [total]⟩
  case round =>
    obtain ⟨j, hj, rfl, rfl⟩ := hrel
    have hbd := HOK.out.to (k := j)
    by_cases hlt : j < m.cs.length
    · obtain ⟨b1, off1, y, he, hbb1, hyy, hcy⟩ := h2.int hlt
      have hcy' := hcy
      simp only [Option.some.injEq, Addr.mk.injEq, and_true] at he
      obtain ⟨rfl, rfl⟩ := he
      have HX := Lib.hid (take_succ_of hyy)
      have hy0 := HOK.out.2.1 y (List.mem_of_getElem? hyy)
      clear hyy hcy'
      go_wp2_with fail
      go_round
      case rel => exact ⟨j + 1, by omega, by go_num, vint (by rw [HX.out, total_snoc]; omega)⟩
      case measure => simp [intOf]; omega
    · obtain rfl : j = m.cs.length := by omega
      rw [List.take_length]
      clear hbd
      go_wp2_with fail
      go_quiet ((go_at_call 72; exact quiet_l (log_any _ _ (by omega))))
      go_wp2_with fail
      go_ret
      exact ⟨ret_int HW.out.symm, below_drewN (unbox (rebox _ _)) _⟩

set_option maxRecDepth 100000 in
set_option maxHeartbeats 2000000 in
theorem refwcost_any (m : Mo) (A1 A2 A3 : Option Addr) (c1 c2 c3 : Nat) (k : Nat) (w : World) (h : MoR w m A1 A2 A3) (hok : CsOK m.cs m.ws.length) (hk : k < m.cs.length) :
    Calls Try.prog 22 #[.agg #[.slice A1 m.ws.length c1, .slice A2 m.cs.length c2, .slice A3 m.ps.length c3, .int .i64 m.back], .int .i64 k] w fun e w' => e = .returned (.int .i64 (wcost m k)) ∧ Below w.heap.size w w' := by
  have hB : Below w.heap.size w (w.alloc (.cells #[.slice A1 m.ws.length c1, .slice A2 m.cs.length c2, .slice A3 m.ps.length c3, .int .i64 m.back] 34)) := unbox (rebox w _)
  have hl1 := h.l1
  have hl2 := h.l2
  have HT : Hid (∀ n, Calls Try.prog 45 #[.slice A2 m.cs.length c2] ((w.alloc (.cells #[.slice A1 m.ws.length c1, .slice A2 m.cs.length c2, .slice A3 m.ps.length c3, .int .i64 m.back] 34)).drewN n) fun e w' => e = .returned (.int .i64 (total m.cs)) ∧ ((w.alloc (.cells #[.slice A1 m.ws.length c1, .slice A2 m.cs.length c2, .slice A3 m.ps.length c3, .int .i64 m.back] 34)).drewN n) = w') := fun n =>
    total_any A2 m.cs c2 _ (h.below (below_drewN hB n)).h2 hl2 (fun x hx => by have := hok.2.1 x hx; omega)
  obtain ⟨b, off, x, rfl, hbb, hxx, hcx⟩ := h.h2.int hk
  have HW := Lib.hid (wcost_at hxx)
  have hx0 := hok.2.1 x (List.mem_of_getElem? hxx)
  have ht0 := (hok.to (k := m.cs.length))
  rw [List.take_length] at ht0
  have lb1 := lg_bd (total m.cs + m.ws.length) (by omega)
  have lb2 := lg_bd (x + 1) (by omega)
  have hwr : IntKind.i64.wrap (lg (total m.cs + m.ws.length) - lg (x + 1)) = lg (total m.cs + m.ws.length) - lg (x + 1) := IntWalk.i64_in _ (by omega)
  have hwx : IntKind.i64.wrap (x + 1) = x + 1 := IntWalk.i64_in _ (by omega)
  have hwt : IntKind.i64.wrap (total m.cs + m.ws.length) = total m.cs + m.ws.length := IntWalk.i64_in _ (by omega)
  have hki : (k : Int) < (m.cs.length : Int) := by omega
  have hk0 : (0 : Int) ≤ (k : Int) := by omega
  clear h hB hok hxx
  go_enter Try.func22, Try.ntmps22
  go_wp2_with fail
  go_quiet (first
    | (go_at_call 45; exact quiet_l (HT.out _))
    | (go_at_call 44; exact quiet_l (reflog_any _ _ (by omega))))
  go_wp2_with fail
  go_ret
  exact ⟨ret_int HW.out.symm, below_drewN (unbox (rebox _ _)) _⟩

/-! the index of a pair -/
def NoPair (ps : List Pr) (a b : Int) (k : Nat) : Prop := ∀ p ∈ ps.take k, ¬ (p.a = a ∧ p.b = b)
/-- The index of the first pair with these words, or -1. -/
def findI (ps : List Pr) (a b : Int) : Int := match ps.findIdx? (fun p => p.a == a && p.b == b) with | some i => i | none => -1
theorem findI_some {ps : List Pr} {a b : Int} {k : Nat} {p : Pr} (h : NoPair ps a b k) (hp : ps[k]? = some p) (ha : p.a = a) (hb : p.b = b) : findI ps a b = k := by
  obtain ⟨hk, hpe⟩ := List.getElem?_eq_some_iff.1 hp
  have : ps.findIdx? (fun p => p.a == a && p.b == b) = some k := by
    rw [List.findIdx?_eq_some_iff_getElem]
    refine ⟨hk, by rw [hpe]; simp [ha, hb], fun j hj => ?_⟩
    have := h ps[j] (List.mem_take_iff_getElem.2 ⟨j, by omega, rfl⟩)
    simpa using this
  unfold findI
  rw [this]
theorem findI_none {ps : List Pr} {a b : Int} {k : Nat} (h : NoPair ps a b k) (hk : ps.length ≤ k) : findI ps a b = -1 := by
  unfold NoPair at h
  rw [List.take_of_length_le hk] at h
  have : ps.findIdx? (fun p => p.a == a && p.b == b) = none := by
    rw [List.findIdx?_eq_none_iff]
    intro p hp
    have := h p hp
    simpa using this
  unfold findI
  rw [this]
theorem NoPair.succ {ps : List Pr} {a b : Int} {k : Nat} {p : Pr} (h : NoPair ps a b k) (hp : ps[k]? = some p) (hn : ¬ (p.a = a ∧ p.b = b)) : NoPair ps a b (k + 1) := by
  unfold NoPair
  rw [take_succ_of hp]
  intro q hq
  rcases List.mem_append.1 hq with hq | hq
  · exact h q hq
  · rw [List.mem_singleton.1 hq]; exact hn
set_option maxRecDepth 100000 in
set_option maxHeartbeats 2000000 in
theorem find_any (v0 v1 v3 : Value) (A : Option Addr) (xs : List Pr) (c : Nat) (a b : Int) (w : World) (hr : SlR 3 RPr w A xs) (hl : xs.length ≤ 65536) :
    Calls Try.prog 62 #[.agg #[v0, v1, .slice A xs.length c, v3], .int .i64 a, .int .i64 b] w fun e w' => e = .returned (.int .i64 (findI xs a b)) ∧ Below w.heap.size w w' := by
  go_enter Try.func62, Try.ntmps62
  go_wp2_with fail
  go_loop [7] (fun i => ∃ k : Nat, k ≤ xs.length ∧ NoPair xs a b k ∧ i = .int .i64 k) (fun i => xs.length - (intOf i).toNat)
  case atStart => exact ⟨0, by omega, fun _ h => by simp at h, rfl⟩
  case round =>
    obtain ⟨k, hk, hn, rfl⟩ := hrel
    have HN := Lib.hid hn
    clear hn
    by_cases hlt : k < xs.length
    · obtain ⟨bb, off, p, rfl, hbb, hpp, hc0, hc1, hc2⟩ := hr.pr hlt
      have HP := Lib.hid hpp
      clear hpp
      by_cases ha : p.a = a
      · by_cases hb : p.b = b
        · go_wp2_with fail
          go_ret
          exact ⟨ret_int (findI_some HN.out HP.out ha hb).symm, unbox (rebox _ _)⟩
        · go_wp2_with fail
          go_round
          case rel => exact ⟨k + 1, by omega, HN.out.succ HP.out (fun h => hb h.2), by go_num⟩
          case measure => simp [intOf]; omega
      · go_wp2_with fail
        go_round
        case rel => exact ⟨k + 1, by omega, HN.out.succ HP.out (fun h => ha h.1), by go_num⟩
        case measure => simp [intOf]; omega
    · go_wp2_with fail
      go_ret
      exact ⟨ret_int (findI_none HN.out (by omega)).symm, unbox (rebox _ _)⟩
end Go.Proofs.Ytcimnkijpifkjaa

/-
  The plain law of layer 20: the nodes as the reference goes through them, their indices, the links. No program in sight; no conditions.
-/
namespace Go.Proofs.Ytcimnkijpifkjaa
open List

/-- A place ahead of the last one, and a word of an edge that ends there. -/
def Arr (x : La) (q : Int × Int) : Prop := q.1 < x.n ∧ ∃ e ∈ x.es, e.to = q.1 ∧ e.wd = q.2
theorem arr_mem {x : La} {q : Int × Int} (h : LaOK x) : q ∈ allL x ↔ q = (x.n, -1) ∨ Arr x q := by
  unfold allL
  rw [mem_cons, mem_map]
  constructor
  · rintro (h1 | ⟨e, he, rfl⟩)
    · exact .inl h1
    · unfold arrL
      split
      · exact .inl rfl
      · have := (h.2.2.1 e he).1
        exact .inr ⟨by show e.to < x.n; omega, e, he, rfl, rfl⟩
  · rintro (h1 | ⟨h1, e, he, h2, h3⟩)
    · exact .inl h1
    · refine .inr ⟨e, he, ?_⟩
      unfold arrL
      rw [if_neg (by omega), h2, h3]
structure PartN (x : La) (p w : Int) (t : List (Int × Int)) : Prop where
  sort : SortP t
  mem : ∀ q, q ∈ t ↔ ltP q (p, w) = true ∧ Arr x q
theorem arr_bd {x : La} {nw : Nat} (h : FitsL x nw) {q : Int × Int} (ha : Arr x q) : 1 ≤ q.1 ∧ 0 ≤ q.2 ∧ q.2 < nw := by
  obtain ⟨_, e, he, h2, h3⟩ := ha
  have h4 := h.1.2.2.1 e he
  have h5 := h.2 e he
  have := h4.1; have := h4.2
  omega
theorem PartN.start {x : La} {nw : Nat} (h : FitsL x nw) : PartN x 1 0 [] := ⟨Pairwise.nil, fun q => by
  constructor
  · intro hq; cases hq
  · rintro ⟨h1, h2⟩
    have := arr_bd h h2
    rw [ltP_iff] at h1
    simp only at h1
    omega⟩
theorem PartN.hit {x : La} {p w : Int} {t : List (Int × Int)} (h : PartN x p w t) (ha : Arr x (p, w)) : PartN x p (w + 1) (t ++ [(p, w)]) := by
  refine ⟨pairwise_append.2 ⟨h.sort, pairwise_singleton _ _, fun a ha b hb => ?_⟩, fun q => ?_⟩
  · rw [mem_singleton.1 hb]; exact ((h.mem a).1 ha).1
  · rw [mem_append, mem_singleton, h.mem]
    constructor
    · rintro (⟨h1, h2⟩ | rfl)
      · refine ⟨?_, h2⟩
        rw [ltP_iff] at h1 ⊢; simp only at h1 ⊢; omega
      · refine ⟨?_, ha⟩
        rw [ltP_iff]; show p < p ∨ p = p ∧ w < w + 1; omega
    · rintro ⟨h1, h2⟩
      rw [ltP_iff] at h1
      simp only at h1
      by_cases hq : q = (p, w)
      · exact .inr hq
      · refine .inl ⟨?_, h2⟩
        rw [ltP_iff]
        obtain ⟨a, b⟩ := q
        simp only [Prod.mk.injEq] at hq h1 ⊢
        omega
theorem PartN.miss {x : La} {p w : Int} {t : List (Int × Int)} (h : PartN x p w t) (ha : ¬ Arr x (p, w)) : PartN x p (w + 1) t := by
  refine ⟨h.sort, fun q => ?_⟩
  rw [h.mem]
  constructor
  · rintro ⟨h1, h2⟩
    refine ⟨?_, h2⟩
    rw [ltP_iff] at h1 ⊢; simp only at h1 ⊢; omega
  · rintro ⟨h1, h2⟩
    refine ⟨?_, h2⟩
    have hne : q ≠ (p, w) := fun e => ha (e ▸ h2)
    rw [ltP_iff] at h1 ⊢
    obtain ⟨a, b⟩ := q
    simp only [Ne, Prod.mk.injEq] at hne h1 ⊢
    omega
theorem PartN.next {x : La} {nw : Nat} {p : Int} {t : List (Int × Int)} (hf : FitsL x nw) (h : PartN x p nw t) : PartN x (p + 1) 0 t := by
  refine ⟨h.sort, fun q => ?_⟩
  rw [h.mem]
  constructor
  · rintro ⟨h1, h2⟩
    refine ⟨?_, h2⟩
    rw [ltP_iff] at h1 ⊢; simp only at h1 ⊢; omega
  · rintro ⟨h1, h2⟩
    refine ⟨?_, h2⟩
    have := arr_bd hf h2
    rw [ltP_iff] at h1 ⊢; simp only at h1 ⊢; omega
theorem PartN.all {x : La} {nw : Nat} {t : List (Int × Int)} {p : Int} (hf : FitsL x nw) (h : PartN x p 0 t) (hn : 1 ≤ x.n) (hp : p = x.n) : t ++ [(x.n, -1)] = tailL x := by
  unfold tailL
  rw [if_neg (by omega)]
  refine sortP_ext (pairwise_append.2 ⟨h.sort, pairwise_singleton _ _, fun a ha b hb => ?_⟩) (sortU_sort _) fun q => ?_
  · rw [mem_singleton.1 hb]
    have := ((h.mem a).1 ha).2.1
    rw [ltP_iff]; simp only; omega
  · rw [sortU_mem, arr_mem hf.1, mem_append, mem_singleton, h.mem]
    constructor
    · rintro (⟨_, h2⟩ | h2)
      · exact .inr h2
      · exact .inl h2
    · rintro (h2 | h2)
      · exact .inr h2
      · refine .inl ⟨?_, h2⟩
        have := h2.1
        rw [ltP_iff]; simp only; omega
/-- What ends(x, n) says. -/
def cx_endsB (x : La) (p w : Int) : Bool := x.es.any fun e => e.to == p && e.wd == w
theorem cx_endsB_iff {x : La} {p w : Int} (hp : p < x.n) : cx_endsB x p w = true ↔ Arr x (p, w) := by
  unfold cx_endsB Arr
  simp [hp]

/-! Indices. -/
def ixL (l : List (Int × Int)) (p : Int × Int) : Nat := l.findIdx (· == p)
theorem nodesL_sort {x : La} (h : LaOK x) (prev : Int) : (nodesL x prev).Pairwise (fun a b => a.1 < b.1 ∨ ltP a b = true) := by
  unfold nodesL tailL
  split
  · exact pairwise_singleton _ _
  · rename_i hn
    refine pairwise_cons.2 ⟨fun p hp => .inl ?_, (sortU_sort _).imp fun h => .inr h⟩
    rw [sortU_mem] at hp
    exact allL_pos h hn p hp
theorem nodesL_nodup {x : La} (h : LaOK x) (prev : Int) : (nodesL x prev).Nodup := (nodesL_sort h prev).imp fun {a b} hab e => by
  subst e
  rcases hab with h1 | h1
  · omega
  · rw [ltP_irr] at h1; cases h1
theorem ix_at {l : List (Int × Int)} (h : l.Nodup) {j : Nat} {p : Int × Int} (hj : l[j]? = some p) : ixL l p = j := by
  obtain ⟨hk, hp⟩ := List.getElem?_eq_some_iff.1 hj
  unfold ixL
  rw [List.findIdx_eq hk]
  refine ⟨by simp [hp], fun i hi => ?_⟩
  have : l[i] ≠ l[j] := fun e => by
    have := pairwise_iff_getElem.1 h i j (by omega) hk hi
    exact this e
  rw [hp] at this
  simpa using this
theorem ix_get {l : List (Int × Int)} {p : Int × Int} (h : p ∈ l) : l[ixL l p]? = some p := by
  unfold ixL
  have hlt : l.findIdx (· == p) < l.length := List.findIdx_lt_length_of_exists ⟨p, h, by simp⟩
  rw [List.getElem?_eq_getElem hlt]
  have := List.findIdx_getElem (w := hlt)
  simpa using this
theorem arr_in {x : La} (h : LaOK x) (prev : Int) {e : Ed} (he : e ∈ x.es) : arrL x.n e ∈ nodesL x prev := by
  have hn : x.n ≠ 0 := by have := (h.2.2.1 e he).1; omega
  unfold nodesL tailL
  rw [if_neg hn]
  refine mem_cons_of_mem _ ((sortU_mem _ _).2 ?_)
  exact mem_cons_of_mem _ (mem_map.2 ⟨e, he, rfl⟩)
/-- The reference's test finds just the node to which an edge leads. -/
theorem find_iff {x : La} (h : LaOK x) {prev : Int} {e : Ed} (_he : e ∈ x.es) {j : Nat} (hj0 : 1 ≤ j) {p : Int × Int} (hj : (nodesL x prev)[j]? = some p) : (p.1 = e.to ∧ (e.to = x.n ∨ p.2 = e.wd)) ↔ p = arrL x.n e := by
  obtain ⟨k, rfl⟩ : ∃ k, j = k + 1 := ⟨j - 1, by omega⟩
  have hp : p ∈ tailL x := by
    have : (tailL x)[k]? = some p := by simpa [nodesL] using hj
    exact mem_of_getElem? this
  unfold tailL at hp
  split at hp
  · cases hp
  · rw [sortU_mem, arr_mem h] at hp
    unfold arrL
    constructor
    · rintro ⟨h1, h2⟩
      rcases hp with rfl | hp
      · rw [if_pos (by simpa using h1.symm)]
      · have := hp.1
        rw [if_neg (by omega)]
        obtain ⟨a, b⟩ := p
        simp only [Prod.mk.injEq] at h1 h2 this ⊢
        omega
    · intro h1
      split at h1
      · rename_i hn; rw [h1]; exact ⟨hn.symm, .inl hn⟩
      · rw [h1]; exact ⟨rfl, .inr rfl⟩

/-! What is wanted of a node: where it lies among the others. -/
theorem node_lt {x : La} (h : LaOK x) {prev : Int} {i j : Nat} {p q : Int × Int} (hi : (nodesL x prev)[i]? = some p) (hj : (nodesL x prev)[j]? = some q) (hpq : p.1 < q.1) : i < j := by
  rcases Nat.lt_trichotomy i j with h1 | h1 | h1
  · exact h1
  · subst h1; rw [hi] at hj; obtain rfl := Option.some.inj hj; omega
  · obtain ⟨hil, rfl⟩ := List.getElem?_eq_some_iff.1 hi
    obtain ⟨hjl, rfl⟩ := List.getElem?_eq_some_iff.1 hj
    have := pairwise_iff_getElem.1 (nodesL_sort h prev) j i hjl hil h1
    rw [ltP_iff] at this
    omega
theorem node_last {x : La} (h : LaOK x) (prev : Int) (hn : 1 ≤ x.n) : (nodesL x prev)[(nodesL x prev).length - 1]? = some (x.n, -1) := by
  have hm : (x.n, -1) ∈ nodesL x prev := by
    unfold nodesL tailL
    rw [if_neg (by omega)]
    exact mem_cons_of_mem _ ((sortU_mem _ _).2 mem_cons_self)
  have hg := ix_get hm
  obtain ⟨hlt, _⟩ := List.getElem?_eq_some_iff.1 hg
  rcases Nat.lt_or_ge (ixL (nodesL x prev) (x.n, -1)) ((nodesL x prev).length - 1) with h1 | h1
  · exfalso
    have hl : (nodesL x prev)[(nodesL x prev).length - 1]? = some ((nodesL x prev)[(nodesL x prev).length - 1]'(by omega)) := List.getElem?_eq_getElem (by omega)
    have h2 := pairwise_iff_getElem.1 (nodesL_sort h prev) _ _ hlt (by omega) h1
    rw [List.getElem?_eq_getElem hlt] at hg
    rw [Option.some.inj hg] at h2
    obtain ⟨q, hq⟩ : ∃ q, (nodesL x prev)[(nodesL x prev).length - 1]'(by omega) = q := ⟨_, rfl⟩
    have h3 : q ∈ nodesL x prev := by rw [← hq]; exact getElem_mem _
    rw [hq] at h2
    rw [ltP_iff] at h2
    simp only at h2
    unfold nodesL tailL at h3
    rw [if_neg (by omega)] at h3
    rcases mem_cons.1 h3 with h4 | h4
    · rw [h4] at h2; simp only at h2; omega
    · rw [sortU_mem, arr_mem h] at h4
      rcases h4 with h4 | h4
      · rw [h4] at h2; simp only at h2; omega
      · have := h4.1
        omega
  · rw [show (nodesL x prev).length - 1 = ixL (nodesL x prev) (x.n, -1) by omega]; exact hg
theorem node_first (x : La) (prev : Int) : (nodesL x prev)[0]? = some (0, prev) := rfl
/-- The last words of the nodes. -/
def lastL (x : La) (prev : Int) : List Int := (nodesL x prev).map (·.2)

/-! The edges that begin at a place. -/
def frTo (es : List Ed) (v : Int) : Nat → List Nat
  | 0 => []
  | k + 1 => match es[k]? with
    | some e => if e.fr = v then frTo es v k ++ [k] else frTo es v k
    | none => frTo es v k
def frE (x : La) (v : Int) : List Nat := frTo x.es v x.es.length
theorem frTo_succ {es : List Ed} {v : Int} {k : Nat} {e : Ed} (h : es[k]? = some e) : frTo es v (k + 1) = if e.fr = v then frTo es v k ++ [k] else frTo es v k := by
  show (match es[k]? with | some e => if e.fr = v then frTo es v k ++ [k] else frTo es v k | none => frTo es v k) = _
  rw [h]
theorem frTo_mem {es : List Ed} {v : Int} : ∀ k, k ≤ es.length → ∀ i, i ∈ frTo es v k ↔ i < k ∧ ∃ e, es[i]? = some e ∧ e.fr = v := by
  intro k
  induction k with
  | zero => intro _ i; simp [frTo]
  | succ k ih =>
    intro hk i
    have hl : es[k]? = some es[k] := List.getElem?_eq_getElem (by omega)
    rw [frTo_succ hl]
    have h := ih (by omega) i
    constructor
    · intro hi
      split at hi
      · rename_i hf
        rcases mem_append.1 hi with h1 | h1
        · obtain ⟨h2, r⟩ := h.1 h1; exact ⟨by omega, r⟩
        · obtain rfl := mem_singleton.1 h1; exact ⟨by omega, _, hl, hf⟩
      · obtain ⟨h2, r⟩ := h.1 hi; exact ⟨by omega, r⟩
    · rintro ⟨hj, e, he, hf⟩
      rcases Nat.lt_or_ge i k with h1 | h1
      · have := h.2 ⟨h1, e, he, hf⟩
        split
        · exact mem_append.2 (.inl this)
        · exact this
      · obtain rfl : i = k := by omega
        rw [hl] at he
        rw [if_pos (by rw [Option.some.inj he]; exact hf)]
        simp
theorem frE_mem {x : La} {v : Int} {i : Nat} : i ∈ frE x v ↔ ∃ e, x.es[i]? = some e ∧ e.fr = v := by
  unfold frE
  rw [frTo_mem _ (Nat.le_refl _)]
  exact ⟨fun h => h.2, fun ⟨e, he, hf⟩ => ⟨(List.getElem?_eq_some_iff.1 he).1, e, he, hf⟩⟩
theorem frTo_inc {es : List Ed} {v : Int} : ∀ k, k ≤ es.length → (frTo es v k).Pairwise (· < ·) := by
  intro k
  induction k with
  | zero => intro _; exact Pairwise.nil
  | succ k ih =>
    intro hk
    have hl : es[k]? = some es[k] := List.getElem?_eq_getElem (by omega)
    rw [frTo_succ hl]
    split
    · refine pairwise_append.2 ⟨ih (by omega), pairwise_singleton _ _, fun a ha b hb => ?_⟩
      obtain rfl := mem_singleton.1 hb
      exact ((frTo_mem _ (by omega) a).1 ha).1
    · exact ih (by omega)
theorem frTo_len (es : List Ed) (v : Int) : ∀ k, (frTo es v k).length ≤ k
  | 0 => Nat.le_refl _
  | k + 1 => by
    have := frTo_len es v k
    unfold frTo
    split
    · split
      · simp; omega
      · omega
    · omega
end Go.Proofs.Ytcimnkijpifkjaa
