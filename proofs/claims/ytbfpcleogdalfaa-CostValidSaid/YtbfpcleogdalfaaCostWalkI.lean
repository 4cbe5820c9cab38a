/-
  The walks of layer 11: valid models (the program), the cost of a word.
-/
import Derived.Test.YtbfpcleogdalfaaCostWalkH
import Derived.Test.YtbfpcleogdalfaaCostWalkA
import Derived.Test.YtbfpcleogdalfaaCostMath2
namespace Go.Proofs.Ytbfpcleogdalfaa
open Go Go.RowKit

set_option maxHeartbeats 2000000 in
theorem valid_any (m : Mo) (A1 A2 A3 : Option Addr) (c1 c2 c3 : Nat) (w : World) (h : MoR w m A1 A2 A3) :
    Calls Try.prog 19 #[.agg #[.slice A1 m.ws.length c1, .slice A2 m.cs.length c2, .slice A3 m.ps.length c3, .int .i64 m.back]] w fun e w' => e = .returned (.bool (decide (MoOK m))) ∧ Below w.heap.size w w' := by
  have hB : Below w.heap.size w (w.alloc (.cells #[.slice A1 m.ws.length c1, .slice A2 m.cs.length c2, .slice A3 m.ps.length c3, .int .i64 m.back] 34)) := unbox (rebox w _)
  have HV1 := Lib.hid (validWords_any A1 m.ws c1 _ (h.below hB).h1 h.l1 h.s)
  have HV2 := Lib.hid (validCounts_any A2 m.cs c2 m.ws.length _ (h.below hB).h2 h.l2 h.l1)
  have HV3 := Lib.hid (validPairs_any A3 m.ps c3 m.ws.length _ (h.below hB).h3 h.l3 h.l1)
  clear h hB
  by_cases g1 : WsOK m.ws
  · have G1 := Lib.hid g1
    have d1 := decide_eq_true g1
    by_cases g2 : CsOK m.cs m.ws.length
    · have G2 := Lib.hid g2
      have d2 := decide_eq_true g2
      by_cases g3 : PsOK m.ps m.ws.length
      · have G3 := Lib.hid g3
        have d3 := decide_eq_true g3
        clear g1 g2 g3
        by_cases g4 : 0 ≤ m.back
        · by_cases g5 : m.back ≤ 1000
          all_goals
            go_enter Try.func19, Try.ntmps19
            go_wp2_with (first
              | (go_at_call 38; refine HV1.out.mono ?_; rintro e w' ⟨rfl, rfl⟩; simp only [d1])
              | (go_at_call 39; refine HV2.out.mono ?_; rintro e w' ⟨rfl, rfl⟩; simp only [d2])
              | (go_at_call 40; refine HV3.out.mono ?_; rintro e w1 ⟨rfl, hb1⟩; simp only [d3]; have hm3 := box_cell (bx hb1) 3))
            go_ret
          · exact ⟨ret_bool (decide_eq_true ⟨⟨⟨G1.out, G2.out⟩, G3.out⟩, g4, g5⟩).symm, unbox (bx hb1)⟩
          · exact ⟨ret_bool (decide_eq_false (fun hok => by have := hok.2.2; omega)).symm, unbox (bx hb1)⟩
        · go_enter Try.func19, Try.ntmps19
          go_wp2_with (first
            | (go_at_call 38; refine HV1.out.mono ?_; rintro e w' ⟨rfl, rfl⟩; simp only [d1])
            | (go_at_call 39; refine HV2.out.mono ?_; rintro e w' ⟨rfl, rfl⟩; simp only [d2])
            | (go_at_call 40; refine HV3.out.mono ?_; rintro e w1 ⟨rfl, hb1⟩; simp only [d3]; have hm3 := box_cell (bx hb1) 3))
          go_ret
          exact ⟨ret_bool (decide_eq_false (fun hok => by have := hok.2.1; omega)).symm, unbox (bx hb1)⟩
      · have G3 := Lib.hid g3
        have d3 := decide_eq_false g3
        clear g1 g2 g3
        go_enter Try.func19, Try.ntmps19
        go_wp2_with (first
          | (go_at_call 38; refine HV1.out.mono ?_; rintro e w' ⟨rfl, rfl⟩; simp only [d1])
          | (go_at_call 39; refine HV2.out.mono ?_; rintro e w' ⟨rfl, rfl⟩; simp only [d2])
          | (go_at_call 40; refine HV3.out.mono ?_; rintro e w1 ⟨rfl, hb1⟩; simp only [d3]; have hm3 := box_cell (bx hb1) 3))
        go_ret
        exact ⟨ret_bool (decide_eq_false (fun hok => G3.out hok.1.2)).symm, unbox (bx hb1)⟩
    · have G2 := Lib.hid g2
      have d2 := decide_eq_false g2
      clear g1 g2
      go_enter Try.func19, Try.ntmps19
      go_wp2_with (first
        | (go_at_call 38; refine HV1.out.mono ?_; rintro e w' ⟨rfl, rfl⟩; simp only [d1])
        | (go_at_call 39; refine HV2.out.mono ?_; rintro e w' ⟨rfl, rfl⟩; simp only [d2]))
      go_ret
      exact ⟨ret_bool (decide_eq_false (fun hok => G2.out hok.1.1.2)).symm, unbox (rebox _ _)⟩
  · have G1 := Lib.hid g1
    have d1 := decide_eq_false g1
    clear g1
    go_enter Try.func19, Try.ntmps19
    go_wp2_with (go_at_call 38; refine HV1.out.mono ?_; rintro e w' ⟨rfl, rfl⟩; simp only [d1])
    go_ret
    exact ⟨ret_bool (decide_eq_false (fun hok => G1.out hok.1.1.1)).symm, unbox (rebox _ _)⟩

/-! the cost of a word -/
set_option maxHeartbeats 2000000 in
theorem wcost_any (m : Mo) (A1 A2 A3 : Option Addr) (c1 c2 c3 : Nat) (k : Nat) (w : World) (h : MoR w m A1 A2 A3) (hok : CsOK m.cs m.ws.length) (hk : k < m.cs.length) :
    Calls Try.prog 12 #[.agg #[.slice A1 m.ws.length c1, .slice A2 m.cs.length c2, .slice A3 m.ps.length c3, .int .i64 m.back], .int .i64 k] w fun e w' => e = .returned (.int .i64 (wcost m k)) ∧ Below w.heap.size w w' := by
  have hB : Below w.heap.size w (w.alloc (.cells #[.slice A1 m.ws.length c1, .slice A2 m.cs.length c2, .slice A3 m.ps.length c3, .int .i64 m.back] 34)) := unbox (rebox w _)
  have h2 := (h.below hB).h2
  have hl1 := h.l1
  have hl2 := h.l2
  have HOK := Lib.hid hok
  obtain ⟨b, off, x, rfl, hbb, hxx, hcx⟩ := h.h2.int hk
  have HW := Lib.hid (wcost_at hxx)
  have hx0 := hok.2.1 x (List.mem_of_getElem? hxx)
  have ht0 := (hok.to (k := m.cs.length))
  rw [List.take_length] at ht0
  have lb1 := lg_bd (total m.cs + m.ws.length) (by omega)
  have lb2 := lg_bd (x + 1) (by omega)
  have hwr : IntKind.i64.wrap (lg (total m.cs + m.ws.length) - lg (x + 1)) = lg (total m.cs + m.ws.length) - lg (x + 1) := IntWalk.i64_in _ (by omega)
  have hwx : IntKind.i64.wrap (x + 1) = x + 1 := IntWalk.i64_in _ (by omega)
  have hki : (k : Int) < (m.cs.length : Int) := by omega
  have hk0 : (0 : Int) ≤ (k : Int) := by omega
  clear h hB hok hxx
  go_enter Try.func12, Try.ntmps12
  go_wp2_with fail
  go_loop [5, 7, 23] (fun s _ i => ∃ j : Nat, j ≤ m.cs.length ∧ i = .int .i64 j ∧ s = .int .i64 (total (m.cs.take j) + m.ws.length)) (fun _ _ i => m.cs.length - (intOf i).toNat)
  case atStart => exact ⟨0, by omega, rfl, by simp [total]⟩
  case round =>
    obtain ⟨j, hj, rfl, rfl⟩ := hrel
    have hbd := HOK.out.to (k := j)
    by_cases hlt : j < m.cs.length
    · obtain ⟨b1, off1, y, he, hbb1, hyy, hcy⟩ := h2.int hlt
      have hcy' := hcy
      simp only [Option.some.injEq, Addr.mk.injEq, and_true] at he
      obtain ⟨rfl, rfl⟩ := he
      have HX := Lib.hid (take_succ_of hyy)
      have hy0 := HOK.out.2.1 y (List.mem_of_getElem? hyy)
      clear hyy hcy'
      go_wp2_with fail
      go_round
      case rel => exact ⟨j + 1, by omega, by go_num, vint (by rw [HX.out, total_snoc]; omega)⟩
      case measure => simp [intOf]; omega
    · obtain rfl : j = m.cs.length := by omega
      rw [List.take_length]
      clear hbd
      go_wp2_with fail
      go_quiet ((go_at_call 21; exact quiet_l (log_any _ _ (by omega))))
      go_wp2_with fail
      go_ret
      exact ⟨ret_int HW.out.symm, below_drewN (unbox (rebox _ _)) _⟩

set_option maxHeartbeats 2000000 in
theorem refwcost_any (m : Mo) (A1 A2 A3 : Option Addr) (c1 c2 c3 : Nat) (k : Nat) (w : World) (h : MoR w m A1 A2 A3) (hok : CsOK m.cs m.ws.length) (hk : k < m.cs.length) :
    Calls Try.prog 13 #[.agg #[.slice A1 m.ws.length c1, .slice A2 m.cs.length c2, .slice A3 m.ps.length c3, .int .i64 m.back], .int .i64 k] w fun e w' => e = .returned (.int .i64 (wcost m k)) ∧ Below w.heap.size w w' := by
  have hB : Below w.heap.size w (w.alloc (.cells #[.slice A1 m.ws.length c1, .slice A2 m.cs.length c2, .slice A3 m.ps.length c3, .int .i64 m.back] 34)) := unbox (rebox w _)
  have hl1 := h.l1
  have hl2 := h.l2
  have HT : Hid (∀ n, Calls Try.prog 28 #[.slice A2 m.cs.length c2] ((w.alloc (.cells #[.slice A1 m.ws.length c1, .slice A2 m.cs.length c2, .slice A3 m.ps.length c3, .int .i64 m.back] 34)).drewN n) fun e w' => e = .returned (.int .i64 (total m.cs)) ∧ ((w.alloc (.cells #[.slice A1 m.ws.length c1, .slice A2 m.cs.length c2, .slice A3 m.ps.length c3, .int .i64 m.back] 34)).drewN n) = w') := fun n =>
    total_any A2 m.cs c2 _ (h.below (below_drewN hB n)).h2 hl2 (fun x hx => by have := hok.2.1 x hx; omega)
  obtain ⟨b, off, x, rfl, hbb, hxx, hcx⟩ := h.h2.int hk
  have HW := Lib.hid (wcost_at hxx)
  have hx0 := hok.2.1 x (List.mem_of_getElem? hxx)
  have ht0 := (hok.to (k := m.cs.length))
  rw [List.take_length] at ht0
  have lb1 := lg_bd (total m.cs + m.ws.length) (by omega)
  have lb2 := lg_bd (x + 1) (by omega)
  have hwr : IntKind.i64.wrap (lg (total m.cs + m.ws.length) - lg (x + 1)) = lg (total m.cs + m.ws.length) - lg (x + 1) := IntWalk.i64_in _ (by omega)
  have hwx : IntKind.i64.wrap (x + 1) = x + 1 := IntWalk.i64_in _ (by omega)
  have hwt : IntKind.i64.wrap (total m.cs + m.ws.length) = total m.cs + m.ws.length := IntWalk.i64_in _ (by omega)
  have hki : (k : Int) < (m.cs.length : Int) := by omega
  have hk0 : (0 : Int) ≤ (k : Int) := by omega
  clear h hB hok hxx
  go_enter Try.func13, Try.ntmps13
  go_wp2_with fail
  go_quiet (first
    | (go_at_call 28; exact quiet_l (HT.out _))
    | (go_at_call 22; exact quiet_l (reflog_any _ _ (by omega))))
  go_wp2_with fail
  go_ret
  exact ⟨ret_int HW.out.symm, below_drewN (unbox (rebox _ _)) _⟩

/-! the index of a pair -/
def NoPair (ps : List Pr) (a b : Int) (k : Nat) : Prop := ∀ p ∈ ps.take k, ¬ (p.a = a ∧ p.b = b)
/-- The index of the first pair with these words, or -1. -/
def findI (ps : List Pr) (a b : Int) : Int := match ps.findIdx? (fun p => p.a == a && p.b == b) with | some i => i | none => -1
theorem findI_some {ps : List Pr} {a b : Int} {k : Nat} {p : Pr} (h : NoPair ps a b k) (hp : ps[k]? = some p) (ha : p.a = a) (hb : p.b = b) : findI ps a b = k := by
  obtain ⟨hk, hpe⟩ := List.getElem?_eq_some_iff.1 hp
  have : ps.findIdx? (fun p => p.a == a && p.b == b) = some k := by
    rw [List.findIdx?_eq_some_iff_getElem]
    refine ⟨hk, by rw [hpe]; simp [ha, hb], fun j hj => ?_⟩
    have := h ps[j] (List.mem_take_iff_getElem.2 ⟨j, by omega, rfl⟩)
    simpa using this
  unfold findI
  rw [this]
theorem findI_none {ps : List Pr} {a b : Int} {k : Nat} (h : NoPair ps a b k) (hk : ps.length ≤ k) : findI ps a b = -1 := by
  unfold NoPair at h
  rw [List.take_of_length_le hk] at h
  have : ps.findIdx? (fun p => p.a == a && p.b == b) = none := by
    rw [List.findIdx?_eq_none_iff]
    intro p hp
    have := h p hp
    simpa using this
  unfold findI
  rw [this]
theorem NoPair.succ {ps : List Pr} {a b : Int} {k : Nat} {p : Pr} (h : NoPair ps a b k) (hp : ps[k]? = some p) (hn : ¬ (p.a = a ∧ p.b = b)) : NoPair ps a b (k + 1) := by
  unfold NoPair
  rw [take_succ_of hp]
  intro q hq
  rcases List.mem_append.1 hq with hq | hq
  · exact h q hq
  · rw [List.mem_singleton.1 hq]; exact hn
set_option maxHeartbeats 2000000 in
theorem find_any (v0 v1 v3 : Value) (A : Option Addr) (xs : List Pr) (c : Nat) (a b : Int) (w : World) (hr : SlR 3 RPr w A xs) (hl : xs.length ≤ 65536) :
    Calls Try.prog 23 #[.agg #[v0, v1, .slice A xs.length c, v3], .int .i64 a, .int .i64 b] w fun e w' => e = .returned (.int .i64 (findI xs a b)) ∧ Below w.heap.size w w' := by
  go_enter Try.func23, Try.ntmps23
  go_wp2_with fail
  go_loop [7] (fun i => ∃ k : Nat, k ≤ xs.length ∧ NoPair xs a b k ∧ i = .int .i64 k) (fun i => xs.length - (intOf i).toNat)
  case atStart => exact ⟨0, by omega, fun _ h => by simp at h, rfl⟩
  case round =>
    obtain ⟨k, hk, hn, rfl⟩ := hrel
    have HN := Lib.hid hn
    clear hn
    by_cases hlt : k < xs.length
    · obtain ⟨bb, off, p, rfl, hbb, hpp, hc0, hc1, hc2⟩ := hr.pr hlt
      have HP := Lib.hid hpp
      clear hpp
      by_cases ha : p.a = a
      · by_cases hb : p.b = b
        · go_wp2_with fail
          go_ret
          exact ⟨ret_int (findI_some HN.out HP.out ha hb).symm, unbox (rebox _ _)⟩
        · go_wp2_with fail
          go_round
          case rel => exact ⟨k + 1, by omega, HN.out.succ HP.out (fun h => hb h.2), by go_num⟩
          case measure => simp [intOf]; omega
      · go_wp2_with fail
        go_round
        case rel => exact ⟨k + 1, by omega, HN.out.succ HP.out (fun h => ha h.1), by go_num⟩
        case measure => simp [intOf]; omega
    · go_wp2_with fail
      go_ret
      exact ⟨ret_int (findI_none HN.out (by omega)).symm, unbox (rebox _ _)⟩
end Go.Proofs.Ytbfpcleogdalfaa
