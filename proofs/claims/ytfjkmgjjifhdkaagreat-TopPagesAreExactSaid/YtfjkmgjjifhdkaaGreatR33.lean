/-
  CostWalkA, CostMath2, CostWalkI, CxNod, CxWalkC, joined. No conditions.
-/
import Derived.Test.YtfjkmgjjifhdkaaGreatShelf
import Derived.Test.YtfjkmgjjifhdkaaGreatChecked
import Derived.Test.YtfjkmgjjifhdkaaGreatR01
import Derived.Test.YtfjkmgjjifhdkaaGreatR27
import Derived.Outline
import Derived.Deep.Light
import Derived.Test.YtfjkmgjjifhdkaaGreatR32
import Derived.Test.YtfjkmgjjifhdkaaGreatR25
import Derived.Test.YtfjkmgjjifhdkaaGreatR28
/-
  The walks of layer 11's small functions: each function's contract.
-/
namespace Go.Proofs.YtfjkmgjjifhdkaaGreat
open Go Go.RowKit

set_option maxRecDepth 100000 in
set_option maxHeartbeats 400000 in
theorem log_neg (n : Int) (w : World) (h : n < 1) : Calls Tryz.prog 63 #[.int .i64 n] w fun e w' => e = .returned (.int .i64 (lg n)) ∧ w = w' := by
  have H := Lib.hid (lg_neg n h)
  go_enter Tryz.func63, Tryz.ntmps63
  go_wp2
  go_ret
  exact ⟨ret_int H.out.symm, rfl⟩

theorem log_small_fit (n : Int) (k : Nat) (h : IsLog n k) (h3 : k < 3) (h2 : n ≤ 4611686018427387904) :
    wrap64 (8 * ↑k + wrap64 (wrap64 (n - wrap64 (2 ^ k)) * 2 ^ (3 - k))) = lg n := by
  rw [lg_small n k h h3]
  obtain ⟨h4, h5⟩ := h
  match k, h3 with
  | 0, _ => simp [wrap64] at *; omega
  | 1, _ => simp [wrap64] at *; omega
  | 2, _ => simp [wrap64] at *; omega
theorem log_big_fit (n : Int) (k : Nat) (h : IsLog n k) (h3 : 3 ≤ k) (h2 : n ≤ 4611686018427387904) :
    wrap64 (8 * ↑k + wrap64 (n - wrap64 (2 ^ k)) / 2 ^ (k - 3)) = lg n := by
  have hk := isLog_le62 h h2
  rw [lg_big n k h h3]
  obtain ⟨h4, h5⟩ := h
  have hp := pow_le62 hk
  have hp0 : (0 : Int) < 2 ^ k := Int.pow_pos (by decide)
  have hq0 : (0 : Int) < 2 ^ (k - 3) := Int.pow_pos (by decide)
  rw [IntWalk.wrap64_in (2 ^ k) ⟨by omega, by omega⟩, IntWalk.wrap64_in (n - 2 ^ k) ⟨by omega, by omega⟩]
  have hd0 : 0 ≤ (n - 2 ^ k) / 2 ^ (k - 3) := Int.ediv_nonneg (by omega) (by omega)
  have hd1 : (n - 2 ^ k) / 2 ^ (k - 3) ≤ n - 2 ^ k := Int.ediv_le_self _ (by omega)
  rw [IntWalk.wrap64_in _ ⟨by omega, by omega⟩]

set_option maxRecDepth 100000 in
set_option maxHeartbeats 400000 in
theorem log_pos (n : Int) (w : World) (h : 1 ≤ n) (h2 : n ≤ 4611686018427387904) : Calls Tryz.prog 63 #[.int .i64 n] w fun e w' => e = .returned (.int .i64 (lg n)) ∧ w = w' := by
  obtain ⟨k, hk⟩ : ∃ k, k = n.toNat.log2 := ⟨_, rfl⟩
  have hb : Lib.bitLen n.toNat = k + 1 := by rw [hk]; exact bitLen_log _ (by omega) (by omega)
  have hl := isLog_log2 n h
  rw [← hk] at hl
  have hk62 := isLog_le62 hl h2
  clear hk
  have Hb := Lib.hid hb
  clear hb
  have Hl := Lib.hid hl
  clear hl
  by_cases h3 : k < 3
  all_goals
    go_enter Tryz.func63, Tryz.ntmps63
    go_wp2_with (go_at_call 94; refine (Tryz.bits_Len _ _ (by omega) (by omega)).mono ?_; rintro e w' ⟨rfl, rfl⟩; rw [Hb.out])
    go_ret
  · exact ⟨ret_int (log_small_fit n k Hl.out h3 h2), rfl⟩
  · exact ⟨ret_int (log_big_fit n k Hl.out (by omega) h2), rfl⟩

theorem log_any (n : Int) (w : World) (h2 : n ≤ 4611686018427387904) : Calls Tryz.prog 63 #[.int .i64 n] w fun e w' => e = .returned (.int .i64 (lg n)) ∧ w = w' := by
  by_cases h : n < 1
  · exact log_neg n w h
  · exact log_pos n w (by omega) h2

/-! The reference's logarithm: a loop that doubles. -/
end Go.Proofs.YtfjkmgjjifhdkaaGreat

/-
  The plain mathematics of layer 11, continued: bounds of logarithms, costs of words and pairs.
-/
namespace Go.Proofs.YtfjkmgjjifhdkaaGreat
open Go Go.RowKit

theorem lg_bd (n : Int) (h : n ≤ 4611686018427387904) : 0 ≤ lg n ∧ lg n ≤ 512 := by
  refine ⟨by unfold lg; omega, ?_⟩
  by_cases h1 : n < 1
  · rw [lg_neg n h1]; decide
  · have hl := isLog_log2 n (by omega)
    have hk := isLog_le62 hl h
    obtain ⟨h2, h3⟩ := isLog_nat hl
    unfold lg
    rw [lgN_of _ _ h2 h3]
    have h4 : 8 * (n.toNat - 2 ^ n.toNat.log2) / 2 ^ n.toNat.log2 < 8 := by
      rw [Nat.div_lt_iff_lt_mul (Nat.two_pow_pos _)]
      rw [Nat.pow_succ] at h3
      omega
    omega
/-- The cost of a word. -/
def wcost (m : Mo) (k : Nat) : Int := lg (total m.cs + m.ws.length) - lg (m.cs.getD k 0 + 1)
theorem wcost_at {m : Mo} {k : Nat} {x : Int} (hx : m.cs[k]? = some x) : wcost m k = lg (total m.cs + m.ws.length) - lg (x + 1) := by
  unfold wcost; simp [hx]
end Go.Proofs.YtfjkmgjjifhdkaaGreat

/-
  The walks of layer 11: valid models (the program), the cost of a word.
-/
namespace Go.Proofs.YtfjkmgjjifhdkaaGreat
open Go Go.RowKit

set_option maxRecDepth 100000 in
set_option maxHeartbeats 2000000 in
theorem co_valid_any (m : Mo) (A1 A2 A3 : Option Addr) (c1 c2 c3 : Nat) (w : World) (h : MoR w m A1 A2 A3) :
    Calls Tryz.prog 44 #[.agg #[.slice A1 m.ws.length c1, .slice A2 m.cs.length c2, .slice A3 m.ps.length c3, .int .i64 m.back]] w fun e w' => e = .returned (.bool (decide (MoOK m))) ∧ Below w.heap.size w w' := by
  have hB : Below w.heap.size w (w.alloc (.cells #[.slice A1 m.ws.length c1, .slice A2 m.cs.length c2, .slice A3 m.ps.length c3, .int .i64 m.back] 56)) := unbox (rebox w _)
  have HV1 := Lib.hid (validWords_any A1 m.ws c1 _ (h.below hB).h1 h.l1 h.s)
  have HV2 := Lib.hid (validCounts_any A2 m.cs c2 m.ws.length _ (h.below hB).h2 h.l2 h.l1)
  have HV3 := Lib.hid (validPairs_any A3 m.ps c3 m.ws.length _ (h.below hB).h3 h.l3 h.l1)
  clear h hB
  by_cases g1 : WsOK m.ws
  · have G1 := Lib.hid g1
    have d1 := decide_eq_true g1
    by_cases g2 : CsOK m.cs m.ws.length
    · have G2 := Lib.hid g2
      have d2 := decide_eq_true g2
      by_cases g3 : PsOK m.ps m.ws.length
      · have G3 := Lib.hid g3
        have d3 := decide_eq_true g3
        clear g1 g2 g3
        by_cases g4 : 0 ≤ m.back
        · by_cases g5 : m.back ≤ 1000
          all_goals
            go_enter Tryz.func44, Tryz.ntmps44
            go_wp2_with (first
              | (go_at_call 77; refine HV1.out.mono ?_; rintro e w' ⟨rfl, rfl⟩; simp only [d1])
              | (go_at_call 78; refine HV2.out.mono ?_; rintro e w' ⟨rfl, rfl⟩; simp only [d2])
              | (go_at_call 79; refine HV3.out.mono ?_; rintro e w1 ⟨rfl, hb1⟩; simp only [d3]; have hm3 := box_cell (bx hb1) 3))
            go_ret
          · exact ⟨ret_bool (decide_eq_true ⟨⟨⟨G1.out, G2.out⟩, G3.out⟩, g4, g5⟩).symm, unbox (bx hb1)⟩
          · exact ⟨ret_bool (decide_eq_false (fun hok => by have := hok.2.2; omega)).symm, unbox (bx hb1)⟩
        · go_enter Tryz.func44, Tryz.ntmps44
          go_wp2_with (first
            | (go_at_call 77; refine HV1.out.mono ?_; rintro e w' ⟨rfl, rfl⟩; simp only [d1])
            | (go_at_call 78; refine HV2.out.mono ?_; rintro e w' ⟨rfl, rfl⟩; simp only [d2])
            | (go_at_call 79; refine HV3.out.mono ?_; rintro e w1 ⟨rfl, hb1⟩; simp only [d3]; have hm3 := box_cell (bx hb1) 3))
          go_ret
          exact ⟨ret_bool (decide_eq_false (fun hok => by have := hok.2.1; omega)).symm, unbox (bx hb1)⟩
      · have G3 := Lib.hid g3
        have d3 := decide_eq_false g3
        clear g1 g2 g3
        go_enter Tryz.func44, Tryz.ntmps44
        go_wp2_with (first
          | (go_at_call 77; refine HV1.out.mono ?_; rintro e w' ⟨rfl, rfl⟩; simp only [d1])
          | (go_at_call 78; refine HV2.out.mono ?_; rintro e w' ⟨rfl, rfl⟩; simp only [d2])
          | (go_at_call 79; refine HV3.out.mono ?_; rintro e w1 ⟨rfl, hb1⟩; simp only [d3]; have hm3 := box_cell (bx hb1) 3))
        go_ret
        exact ⟨ret_bool (decide_eq_false (fun hok => G3.out hok.1.2)).symm, unbox (bx hb1)⟩
    · have G2 := Lib.hid g2
      have d2 := decide_eq_false g2
      clear g1 g2
      go_enter Tryz.func44, Tryz.ntmps44
      go_wp2_with (first
        | (go_at_call 77; refine HV1.out.mono ?_; rintro e w' ⟨rfl, rfl⟩; simp only [d1])
        | (go_at_call 78; refine HV2.out.mono ?_; rintro e w' ⟨rfl, rfl⟩; simp only [d2]))
      go_ret
      exact ⟨ret_bool (decide_eq_false (fun hok => G2.out hok.1.1.2)).symm, unbox (rebox _ _)⟩
  · have G1 := Lib.hid g1
    have d1 := decide_eq_false g1
    clear g1
    go_enter Tryz.func44, Tryz.ntmps44
    go_wp2_with (go_at_call 77; refine HV1.out.mono ?_; rintro e w' ⟨rfl, rfl⟩; simp only [d1])
    go_ret
    exact ⟨ret_bool (decide_eq_false (fun hok => G1.out hok.1.1.1)).symm, unbox (rebox _ _)⟩

/-! the cost of a word -/
set_option maxRecDepth 100000 in
set_option maxHeartbeats 2000000 in
theorem wcost_any (m : Mo) (A1 A2 A3 : Option Addr) (c1 c2 c3 : Nat) (k : Nat) (w : World) (h : MoR w m A1 A2 A3) (hok : CsOK m.cs m.ws.length) (hk : k < m.cs.length) :
    Calls Tryz.prog 24 #[.agg #[.slice A1 m.ws.length c1, .slice A2 m.cs.length c2, .slice A3 m.ps.length c3, .int .i64 m.back], .int .i64 k] w fun e w' => e = .returned (.int .i64 (wcost m k)) ∧ Below w.heap.size w w' := by
  have hB : Below w.heap.size w (w.alloc (.cells #[.slice A1 m.ws.length c1, .slice A2 m.cs.length c2, .slice A3 m.ps.length c3, .int .i64 m.back] 56)) := unbox (rebox w _)
  have h2 := (h.below hB).h2
  have hl1 := h.l1
  have hl2 := h.l2
  have HOK := Lib.hid hok
  obtain ⟨b, off, x, rfl, hbb, hxx, hcx⟩ := h.h2.int hk
  have HW := Lib.hid (wcost_at hxx)
  have hx0 := hok.2.1 x (List.mem_of_getElem? hxx)
  have ht0 := (hok.to (k := m.cs.length))
  rw [List.take_length] at ht0
  have lb1 := lg_bd (total m.cs + m.ws.length) (by omega)
  have lb2 := lg_bd (x + 1) (by omega)
  have hwr : IntKind.i64.wrap (lg (total m.cs + m.ws.length) - lg (x + 1)) = lg (total m.cs + m.ws.length) - lg (x + 1) := IntWalk.i64_in _ (by omega)
  have hwx : IntKind.i64.wrap (x + 1) = x + 1 := IntWalk.i64_in _ (by omega)
  have hki : (k : Int) < (m.cs.length : Int) := by omega
  have hk0 : (0 : Int) ≤ (k : Int) := by omega
  clear h hB hok hxx
  go_enter Tryz.func24, Tryz.ntmps24
  go_wp2_with fail
  go_loop [5, 7, 23] (fun s _ i => ∃ j : Nat, j ≤ m.cs.length ∧ i = .int .i64 j ∧ s = .int .i64 (total (m.cs.take j) + m.ws.length)) (fun _ _ i => m.cs.length - (intOf i).toNat)
  case atStart => exact ⟨0, by omega, rfl, by simp [total]⟩
  case round =>
    obtain ⟨j, hj, rfl, rfl⟩ := hrel
    have hbd := HOK.out.to (k := j)
    by_cases hlt : j < m.cs.length
    · obtain ⟨b1, off1, y, he, hbb1, hyy, hcy⟩ := h2.int hlt
      have hcy' := hcy
      simp only [Option.some.injEq, Addr.mk.injEq, and_true] at he
      obtain ⟨rfl, rfl⟩ := he
      have HX := Lib.hid (take_succ_of hyy)
      have hy0 := HOK.out.2.1 y (List.mem_of_getElem? hyy)
      clear hyy hcy'
      go_wp2_with fail
      go_round
      case rel => exact ⟨j + 1, by omega, by go_num, vint (by rw [HX.out, total_snoc]; omega)⟩
      case measure => simp [intOf]; omega
    · obtain rfl : j = m.cs.length := by omega
      rw [List.take_length]
      clear hbd
      go_wp2_with fail
      go_quiet ((go_at_call 63; exact quiet_l (log_any _ _ (by omega))))
      go_wp2_with fail
      go_ret
      exact ⟨ret_int HW.out.symm, below_drewN (unbox (rebox _ _)) _⟩

/-! the index of a pair -/
def NoPair (ps : List Pr) (a b : Int) (k : Nat) : Prop := ∀ p ∈ ps.take k, ¬ (p.a = a ∧ p.b = b)
theorem NoPair.succ {ps : List Pr} {a b : Int} {k : Nat} {p : Pr} (h : NoPair ps a b k) (hp : ps[k]? = some p) (hn : ¬ (p.a = a ∧ p.b = b)) : NoPair ps a b (k + 1) := by
  unfold NoPair
  rw [take_succ_of hp]
  intro q hq
  rcases List.mem_append.1 hq with hq | hq
  · exact h q hq
  · rw [List.mem_singleton.1 hq]; exact hn
end Go.Proofs.YtfjkmgjjifhdkaaGreat

/-
  The plain law of layer 20: the nodes as the reference goes through them, their indices, the links. No program in sight; no conditions.
-/
namespace Go.Proofs.YtfjkmgjjifhdkaaGreat
open List

/-- A place ahead of the last one, and a word of an edge that ends there. -/
def Arr (x : La) (q : Int × Int) : Prop := q.1 < x.n ∧ ∃ e ∈ x.es, e.to = q.1 ∧ e.wd = q.2
theorem arr_mem {x : La} {q : Int × Int} (h : LaOK x) : q ∈ allL x ↔ q = (x.n, -1) ∨ Arr x q := by
  unfold allL
  rw [mem_cons, mem_map]
  constructor
  · rintro (h1 | ⟨e, he, rfl⟩)
    · exact .inl h1
    · unfold arrL
      split
      · exact .inl rfl
      · have := (h.2.2.1 e he).1
        exact .inr ⟨by show e.to < x.n; omega, e, he, rfl, rfl⟩
  · rintro (h1 | ⟨h1, e, he, h2, h3⟩)
    · exact .inl h1
    · refine .inr ⟨e, he, ?_⟩
      unfold arrL
      rw [if_neg (by omega), h2, h3]
structure PartN (x : La) (p w : Int) (t : List (Int × Int)) : Prop where
  sort : SortP t
  mem : ∀ q, q ∈ t ↔ ltP q (p, w) = true ∧ Arr x q
theorem arr_bd {x : La} {nw : Nat} (h : FitsL x nw) {q : Int × Int} (ha : Arr x q) : 1 ≤ q.1 ∧ 0 ≤ q.2 ∧ q.2 < nw := by
  obtain ⟨_, e, he, h2, h3⟩ := ha
  have h4 := h.1.2.2.1 e he
  have h5 := h.2 e he
  have := h4.1; have := h4.2
  omega
theorem PartN.start {x : La} {nw : Nat} (h : FitsL x nw) : PartN x 1 0 [] := ⟨Pairwise.nil, fun q => by
  constructor
  · intro hq; cases hq
  · rintro ⟨h1, h2⟩
    have := arr_bd h h2
    rw [ltP_iff] at h1
    simp only at h1
    omega⟩
theorem PartN.next {x : La} {nw : Nat} {p : Int} {t : List (Int × Int)} (hf : FitsL x nw) (h : PartN x p nw t) : PartN x (p + 1) 0 t := by
  refine ⟨h.sort, fun q => ?_⟩
  rw [h.mem]
  constructor
  · rintro ⟨h1, h2⟩
    refine ⟨?_, h2⟩
    rw [ltP_iff] at h1 ⊢; simp only at h1 ⊢; omega
  · rintro ⟨h1, h2⟩
    refine ⟨?_, h2⟩
    have := arr_bd hf h2
    rw [ltP_iff] at h1 ⊢; simp only at h1 ⊢; omega
theorem PartN.all {x : La} {nw : Nat} {t : List (Int × Int)} {p : Int} (hf : FitsL x nw) (h : PartN x p 0 t) (hn : 1 ≤ x.n) (hp : p = x.n) : t ++ [(x.n, -1)] = tailL x := by
  unfold tailL
  rw [if_neg (by omega)]
  refine sortP_ext (pairwise_append.2 ⟨h.sort, pairwise_singleton _ _, fun a ha b hb => ?_⟩) (sortU_sort _) fun q => ?_
  · rw [mem_singleton.1 hb]
    have := ((h.mem a).1 ha).2.1
    rw [ltP_iff]; simp only; omega
  · rw [sortU_mem, arr_mem hf.1, mem_append, mem_singleton, h.mem]
    constructor
    · rintro (⟨_, h2⟩ | h2)
      · exact .inr h2
      · exact .inl h2
    · rintro (h2 | h2)
      · exact .inr h2
      · refine .inl ⟨?_, h2⟩
        have := h2.1
        rw [ltP_iff]; simp only; omega
/-! Indices. -/
def ixL (l : List (Int × Int)) (p : Int × Int) : Nat := l.findIdx (· == p)
theorem nodesL_sort {x : La} (h : LaOK x) (prev : Int) : (nodesL x prev).Pairwise (fun a b => a.1 < b.1 ∨ ltP a b = true) := by
  unfold nodesL tailL
  split
  · exact pairwise_singleton _ _
  · rename_i hn
    refine pairwise_cons.2 ⟨fun p hp => .inl ?_, (sortU_sort _).imp fun h => .inr h⟩
    rw [sortU_mem] at hp
    exact allL_pos h hn p hp
theorem nodesL_nodup {x : La} (h : LaOK x) (prev : Int) : (nodesL x prev).Nodup := (nodesL_sort h prev).imp fun {a b} hab e => by
  subst e
  rcases hab with h1 | h1
  · omega
  · rw [ltP_irr] at h1; cases h1
theorem ix_at {l : List (Int × Int)} (h : l.Nodup) {j : Nat} {p : Int × Int} (hj : l[j]? = some p) : ixL l p = j := by
  obtain ⟨hk, hp⟩ := List.getElem?_eq_some_iff.1 hj
  unfold ixL
  rw [List.findIdx_eq hk]
  refine ⟨by simp [hp], fun i hi => ?_⟩
  have : l[i] ≠ l[j] := fun e => by
    have := pairwise_iff_getElem.1 h i j (by omega) hk hi
    exact this e
  rw [hp] at this
  simpa using this
theorem ix_get {l : List (Int × Int)} {p : Int × Int} (h : p ∈ l) : l[ixL l p]? = some p := by
  unfold ixL
  have hlt : l.findIdx (· == p) < l.length := List.findIdx_lt_length_of_exists ⟨p, h, by simp⟩
  rw [List.getElem?_eq_getElem hlt]
  have := List.findIdx_getElem (w := hlt)
  simpa using this
theorem arr_in {x : La} (h : LaOK x) (prev : Int) {e : Ed} (he : e ∈ x.es) : arrL x.n e ∈ nodesL x prev := by
  have hn : x.n ≠ 0 := by have := (h.2.2.1 e he).1; omega
  unfold nodesL tailL
  rw [if_neg hn]
  refine mem_cons_of_mem _ ((sortU_mem _ _).2 ?_)
  exact mem_cons_of_mem _ (mem_map.2 ⟨e, he, rfl⟩)
/-! What is wanted of a node: where it lies among the others. -/
theorem node_lt {x : La} (h : LaOK x) {prev : Int} {i j : Nat} {p q : Int × Int} (hi : (nodesL x prev)[i]? = some p) (hj : (nodesL x prev)[j]? = some q) (hpq : p.1 < q.1) : i < j := by
  rcases Nat.lt_trichotomy i j with h1 | h1 | h1
  · exact h1
  · subst h1; rw [hi] at hj; obtain rfl := Option.some.inj hj; omega
  · obtain ⟨hil, rfl⟩ := List.getElem?_eq_some_iff.1 hi
    obtain ⟨hjl, rfl⟩ := List.getElem?_eq_some_iff.1 hj
    have := pairwise_iff_getElem.1 (nodesL_sort h prev) j i hjl hil h1
    rw [ltP_iff] at this
    omega
theorem node_last {x : La} (h : LaOK x) (prev : Int) (hn : 1 ≤ x.n) : (nodesL x prev)[(nodesL x prev).length - 1]? = some (x.n, -1) := by
  have hm : (x.n, -1) ∈ nodesL x prev := by
    unfold nodesL tailL
    rw [if_neg (by omega)]
    exact mem_cons_of_mem _ ((sortU_mem _ _).2 mem_cons_self)
  have hg := ix_get hm
  obtain ⟨hlt, _⟩ := List.getElem?_eq_some_iff.1 hg
  rcases Nat.lt_or_ge (ixL (nodesL x prev) (x.n, -1)) ((nodesL x prev).length - 1) with h1 | h1
  · exfalso
    have hl : (nodesL x prev)[(nodesL x prev).length - 1]? = some ((nodesL x prev)[(nodesL x prev).length - 1]'(by omega)) := List.getElem?_eq_getElem (by omega)
    have h2 := pairwise_iff_getElem.1 (nodesL_sort h prev) _ _ hlt (by omega) h1
    rw [List.getElem?_eq_getElem hlt] at hg
    rw [Option.some.inj hg] at h2
    obtain ⟨q, hq⟩ : ∃ q, (nodesL x prev)[(nodesL x prev).length - 1]'(by omega) = q := ⟨_, rfl⟩
    have h3 : q ∈ nodesL x prev := by rw [← hq]; exact getElem_mem _
    rw [hq] at h2
    rw [ltP_iff] at h2
    simp only at h2
    unfold nodesL tailL at h3
    rw [if_neg (by omega)] at h3
    rcases mem_cons.1 h3 with h4 | h4
    · rw [h4] at h2; simp only at h2; omega
    · rw [sortU_mem, arr_mem h] at h4
      rcases h4 with h4 | h4
      · rw [h4] at h2; simp only at h2; omega
      · have := h4.1
        omega
  · rw [show (nodesL x prev).length - 1 = ixL (nodesL x prev) (x.n, -1) by omega]; exact hg
theorem node_first (x : La) (prev : Int) : (nodesL x prev)[0]? = some (0, prev) := rfl
/-- The last words of the nodes. -/
def lastL (x : La) (prev : Int) : List Int := (nodesL x prev).map (·.2)

/-! The edges that begin at a place. -/
def frTo (es : List Ed) (v : Int) : Nat → List Nat
  | 0 => []
  | k + 1 => match es[k]? with
    | some e => if e.fr = v then frTo es v k ++ [k] else frTo es v k
    | none => frTo es v k
def frE (x : La) (v : Int) : List Nat := frTo x.es v x.es.length
theorem frTo_succ {es : List Ed} {v : Int} {k : Nat} {e : Ed} (h : es[k]? = some e) : frTo es v (k + 1) = if e.fr = v then frTo es v k ++ [k] else frTo es v k := by
  show (match es[k]? with | some e => if e.fr = v then frTo es v k ++ [k] else frTo es v k | none => frTo es v k) = _
  rw [h]
theorem frTo_mem {es : List Ed} {v : Int} : ∀ k, k ≤ es.length → ∀ i, i ∈ frTo es v k ↔ i < k ∧ ∃ e, es[i]? = some e ∧ e.fr = v := by
  intro k
  induction k with
  | zero => intro _ i; simp [frTo]
  | succ k ih =>
    intro hk i
    have hl : es[k]? = some es[k] := List.getElem?_eq_getElem (by omega)
    rw [frTo_succ hl]
    have h := ih (by omega) i
    constructor
    · intro hi
      split at hi
      · rename_i hf
        rcases mem_append.1 hi with h1 | h1
        · obtain ⟨h2, r⟩ := h.1 h1; exact ⟨by omega, r⟩
        · obtain rfl := mem_singleton.1 h1; exact ⟨by omega, _, hl, hf⟩
      · obtain ⟨h2, r⟩ := h.1 hi; exact ⟨by omega, r⟩
    · rintro ⟨hj, e, he, hf⟩
      rcases Nat.lt_or_ge i k with h1 | h1
      · have := h.2 ⟨h1, e, he, hf⟩
        split
        · exact mem_append.2 (.inl this)
        · exact this
      · obtain rfl : i = k := by omega
        rw [hl] at he
        rw [if_pos (by rw [Option.some.inj he]; exact hf)]
        simp
theorem frE_mem {x : La} {v : Int} {i : Nat} : i ∈ frE x v ↔ ∃ e, x.es[i]? = some e ∧ e.fr = v := by
  unfold frE
  rw [frTo_mem _ (Nat.le_refl _)]
  exact ⟨fun h => h.2, fun ⟨e, he, hf⟩ => ⟨(List.getElem?_eq_some_iff.1 he).1, e, he, hf⟩⟩
theorem frTo_inc {es : List Ed} {v : Int} : ∀ k, k ≤ es.length → (frTo es v k).Pairwise (· < ·) := by
  intro k
  induction k with
  | zero => intro _; exact Pairwise.nil
  | succ k ih =>
    intro hk
    have hl : es[k]? = some es[k] := List.getElem?_eq_getElem (by omega)
    rw [frTo_succ hl]
    split
    · refine pairwise_append.2 ⟨ih (by omega), pairwise_singleton _ _, fun a ha b hb => ?_⟩
      obtain rfl := mem_singleton.1 hb
      exact ((frTo_mem _ (by omega) a).1 ha).1
    · exact ih (by omega)
theorem frTo_len (es : List Ed) (v : Int) : ∀ k, (frTo es v k).length ≤ k
  | 0 => Nat.le_refl _
  | k + 1 => by
    have := frTo_len es v k
    unfold frTo
    split
    · split
      · simp; omega
      · omega
    · omega
end Go.Proofs.YtfjkmgjjifhdkaaGreat

/-
  The walks of layer 20: whether a lattice fits a model, for the reference and for the program; where an edge leads.
-/
namespace Go.Proofs.YtfjkmgjjifhdkaaGreat
open Go Go.RowKit

/-- The first edge with a word that is none of nw words, or -1. -/
def ixE (es : List Ed) (nw : Int) : Int := if (∀ e ∈ es, e.wd < nw) then -1 else (es.findIdx (fun e => decide (nw ≤ e.wd)) : Int)
theorem ixE_neg {es : List Ed} {nw : Int} (h : ∀ e ∈ es, e.wd < nw) : ixE es nw = -1 := if_pos h
theorem ixE_at {es : List Ed} {nw : Int} {k : Nat} {e : Ed} (h : ∀ e ∈ es.take k, e.wd < nw) (he : es[k]? = some e) (hw : nw ≤ e.wd) : ixE es nw = (k : Int) := by
  obtain ⟨hk, rfl⟩ := List.getElem?_eq_some_iff.1 he
  unfold ixE
  rw [if_neg (fun h2 => by have := h2 _ (List.getElem_mem hk); omega)]
  congr 1
  rw [List.findIdx_eq hk]
  refine ⟨by simpa using hw, fun j hj => ?_⟩
  have := h es[j] (List.mem_take_iff_getElem.2 ⟨j, by omega, rfl⟩)
  simp; omega
theorem ixE_iff {es : List Ed} {nw : Int} : ixE es nw < 0 ↔ ∀ e ∈ es, e.wd < nw := by
  unfold ixE
  split
  · rename_i h; simp; exact h
  · rename_i h; constructor
    · intro h2; omega
    · intro h2; exact absurd h2 h
set_option maxRecDepth 100000 in
set_option maxHeartbeats 4000000 in
theorem fclo_any (e : Ed) (bM nwn : Nat) (A1 : Option Addr) (c1 : Nat) (w : World) (hM : w.cell? ⟨bM, 0, none⟩ = some (.slice A1 nwn c1)) (hbl : bM < w.heap.size) :
    Calls Tryz.prog 82 #[vEd e, .pointer (some ⟨bM, 0, none⟩)] w fun r w' => r = .returned (.bool (decide ((nwn : Int) ≤ e.wd))) ∧ Below w.heap.size w w' := by
  have hne : bM ≠ w.heap.size := by omega
  have hMn : (w.alloc (.cells #[.int .i64 e.fr, .int .i64 e.to, .int .i64 e.wd, .int .i64 e.co] 44)).cell? ⟨bM, 0, none⟩ = some (.slice A1 nwn c1) := ((nw _ (Below.refl _ _)).cell (p := ⟨bM, 0, none⟩) hbl).trans hM
  obtain ⟨v, hv⟩ : ∃ v, decide ((nwn : Int) ≤ e.wd) = v := ⟨_, rfl⟩
  rw [hv]
  go_enter Tryz.func82, Tryz.ntmps82
  go_wp2_with fail
  go_ret
  exact ⟨by first | rfl | (rw [← hv]; rfl), nw _ (Below.refl _ _)⟩
set_option maxRecDepth 100000 in
set_option maxHeartbeats 4000000 in
theorem indexE_any (A : Option Addr) (es : List Ed) (c bM nwn : Nat) (A1 : Option Addr) (c1 : Nat) (w : World) (hx : SlR 4 REd w A es) (hl : es.length ≤ maxLen) (hM : w.cell? ⟨bM, 0, none⟩ = some (.slice A1 nwn c1)) (hbl : bM < w.heap.size) :
    Calls Tryz.prog 99 #[.slice A es.length c, .func (.func 82) #[] #[.pointer (some ⟨bM, 0, none⟩)]] w fun r w' => r = .returned (.int .i64 (ixE es nwn)) ∧ Below w.heap.size w w' := by
  unfold maxLen at hl
  have HC : Hid (∀ (W : World) (e : Ed), Below w.heap.size w W → Calls Tryz.prog 82 #[vEd e, .pointer (some ⟨bM, 0, none⟩)] W fun r w' => r = .returned (.bool (decide ((nwn : Int) ≤ e.wd))) ∧ Below W.heap.size W w') :=
    fun W e hW => fclo_any e bM nwn A1 c1 W ((hW.cell (p := ⟨bM, 0, none⟩) hbl).trans hM) (Nat.lt_of_lt_of_le hbl hW.size)
  clear hM
  go_enter Tryz.func99, Tryz.ntmps99
  go_wp2_with fail
  go_loopw [8] (fun i wr => ∃ k : Nat, k ≤ es.length ∧ Hid (∀ e ∈ es.take k, e.wd < (nwn : Int)) ∧ i = .int .i64 k ∧ Below w.heap.size w wr) (fun i _ => es.length - (intOf i).toNat)
  case atStart => exact ⟨0, by omega, (by show ∀ e ∈ es.take 0, _; simp), rfl, Below.refl _ _⟩
  case round =>
    obtain ⟨k, hk, HS, rfl, hbr⟩ := hrel
    by_cases hlt : k < es.length
    · obtain ⟨b, off, e, rfl, hbb, hee, d0, d1, d2, d3⟩ := (hx.below keeps_ed hbr).ed hlt
      have HL := Lib.hid hee
      have HC2 := Lib.hid (HC.out wr e hbr)
      obtain ⟨v, hv⟩ : ∃ v, decide ((nwn : Int) ≤ e.wd) = v := ⟨_, rfl⟩
      rw [hv] at HC2
      have HV := Lib.hid hv
      have HBr := Lib.hid hbr
      clear hee hv hbr
      cases v with
      | true =>
        have HR : Hid (ixE es nwn = (k : Int)) := ixE_at HS.out HL.out (of_decide_eq_true HV.out)
        go_wp2_with (go_at_call 82; go_loud (refine HC2.out.mono ?_; rintro e' w3 ⟨rfl, hb3⟩))
        go_ret
        exact ⟨by rw [HR.out]; rfl, bthen HBr.out hb3⟩
      | false =>
        have HES : Hid (∀ e ∈ es.take (k + 1), e.wd < (nwn : Int)) := by
          show ∀ e ∈ es.take (k + 1), _
          rw [take_snoc_of HL.out]
          intro e' he'
          rcases List.mem_append.1 he' with h | h
          · exact HS.out e' h
          · have := of_decide_eq_false HV.out
            rw [List.mem_singleton.1 h]; omega
        go_wp2_with (go_at_call 82; go_loud (refine HC2.out.mono ?_; rintro e' w3 ⟨rfl, hb3⟩))
        go_roundw
        case rel => exact ⟨k + 1, by omega, HES.out, by go_num, bthen HBr.out hb3⟩
        case measure => simp [intOf]; omega
    · have HR : Hid (ixE es nwn = -1) := by
        show _ = _
        have := HS.out
        rw [List.take_of_length_le (by omega)] at this
        exact ixE_neg this
      go_wp2_with fail
      go_ret
      exact ⟨by rw [HR.out]; rfl, hbr⟩
set_option maxRecDepth 100000 in
set_option maxHeartbeats 4000000 in
theorem containsE_any (A : Option Addr) (es : List Ed) (c bM nwn : Nat) (A1 : Option Addr) (c1 : Nat) (w : World) (hx : SlR 4 REd w A es) (hl : es.length ≤ maxLen) (hM : w.cell? ⟨bM, 0, none⟩ = some (.slice A1 nwn c1)) (hbl : bM < w.heap.size) :
    Calls Tryz.prog 81 #[.slice A es.length c, .func (.func 82) #[] #[.pointer (some ⟨bM, 0, none⟩)]] w fun r w' => r = .returned (.bool (!decide (∀ e ∈ es, e.wd < (nwn : Int)))) ∧ Below w.heap.size w w' := by
  have HC := Lib.hid (indexE_any A es c bM nwn A1 c1 w hx hl hM hbl)
  have hi := ixE_iff (es := es) (nw := nwn)
  obtain ⟨v, hv⟩ : ∃ v, decide (∀ e ∈ es, e.wd < (nwn : Int)) = v := ⟨_, rfl⟩
  have HR : Hid (v = true ↔ ixE es nwn < 0) := by show _ ↔ _; rw [← hv, decide_eq_true_iff]; exact hi.symm
  rw [hv]
  generalize ixE es nwn = q at *
  clear hi hx hM hv
  by_cases hq : q < 0
  · have hv : v = true := HR.out.2 hq
    subst hv
    have z1 : decide (0 ≤ q) = false := decide_eq_false (by omega)
    have z2 : ¬ 0 ≤ q := by omega
    go_enter Tryz.func81, Tryz.ntmps81
    go_wp2_with (go_at_call 99; go_loud (refine HC.out.mono ?_; rintro e' w3 ⟨rfl, hb3⟩))
    go_ret
    exact ⟨by first | rfl | simp [z1], hb3⟩
  · have hv : v = false := by cases v with | false => rfl | true => exact absurd (HR.out.1 rfl) hq
    subst hv
    have z1 : decide (0 ≤ q) = true := decide_eq_true (by omega)
    have z2 : 0 ≤ q := by omega
    go_enter Tryz.func81, Tryz.ntmps81
    go_wp2_with (go_at_call 99; go_loud (refine HC.out.mono ?_; rintro e' w3 ⟨rfl, hb3⟩))
    go_ret
    exact ⟨by first | rfl | simp [z1], hb3⟩
set_option maxRecDepth 100000 in
set_option maxHeartbeats 8000000 in
theorem fits_any (x : La) (A : Option Addr) (c : Nat) (m : Mo) (A1 A2 A3 : Option Addr) (c1 c2 c3 : Nat) (prev : Int) (w : World) (hx : SlR 4 REd w A x.es) (hl : x.es.length ≤ maxLen) (_hl1 : m.ws.length ≤ 65536) :
    Calls Tryz.prog 45 #[.agg #[.int .i64 x.n, .slice A x.es.length c], .agg #[.slice A1 m.ws.length c1, .slice A2 m.cs.length c2, .slice A3 m.ps.length c3, .int .i64 m.back], .int .i64 prev] w fun e w' => e = .returned (.bool (decide ((-1 ≤ prev ∧ prev < (m.ws.length : Int)) ∧ FitsL x m.ws.length))) ∧ Below w.heap.size w w' := by
  obtain ⟨w2, hw2⟩ : ∃ w2, (w.alloc (.cells #[.int .i64 x.n, .slice A x.es.length c] 27)).alloc (.cells #[.slice A1 m.ws.length c1, .slice A2 m.cs.length c2, .slice A3 m.ps.length c3, .int .i64 m.back] 56) = w2 := ⟨_, rfl⟩
  have hb2 : Below w.heap.size w w2 := by rw [← hw2]; exact nw _ (nw _ (Below.refl _ _))
  have hLB : Blk w2 w.heap.size 27 #[.int .i64 x.n, .slice A x.es.length c] := by rw [← hw2]; exact (Blk.new _ _ _).alloc _
  have hMB : Blk w2 (w.heap.size + 1) 56 #[.slice A1 m.ws.length c1, .slice A2 m.cs.length c2, .slice A3 m.ps.length c3, .int .i64 m.back] := by rw [← hw2]; exact Blk.new_ (by simp)
  have HW2 := Lib.hid hw2
  have HBX : Hid (∀ W, Below w2.heap.size w2 W → (W.cell? ⟨w.heap.size, 0, none⟩ = some (.int .i64 x.n) ∧ W.cell? ⟨w.heap.size, 1, none⟩ = some (.slice A x.es.length c)) ∧ (W.cell? ⟨w.heap.size + 1, 0, none⟩ = some (.slice A1 m.ws.length c1) ∧ W.cell? ⟨w.heap.size + 1, 1, none⟩ = some (.slice A2 m.cs.length c2) ∧ W.cell? ⟨w.heap.size + 1, 2, none⟩ = some (.slice A3 m.ps.length c3) ∧ W.cell? ⟨w.heap.size + 1, 3, none⟩ = some (.int .i64 m.back)) ∧ w.heap.size < W.heap.size ∧ w.heap.size + 1 < W.heap.size) := fun W hW => by
    have e1 := hLB.below hW hLB.lt
    have e2 := hMB.below hW hMB.lt
    exact ⟨⟨by rw [e1.cell]; rfl, by rw [e1.cell]; rfl⟩, ⟨by rw [e2.cell]; rfl, by rw [e2.cell]; rfl, by rw [e2.cell]; rfl, by rw [e2.cell]; rfl⟩, e1.lt, e2.lt⟩
  have HB2 := Lib.hid hb2
  clear hw2 hLB hMB hb2
  have HVL : Hid (∀ W, Below w2.heap.size w2 W → Calls Tryz.prog 80 #[.agg #[.int .i64 x.n, .slice A x.es.length c]] W fun e w' => e = .returned (.bool (decide (LaOK x))) ∧ Below W.heap.size W w') := fun W hW => lvalid_any A c x W (hx.below keeps_ed (bthen HB2.out hW)) hl
  have HCT : Hid (∀ W, Below w2.heap.size w2 W → Calls Tryz.prog 81 #[.slice A x.es.length c, .func (.func 82) #[] #[.pointer (some ⟨w.heap.size + 1, 0, none⟩)]] W fun r w' => r = .returned (.bool (!decide (∀ e ∈ x.es, e.wd < (m.ws.length : Int)))) ∧ Below W.heap.size W w') := fun W hW => by
    obtain ⟨⟨l0, l1⟩, ⟨m0, m1, m2, m3⟩, ll, ml⟩ := HBX.out _ hW
    exact containsE_any A x.es c _ m.ws.length A1 c1 W (hx.below keeps_ed (bthen HB2.out hW)) hl m0 ml
  have HRR : Hid (decide ((-1 ≤ prev ∧ prev < (m.ws.length : Int)) ∧ FitsL x m.ws.length) = (decide (-1 ≤ prev) && (decide (prev < (m.ws.length : Int)) && (decide (LaOK x) && decide (∀ e ∈ x.es, e.wd < (m.ws.length : Int)))))) := by
    show _ = _
    rw [Bool.eq_iff_iff]
    simp [FitsL, and_assoc]
  unfold maxLen at hl
  obtain ⟨v1, hv1⟩ : ∃ v, decide (LaOK x) = v := ⟨_, rfl⟩
  obtain ⟨v2, hv2⟩ : ∃ v, decide (∀ e ∈ x.es, e.wd < (m.ws.length : Int)) = v := ⟨_, rfl⟩
  rw [hv1] at HVL HRR
  rw [hv2] at HCT HRR
  obtain ⟨vr, hvr⟩ : ∃ v, decide ((-1 ≤ prev ∧ prev < (m.ws.length : Int)) ∧ FitsL x m.ws.length) = v := ⟨_, rfl⟩
  rw [hvr] at HRR ⊢
  clear hv1 hv2 hvr hx
  have h22 := Below.refl w2.heap.size w2
  obtain ⟨⟨l0, l1⟩, ⟨m0, m1, m2, m3⟩, ll, ml⟩ := HBX.out _ h22
  by_cases hp : prev < -1
  · have HR : Hid (vr = false) := by show _ = _; rw [HRR.out, decide_eq_false (show ¬ -1 ≤ prev by omega)]; rfl
    go_enter Tryz.func45, Tryz.ntmps45
    go_upto_region 1 with fail
    rw [HW2.out]
    go_wp2_with fail
    go_ret
    exact ⟨by rw [HR.out]; rfl, HB2.out⟩
  by_cases hq : (m.ws.length : Int) ≤ prev
  · have HR : Hid (vr = false) := by show _ = _; rw [HRR.out, decide_eq_false (show ¬ prev < (m.ws.length : Int) by omega)]; simp
    have z1 : ¬ prev < -1 := hp
    go_enter Tryz.func45, Tryz.ntmps45
    go_upto_region 1 with fail
    rw [HW2.out]
    go_wp2_with fail
    go_ret
    exact ⟨by rw [HR.out]; rfl, HB2.out⟩
  have HRS : Hid (vr = (v1 && v2)) := by show _ = _; rw [HRR.out, decide_eq_true (show -1 ≤ prev by omega), decide_eq_true (show prev < (m.ws.length : Int) by omega)]; rfl
  have z1 : decide (prev < -1) = false := decide_eq_false hp
  have z2 : decide ((m.ws.length : Int) ≤ prev) = false := decide_eq_false hq
  cases v1 with
  | false =>
    have HR : Hid (vr = false) := by show _ = _; rw [HRS.out]; rfl
    go_enter Tryz.func45, Tryz.ntmps45
    go_upto_region 1 with fail
    rw [HW2.out]
    go_wp2_with (go_at_call 80; go_loud (refine (HVL.out _ h22).mono ?_; rintro e w3 ⟨rfl, hb3⟩))
    go_ret
    exact ⟨by rw [HR.out]; rfl, bthen HB2.out hb3⟩
  | true =>
    have HR : Hid (vr = v2) := by show _ = _; rw [HRS.out]; rfl
    go_enter Tryz.func45, Tryz.ntmps45
    go_upto_region 1 with fail
    rw [HW2.out]
    go_wp2_with (first | (go_at_call 80; go_loud (refine (HVL.out _ h22).mono ?_; rintro e w3 ⟨rfl, hb3⟩; clear l0 l1 m0 m1 m2 m3 ll ml; obtain ⟨⟨l0, l1⟩, ⟨m0, m1, m2, m3⟩, ll, ml⟩ := HBX.out _ hb3)) | (go_at_call 81; go_loud (refine (HCT.out _ hb3).mono ?_; rintro e w4 ⟨rfl, hb4⟩)))
    go_ret
    exact ⟨by rw [HR.out]; cases v2 <;> rfl, bthen HB2.out (bthen hb3 hb4)⟩
set_option maxRecDepth 100000 in
set_option maxHeartbeats 8000000 in
theorem arrival_any (x : La) (A : Option Addr) (c : Nat) (e : Ed) (w : World) :
    Calls Tryz.prog 48 #[.agg #[.int .i64 x.n, .slice A x.es.length c], vEd e] w fun r w' => r = .returned (.agg #[.int .i64 (arrL x.n e).1, .int .i64 (arrL x.n e).2]) ∧ Below w.heap.size w w' := by
  obtain ⟨w2, hw2⟩ : ∃ w2, ((w.alloc (.cells #[.int .i64 x.n, .slice A x.es.length c] 27)).alloc (.cells #[.int .i64 e.fr, .int .i64 e.to, .int .i64 e.wd, .int .i64 e.co] 44)).alloc (.cells #[.int .i64 0, .int .i64 0] 117) = w2 := ⟨_, rfl⟩
  have hb2 : Below w.heap.size w w2 := by rw [← hw2]; exact nw _ (nw _ (nw _ (Below.refl _ _)))
  have hL : Blk w2 w.heap.size 27 #[.int .i64 x.n, .slice A x.es.length c] := by rw [← hw2]; exact ((Blk.new _ _ _).alloc _).alloc _
  have hE : Blk w2 (w.heap.size + 1) 44 #[.int .i64 e.fr, .int .i64 e.to, .int .i64 e.wd, .int .i64 e.co] := by rw [← hw2]; exact (Blk.new_ (by simp)).alloc _
  have hR : Blk w2 (w.heap.size + 2) 117 #[.int .i64 0, .int .i64 0] := by rw [← hw2]; exact Blk.new_ (by simp)
  have HW2 := Lib.hid hw2
  have HRB := Lib.hid hR
  have HBW := Lib.hid hb2
  have l0 := hL.cell 0
  have ll := hL.lt
  have e1 := hE.cell 1
  have e2 := hE.cell 2
  have el := hE.lt
  have r0 := hR.cell 0
  have r1 := hR.cell 1
  have rf0 := hR.frozen 0
  have rf1 := hR.frozen 1
  have rl := hR.lt
  simp at l0 e1 e2 r0 r1
  clear hw2 hb2 hL hE hR
  have HEN : Hid (∀ a b : Int, ∀ W, ((w2.setCell ⟨w.heap.size + 2, 0, none⟩ (.int .i64 a)).setCell ⟨w.heap.size + 2, 1, none⟩ (.int .i64 b)) = W → Below w.heap.size w W ∧ Blk W (w.heap.size + 2) 117 #[.int .i64 a, .int .i64 b]) := fun a b W h => by
    subst h
    refine ⟨(HBW.out.setCell (p := ⟨w.heap.size + 2, 0, none⟩) (by show w.heap.size ≤ w.heap.size + 2; omega) _).setCell (p := ⟨w.heap.size + 2, 1, none⟩) (by show w.heap.size ≤ w.heap.size + 2; omega) _, ?_⟩
    have := (HRB.out.set_ 0 (.int .i64 a)).set_ 1 (.int .i64 b)
    simpa using this
  by_cases hn : e.to = x.n
  · have HR : Hid (arrL x.n e = (x.n, -1)) := by show _ = _; unfold arrL; rw [if_pos hn]
    have z1 : (e.to == x.n) = true := by simpa using hn
    clear hn
    go_enter Tryz.func48, Tryz.ntmps48
    go_upto_region 1 with fail
    rw [HW2.out]
    go_wp2_with fail
    obtain ⟨h1, h2⟩ := HEN.out x.n (-1) _ rfl
    refine ret_cell h2 rfl rfl Tryz.underlying117 rfl (by kernel_rfl) rfl ?_
    rw [HR.out]
    exact ⟨rfl, h1⟩
  · have HR : Hid (arrL x.n e = (e.to, e.wd)) := by show _ = _; unfold arrL; rw [if_neg hn]
    have z1 : (e.to == x.n) = false := by simpa using hn
    clear hn
    go_enter Tryz.func48, Tryz.ntmps48
    go_upto_region 1 with fail
    rw [HW2.out]
    go_wp2_with fail
    obtain ⟨h1, h2⟩ := HEN.out e.to e.wd _ rfl
    refine ret_cell h2 rfl rfl Tryz.underlying117 rfl (by kernel_rfl) rfl ?_
    rw [HR.out]
    exact ⟨rfl, h1⟩
end Go.Proofs.YtfjkmgjjifhdkaaGreat
