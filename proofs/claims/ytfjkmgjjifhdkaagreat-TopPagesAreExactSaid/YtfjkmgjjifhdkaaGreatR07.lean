/-
  GrPot, GrWalkI, GrWalkJ, OrdI, joined. No conditions.
-/
import Derived.Test.YtfjkmgjjifhdkaaGreatR01
import Derived.Test.YtfjkmgjjifhdkaaGreatR03
import Derived.Test.YtfjkmgjjifhdkaaGreatR04
import Derived.Test.YtfjkmgjjifhdkaaGreatR05
import Derived.WalkMore
import Derived.Test.YtfjkmgjjifhdkaaGreatR02
/-
  The plain law of layer 16: bounds of potentials; the row in which they are reckoned.
-/
namespace Go.Proofs.YtfjkmgjjifhdkaaGreat
open List

theorem potS_succ (g : Gr) {k : Nat} (hk : 1 ≤ k) : potS g (k + 1) = (lvs g (g.n - (k + 1))).foldl (potStep g (g.n - (k + 1)) (potS g k)) (-1) :: potS g k := by
  obtain ⟨j, rfl⟩ : ∃ j, k = j + 1 := ⟨k - 1, by omega⟩
  show (lvs g (g.n - ((j : Int) + 2))).foldl (potStep g (g.n - ((j : Int) + 2)) (potS g (j + 1))) (-1) :: potS g (j + 1) = _
  have e : g.n - ((j : Int) + 2) = g.n - (((j + 1 : Nat) : Int) + 1) := by omega
  rw [e]
theorem getD_bd {l : List Int} {B : Int} (h : ∀ x ∈ l, -1 ≤ x ∧ x ≤ B) (hB : 0 ≤ B) (i : Nat) : -1 ≤ l.getD i 0 ∧ l.getD i 0 ≤ B := by
  rw [getD_eq_getElem?_getD]
  cases hi : l[i]? with
  | none => simp; omega
  | some x => exact h x (mem_of_getElem? hi)
theorem step_bd {g : Gr} (hg : GrOK g) {v B : Int} {tail : List Int} (ht : ∀ x ∈ tail, -1 ≤ x ∧ x ≤ B) (hB : 0 ≤ B) {L : List Int} (hL : ∀ i ∈ L, 0 ≤ i ∧ i < g.ls.length) : ∀ a : Int, -1 ≤ a ∧ a ≤ B + 1000000 → -1 ≤ L.foldl (potStep g v tail) a ∧ L.foldl (potStep g v tail) a ≤ B + 1000000 := by
  induction L with
  | nil => intro a h; exact h
  | cons i L ih =>
    intro a h
    rw [foldl_cons]
    refine ih (fun j hj => hL j (by simp [hj])) _ ?_
    have hok := lkAt_ok hg (hL i (by simp))
    have hc := hok.cost
    have hb := getD_bd ht hB ((lkAt g i).to - v - 1).toNat
    unfold potStep
    dsimp only
    split <;> omega
theorem potS_bd {g : Gr} (hg : GrOK g) : ∀ k : Nat, ∀ x ∈ potS g k, -1 ≤ x ∧ x ≤ 1000000 * (k : Int)
  | 0 => by simp [potS]
  | 1 => by simp [potS]
  | k + 2 => by
    intro x hx
    have ih := potS_bd hg (k + 1)
    rw [potS_succ g (k := k + 1) (by omega)] at hx
    rcases mem_cons.1 hx with rfl | hx
    · have := step_bd hg (v := g.n - (((k + 1 : Nat) : Int) + 1)) (tail := potS g (k + 1)) (B := 1000000 * ((k + 1 : Nat) : Int)) ih (by omega) (L := lvs g (g.n - (((k + 1 : Nat) : Int) + 1))) (fun i hi => by have := lvs_iff.1 hi; omega) (-1) (by omega)
      omega
    · have := ih x hx
      omega
/-- The row of potentials while they are reckoned: m nodes still to come, one at hand, the others done. -/
def potRow (m : Nat) (acc : Int) (tail : List Int) : List Int := replicate m 0 ++ acc :: tail
theorem potRow_at (m : Nat) (acc : Int) (tail : List Int) : (potRow m acc tail)[m]? = some acc := by
  unfold potRow
  rw [getElem?_append_right (by simp)]
  simp
theorem potRow_tail {m : Nat} {acc : Int} {tail : List Int} {j : Nat} (h : m < j) (hj : j < m + 1 + tail.length) : (potRow m acc tail)[j]? = some (tail.getD (j - m - 1) 0) := by
  unfold potRow
  rw [getElem?_append_right (by simp; omega)]
  simp only [length_replicate]
  obtain ⟨i, hi⟩ : ∃ i, j - m = i + 1 := ⟨j - m - 1, by omega⟩
  rw [hi, getElem?_cons_succ, Nat.add_sub_cancel, getD_eq_getElem?_getD, getElem?_eq_getElem (by omega)]
  rfl
theorem potRow_set (m : Nat) (acc x : Int) (tail : List Int) : (potRow m acc tail).set m x = potRow m x tail := by
  unfold potRow
  rw [set_append_right _ _ (by simp)]
  simp
theorem potRow_start (m : Nat) (tail : List Int) : replicate (m + 1) 0 ++ tail = potRow m 0 tail := by
  unfold potRow
  rw [replicate_succ', append_assoc]
  rfl
theorem lkAt_nat {g : Gr} {j : Nat} {l : Lk} (h : g.ls[j]? = some l) : lkAt g (j : Int) = l := by
  unfold lkAt
  rw [Int.toNat_natCast, getD_eq_getElem?_getD, h]
  rfl
end Go.Proofs.YtfjkmgjjifhdkaaGreat

/-
  The walks of layers 15 and 16: the cost of a way; the order of candidates; whether the other way comes before a candidate.
-/
namespace Go.Proofs.YtfjkmgjjifhdkaaGreat
open Go Go.RowKit

/-- What best.Cost answers. -/
def costM (g : Gr) (links : List Int) : Int × Bool := if wayB g 0 links then (sumC g links, true) else (0, false)
/-- After some links: the node and the sum at hand. -/
structure CostAt (g : Gr) (done : List Int) (node sum : Int) : Prop where
  cway : ∀ r, wayB g 0 (done ++ r) = wayB g node r
  csum : ∀ r, sumC g (done ++ r) = sum + sumC g r
  lo : (done.length : Int) ≤ node
  hi : node < g.n
  s0 : 0 ≤ sum
  s1 : sum ≤ 1000000 * (done.length : Int)
theorem CostAt.zero {g : Gr} (hg : GrOK g) : CostAt g [] 0 0 := ⟨fun _ => rfl, fun r => by simp, by simp, by have := hg.n; omega, by omega, by simp⟩
theorem CostAt.step {g : Gr} (hg : GrOK g) {done : List Int} {node sum : Int} (h : CostAt g done node sum) {i : Int} (hi : 0 ≤ i ∧ i < g.ls.length) (hf : (lkAt g i).fr = node) :
    CostAt g (done ++ [i]) (lkAt g i).to (sum + (lkAt g i).cost) := by
  have hok := lkAt_ok hg hi
  have h1 := hok.lt
  have h2 := hok.to
  have h3 := hok.cost
  have h4 := h.lo
  have h5 := h.s0
  have h6 := h.s1
  refine ⟨fun r => ?_, fun r => ?_, by simp; omega, h2, by omega, by simp; omega⟩
  · rw [List.append_assoc, h.cway]
    show (decide (0 ≤ i ∧ i < g.ls.length ∧ (lkAt g i).fr = node) && wayB g (lkAt g i).to r) = _
    rw [decide_eq_true ⟨hi.1, hi.2, hf⟩]
    rfl
  · rw [List.append_assoc, h.csum]
    show sum + ((lkAt g i).cost + sumC g r) = _
    omega
theorem CostAt.bad {g : Gr} {done : List Int} {node sum : Int} (h : CostAt g done node sum) {i : Int} {r : List Int} (hi : ¬ (0 ≤ i ∧ i < g.ls.length ∧ (lkAt g i).fr = node)) : costM g (done ++ i :: r) = (0, false) := by
  unfold costM
  rw [h.cway]
  unfold wayB
  rw [decide_eq_false hi]
  rfl
theorem CostAt.endOK {g : Gr} {done : List Int} {node sum : Int} (h : CostAt g done node sum) (hn : node = g.n - 1) : costM g done = (sum, true) := by
  have h1 := h.cway []
  have h2 := h.csum []
  rw [List.append_nil] at h1 h2
  unfold costM
  rw [h1]
  unfold wayB
  rw [decide_eq_true hn, h2]
  simp [sumC]
theorem CostAt.endNo {g : Gr} {done : List Int} {node sum : Int} (h : CostAt g done node sum) (hn : ¬ node = g.n - 1) : costM g done = (0, false) := by
  have h1 := h.cway []
  rw [List.append_nil] at h1
  unfold costM
  rw [h1]
  unfold wayB
  rw [decide_eq_false hn]
  rfl
set_option maxRecDepth 100000 in
set_option maxHeartbeats 4000000 in
theorem cost_any (A : Option Addr) (c : Nat) (g : Gr) (B : Option Addr) (ls : List Int) (d : Nat) (w : World) (hx : SlR 4 RLk w A g.ls) (_hl : g.ls.length ≤ maxLen) (hg : GrOK g) (hy : SlR 1 RInt w B ls) (hl2 : ls.length ≤ maxLen) :
    Calls Tryz.prog 89 #[.agg #[.int .i64 g.n, .slice A g.ls.length c], .slice B ls.length d] w fun e w' => e = .returned (.tuple #[.int .i64 (costM g ls).1, .bool (costM g ls).2]) ∧ Below w.heap.size w w' := by
  unfold maxLen at _hl hl2
  have hgl := hg.len
  obtain ⟨hn1, hn2⟩ := hg.n
  obtain ⟨w1, hw1⟩ : ∃ w1, w.alloc (.cells #[.int .i64 g.n, .slice A g.ls.length c] 38) = w1 := ⟨_, rfl⟩
  have hb1 : Below w.heap.size w w1 := by rw [← hw1]; exact nw _ (Below.refl _ _)
  have hB1 : Blk w1 w.heap.size 38 #[.int .i64 g.n, .slice A g.ls.length c] := by rw [← hw1]; exact Blk.new _ _ _
  have HW1 := Lib.hid hw1
  have c0 := hB1.cell 0
  have c1 := hB1.cell 1
  have lb := hB1.lt
  simp at c0 c1
  have hx1 := hx.below keeps_lk hb1
  have hy1 := hy.below keeps_int hb1
  have HG := Lib.hid hg
  clear hw1 hg
  go_enter Tryz.func89, Tryz.ntmps89
  go_upto_region 1 with fail
  rw [HW1.out]
  go_wp2_with fail
  go_loop [6, 7, 12] (fun nd sm i => ∃ (k : Nat) (node sum : Int), k ≤ ls.length ∧ Hid (CostAt g (ls.take k) node sum) ∧ 0 ≤ node ∧ node < g.n ∧ 0 ≤ sum ∧ sum ≤ 2000000000 ∧ nd = .int .i64 node ∧ sm = .int .i64 sum ∧ i = .int .i64 k) (fun _ _ i => ls.length - (intOf i).toNat)
  case atStart => exact ⟨0, 0, 0, by omega, CostAt.zero HG.out, by omega, by omega, by omega, by omega, rfl, rfl, rfl⟩
  case round =>
    obtain ⟨k, node, sum, hk, HC, hnd0, hnd1, hs0, hs1, rfl, rfl, rfl⟩ := hrel
    by_cases hlt : k < ls.length
    · obtain ⟨b', o', x, rfl, hbb', hxx, hd0⟩ := hy1.int hlt
      have HXX := Lib.hid hxx
      have HSPL : Hid (ls = ls.take k ++ x :: ls.drop (k + 1)) := by
        show ls = _
        obtain ⟨h1, h2⟩ := List.getElem?_eq_some_iff.1 hxx
        rw [← h2, ← List.drop_eq_getElem_cons h1, List.take_append_drop]
      clear hxx
      by_cases hr : 0 ≤ x ∧ x < (g.ls.length : Int)
      · obtain ⟨hr0, hr1⟩ := hr
        obtain ⟨xn, rfl⟩ : ∃ xn : Nat, x = (xn : Int) := ⟨x.toNat, by omega⟩
        have hxnl : xn < g.ls.length := by omega
        obtain ⟨b, off, l, rfl, hbb, hll, d0, d1, d2, d3⟩ := hx1.lk hxnl
        have hLk := lkAt_nat hll
        have hok := HG.out.ls l (List.mem_of_getElem? hll)
        obtain ⟨o1, o2, o3, o4, o5⟩ := hok
        have hneg : decide ((xn : Int) < 0) = false := decide_eq_false (by omega)
        have hge : decide ((xn : Int) ≥ (g.ls.length : Int)) = false := decide_eq_false (by omega)
        have HLK := Lib.hid hLk
        clear hll hLk
        by_cases hf : l.fr = node
        · have HST : Hid (CostAt g (ls.take (k + 1)) l.to (sum + l.cost)) := by
            have := HC.out.step HG.out (i := (xn : Int)) ⟨by omega, by omega⟩ (by rw [HLK.out]; exact hf)
            rw [HLK.out, ← take_succ_of HXX.out] at this
            exact this
          have hle := HST.out.lo
          have hs := HST.out.s1
          have hws : IntKind.i64.wrap (sum + l.cost) = sum + l.cost := IntWalk.i64_in _ (by omega)
          have hsm : sum + l.cost ≤ 2000000000 := by
            have h1 : ((ls.take (k + 1)).length : Int) ≤ 2000 := by omega
            omega
          have hfb : (l.fr != node) = false := by simp [hf]
          have HF := Lib.hid hf
          clear hf hle hs
          go_wp2_with fail
          go_round
          case rel => exact ⟨k + 1, l.to, sum + l.cost, by omega, HST.out, by omega, o3, by omega, hsm, rfl, rfl, by go_num⟩
          case measure => simp [intOf]; omega
        · have HB : Hid (costM g ls = (0, false)) := by
            show costM g ls = _
            rw [HSPL.out]
            exact HC.out.bad fun h => hf (by rw [← h.2.2, HLK.out])
          have hfb : (l.fr != node) = true := by simp [hf]
          clear hf
          go_wp2_with fail
          go_ret2
          exact ⟨by rw [HB.out]; rfl, hb1⟩
      · have HB : Hid (costM g ls = (0, false)) := by
          show costM g ls = _
          rw [HSPL.out]
          exact HC.out.bad fun h => hr ⟨h.1, h.2.1⟩
        by_cases h1 : x < 0
        · have z1 : decide (x < 0) = true := decide_eq_true h1
          clear hr
          go_wp2_with fail
          go_ret2
          exact ⟨by rw [HB.out]; rfl, hb1⟩
        · have h2 : (g.ls.length : Int) ≤ x := by omega
          have z1 : decide (x < 0) = false := decide_eq_false h1
          have z2 : decide ((g.ls.length : Int) ≤ x) = true := decide_eq_true h2
          clear hr
          go_wp2_with fail
          go_ret2
          exact ⟨by rw [HB.out]; rfl, hb1⟩
    · obtain rfl : k = ls.length := by omega
      have HC2 := HC.out
      rw [List.take_length] at HC2
      have HC3 := Lib.hid HC2
      clear HC2
      have hws : IntKind.i64.wrap (g.n - 1) = g.n - 1 := IntWalk.i64_in _ (by omega)
      by_cases he : node = g.n - 1
      · have HB := Lib.hid (HC3.out.endOK he)
        have hfb : (node != g.n - 1) = false := by simp [he]
        clear he
        go_wp2_with fail
        go_ret2
        exact ⟨by rw [HB.out]; rfl, hb1⟩
      · have HB := Lib.hid (HC3.out.endNo he)
        have hfb : (node != g.n - 1) = true := by simp [he]
        clear he
        go_wp2_with fail
        go_ret2
        exact ⟨by rw [HB.out]; rfl, hb1⟩

set_option maxRecDepth 100000 in
set_option maxHeartbeats 4000000 in
theorem less_any (n : Int) (ga : Value) (A B : Option Addr) (a b : Can) (c d : Nat) (w : World) (hx : SlR 1 RInt w A a.links) (hy : SlR 1 RInt w B b.links) (hl : a.links.length ≤ maxLen) (hl2 : b.links.length ≤ maxLen) :
    Calls Tryz.prog 90 #[.agg #[.int .i64 n, ga], .agg #[.slice A a.links.length c, .int .i64 a.cost], .agg #[.slice B b.links.length d, .int .i64 b.cost]] w fun e w' => e = .returned (.bool (canLt a b)) ∧ Below w.heap.size w w' := by
  obtain ⟨al, ac⟩ := a
  obtain ⟨bl, bc⟩ := b
  dsimp only at hx hy hl hl2 ⊢
  obtain ⟨W, hW⟩ : ∃ W, ((w.alloc (.cells #[.int .i64 n, ga] 38)).alloc (.cells #[.slice A al.length c, .int .i64 ac] 42)).alloc (.cells #[.slice B bl.length d, .int .i64 bc] 42) = W := ⟨_, rfl⟩
  have hb : Below w.heap.size w W := by rw [← hW]; exact nw _ (nw _ (nw _ (Below.refl _ _)))
  have hB1 : Blk W (w.heap.size + 1) 42 #[.slice A al.length c, .int .i64 ac] := by rw [← hW]; exact (Blk.new_ (by simp)).alloc _
  have hB2 : Blk W (w.heap.size + 1 + 1) 42 #[.slice B bl.length d, .int .i64 bc] := by rw [← hW]; exact Blk.new_ (by simp)
  have HW := Lib.hid hW
  have c0 := hB1.cell 0
  have c1 := hB1.cell 1
  have c2 := hB2.cell 0
  have c3 := hB2.cell 1
  simp at c0 c1 c2 c3
  have HC := Lib.hid (compare_any A B al bl c d W (hx.below keeps_int hb) (hy.below keeps_int hb) hl hl2)
  clear hW hB1 hB2 hx hy
  by_cases he : ac = bc
  · have hne : (ac != bc) = false := by simp [he]
    have HR : Hid (canLt ⟨al, ac⟩ ⟨bl, bc⟩ = decide (cmpL al bl < 0)) := by
      show canLt _ _ = _
      rw [Bool.eq_iff_iff, canLt_iff, decide_eq_true_iff, cmpL_lt]
      dsimp only
      constructor
      · rintro (h | ⟨_, h⟩)
        · omega
        · exact h
      · intro h; exact .inr ⟨he, h⟩
    clear he
    go_enter Tryz.func90, Tryz.ntmps90
    go_upto_region 1 with fail
    rw [HW.out]
    go_wp2_with (go_at_call 73; go_loud (refine HC.out.mono ?_; rintro e w' ⟨rfl, rfl⟩))
    go_ret
    exact ⟨ret_bool HR.out.symm, hb⟩
  · have hne : (ac != bc) = true := by simp [he]
    have HR : Hid (canLt ⟨al, ac⟩ ⟨bl, bc⟩ = decide (ac < bc)) := by
      show canLt _ _ = _
      rw [Bool.eq_iff_iff, canLt_iff, decide_eq_true_iff]
      dsimp only
      constructor
      · rintro (h | ⟨h, _⟩)
        · exact h
        · exact absurd h he
      · intro h; exact .inl h
    clear he
    go_enter Tryz.func90, Tryz.ntmps90
    go_upto_region 1 with fail
    rw [HW.out]
    go_wp2_with fail
    go_ret
    exact ⟨ret_bool HR.out.symm, hb⟩

set_option maxRecDepth 100000 in
set_option maxHeartbeats 4000000 in
theorem before_any (o : Oth) (A B : Option Addr) (b : Can) (c d : Nat) (w : World) (hx : SlR 1 RInt w A o.links) (hy : SlR 1 RInt w B b.links) (hl : o.links.length ≤ maxLen) (hl2 : b.links.length ≤ maxLen) :
    Calls Tryz.prog 58 #[.agg #[.bool o.there, .int .i64 o.cost, .slice A o.links.length c], .agg #[.slice B b.links.length d, .int .i64 b.cost]] w fun e w' => e = .returned (.bool (befB o b)) ∧ Below w.heap.size w w' := by
  obtain ⟨ot, ac, al⟩ := o
  obtain ⟨bl, bc⟩ := b
  dsimp only at hx hy hl hl2 ⊢
  obtain ⟨W, hW⟩ : ∃ W, (w.alloc (.cells #[.bool ot, .int .i64 ac, .slice A al.length c] 131)).alloc (.cells #[.slice B bl.length d, .int .i64 bc] 42) = W := ⟨_, rfl⟩
  have hb : Below w.heap.size w W := by rw [← hW]; exact nw _ (nw _ (Below.refl _ _))
  have hB1 : Blk W w.heap.size 131 #[.bool ot, .int .i64 ac, .slice A al.length c] := by rw [← hW]; exact (Blk.new _ _ _).alloc _
  have hB2 : Blk W (w.heap.size + 1) 42 #[.slice B bl.length d, .int .i64 bc] := by rw [← hW]; exact Blk.new_ (by simp)
  have HW := Lib.hid hW
  have c0 := hB1.cell 1
  have c1 := hB1.cell 2
  have c2 := hB2.cell 0
  have c3 := hB2.cell 1
  simp at c0 c1 c2 c3
  have HC := Lib.hid (compare_any A B al bl c d W (hx.below keeps_int hb) (hy.below keeps_int hb) hl hl2)
  clear hW hB1 hB2 hx hy
  by_cases he : ac = bc
  · have hne : (ac != bc) = false := by simp [he]
    have HR : Hid (befB ⟨ot, ac, al⟩ ⟨bl, bc⟩ = decide (cmpL al bl < 0)) := by
      show befB _ _ = _
      unfold befB
      rw [if_neg (by simpa using he), Bool.eq_iff_iff, decide_eq_true_iff, cmpL_lt]
    clear he
    go_enter Tryz.func58, Tryz.ntmps58
    go_upto_region 1 with fail
    rw [HW.out]
    go_wp2_with (go_at_call 73; go_loud (refine HC.out.mono ?_; rintro e w' ⟨rfl, rfl⟩))
    go_ret
    exact ⟨ret_bool HR.out.symm, hb⟩
  · have hne : (ac != bc) = true := by simp [he]
    have HR : Hid (befB ⟨ot, ac, al⟩ ⟨bl, bc⟩ = decide (ac < bc)) := by
      show befB _ _ = _
      unfold befB
      rw [if_pos (by simpa using he)]
    clear he
    go_enter Tryz.func58, Tryz.ntmps58
    go_upto_region 1 with fail
    rw [HW.out]
    go_wp2_with fail
    go_ret
    exact ⟨ret_bool HR.out.symm, hb⟩
end Go.Proofs.YtfjkmgjjifhdkaaGreat

/-
  The walks of layer 16: how many elements at the beginning of a page are ways, each before the next one.
-/
namespace Go.Proofs.YtfjkmgjjifhdkaaGreat
open Go Go.RowKit

def RCan (w : World) (x : Can) (vs : List Value) : Prop := ∃ A c, vs = [.slice A x.links.length c, .int .i64 x.cost] ∧ SlR 1 RInt w A x.links ∧ x.links.length ≤ c ∧ c ≤ maxLen
theorem keeps_can : Keeps RCan := fun _ _ _ _ hb ⟨A, c, h, hs, hl⟩ => ⟨A, c, h, hs.below keeps_int hb, hl⟩
theorem SlR.can {w : World} {A : Option Addr} {xs : List Can} (h : SlR 2 RCan w A xs) {k : Nat} (hk : k < xs.length) :
    ∃ b off x A' c, A = some ⟨b, off, none⟩ ∧ b < w.heap.size ∧ xs[k]? = some x ∧ w.cell? ⟨b, off + k * 2, none⟩ = some (.slice A' x.links.length c) ∧ w.cell? ⟨b, off + k * 2 + 1, none⟩ = some (.int .i64 x.cost) ∧ SlR 1 RInt w A' x.links ∧ x.links.length ≤ c ∧ c ≤ maxLen := by
  obtain ⟨b, off, x, vs, hA, hlt, hx, ⟨A', c, hr, hs, hl⟩, _, hv⟩ := h.at_ hk
  exact ⟨b, off, x, A', c, hA, hlt, hx, hv 0 _ (by rw [hr]; rfl), hv 1 _ (by rw [hr]; rfl), hs, hl⟩
def prevO (l : List Can) : Nat → Option Can
  | 0 => none
  | k + 1 => l[k]?
theorem ordN_at (g : Gr) {l : List Can} {k : Nat} {c : Can} (h : l[k]? = some c) :
    ordN g (prevO l k) (l.drop k) = if canB g c && (match prevO l k with | none => true | some p => canLt p c) then ordN g (prevO l (k + 1)) (l.drop (k + 1)) + 1 else 0 := by
  obtain ⟨hk, rfl⟩ := List.getElem?_eq_some_iff.1 h
  rw [List.drop_eq_getElem_cons hk]
  conv => lhs; unfold ordN
  show _ = if _ then ordN g (l[k]?) _ + 1 else 0
  rw [h]
  rfl
theorem canB_cost {g : Gr} {c : Can} : canB g c = ((costM g c.links).2 && decide ((costM g c.links).1 = c.cost)) := by
  unfold canB costM
  cases h : wayB g 0 c.links with
  | false => simp
  | true => simp [eq_comm]
set_option maxRecDepth 100000 in
set_option maxHeartbeats 8000000 in
theorem ordered_any (A : Option Addr) (c : Nat) (g : Gr) (B : Option Addr) (l : List Can) (d : Nat) (w : World) (hx : SlR 4 RLk w A g.ls) (hl : g.ls.length ≤ maxLen) (hg : GrOK g) (hy : SlR 2 RCan w B l) (hl2 : l.length ≤ maxLen) :
    Calls Tryz.prog 56 #[.agg #[.int .i64 g.n, .slice A g.ls.length c], .slice B l.length d] w fun e w' => e = .returned (.int .i64 (ordN g none l : Nat)) ∧ Below w.heap.size w w' := by
  have hl0 := hl
  unfold maxLen at hl hl2
  obtain ⟨w1, hw1⟩ : ∃ w1, w.alloc (.cells #[.int .i64 g.n, .slice A g.ls.length c] 38) = w1 := ⟨_, rfl⟩
  have hb1 : Below w.heap.size w w1 := by rw [← hw1]; exact nw _ (Below.refl _ _)
  have hB1 : Blk w1 w.heap.size 38 #[.int .i64 g.n, .slice A g.ls.length c] := by rw [← hw1]; exact Blk.new _ _ _
  have HW1 := Lib.hid hw1
  have lb := hB1.lt
  have hbox : ∀ W, Below w1.heap.size w1 W → W.cell? ⟨w.heap.size, 0, none⟩ = some (.int .i64 g.n) ∧ W.cell? ⟨w.heap.size, 1, none⟩ = some (.slice A g.ls.length c) := fun W hW => by
    have h := hB1.below hW lb
    have h0 := h.cell 0
    have h1 := h.cell 1
    simp at h0 h1
    exact ⟨h0, h1⟩
  have HBOX := Lib.hid hbox
  have HG := Lib.hid hg
  have HCO : Hid (∀ (W : World) (C : Option Addr) (ks : List Int) (e : Nat), Below w.heap.size w W → SlR 1 RInt W C ks → ks.length ≤ maxLen → Calls Tryz.prog 89 #[.agg #[.int .i64 g.n, .slice A g.ls.length c], .slice C ks.length e] W fun e w' => e = .returned (.tuple #[.int .i64 (costM g ks).1, .bool (costM g ks).2]) ∧ Below W.heap.size W w') :=
    fun W C ks e hW hs hk => cost_any A c g C ks e W (hx.below keeps_lk hW) hl0 hg hs hk
  clear hw1 hg hbox
  go_enter Tryz.func56, Tryz.ntmps56
  go_upto_region 1 with fail
  rw [HW1.out]
  go_wp2_with fail
  go_step3
  go_wp2_with fail
  go_step3
  go_wp2_with fail
  go_loopw [5, 12] (fun n i wr => ∃ k : Nat, k ≤ l.length ∧ Hid (ordN g none l = k + ordN g (prevO l k) (l.drop k)) ∧ n = .int .i64 k ∧ i = .int .i64 k ∧ Below w1.heap.size w1 wr) (fun _ i _ => l.length - (intOf i).toNat)
  case atStart => exact ⟨0, by omega, by show _ = _; simp [prevO], rfl, rfl, Below.refl _ _⟩
  case round =>
    obtain ⟨k, hk, HS, rfl, rfl, hbr⟩ := hrel
    by_cases hlt : k < l.length
    · have hbw := bthen hb1 hbr
      obtain ⟨b, off, x, A', cc, rfl, hbb, hxx, e0, e1, hs, hxc, hxm⟩ := (hy.below keeps_can hbw).can hlt
      have hxl : x.links.length ≤ maxLen := by omega
      have HAT := Lib.hid (ordN_at g hxx)
      rw [canB_cost] at HAT
      have HPR : Hid (∀ p, prevO l k = some p → ∃ (p' : Nat) (A2 : Option Addr) (c2 : Nat), k = p' + 1 ∧ wr.cell? ⟨b, off + p' * 2, none⟩ = some (.slice A2 p.links.length c2) ∧ wr.cell? ⟨b, off + p' * 2 + 1, none⟩ = some (.int .i64 p.cost) ∧ SlR 1 RInt wr A2 p.links ∧ p.links.length ≤ maxLen) := fun p hp => by
        cases k with
        | zero => cases hp
        | succ p' =>
          obtain ⟨b2, o2, x2, A2, c2, he, _, hx2, f0, f1, hs2, hl2⟩ := (hy.below keeps_can hbw).can (k := p') (by omega)
          obtain ⟨rfl, rfl⟩ : b = b2 ∧ off = o2 := by injection he with he; injection he with h1 h2; exact ⟨h1, h2⟩
          have : l[p']? = some p := hp
          rw [hx2] at this
          obtain rfl := Option.some.inj this
          exact ⟨p', A2, c2, rfl, f0, f1, hs2, by omega⟩
      have HPN : Hid (prevO l k = none → k = 0) := fun h => by
        cases k with
        | zero => rfl
        | succ p' => have : l[p']? = none := h; rw [List.getElem?_eq_none_iff] at this; omega
      obtain ⟨g0, g1⟩ := HBOX.out wr hbr
      -- the element boxed
      obtain ⟨W2, hW2⟩ : ∃ W, wr.alloc (.cells #[.slice A' x.links.length cc, .int .i64 x.cost] 42) = W := ⟨_, rfl⟩
      have hb2 : Below wr.heap.size wr W2 := by rw [← hW2]; exact nw _ (Below.refl _ _)
      have hC2 : Blk W2 wr.heap.size 42 #[.slice A' x.links.length cc, .int .i64 x.cost] := by rw [← hW2]; exact Blk.new _ _ _
      have HW2 := Lib.hid hW2
      have hcl := hC2.lt
      have q0 := hC2.cell 0
      have q1 := hC2.cell 1
      simp at q0 q1
      have hbr2 := bthen hbr hb2
      have hbw2 := bthen hbw hb2
      obtain ⟨g2, g3⟩ := HBOX.out W2 hbr2
      have HCO2 := Lib.hid (HCO.out W2 A' x.links cc hbw2 (hs.below keeps_int hb2) hxl)
      have HS2 := Lib.hid hs
      have hws : IntKind.i64.wrap ((k : Int) + 1) = (k : Int) + 1 := IntWalk.i64_in _ (by omega)
      clear hW2 hxx hs hx hy
      go_upto_region 5 with fail
      rw [HW2.out]
      obtain ⟨gc, hgc⟩ : ∃ b, wr.heap.size = b := ⟨_, rfl⟩
      rw [hgc] at hC2 q0 q1 hcl ⊢
      cases hcv : costM g x.links with
      | mk cv ok =>
      rw [hcv] at HAT HCO2
      clear hcv g0 g1 e0 e1
      cases ok with
      | false =>
        have HN : Hid (ordN g none l = k) := by show _ = _; rw [HS.out, HAT.out]; simp
        go_wp2_with (go_at_call 89; go_loud (refine HCO2.out.mono ?_; rintro e w3 ⟨rfl, hb3⟩; have q3 := (hb3.cell (p := ⟨gc, 1, none⟩) hcl).trans q1))
        rw [Exit.noGoto_ret]
        go_ret
        exact ⟨ret_int (by rw [HN.out]), bthen hbw2 hb3⟩
      | true =>
        by_cases hcc : cv = x.cost
        · have hne : (cv != x.cost) = false := by simp [hcc]
          have HD : Hid (decide (cv = x.cost) = true) := decide_eq_true hcc
          clear hcc
          go_upto_region 8 with (go_at_call 89; go_loud (refine HCO2.out.mono ?_; rintro e V ⟨rfl, hb3⟩; have q3 := (hb3.cell (p := ⟨gc, 1, none⟩) hcl).trans q1))
          have hbV := bthen hbw2 hb3
          have hbV1 := bthen hbr2 hb3
          obtain ⟨g4, g5⟩ := HBOX.out V hbV1
          have q2 := (hb3.cell (p := ⟨gc, _, none⟩) hcl).trans q0
          have q3 := (hb3.cell (p := ⟨gc, _, none⟩) hcl).trans q1
          have hxs := (HS2.out.below keeps_int hb2).below keeps_int hb3
          have hwrV := bthen hb2 hb3
          have hVl := hb3.size
          have z6 : w.heap.size < V.heap.size := by have := hbV1.size; omega
          have z7 : b < V.heap.size := by have := hwrV.size; omega
          have z8 : gc < V.heap.size := by omega
          clear q0 q1 g2 g3
          cases hpo : prevO l k with
          | none =>
            have HN : Hid (ordN g none l = (k + 1 : Nat) + ordN g (prevO l (k + 1)) (l.drop (k + 1))) := by
              show _ = _
              rw [HS.out, HAT.out, HD.out, hpo]
              simp
              omega
            have hk0 := HPN.out hpo
            have z1 : decide (0 < k) = false := by simp [hk0]
            clear hpo hk0
            go_wp2_with fail
            refine ordB_below (.quiet 0 (.quiet 1 (.quiet 2 (.quiet 3 (.quiet 4 (.quiet 5 (.quiet 6 (.quiet 7 (.quiet 8 (.quiet 9 (.only 10 (.quiet 11 (.quiet 12 (.quiet 13 .done)))))))))))))) (by kernel_rfl) (by kernel_rfl) (by kernel_rfl) (fun _ _ _ _ _ h => h) ?_
            intro V0 hV0
            iterate 10 (first
              | (refine ordB_skip rfl rfl ?_; simp only [Act.put, List.setIfInBounds_toArray, List.set_cons_zero, List.set_cons_succ])
              | (refine ordB_take (v := ?_) rfl rfl ?_ ?_
                 rotate_left 1
                 focus (intro W hW; obtain ⟨hcW, hfW⟩ := bcell hW; (go_simp <;> with_reducible rfl))
                 simp only [Act.put, List.setIfInBounds_toArray, List.set_cons_zero, List.set_cons_succ]))
            refine ordB_only (opB_cskip rfl rfl hV0 ?_)
            simp only [Act.put, List.setIfInBounds_toArray, List.set_cons_zero, List.set_cons_succ]
            iterate 3 (first
              | (refine ordB_skip rfl rfl ?_; simp only [Act.put, List.setIfInBounds_toArray, List.set_cons_zero, List.set_cons_succ])
              | (refine ordB_take (v := ?_) rfl rfl ?_ ?_
                 rotate_left 1
                 focus (intro W hW; obtain ⟨hcW, hfW⟩ := bcell hW; (go_simp <;> with_reducible rfl))
                 simp only [Act.put, List.setIfInBounds_toArray, List.set_cons_zero, List.set_cons_succ]))
            refine ordB_nil ?_
            have hE := hbV.trans (hV0.mono hbV.size)
            have hE1 := hbV1.trans (hV0.mono hbV1.size)
            go_wp2_with fail
            go_roundw
            case rel => exact ⟨k + 1, by omega, HN.out, by go_num, by go_num, hE1⟩
            case measure => simp [intOf]; omega
          | some p =>
            obtain ⟨p', A2, c2, hkp, f0, f1, hs2, hpl⟩ := HPR.out p hpo
            have f2 := (hwrV.cell (p := ⟨b, _, none⟩) hbb).trans f0
            have f3 := (hwrV.cell (p := ⟨b, _, none⟩) hbb).trans f1
            have hs3 := hs2.below keeps_int hwrV
            have HL : Hid (∀ W, Below V.heap.size V W → Calls Tryz.prog 90 #[.agg #[.int .i64 g.n, .slice A g.ls.length c], .agg #[.slice A2 p.links.length c2, .int .i64 p.cost], .agg #[.slice A' x.links.length cc, .int .i64 x.cost]] W fun e w' => e = .returned (.bool (canLt p x)) ∧ Below W.heap.size W w') :=
              fun W hW => less_any g.n _ A2 A' p x c2 cc W (hs3.below keeps_int hW) (hxs.below keeps_int hW) hpl hxl
            have z1 : decide (0 < k) = true := decide_eq_true (by omega)
            have z2 : IntKind.i64.wrap ((k : Int) - 1) = (p' : Int) := by rw [hkp]; have := IntWalk.i64_in ((p' : Int)) (by omega); rw [show ((p' + 1 : Nat) : Int) - 1 = (p' : Int) by omega]; exact this
            have z3 : p' < l.length := by omega
            have z4 : (p' : Int) < (l.length : Int) := by omega
            have z5 : (0 : Int) ≤ (p' : Int) := by omega
            clear hkp f0 f1 hs2 hs3 hxs
            cases hcl2 : canLt p x with
            | true =>
              have HN : Hid (ordN g none l = (k + 1 : Nat) + ordN g (prevO l (k + 1)) (l.drop (k + 1))) := by
                show _ = _
                rw [HS.out, HAT.out, HD.out, hpo]
                simp [hcl2]
                omega
              rw [hcl2] at HL
              clear hcl2 hpo
              go_wp2_with fail
              refine ordB_below (.quiet 0 (.quiet 1 (.quiet 2 (.quiet 3 (.quiet 4 (.quiet 5 (.quiet 6 (.quiet 7 (.quiet 8 (.quiet 9 (.only 10 (.quiet 11 (.quiet 12 (.quiet 13 .done)))))))))))))) (by kernel_rfl) (by kernel_rfl) (by kernel_rfl) (fun _ _ _ _ _ h => h) ?_
              intro V0 hV0
              iterate 10 (first
                | (refine ordB_skip rfl rfl ?_; simp only [Act.put, List.setIfInBounds_toArray, List.set_cons_zero, List.set_cons_succ])
                | (refine ordB_take (v := ?_) rfl rfl ?_ ?_
                   rotate_left 1
                   focus (intro W hW; obtain ⟨hcW, hfW⟩ := bcell hW; (go_simp <;> with_reducible rfl))
                   simp only [Act.put, List.setIfInBounds_toArray, List.set_cons_zero, List.set_cons_succ]))
              refine ordB_only (opB_call rfl rfl (fun K hK => ?_))
              go_simp
              go_at_call 90
              refine (HL.out V0 hV0).mono ?_
              rintro e V0_1 ⟨rfl, hb9⟩
              refine hK.out _ _ (hV0.trans (hb9.mono hV0.size)) (fun hV0_1 => ?_)
              iterate 3 (first
                | (refine ordB_skip rfl rfl ?_; simp only [Act.put, List.setIfInBounds_toArray, List.set_cons_zero, List.set_cons_succ])
                | (refine ordB_take (v := ?_) rfl rfl ?_ ?_
                   rotate_left 1
                   focus (intro W hW; obtain ⟨hcW, hfW⟩ := bcell hW; (go_simp <;> with_reducible rfl))
                   simp only [Act.put, List.setIfInBounds_toArray, List.set_cons_zero, List.set_cons_succ]))
              refine ordB_nil ?_
              have hE := hbV.trans (hV0_1.mono hbV.size)
              have hE1 := hbV1.trans (hV0_1.mono hbV1.size)
              go_wp2_with fail
              go_roundw
              case rel => exact ⟨k + 1, by omega, HN.out, by go_num, by go_num, hE1⟩
              case measure => simp [intOf]; omega
            | false =>
              have HN : Hid (ordN g none l = k) := by
                show _ = _
                rw [HS.out, HAT.out, HD.out, hpo]
                simp [hcl2]
              rw [hcl2] at HL
              clear hcl2 hpo
              go_wp2_with fail
              refine ordB_below (.quiet 0 (.quiet 1 (.quiet 2 (.quiet 3 (.quiet 4 (.quiet 5 (.quiet 6 (.quiet 7 (.quiet 8 (.quiet 9 (.only 10 (.quiet 11 (.quiet 12 (.quiet 13 .done)))))))))))))) (by kernel_rfl) (by kernel_rfl) (by kernel_rfl) (fun _ _ _ _ _ h => h) ?_
              intro V0 hV0
              iterate 10 (first
                | (refine ordB_skip rfl rfl ?_; simp only [Act.put, List.setIfInBounds_toArray, List.set_cons_zero, List.set_cons_succ])
                | (refine ordB_take (v := ?_) rfl rfl ?_ ?_
                   rotate_left 1
                   focus (intro W hW; obtain ⟨hcW, hfW⟩ := bcell hW; (go_simp <;> with_reducible rfl))
                   simp only [Act.put, List.setIfInBounds_toArray, List.set_cons_zero, List.set_cons_succ]))
              refine ordB_only (opB_call rfl rfl (fun K hK => ?_))
              go_simp
              go_at_call 90
              refine (HL.out V0 hV0).mono ?_
              rintro e V0_1 ⟨rfl, hb9⟩
              refine hK.out _ _ (hV0.trans (hb9.mono hV0.size)) (fun hV0_1 => ?_)
              iterate 3 (first
                | (refine ordB_skip rfl rfl ?_; simp only [Act.put, List.setIfInBounds_toArray, List.set_cons_zero, List.set_cons_succ])
                | (refine ordB_take (v := ?_) rfl rfl ?_ ?_
                   rotate_left 1
                   focus (intro W hW; obtain ⟨hcW, hfW⟩ := bcell hW; (go_simp <;> with_reducible rfl))
                   simp only [Act.put, List.setIfInBounds_toArray, List.set_cons_zero, List.set_cons_succ]))
              refine ordB_nil ?_
              have hE := hbV.trans (hV0_1.mono hbV.size)
              have hE1 := hbV1.trans (hV0_1.mono hbV1.size)
              go_wp2_with fail
              rw [Exit.noGoto_ret]
              go_ret
              exact ⟨ret_int (by rw [HN.out]), hE⟩
        · have HN : Hid (ordN g none l = k) := by show _ = _; rw [HS.out, HAT.out]; simp [hcc]
          have hne : (cv != x.cost) = true := by simp [hcc]
          clear hcc
          go_wp2_with (go_at_call 89; go_loud (refine HCO2.out.mono ?_; rintro e w3 ⟨rfl, hb3⟩; have q3 := (hb3.cell (p := ⟨gc, 1, none⟩) hcl).trans q1))
          rw [Exit.noGoto_ret]
          go_ret
          exact ⟨ret_int (by rw [HN.out]), bthen hbw2 hb3⟩
    · have HN : Hid (ordN g none l = l.length) := by
        show _ = _
        rw [HS.out, show k = l.length by omega, List.drop_length]
        simp [ordN]
      obtain rfl : k = l.length := by omega
      have hE := bthen hb1 hbr
      go_wp2_with fail
      rw [Exit.noGoto_ret]
      go_ret
      exact ⟨ret_int (by rw [HN.out]), hE⟩
end Go.Proofs.YtfjkmgjjifhdkaaGreat

/-
  A region that draws its order and holds chains that may come up in any order beside each other: one condition for each state of the chains, one proof for each operation.
-/
namespace Go.Proofs.YtfjkmgjjifhdkaaGreat
open Go Go.RowKit

/-- All blocks but g are as they were. -/
def Far (g : Nat) (w w' : World) : Prop := ∀ b, b ≠ g → w'.heap[b]? = w.heap[b]?
theorem Far.cell {g : Nat} {w w' : World} (h : Far g w w') : ∀ b o, b ≠ g → w'.cell? ⟨b, o, none⟩ = w.cell? ⟨b, o, none⟩ := fun b _ hb => World.cell?_of_block (h b hb)
theorem Far.set {g : Nat} {w w' : World} (h : Far g w w') (o : Nat) (v : Value) : Far g w (w'.setCell ⟨g, o, none⟩ v) := fun b hb => (Below.heap_setCell w' ⟨g, o, none⟩ v b hb).trans (h b hb)
/-- What some slots of a frame of N slots hold. -/
def Slots (N : Nat) (a : Act) (l : List (Nat × Value)) : Prop := a.tmps.size = N ∧ a.defers = [] ∧ ∀ kv ∈ l, a.tmps.getD kv.1 undef = kv.2
section
variable {N : Nat} {a : Act} {l : List (Nat × Value)}
theorem Slots.at_ (h : Slots N a l) {k : Nat} {v : Value} (hm : (k, v) ∈ l) : a.tmps.getD k undef = v := h.2.2 (k, v) hm
theorem Slots.put (h : Slots N a l) (d : Nat) (v : Value) (hd : ∀ kv ∈ l, kv.1 ≠ d) : Slots N (a.put (some d) v) l := by
  obtain ⟨h1, h2, h3⟩ := h
  refine ⟨by simp [Act.put, h1], h2, fun kv hkv => ?_⟩
  have := h3 kv hkv
  have hne := hd kv hkv
  simp only [Act.put, Array.getD_eq_getD_getElem?] at this ⊢
  rw [Array.getElem?_setIfInBounds_ne (Ne.symm hne)]
  exact this
theorem Slots.add (h : Slots N a l) (d : Nat) (v : Value) (hd : d < N) (hn : ∀ kv ∈ l, kv.1 ≠ d) : Slots N (a.put (some d) v) ((d, v) :: l) := by
  obtain ⟨h1, h2, h3⟩ := h.put d v hn
  refine ⟨h1, h2, fun kv hkv => ?_⟩
  rcases List.mem_cons.1 hkv with rfl | hkv
  · simp [Act.put, h.1, hd]
  · exact h3 kv hkv
end
theorem slr_cells_ {α : Type} {s : Nat} {R : World → α → List Value → Prop} {enc : α → List Value} {w : World} {a : Addr} {xs : List α} (h : SlR s R w (some a) xs) (_hs : 0 < s) (hR : ∀ w x vs, R w x vs → vs = enc x) :
    ∀ j u, (xs.flatMap enc)[j]? = some u → w.cell? (a.add j) = some u := by
  by_cases hn : xs = []
  · subst hn; intro j u hj; simp at hj
  · obtain ⟨b, off, ha, _, hc⟩ := h hn
    injection ha with ha
    subst ha
    have key : ∀ (l : List α) (o : Nat), (∀ k x, l[k]? = some x → (enc x).length = s ∧ ∀ j v, (enc x)[j]? = some v → w.cell? ⟨b, o + k * s + j, none⟩ = some v) → ∀ j u, (l.flatMap enc)[j]? = some u → w.cell? ⟨b, o + j, none⟩ = some u := by
      intro l
      induction l with
      | nil => intro o _ j u hj; simp at hj
      | cons x l ih =>
        intro o hl j u hj
        obtain ⟨h0, h1⟩ := hl 0 x rfl
        rw [List.flatMap_cons] at hj
        rcases Nat.lt_or_ge j (enc x).length with hlt | hge
        · rw [List.getElem?_append_left hlt] at hj
          have := h1 j u hj
          simpa using this
        · rw [List.getElem?_append_right hge] at hj
          have := ih (o + s) (fun k y hy => by
            obtain ⟨h2, h3⟩ := hl (k + 1) y (by simpa using hy)
            refine ⟨h2, fun j v hv => ?_⟩
            have := h3 j v hv
            rwa [show o + (k + 1) * s + j = o + s + k * s + j by rw [Nat.add_mul]; omega] at this) (j - (enc x).length) u hj
          rwa [show o + s + (j - (enc x).length) = o + j by omega] at this
    intro j u hj
    rw [add_mk]
    refine key xs off (fun k x hx => ?_) j u hj
    obtain ⟨vs, hr, hl, hv⟩ := hc k x hx
    have := hR _ _ _ hr
    subst this
    exact ⟨hl, hv⟩

theorem flatMap_len_ {α β : Type} {s : Nat} {enc : α → List β} (h : ∀ x, (enc x).length = s) (xs : List α) : (xs.flatMap enc).length = xs.length * s := by
  induction xs with
  | nil => simp
  | cons x l ih => rw [List.flatMap_cons, List.length_append, h, ih, List.length_cons, Nat.add_mul]; omega
section
variable {P : Program} {ops : Array Oper} {Q : Exit → Act → World → Prop} {S : World → Prop} {ts : List Nat}
theorem run_append_of_nil (w : World) (base : Nat) (t ty e : TypeId) (i : TypeInfo) (size : Nat) (ht : P.underlying t = some (.slice e)) (hi : P.info? e = some i)
    (v : Value) (n : Nat) (xs : List Value) (hown : w.ownsRow base e size v n xs) (c : Nat) : (Builtin.append_ #[t, t] ty #[v, .slice none 0 c]).run P w = .ok v w := by
  rcases hown.2 with ⟨rfl, rfl⟩ | ⟨g, cap, cur, rfl, _, _, hnc, _⟩
  · simp [Builtin.append_, run_underlying ht, sizeOf, typeInfo, hi, Builtin.lenOf, Builtin.firstCells]
  · simp [Builtin.append_, run_underlying ht, sizeOf, typeInfo, hi, Builtin.lenOf, Builtin.firstCells, hnc, storeCells]
/-- 'append(out, xs...)' onto a row of the call's own, xs in any memory. -/
theorem wp_appS {α : Type} {enc : α → List Value} {R : World → α → List Value → Prop} {o : Oper} {a : Act} {K : Act → World → Prop} {w : World} (s x : Operand) (t : TypeId)
    (ho : o.op = .call { callee := .builtin .append, args := #[s, x], argTypes := #[t, t] })
    (base : Nat) (e : TypeId) (i : TypeInfo) (z : Value) (size bytes : Nat) (ht : P.underlying t = some (.slice e)) (hi : P.info? e = some i) (hz : i.zero = some z)
    (hsize : i.size = size) (hby : i.bytes = bytes) (hzs : z.cells.size = size) (hsz : 0 < size)
    (v : Value) (n : Nat) (xs : List Value) (hs : a.eval s = v) (hown : w.ownsRow base e size v n xs)
    (A : Option Addr) (c : Nat) (ys : List α) (hx : a.eval x = .slice A ys.length c) (hr : SlR size R w A ys) (hR : ∀ w x vs, R w x vs → vs = enc x) (hl : ∀ x, (enc x).length = size) (h1 : ∀ u ∈ ys.flatMap enc, u.oneCell' = true)
    (hn : n + ys.length ≤ 1000000) (hbb : bytes ≤ 1000) (hbase : base ≤ w.heap.size)
    (h : ∀ v' w', w'.ownsRow base e size v' (n + ys.length) (xs ++ ys.flatMap enc) → Below base w w' → Apps w w' v v' → K (a.put o.dst v') w') : o.wp P a w K Q := by
  have hb1 : (n + ys.length) * bytes ≤ 1000000 * 1000 := Nat.mul_le_mul hn hbb
  have key : ∃ v' w', (Builtin.append_ #[t, t] o.type #[v, .slice A ys.length c]).run P w = .ok v' w' ∧ w'.ownsRow base e size v' (n + ys.length) (xs ++ ys.flatMap enc) ∧ w.grownBy w' v.ownBlock ∧ (v'.ownBlock = v.ownBlock ∨ v'.ownBlock = some w.heap.size) := by
    rcases A with _ | ad
    · have hy : ys = [] := Classical.byContradiction fun hne => by obtain ⟨_, _, h, _⟩ := hr hne; cases h
      subst hy
      exact ⟨v, w, run_append_of_nil w base t o.type e i size ht hi v n xs hown c, by simpa using hown, World.grownBy.refl w _, .inl rfl⟩
    · obtain ⟨v', w', hrun, h2, h3, _, h5⟩ := run_append_own_at (P := P) w base t o.type e i z size bytes ht hi hz hsize hby hzs hsz v n xs hown ad ys.length c (ys.flatMap enc) (flatMap_len_ hl ys) (slr_cells_ hr hsz hR) h1 (by unfold maxLen; omega) (by omega) hbase
      exact ⟨v', w', hrun, h2, h3, h5⟩
  obtain ⟨v', w', hrun, h2, h3, h5⟩ := key
  unfold Oper.wp execOp
  simp only [ho, resolve, invoke, builtin, Sem.run_bind, Sem.run_pure, Result.andThen_ok, List.map_toArray, List.map_cons, List.map_nil, hs, hx, hrun]
  refine h v' w' h2 ((Below.refl _ _).grown h3 hbase (own_block_le hown)) ⟨fun k hk hne => h3.block k hk (fun e => hne e.symm), ?_⟩
  rcases h5 with h5 | h5
  · exact .inl h5
  · exact .inr ⟨_, h5, Nat.le_refl _⟩
end
end Go.Proofs.YtfjkmgjjifhdkaaGreat
