/-
  The walks of layers 15 and 16: the cost of a way; the order of candidates; whether the other way comes before a candidate.
-/
import Derived.Test.YtbikjmafddndpaaGrWalkF
import Derived.Test.YtbikjmafddndpaaGrSl
import Derived.Test.YtbikjmafddndpaaBase
namespace Go.Proofs.Ytbikjmafddndpaa
open Go Go.RowKit

/-- What best.Cost answers. -/
def costM (g : Gr) (links : List Int) : Int × Bool := if wayB g 0 links then (sumC g links, true) else (0, false)
/-- After some links: the node and the sum at hand. -/
structure CostAt (g : Gr) (done : List Int) (node sum : Int) : Prop where
  cway : ∀ r, wayB g 0 (done ++ r) = wayB g node r
  csum : ∀ r, sumC g (done ++ r) = sum + sumC g r
  lo : (done.length : Int) ≤ node
  hi : node < g.n
  s0 : 0 ≤ sum
  s1 : sum ≤ 1000000 * (done.length : Int)
theorem CostAt.zero {g : Gr} (hg : GrOK g) : CostAt g [] 0 0 := ⟨fun _ => rfl, fun r => by simp, by simp, by have := hg.n; omega, by omega, by simp⟩
theorem CostAt.step {g : Gr} (hg : GrOK g) {done : List Int} {node sum : Int} (h : CostAt g done node sum) {i : Int} (hi : 0 ≤ i ∧ i < g.ls.length) (hf : (lkAt g i).fr = node) :
    CostAt g (done ++ [i]) (lkAt g i).to (sum + (lkAt g i).cost) := by
  have hok := lkAt_ok hg hi
  have h1 := hok.lt
  have h2 := hok.to
  have h3 := hok.cost
  have h4 := h.lo
  have h5 := h.s0
  have h6 := h.s1
  refine ⟨fun r => ?_, fun r => ?_, by simp; omega, h2, by omega, by simp; omega⟩
  · rw [List.append_assoc, h.cway]
    show (decide (0 ≤ i ∧ i < g.ls.length ∧ (lkAt g i).fr = node) && wayB g (lkAt g i).to r) = _
    rw [decide_eq_true ⟨hi.1, hi.2, hf⟩]
    rfl
  · rw [List.append_assoc, h.csum]
    show sum + ((lkAt g i).cost + sumC g r) = _
    omega
theorem CostAt.bad {g : Gr} {done : List Int} {node sum : Int} (h : CostAt g done node sum) {i : Int} {r : List Int} (hi : ¬ (0 ≤ i ∧ i < g.ls.length ∧ (lkAt g i).fr = node)) : costM g (done ++ i :: r) = (0, false) := by
  unfold costM
  rw [h.cway]
  unfold wayB
  rw [decide_eq_false hi]
  rfl
theorem CostAt.endOK {g : Gr} {done : List Int} {node sum : Int} (h : CostAt g done node sum) (hn : node = g.n - 1) : costM g done = (sum, true) := by
  have h1 := h.cway []
  have h2 := h.csum []
  rw [List.append_nil] at h1 h2
  unfold costM
  rw [h1]
  unfold wayB
  rw [decide_eq_true hn, h2]
  simp [sumC]
theorem CostAt.endNo {g : Gr} {done : List Int} {node sum : Int} (h : CostAt g done node sum) (hn : ¬ node = g.n - 1) : costM g done = (0, false) := by
  have h1 := h.cway []
  rw [List.append_nil] at h1
  unfold costM
  rw [h1]
  unfold wayB
  rw [decide_eq_false hn]
  rfl
set_option maxRecDepth 100000 in
set_option maxHeartbeats 4000000 in
theorem cost_any (A : Option Addr) (c : Nat) (g : Gr) (B : Option Addr) (ls : List Int) (d : Nat) (w : World) (hx : SlR 4 RLk w A g.ls) (hl : g.ls.length ≤ maxLen) (hg : GrOK g) (hy : SlR 1 RInt w B ls) (hl2 : ls.length ≤ maxLen) :
    Calls Try.prog 18 #[.agg #[.int .i64 g.n, .slice A g.ls.length c], .slice B ls.length d] w fun e w' => e = .returned (.tuple #[.int .i64 (costM g ls).1, .bool (costM g ls).2]) ∧ Below w.heap.size w w' := by
  unfold maxLen at hl hl2
  have hgl := hg.len
  obtain ⟨hn1, hn2⟩ := hg.n
  obtain ⟨w1, hw1⟩ : ∃ w1, w.alloc (.cells #[.int .i64 g.n, .slice A g.ls.length c] 30) = w1 := ⟨_, rfl⟩
  have hb1 : Below w.heap.size w w1 := by rw [← hw1]; exact nw _ (Below.refl _ _)
  have hB1 : Blk w1 w.heap.size 30 #[.int .i64 g.n, .slice A g.ls.length c] := by rw [← hw1]; exact Blk.new _ _ _
  have HW1 := Lib.hid hw1
  have c0 := hB1.cell 0
  have c1 := hB1.cell 1
  have lb := hB1.lt
  simp at c0 c1
  have hx1 := hx.below keeps_lk hb1
  have hy1 := hy.below keeps_int hb1
  have HG := Lib.hid hg
  clear hw1 hg
  go_enter Try.func18, Try.ntmps18
  go_upto_region 1 with fail
  rw [HW1.out]
  go_wp2_with fail
  go_loop [6, 7, 12] (fun nd sm i => ∃ (k : Nat) (node sum : Int), k ≤ ls.length ∧ Hid (CostAt g (ls.take k) node sum) ∧ 0 ≤ node ∧ node < g.n ∧ 0 ≤ sum ∧ sum ≤ 2000000000 ∧ nd = .int .i64 node ∧ sm = .int .i64 sum ∧ i = .int .i64 k) (fun _ _ i => ls.length - (intOf i).toNat)
  case atStart => exact ⟨0, 0, 0, by omega, CostAt.zero HG.out, by omega, by omega, by omega, by omega, rfl, rfl, rfl⟩
  case round =>
    obtain ⟨k, node, sum, hk, HC, hnd0, hnd1, hs0, hs1, rfl, rfl, rfl⟩ := hrel
    by_cases hlt : k < ls.length
    · obtain ⟨b', o', x, rfl, hbb', hxx, hd0⟩ := hy1.int hlt
      have HXX := Lib.hid hxx
      have HSPL : Hid (ls = ls.take k ++ x :: ls.drop (k + 1)) := by
        show ls = _
        obtain ⟨h1, h2⟩ := List.getElem?_eq_some_iff.1 hxx
        rw [← h2, ← List.drop_eq_getElem_cons h1, List.take_append_drop]
      clear hxx
      by_cases hr : 0 ≤ x ∧ x < (g.ls.length : Int)
      · obtain ⟨hr0, hr1⟩ := hr
        obtain ⟨xn, rfl⟩ : ∃ xn : Nat, x = (xn : Int) := ⟨x.toNat, by omega⟩
        have hxnl : xn < g.ls.length := by omega
        obtain ⟨b, off, l, rfl, hbb, hll, d0, d1, d2, d3⟩ := hx1.lk hxnl
        have hLk := lkAt_nat hll
        have hok := HG.out.ls l (List.mem_of_getElem? hll)
        obtain ⟨o1, o2, o3, o4, o5⟩ := hok
        have hneg : decide ((xn : Int) < 0) = false := decide_eq_false (by omega)
        have hge : decide ((xn : Int) ≥ (g.ls.length : Int)) = false := decide_eq_false (by omega)
        have HLK := Lib.hid hLk
        clear hll hLk
        by_cases hf : l.fr = node
        · have HST : Hid (CostAt g (ls.take (k + 1)) l.to (sum + l.cost)) := by
            have := HC.out.step HG.out (i := (xn : Int)) ⟨by omega, by omega⟩ (by rw [HLK.out]; exact hf)
            rw [HLK.out, ← take_succ_of HXX.out] at this
            exact this
          have hle := HST.out.lo
          have hs := HST.out.s1
          have hws : IntKind.i64.wrap (sum + l.cost) = sum + l.cost := IntWalk.i64_in _ (by omega)
          have hsm : sum + l.cost ≤ 2000000000 := by
            have h1 : ((ls.take (k + 1)).length : Int) ≤ 2000 := by omega
            omega
          have hfb : (l.fr != node) = false := by simp [hf]
          have HF := Lib.hid hf
          clear hf hle hs
          go_wp2_with fail
          go_round
          case rel => exact ⟨k + 1, l.to, sum + l.cost, by omega, HST.out, by omega, o3, by omega, hsm, rfl, rfl, by go_num⟩
          case measure => simp [intOf]; omega
        · have HB : Hid (costM g ls = (0, false)) := by
            show costM g ls = _
            rw [HSPL.out]
            exact HC.out.bad fun h => hf (by rw [← h.2.2, HLK.out])
          have hfb : (l.fr != node) = true := by simp [hf]
          clear hf
          go_wp2_with fail
          go_ret2
          exact ⟨by rw [HB.out]; rfl, hb1⟩
      · have HB : Hid (costM g ls = (0, false)) := by
          show costM g ls = _
          rw [HSPL.out]
          exact HC.out.bad fun h => hr ⟨h.1, h.2.1⟩
        by_cases h1 : x < 0
        · have z1 : decide (x < 0) = true := decide_eq_true h1
          clear hr
          go_wp2_with fail
          go_ret2
          exact ⟨by rw [HB.out]; rfl, hb1⟩
        · have h2 : (g.ls.length : Int) ≤ x := by omega
          have z1 : decide (x < 0) = false := decide_eq_false h1
          have z2 : decide ((g.ls.length : Int) ≤ x) = true := decide_eq_true h2
          clear hr
          go_wp2_with fail
          go_ret2
          exact ⟨by rw [HB.out]; rfl, hb1⟩
    · obtain rfl : k = ls.length := by omega
      have HC2 := HC.out
      rw [List.take_length] at HC2
      have HC3 := Lib.hid HC2
      clear HC2
      have hws : IntKind.i64.wrap (g.n - 1) = g.n - 1 := IntWalk.i64_in _ (by omega)
      by_cases he : node = g.n - 1
      · have HB := Lib.hid (HC3.out.endOK he)
        have hfb : (node != g.n - 1) = false := by simp [he]
        clear he
        go_wp2_with fail
        go_ret2
        exact ⟨by rw [HB.out]; rfl, hb1⟩
      · have HB := Lib.hid (HC3.out.endNo he)
        have hfb : (node != g.n - 1) = true := by simp [he]
        clear he
        go_wp2_with fail
        go_ret2
        exact ⟨by rw [HB.out]; rfl, hb1⟩

set_option maxRecDepth 100000 in
set_option maxHeartbeats 4000000 in
theorem less_any (n : Int) (ga : Value) (A B : Option Addr) (a b : Can) (c d : Nat) (w : World) (hx : SlR 1 RInt w A a.links) (hy : SlR 1 RInt w B b.links) (hl : a.links.length ≤ maxLen) (hl2 : b.links.length ≤ maxLen) :
    Calls Try.prog 23 #[.agg #[.int .i64 n, ga], .agg #[.slice A a.links.length c, .int .i64 a.cost], .agg #[.slice B b.links.length d, .int .i64 b.cost]] w fun e w' => e = .returned (.bool (canLt a b)) ∧ Below w.heap.size w w' := by
  obtain ⟨al, ac⟩ := a
  obtain ⟨bl, bc⟩ := b
  dsimp only at hx hy hl hl2 ⊢
  obtain ⟨W, hW⟩ : ∃ W, ((w.alloc (.cells #[.int .i64 n, ga] 30)).alloc (.cells #[.slice A al.length c, .int .i64 ac] 43)).alloc (.cells #[.slice B bl.length d, .int .i64 bc] 43) = W := ⟨_, rfl⟩
  have hb : Below w.heap.size w W := by rw [← hW]; exact nw _ (nw _ (nw _ (Below.refl _ _)))
  have hB1 : Blk W (w.heap.size + 1) 43 #[.slice A al.length c, .int .i64 ac] := by rw [← hW]; exact (Blk.new_ (by simp)).alloc _
  have hB2 : Blk W (w.heap.size + 1 + 1) 43 #[.slice B bl.length d, .int .i64 bc] := by rw [← hW]; exact Blk.new_ (by simp)
  have HW := Lib.hid hW
  have c0 := hB1.cell 0
  have c1 := hB1.cell 1
  have c2 := hB2.cell 0
  have c3 := hB2.cell 1
  simp at c0 c1 c2 c3
  have HC := Lib.hid (compare_any A B al bl c d W (hx.below keeps_int hb) (hy.below keeps_int hb) hl hl2)
  clear hW hB1 hB2 hx hy
  by_cases he : ac = bc
  · have hne : (ac != bc) = false := by simp [he]
    have HR : Hid (canLt ⟨al, ac⟩ ⟨bl, bc⟩ = decide (cmpL al bl < 0)) := by
      show canLt _ _ = _
      rw [Bool.eq_iff_iff, canLt_iff, decide_eq_true_iff, cmpL_lt]
      dsimp only
      constructor
      · rintro (h | ⟨_, h⟩)
        · omega
        · exact h
      · intro h; exact .inr ⟨he, h⟩
    clear he
    go_enter Try.func23, Try.ntmps23
    go_upto_region 1 with fail
    rw [HW.out]
    go_wp2_with (go_at_call 46; go_loud (refine HC.out.mono ?_; rintro e w' ⟨rfl, rfl⟩))
    go_ret
    exact ⟨ret_bool HR.out.symm, hb⟩
  · have hne : (ac != bc) = true := by simp [he]
    have HR : Hid (canLt ⟨al, ac⟩ ⟨bl, bc⟩ = decide (ac < bc)) := by
      show canLt _ _ = _
      rw [Bool.eq_iff_iff, canLt_iff, decide_eq_true_iff]
      dsimp only
      constructor
      · rintro (h | ⟨h, _⟩)
        · exact h
        · exact absurd h he
      · intro h; exact .inl h
    clear he
    go_enter Try.func23, Try.ntmps23
    go_upto_region 1 with fail
    rw [HW.out]
    go_wp2_with fail
    go_ret
    exact ⟨ret_bool HR.out.symm, hb⟩

set_option maxRecDepth 100000 in
set_option maxHeartbeats 4000000 in
theorem before_any (o : Oth) (A B : Option Addr) (b : Can) (c d : Nat) (w : World) (hx : SlR 1 RInt w A o.links) (hy : SlR 1 RInt w B b.links) (hl : o.links.length ≤ maxLen) (hl2 : b.links.length ≤ maxLen) :
    Calls Try.prog 52 #[.agg #[.bool o.there, .int .i64 o.cost, .slice A o.links.length c], .agg #[.slice B b.links.length d, .int .i64 b.cost]] w fun e w' => e = .returned (.bool (befB o b)) ∧ Below w.heap.size w w' := by
  obtain ⟨ot, ac, al⟩ := o
  obtain ⟨bl, bc⟩ := b
  dsimp only at hx hy hl hl2 ⊢
  obtain ⟨W, hW⟩ : ∃ W, (w.alloc (.cells #[.bool ot, .int .i64 ac, .slice A al.length c] 99)).alloc (.cells #[.slice B bl.length d, .int .i64 bc] 43) = W := ⟨_, rfl⟩
  have hb : Below w.heap.size w W := by rw [← hW]; exact nw _ (nw _ (Below.refl _ _))
  have hB1 : Blk W w.heap.size 99 #[.bool ot, .int .i64 ac, .slice A al.length c] := by rw [← hW]; exact (Blk.new _ _ _).alloc _
  have hB2 : Blk W (w.heap.size + 1) 43 #[.slice B bl.length d, .int .i64 bc] := by rw [← hW]; exact Blk.new_ (by simp)
  have HW := Lib.hid hW
  have c0 := hB1.cell 1
  have c1 := hB1.cell 2
  have c2 := hB2.cell 0
  have c3 := hB2.cell 1
  simp at c0 c1 c2 c3
  have HC := Lib.hid (compare_any A B al bl c d W (hx.below keeps_int hb) (hy.below keeps_int hb) hl hl2)
  clear hW hB1 hB2 hx hy
  by_cases he : ac = bc
  · have hne : (ac != bc) = false := by simp [he]
    have HR : Hid (befB ⟨ot, ac, al⟩ ⟨bl, bc⟩ = decide (cmpL al bl < 0)) := by
      show befB _ _ = _
      unfold befB
      rw [if_neg (by simpa using he), Bool.eq_iff_iff, decide_eq_true_iff, cmpL_lt]
    clear he
    go_enter Try.func52, Try.ntmps52
    go_upto_region 1 with fail
    rw [HW.out]
    go_wp2_with (go_at_call 46; go_loud (refine HC.out.mono ?_; rintro e w' ⟨rfl, rfl⟩))
    go_ret
    exact ⟨ret_bool HR.out.symm, hb⟩
  · have hne : (ac != bc) = true := by simp [he]
    have HR : Hid (befB ⟨ot, ac, al⟩ ⟨bl, bc⟩ = decide (ac < bc)) := by
      show befB _ _ = _
      unfold befB
      rw [if_pos (by simpa using he)]
    clear he
    go_enter Try.func52, Try.ntmps52
    go_upto_region 1 with fail
    rw [HW.out]
    go_wp2_with fail
    go_ret
    exact ⟨ret_bool HR.out.symm, hb⟩
end Go.Proofs.Ytbikjmafddndpaa
