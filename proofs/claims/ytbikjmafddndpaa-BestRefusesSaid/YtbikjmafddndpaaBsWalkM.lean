/-
  The walks of layer 15: the reference's Cost.
-/
import Derived.Test.YtbikjmafddndpaaGrWalkI
import Derived.BigQuiet
namespace Go.Proofs.Ytbikjmafddndpaa
open Go Go.RowKit

set_option maxRecDepth 100000 in
set_option maxHeartbeats 8000000 in
theorem refcost_any (A : Option Addr) (c : Nat) (g : Gr) (B : Option Addr) (ls : List Int) (d : Nat) (w : World) (hx : SlR 4 RLk w A g.ls) (hl : g.ls.length ≤ maxLen) (hg : GrOK g) (hy : SlR 1 RInt w B ls) (hl2 : ls.length ≤ maxLen) :
    Calls Try.prog 19 #[.agg #[.int .i64 g.n, .slice A g.ls.length c], .slice B ls.length d] w fun e w' => e = .returned (.tuple #[.int .i64 (costM g ls).1, .bool (costM g ls).2]) ∧ Below w.heap.size w w' := by
  unfold maxLen at hl hl2
  have hgl := hg.len
  obtain ⟨hn1, hn2⟩ := hg.n
  obtain ⟨w1, hw1⟩ : ∃ w1, w.alloc (.cells #[.int .i64 g.n, .slice A g.ls.length c] 30) = w1 := ⟨_, rfl⟩
  have hb1 : Below w.heap.size w w1 := by rw [← hw1]; exact nw _ (Below.refl _ _)
  have hB1 : Blk w1 w.heap.size 30 #[.int .i64 g.n, .slice A g.ls.length c] := by rw [← hw1]; exact Blk.new _ _ _
  have HW1 := Lib.hid hw1
  have hx1 := hx.below keeps_lk hb1
  have hy1 := hy.below keeps_int hb1
  have HG := Lib.hid hg
  have HB1 := Lib.hid hB1
  clear hw1 hg hB1
  go_enter Try.func19, Try.ntmps19
  go_upto_region 1 with fail
  rw [HW1.out]
  go_wp2_with fail
  go_loopw [6, 7, 8] (fun nd sm i wr => ∃ (k : Nat) (node sum : Int), k ≤ ls.length ∧ Hid (CostAt g (ls.take k) node sum) ∧ 0 ≤ node ∧ node < g.n ∧ 0 ≤ sum ∧ sum ≤ 2000000000 ∧ nd = .int .i64 node ∧ sm = .int .i64 sum ∧ i = .int .i64 k ∧ Below w1.heap.size w1 wr) (fun _ _ i _ => ls.length - (intOf i).toNat)
  case atStart => exact ⟨0, 0, 0, by omega, CostAt.zero HG.out, by omega, by omega, by omega, by omega, rfl, rfl, rfl, Below.refl _ _⟩
  case round =>
    obtain ⟨k, node, sum, hk, HC, hnd0, hnd1, hs0, hs1, rfl, rfl, rfl, hb⟩ := hrel
    have c0 := (HB1.out.below hb HB1.out.lt).cell 0
    have c1 := (HB1.out.below hb HB1.out.lt).cell 1
    have lb := (HB1.out.below hb HB1.out.lt).lt
    simp at c0 c1
    have hx2 := hx1.below keeps_lk hb
    have hy2 := hy1.below keeps_int hb
    by_cases hlt : k < ls.length
    · obtain ⟨b', o', x, rfl, hbb', hxx, hd0⟩ := hy2.int hlt
      have HXX := Lib.hid hxx
      have HSPL : Hid (ls = ls.take k ++ x :: ls.drop (k + 1)) := by
        show ls = _
        obtain ⟨h1, h2⟩ := List.getElem?_eq_some_iff.1 hxx
        rw [← h2, ← List.drop_eq_getElem_cons h1, List.take_append_drop]
      clear hxx
      have hkI : (k : Int) < (ls.length : Int) := by omega
      have hk0 : (0 : Int) ≤ (k : Int) := by omega
      by_cases hr : 0 ≤ x ∧ x < (g.ls.length : Int)
      · obtain ⟨hr0, hr1⟩ := hr
        obtain ⟨xn, rfl⟩ : ∃ xn : Nat, x = (xn : Int) := ⟨x.toNat, by omega⟩
        have hxnl : xn < g.ls.length := by omega
        obtain ⟨b, off, l, rfl, hbb, hll, d0, d1, d2, d3⟩ := hx2.lk hxnl
        have hLk := lkAt_nat hll
        have hok := HG.out.ls l (List.mem_of_getElem? hll)
        obtain ⟨o1, o2, o3, o4, o5⟩ := hok
        have hneg : decide ((xn : Int) < 0) = false := decide_eq_false (by omega)
        have hge : decide (g.ls.length ≤ xn) = false := decide_eq_false (by omega)
        have HLK := Lib.hid hLk
        clear hll hLk
        by_cases hf : l.fr = node
        · have HST : Hid (CostAt g (ls.take (k + 1)) l.to (sum + l.cost)) := by
            have := HC.out.step HG.out (i := (xn : Int)) ⟨by omega, by omega⟩ (by rw [HLK.out]; exact hf)
            rw [HLK.out, ← take_succ_of HXX.out] at this
            exact this
          have hle := HST.out.lo
          have hs := HST.out.s1
          have hws : IntKind.i64.wrap (sum + l.cost) = sum + l.cost := IntWalk.i64_in _ (by omega)
          have hsm : sum + l.cost ≤ 2000000000 := by
            have h1 : ((ls.take (k + 1)).length : Int) ≤ 2000 := by omega
            omega
          have hfb : (l.fr != node) = false := by simp [hf]
          have HF := Lib.hid hf
          clear hf hle hs
          go_wp2_with fail
          go_quiet (fail)
          go_wp2_with fail
          go_quiet (fail)
          go_wp2_with fail
          go_quiet (fail)
          go_wp2_with fail
          go_roundw
          case rel => exact ⟨k + 1, l.to, sum + l.cost, by omega, HST.out, by omega, o3, by omega, hsm, rfl, rfl, by go_num, below_drewN hb _⟩
          case measure => simp [intOf]; omega
        · have HB : Hid (costM g ls = (0, false)) := by
            show costM g ls = _
            rw [HSPL.out]
            exact HC.out.bad fun h => hf (by rw [← h.2.2, HLK.out])
          have hfb : (l.fr != node) = true := by simp [hf]
          clear hf
          go_wp2_with fail
          go_quiet (fail)
          go_wp2_with fail
          go_ret2
          exact ⟨by rw [HB.out]; rfl, below_drewN (bthen hb1 hb) _⟩
      · have HB : Hid (costM g ls = (0, false)) := by
          show costM g ls = _
          rw [HSPL.out]
          exact HC.out.bad fun h => hr ⟨h.1, h.2.1⟩
        by_cases h1 : x < 0
        · have z1 : decide (x < 0) = true := decide_eq_true h1
          clear hr
          go_wp2_with fail
          go_quiet (fail)
          go_wp2_with fail
          go_ret2
          exact ⟨by rw [HB.out]; rfl, below_drewN (bthen hb1 hb) _⟩
        · have h2 : (g.ls.length : Int) ≤ x := by omega
          have z1 : decide (x < 0) = false := decide_eq_false h1
          have z2 : decide ((g.ls.length : Int) ≤ x) = true := decide_eq_true h2
          clear hr
          go_wp2_with fail
          go_quiet (fail)
          go_wp2_with fail
          go_ret2
          exact ⟨by rw [HB.out]; rfl, below_drewN (bthen hb1 hb) _⟩
    · obtain rfl : k = ls.length := by omega
      have HC2 := HC.out
      rw [List.take_length] at HC2
      have HC3 := Lib.hid HC2
      clear HC2
      have hws : IntKind.i64.wrap (g.n - 1) = g.n - 1 := IntWalk.i64_in _ (by omega)
      by_cases he : node = g.n - 1
      · have HB := Lib.hid (HC3.out.endOK he)
        have hfb : (node != g.n - 1) = false := by simp [he]
        clear he
        go_wp2_with fail
        go_ret2
        exact ⟨by rw [HB.out]; rfl, bthen hb1 hb⟩
      · have HB := Lib.hid (HC3.out.endNo he)
        have hfb : (node != g.n - 1) = true := by simp [he]
        clear he
        go_wp2_with fail
        go_ret2
        exact ⟨by rw [HB.out]; rfl, bthen hb1 hb⟩
end Go.Proofs.Ytbikjmafddndpaa
