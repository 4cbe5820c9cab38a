/-
  The walks of layers 05 and 08: schemes that are valid, by the program and by the reference.
-/
import Derived.Test.YtfpnhgahkjglgaaGreatF07
set_option maxRecDepth 100000
namespace Go.Proofs.YtfpnhgahkjglgaaGreat
open Go Go.RowKit
set_option maxHeartbeats 4000000 in
theorem valid05_any (s : Sc) (A : Option Addr) (c : Nat) (w : World) (hs : ScIn w s A c) : Calls Tryz.prog 52 #[.agg #[.int .i64 s.n, .int .u8 s.acc, .slice A s.rs.length c]] w fun e w' => e = .returned (.bool (decide (ScOK s))) ∧ Below w.heap.size w w' := by
 obtain ⟨w1, hw1⟩ : ∃ w1, w.alloc (.cells #[.int .i64 s.n, .int .u8 s.acc, .slice A s.rs.length c] 30) = w1 := ⟨_, rfl⟩
 have hb1 : Below w.heap.size w w1 := by rw [← hw1]; exact nw _ (Below.refl _ _)
 have hB : Blk w1 w.heap.size 30 #[.int .i64 s.n, .int .u8 s.acc, .slice A s.rs.length c] := by rw [← hw1]; exact Blk.new _ _ _
 have HW1 := Lib.hid hw1
 have HB1 := Lib.hid hb1
 have HCE : Hid (∀ W, Below w1.heap.size w1 W → W.cell? ⟨w.heap.size, 0, none⟩ = some (.int .i64 s.n) ∧ W.cell? ⟨w.heap.size, 1, none⟩ = some (.int .u8 s.acc) ∧ W.cell? ⟨w.heap.size, 2, none⟩ = some (.slice A s.rs.length c) ∧ w.heap.size < W.heap.size) := fun W hW => by
  have e1 := hB.below hW hB.lt
  exact ⟨by rw [e1.cell]; rfl, by rw [e1.cell]; rfl, by rw [e1.cell]; rfl, e1.lt⟩
 obtain ⟨b0, b1, b2, bl⟩ := HCE.out _ (Below.refl _ _)
 clear hw1 hb1 hB
 have HS := Lib.hid (hs.below HB1.out)
 clear hs
 by_cases h : ScOK s
 ·have HV := Lib.hid (decide_eq_true h)
  go_enter Tryz.func52, Tryz.ntmps52
  go_upto_region 1 with fail
  rw [HW1.out]
  go_wp2_with (go_at_call 85; go_loud (refine (check05_any s A c w1 HS.out).mono ?_; rintro e w2 ⟨⟨i, rfl⟩, hb2⟩; rw [if_pos h]))
  go_ret
  exact ⟨ret_bool HV.out.symm, bthen HB1.out hb2⟩
 ·have HV := Lib.hid (decide_eq_false h)
  go_enter Tryz.func52, Tryz.ntmps52
  go_upto_region 1 with fail
  rw [HW1.out]
  go_wp2_with (go_at_call 85; go_loud (refine (check05_any s A c w1 HS.out).mono ?_; rintro e w2 ⟨⟨i, rfl⟩, hb2⟩; rw [if_neg h]))
  go_ret
  exact ⟨ret_bool HV.out.symm, bthen HB1.out hb2⟩
theorem ruB_eq (n : Int) (x : Ru) : decide (RuOK n x) = (inB x.fr 0 (n - 1) && inB x.to 0 (n - 1) && decide (x.inp.size ≤ 4) && smallS x.inp && decide (x.out.size ≤ 4) && knownS x.out && inB x.co 0 1000) := by
 unfold inB
 rw [Bool.eq_iff_iff, decide_eq_true_iff]
 unfold RuOK
 simp only [Bool.and_eq_true, decide_eq_true_iff]
 constructor
 ·rintro ⟨⟨⟨h1, h2⟩, h3, h4⟩, ⟨h5, h6⟩, ⟨h7, h8⟩, h9, h10⟩
  exact ⟨⟨⟨⟨⟨⟨⟨h1, by omega⟩, h3, by omega⟩, h5⟩, h6⟩, h7⟩, h8⟩, h9, h10⟩
 ·rintro ⟨⟨⟨⟨⟨⟨⟨h1, h2⟩, h3, h4⟩, h5⟩, h6⟩, h7⟩, h8⟩, h9, h10⟩
  exact ⟨⟨⟨h1, by omega⟩, h3, by omega⟩, ⟨h5, h6⟩, ⟨h7, h8⟩, h9, h10⟩
set_option maxHeartbeats 8000000 in
theorem rright_any (s : Sc) (A : Option Addr) (c : Nat) (i : Nat) (x : Ru) (w : World) (hs : ScIn w s A c) (hn : 1 ≤ s.n ∧ s.n ≤ 8) (hx : s.rs[i]? = some x) :
 Calls Tryz.prog 25 #[.agg #[.int .i64 s.n, .int .u8 s.acc, .slice A s.rs.length c], .int .i64 (i : Int)] w fun e w' => e = .returned (.bool (!decide (x ∈ s.rs.take i) && decide (RuOK s.n x))) ∧ Below w.heap.size w w' := by
 obtain ⟨w1, hw1⟩ : ∃ w1, w.alloc (.cells #[.int .i64 s.n, .int .u8 s.acc, .slice A s.rs.length c] 30) = w1 := ⟨_, rfl⟩
 have hb1 : Below w.heap.size w w1 := by rw [← hw1]; exact nw _ (Below.refl _ _)
 have hB : Blk w1 w.heap.size 30 #[.int .i64 s.n, .int .u8 s.acc, .slice A s.rs.length c] := by rw [← hw1]; exact Blk.new _ _ _
 have HW1 := Lib.hid hw1
 have HB1 := Lib.hid hb1
 have HCE : Hid (∀ W, Below w1.heap.size w1 W → W.cell? ⟨w.heap.size, 0, none⟩ = some (.int .i64 s.n) ∧ W.cell? ⟨w.heap.size, 1, none⟩ = some (.int .u8 s.acc) ∧ W.cell? ⟨w.heap.size, 2, none⟩ = some (.slice A s.rs.length c) ∧ w.heap.size < W.heap.size) := fun W hW => by
  have e1 := hB.below hW hB.lt
  exact ⟨by rw [e1.cell]; rfl, by rw [e1.cell]; rfl, by rw [e1.cell]; rfl, e1.lt⟩
 obtain ⟨b0, b1, b2, bl⟩ := HCE.out _ (Below.refl _ _)
 clear hw1 hb1 hB
 have hl := hs.len
 have hil := (List.getElem?_eq_some_iff.1 hx).1
 obtain ⟨b, off, x', hA, hbb, hxx, d0, d1, d2, d3, d4⟩ := hs.sl.ru hil
 obtain rfl : x = x' := Option.some.inj (hx.symm.trans hxx)
 subst hA
 obtain ⟨ht1, ht2⟩ := hs.txt x (List.mem_of_getElem? hx)
 have HDC : Hid (∀ W, Below w1.heap.size w1 W → W.cell? ⟨b, off + i * 5, none⟩ = some (.int .i64 x.fr) ∧ W.cell? ⟨b, off + i * 5 + 1, none⟩ = some (.int .i64 x.to) ∧ W.cell? ⟨b, off + i * 5 + 2, none⟩ = some (.string x.inp) ∧ W.cell? ⟨b, off + i * 5 + 3, none⟩ = some (.string x.out) ∧ W.cell? ⟨b, off + i * 5 + 4, none⟩ = some (.int .i64 x.co) ∧ b < W.heap.size) := fun W hW => by
  have h := bthen HB1.out hW
  exact ⟨(h.cell (p := ⟨b, _, none⟩) hbb).trans d0, (h.cell (p := ⟨b, _, none⟩) hbb).trans d1, (h.cell (p := ⟨b, _, none⟩) hbb).trans d2, (h.cell (p := ⟨b, _, none⟩) hbb).trans d3, (h.cell (p := ⟨b, _, none⟩) hbb).trans d4, Nat.lt_of_lt_of_le hbb h.size⟩
 have HS := Lib.hid hs
 have HX := Lib.hid hx
 have hwn : IntKind.i64.wrap (s.n - 1) = s.n - 1 := IntWalk.i64_in _ (by omega)
 have hiI : (i : Int) < (s.rs.length : Int) := by omega
 have hi0 : (0 : Int) ≤ (i : Int) := by omega
 clear d0 d1 d2 d3 d4 hbb hxx hx hs
 obtain ⟨d0, d1, d2, d3, d4, hbb⟩ := HDC.out _ (Below.refl _ _)
 go_enter Tryz.func25, Tryz.ntmps25
 go_upto_region 1 with fail
 rw [HW1.out]
 go_upto_region 2 with fail
 obtain ⟨W2, hW2⟩ : ∃ W, w1.alloc (.cells #[.int .i64 x.fr, .int .i64 x.to, .string x.inp, .string x.out, .int .i64 x.co] 61) = W := ⟨_, rfl⟩
 have hb2 : Below w1.heap.size w1 W2 := by rw [← hW2]; exact nw _ (Below.refl _ _)
 have hX : Blk W2 w1.heap.size 61 #[.int .i64 x.fr, .int .i64 x.to, .string x.inp, .string x.out, .int .i64 x.co] := by rw [← hW2]; exact Blk.new _ _ _
 rw [hW2]
 obtain ⟨g, hg⟩ : ∃ b, w1.heap.size = b := ⟨_, rfl⟩
 have HB2 := Lib.hid hb2
 rw [hg] at hX ⊢
 have HC2 : Hid (∀ W, Below W2.heap.size W2 W → (W.cell? ⟨g, 0, none⟩ = some (.int .i64 x.fr) ∧ W.cell? ⟨g, 1, none⟩ = some (.int .i64 x.to) ∧ W.cell? ⟨g, 2, none⟩ = some (.string x.inp) ∧ W.cell? ⟨g, 3, none⟩ = some (.string x.out) ∧ W.cell? ⟨g, 4, none⟩ = some (.int .i64 x.co) ∧ g < W.heap.size)) := fun W hW => by
  have e1 := hX.below hW hX.lt
  exact ⟨by rw [e1.cell]; rfl, by rw [e1.cell]; rfl, by rw [e1.cell]; rfl, by rw [e1.cell]; rfl, by rw [e1.cell]; rfl, e1.lt⟩
 clear hW2 hb2 hX hg d0 d1 d2 d3 d4 hbb b0 b1 b2 bl
 go_wp2_with fail
 go_loopw [6] (fun iv wr => ∃ k : Nat, k ≤ i ∧ iv = .int .i64 (k : Int) ∧ Hid (x ∉ s.rs.take k) ∧ Below W2.heap.size W2 wr) (fun iv _ => i - (intOf iv).toNat)
 case atStart => exact ⟨0, by omega, rfl, (by show x ∉ s.rs.take 0; simp), Below.refl _ _⟩
 case round =>
  obtain ⟨k, hk, rfl, HN, hbr⟩ := hrel
  have HBR := Lib.hid (bthen HB1.out (bthen HB2.out hbr))
  have HB2R := Lib.hid hbr
  obtain ⟨b0, b1, b2, bl⟩ := HCE.out _ (bthen HB2.out hbr)
  obtain ⟨x0, x1, x2, x3, x4, xl⟩ := HC2.out _ hbr
  clear hbr
  by_cases hlt : k < i
  ·obtain ⟨b', off', y, hA', hbb', hyy, d0, d1, d2, d3, d4⟩ := ((HS.out.below HBR.out).sl).ru (k := k) (by omega)
   obtain ⟨rfl, rfl⟩ : b = b' ∧ off = off' := by injection hA' with hA'; injection hA' with h1 h2; exact ⟨h1, h2⟩
   have HY := Lib.hid hyy
   have hki : (k : Int) < (i : Int) := by omega
   have hkl : (k : Int) < (s.rs.length : Int) := by omega
   have hk0 : (0 : Int) ≤ (k : Int) := by omega
   clear hyy hA'
   by_cases he : y = x
   ·have HE := Lib.hid he
    have HEQ := fun W => run_eqRu y x W
    rw [decide_eq_true he] at HEQ
    clear he
    go_wp2_with fail
    go_quiet (fail)
    go_wp2_with fail
    go_ret
    exact ⟨ret_bool (by
     have hm : x ∈ s.rs.take i := by
      rw [← HE.out]
      exact List.mem_take_iff_getElem.2 (by
       obtain ⟨h1, h2⟩ := List.getElem?_eq_some_iff.1 HY.out
       exact ⟨k, by omega, h2⟩)
     simp [hm]), below_drewN HBR.out _⟩
   ·have HE := Lib.hid he
    have HEQ := fun W => run_eqRu y x W
    rw [decide_eq_false he] at HEQ
    clear he
    go_wp2_with fail
    go_quiet (fail)
    go_wp2_with fail
    go_roundw
    case rel => exact ⟨k + 1, by omega, by go_num, (by
     show x ∉ s.rs.take (k + 1)
     rw [take_succ_of HY.out]
     intro h
     rcases List.mem_append.1 h with h | h
     ·exact HN.out h
     ·exact HE.out (List.mem_singleton.1 h).symm), below_drewN HB2R.out _⟩
    case measure => simp [intOf]; omega
  ·obtain rfl : k = i := by omega
   have HN2 : Hid (x ∉ s.rs.take k) := HN
   by_cases q0 : inB x.fr 0 (s.n - 1) = true
   ·by_cases q1 : inB x.to 0 (s.n - 1) = true
    ·by_cases q2 : x.inp.size ≤ 4
     ·by_cases q3 : smallS x.inp = true
      ·by_cases q4 : x.out.size ≤ 4
       ·by_cases q5 : knownS x.out = true
        ·by_cases q6 : inB x.co 0 1000 = true
         ·have HR : Hid (decide (RuOK s.n x) = true) := by show _ = _; rw [ruB_eq, q0, q1, decide_eq_true q2, q3, decide_eq_true q4, q5, q6]; rfl
          have y2 : (x.inp.size : Int) ≤ 4 := by omega
          have y4 : (x.out.size : Int) ≤ 4 := by omega
          go_wp2_with (first | (go_at_call 31; go_loud (refine (in_any _ _ _ _).mono ?_; rintro e w' ⟨rfl, rfl⟩)) | (go_at_call 50; go_loud (refine (small_any _ _ ht1).mono ?_; rintro e w' ⟨rfl, rfl⟩)) | (go_at_call 51; go_loud (refine (plain_any _ _ ht2).mono ?_; rintro e w' ⟨rfl, rfl⟩; rw [knownS_plain])))
          go_ret
          exact ⟨ret_bool (by rw [decide_eq_false HN2.out, Bool.not_false, Bool.true_and]; first | exact HR.out.symm | (rw [HR.out]; simp; done)), HBR.out⟩
         ·have z6 : inB x.co 0 1000 = false := by simpa using q6
          clear q6
          have HR : Hid (decide (RuOK s.n x) = false) := by show _ = _; rw [ruB_eq, q0, q1, decide_eq_true q2, q3, decide_eq_true q4, q5, z6]; simp
          have y2 : (x.inp.size : Int) ≤ 4 := by omega
          have y4 : (x.out.size : Int) ≤ 4 := by omega
          go_wp2_with (first | (go_at_call 31; go_loud (refine (in_any _ _ _ _).mono ?_; rintro e w' ⟨rfl, rfl⟩)) | (go_at_call 50; go_loud (refine (small_any _ _ ht1).mono ?_; rintro e w' ⟨rfl, rfl⟩)) | (go_at_call 51; go_loud (refine (plain_any _ _ ht2).mono ?_; rintro e w' ⟨rfl, rfl⟩; rw [knownS_plain])))
          go_ret
          exact ⟨ret_bool (by rw [decide_eq_false HN2.out, Bool.not_false, Bool.true_and]; first | exact HR.out.symm | (rw [HR.out]; simp; done)), HBR.out⟩
        ·have z5 : knownS x.out = false := by simpa using q5
         clear q5
         have HR : Hid (decide (RuOK s.n x) = false) := by show _ = _; rw [ruB_eq, q0, q1, decide_eq_true q2, q3, decide_eq_true q4, z5]; simp
         have y2 : (x.inp.size : Int) ≤ 4 := by omega
         have y4 : (x.out.size : Int) ≤ 4 := by omega
         go_wp2_with (first | (go_at_call 31; go_loud (refine (in_any _ _ _ _).mono ?_; rintro e w' ⟨rfl, rfl⟩)) | (go_at_call 50; go_loud (refine (small_any _ _ ht1).mono ?_; rintro e w' ⟨rfl, rfl⟩)) | (go_at_call 51; go_loud (refine (plain_any _ _ ht2).mono ?_; rintro e w' ⟨rfl, rfl⟩; rw [knownS_plain])))
         go_ret
         exact ⟨ret_bool (by rw [decide_eq_false HN2.out, Bool.not_false, Bool.true_and]; first | exact HR.out.symm | (rw [HR.out]; simp; done)), HBR.out⟩
       ·have HR : Hid (decide (RuOK s.n x) = false) := by show _ = _; rw [ruB_eq, q0, q1, decide_eq_true q2, q3, decide_eq_false q4]; simp
        have y2 : (x.inp.size : Int) ≤ 4 := by omega
        have y4 : ¬ (x.out.size : Int) ≤ 4 := by omega
        go_wp2_with (first | (go_at_call 31; go_loud (refine (in_any _ _ _ _).mono ?_; rintro e w' ⟨rfl, rfl⟩)) | (go_at_call 50; go_loud (refine (small_any _ _ ht1).mono ?_; rintro e w' ⟨rfl, rfl⟩)) | (go_at_call 51; go_loud (refine (plain_any _ _ ht2).mono ?_; rintro e w' ⟨rfl, rfl⟩; rw [knownS_plain])))
        go_ret
        exact ⟨ret_bool (by rw [decide_eq_false HN2.out, Bool.not_false, Bool.true_and]; first | exact HR.out.symm | (rw [HR.out]; simp; done)), HBR.out⟩
      ·have z3 : smallS x.inp = false := by simpa using q3
       clear q3
       have HR : Hid (decide (RuOK s.n x) = false) := by show _ = _; rw [ruB_eq, q0, q1, decide_eq_true q2, z3]; simp
       have y2 : (x.inp.size : Int) ≤ 4 := by omega
       go_wp2_with (first | (go_at_call 31; go_loud (refine (in_any _ _ _ _).mono ?_; rintro e w' ⟨rfl, rfl⟩)) | (go_at_call 50; go_loud (refine (small_any _ _ ht1).mono ?_; rintro e w' ⟨rfl, rfl⟩)) | (go_at_call 51; go_loud (refine (plain_any _ _ ht2).mono ?_; rintro e w' ⟨rfl, rfl⟩; rw [knownS_plain])))
       go_ret
       exact ⟨ret_bool (by rw [decide_eq_false HN2.out, Bool.not_false, Bool.true_and]; first | exact HR.out.symm | (rw [HR.out]; simp; done)), HBR.out⟩
     ·have HR : Hid (decide (RuOK s.n x) = false) := by show _ = _; rw [ruB_eq, q0, q1, decide_eq_false q2]; simp
      have y2 : ¬ (x.inp.size : Int) ≤ 4 := by omega
      go_wp2_with (first | (go_at_call 31; go_loud (refine (in_any _ _ _ _).mono ?_; rintro e w' ⟨rfl, rfl⟩)) | (go_at_call 50; go_loud (refine (small_any _ _ ht1).mono ?_; rintro e w' ⟨rfl, rfl⟩)) | (go_at_call 51; go_loud (refine (plain_any _ _ ht2).mono ?_; rintro e w' ⟨rfl, rfl⟩; rw [knownS_plain])))
      go_ret
      exact ⟨ret_bool (by rw [decide_eq_false HN2.out, Bool.not_false, Bool.true_and]; first | exact HR.out.symm | (rw [HR.out]; simp; done)), HBR.out⟩
    ·have z1 : inB x.to 0 (s.n - 1) = false := by simpa using q1
     clear q1
     have HR : Hid (decide (RuOK s.n x) = false) := by show _ = _; rw [ruB_eq, q0, z1]; simp
     go_wp2_with (first | (go_at_call 31; go_loud (refine (in_any _ _ _ _).mono ?_; rintro e w' ⟨rfl, rfl⟩)) | (go_at_call 50; go_loud (refine (small_any _ _ ht1).mono ?_; rintro e w' ⟨rfl, rfl⟩)) | (go_at_call 51; go_loud (refine (plain_any _ _ ht2).mono ?_; rintro e w' ⟨rfl, rfl⟩; rw [knownS_plain])))
     go_ret
     exact ⟨ret_bool (by rw [decide_eq_false HN2.out, Bool.not_false, Bool.true_and]; first | exact HR.out.symm | (rw [HR.out]; simp; done)), HBR.out⟩
   ·have z0 : inB x.fr 0 (s.n - 1) = false := by simpa using q0
    clear q0
    have HR : Hid (decide (RuOK s.n x) = false) := by show _ = _; rw [ruB_eq, z0]; simp
    go_wp2_with (first | (go_at_call 31; go_loud (refine (in_any _ _ _ _).mono ?_; rintro e w' ⟨rfl, rfl⟩)) | (go_at_call 50; go_loud (refine (small_any _ _ ht1).mono ?_; rintro e w' ⟨rfl, rfl⟩)) | (go_at_call 51; go_loud (refine (plain_any _ _ ht2).mono ?_; rintro e w' ⟨rfl, rfl⟩; rw [knownS_plain])))
    go_ret
    exact ⟨ret_bool (by rw [decide_eq_false HN2.out, Bool.not_false, Bool.true_and]; first | exact HR.out.symm | (rw [HR.out]; simp; done)), HBR.out⟩
set_option maxHeartbeats 8000000 in
theorem rcheck_any (s : Sc) (A : Option Addr) (c : Nat) (w : World) (hs : ScIn w s A c) : Calls Tryz.prog 74 #[.agg #[.int .i64 s.n, .int .u8 s.acc, .slice A s.rs.length c]] w (SaysSc s w) := by
 obtain ⟨w1, hw1⟩ : ∃ w1, w.alloc (.cells #[.int .i64 s.n, .int .u8 s.acc, .slice A s.rs.length c] 30) = w1 := ⟨_, rfl⟩
 have hb1 : Below w.heap.size w w1 := by rw [← hw1]; exact nw _ (Below.refl _ _)
 have hB : Blk w1 w.heap.size 30 #[.int .i64 s.n, .int .u8 s.acc, .slice A s.rs.length c] := by rw [← hw1]; exact Blk.new _ _ _
 have HW1 := Lib.hid hw1
 have HB1 := Lib.hid hb1
 have HCE : Hid (∀ W, Below w1.heap.size w1 W → W.cell? ⟨w.heap.size, 0, none⟩ = some (.int .i64 s.n) ∧ W.cell? ⟨w.heap.size, 1, none⟩ = some (.int .u8 s.acc) ∧ W.cell? ⟨w.heap.size, 2, none⟩ = some (.slice A s.rs.length c) ∧ w.heap.size < W.heap.size) := fun W hW => by
  have e1 := hB.below hW hB.lt
  exact ⟨by rw [e1.cell]; rfl, by rw [e1.cell]; rfl, by rw [e1.cell]; rfl, e1.lt⟩
 obtain ⟨b0, b1, b2, bl⟩ := HCE.out _ (Below.refl _ _)
 clear hw1 hb1 hB
 have hl := hs.len
 have hacc := hs.acc
 have HS := Lib.hid hs
 have hwa : IntKind.i64.wrap s.acc = s.acc := IntWalk.i64_in _ (by omega)
 clear hs
 by_cases q0 : inB s.n 1 8 = true
 ·have hn : 1 ≤ s.n ∧ s.n ≤ 8 := by unfold inB at q0; simpa using q0
  obtain ⟨N2, hN2⟩ : ∃ v, (2 : Int) ^ s.n.toNat = v := ⟨_, rfl⟩
  have hN := pow_in hn
  rw [hN2] at hN
  have hmin : min s.n.toNat 64 = s.n.toNat := by omega
  have hw2 : IntKind.i64.wrap N2 = N2 := IntWalk.i64_in _ (by omega)
  have hw3 : IntKind.i64.wrap (N2 - 1) = N2 - 1 := IntWalk.i64_in _ (by omega)
  have HN2 := Lib.hid hN2
  by_cases q1 : inB s.acc 1 (N2 - 1) = true
  ·have HIN1 : Hid (∀ W : World, Calls Tryz.prog 31 #[.int .i64 s.acc, .int .i64 1, .int .i64 (N2 - 1)] W fun e w' => e = .returned (.bool true) ∧ W = w') := fun W => by have h := in_any s.acc 1 (N2 - 1) W; rwa [q1] at h
   have HQ1 : Hid (1 ≤ s.acc ∧ s.acc ≤ N2 - 1) := by show _ ∧ _; unfold inB at q1; simpa using q1
   by_cases q2 : s.rs.length ≤ 64
   ·have HOK : Hid ((∀ r ∈ s.rs, RuOK s.n r) ∧ s.rs.Nodup → ScOK s) := fun h => ⟨hn, q2, ⟨HQ1.out.1, by have := HQ1.out.2; rw [HN2.out]; omega⟩, h.1, h.2⟩
    have z2 : (s.rs.length : Int) ≤ 64 := by omega
    have z2n : decide (64 < s.rs.length) = false := decide_eq_false (by omega)
    have HN8 := Lib.hid hn
    go_enter Tryz.func74, Tryz.ntmps74
    go_upto_region 1 with fail
    rw [HW1.out]
    refine ordB_below (.quiet 0 (.quiet 1 (.only 2 (.quiet 3 (.quiet 4 (.quiet 5 (.quiet 6 (.quiet 7 (.quiet 8 (.quiet 9 (.quiet 10 (.quiet 11 (.only 12 (.quiet 13 (.quiet 14 (.quiet 15 (.quiet 16 (.quiet 17 (.quiet 18 (.quiet 19 (.quiet 20 .done))))))))))))))))))))) (by kernel_rfl) (by kernel_rfl) (by kernel_rfl) (fun _ _ _ _ _ h => h) ?_
    intro V0 hV0
    iterate 2 ((first | refine ordB_skip rfl rfl ?_ | (refine ordB_take (v := ?_) rfl rfl ?_ ?_; rotate_left 1; (focus (intro W hW; obtain ⟨hcW, hfW⟩ := bcell hW; (go_simp <;> with_reducible rfl))))); simp only [Act.put, zA, zB, zC])
    refine ordB_only (opB_call rfl rfl (fun K hK => ?_))
    go_simp
    go_at_call 31
    refine (in_any _ _ _ _).mono ?_
    rintro e w' ⟨rfl, rfl⟩
    refine hK.out _ _ hV0 (fun hV0_1 => ?_)
    iterate 9 ((first | refine ordB_skip rfl rfl ?_ | (refine ordB_take (v := ?_) rfl rfl ?_ ?_; rotate_left 1; (focus (intro W hW; obtain ⟨hcW, hfW⟩ := bcell hW; (go_simp <;> with_reducible rfl))))); simp only [Act.put, zA, zB, zC])
    refine ordB_only (opB_call rfl rfl (fun K hK => ?_))
    go_simp
    go_at_call 31
    refine (HIN1.out V0).mono ?_
    rintro e w' ⟨rfl, rfl⟩
    refine hK.out _ _ hV0_1 (fun hV0_1_2 => ?_)
    iterate 8 ((first | refine ordB_skip rfl rfl ?_ | (refine ordB_take (v := ?_) rfl rfl ?_ ?_; rotate_left 1; (focus (intro W hW; obtain ⟨hcW, hfW⟩ := bcell hW; (go_simp <;> with_reducible rfl))))); simp only [Act.put, zA, zB, zC])
    refine ordB_nil ?_
    have HB0 := Lib.hid (bthen HB1.out hV0_1_2)
    have HB10 := Lib.hid hV0_1_2
    go_wp2_with fail
    go_loopw [4] (fun iv wr => ∃ k : Nat, k ≤ s.rs.length ∧ iv = .int .i64 (k : Int) ∧ Hid (∀ r ∈ s.rs.take k, RuOK s.n r) ∧ Hid ((s.rs.take k).Nodup) ∧ Below w1.heap.size w1 wr) (fun iv _ => s.rs.length - (intOf iv).toNat)
    case atStart => exact ⟨0, by omega, rfl, (by show ∀ r ∈ s.rs.take 0, RuOK s.n r; simp), (by show (s.rs.take 0).Nodup; simp), HB10.out⟩
    case round =>
     obtain ⟨k, hk, rfl, HR, HN, hbr⟩ := hrel
     have HBR := Lib.hid hbr
     obtain ⟨b0, b1, b2, bl⟩ := HCE.out _ hbr
     clear hbr
     by_cases hlt : k < s.rs.length
     ·obtain ⟨x, hx⟩ : ∃ x, s.rs[k]? = some x := ⟨_, List.getElem?_eq_getElem hlt⟩
      have HX := Lib.hid hx
      have hki : (k : Int) < (s.rs.length : Int) := by omega
      have HRT : Hid (Calls Tryz.prog 25 #[.agg #[.int .i64 s.n, .int .u8 s.acc, .slice A s.rs.length c], .int .i64 (k : Int)] wr fun e w' => e = .returned (.bool (!decide (x ∈ s.rs.take k) && decide (RuOK s.n x))) ∧ Below wr.heap.size wr w') := rright_any s A c k x wr (HS.out.below (bthen HB1.out HBR.out)) HN8.out hx
      clear hx
      by_cases hr : RuOK s.n x
      ·by_cases hm : x ∈ s.rs.take k
       ·have HM := Lib.hid hm
        rw [decide_eq_true hr, decide_eq_true hm, Bool.not_true, Bool.false_and] at HRT
        clear hr hm
        go_wp2_with (go_at_call 25; go_loud (refine HRT.out.mono ?_; rintro e w9 ⟨rfl, hb9⟩))
        go_ret2
        exact says_no (fun h => take_dup HX.out HM.out h.2.2.2.2) _ (bthen HB1.out (bthen HBR.out hb9))
       ·have HM := Lib.hid hm
        have HRR := Lib.hid hr
        rw [decide_eq_true hr, decide_eq_false hm, Bool.not_false, Bool.true_and] at HRT
        clear hr hm
        go_wp2_with (go_at_call 25; go_loud (refine HRT.out.mono ?_; rintro e w9 ⟨rfl, hb9⟩))
        have HB9 := Lib.hid (bthen HBR.out hb9)
        clear hb9
        go_roundw
        case rel => exact ⟨k + 1, by omega, by go_num, take_all HR.out HX.out HRR.out, take_nodup HN.out HX.out HM.out, HB9.out⟩
        case measure => simp [intOf]; omega
      ·have HRR := Lib.hid hr
       rw [decide_eq_false hr, Bool.and_false] at HRT
       clear hr
       go_wp2_with (go_at_call 25; go_loud (refine HRT.out.mono ?_; rintro e w9 ⟨rfl, hb9⟩))
       go_ret2
       exact says_no (fun h => HRR.out (h.2.2.2.1 x (List.mem_of_getElem? HX.out))) _ (bthen HB1.out (bthen HBR.out hb9))
     ·have HOK2 : Hid (ScOK s) := HOK.out ⟨by have := HR.out; rwa [List.take_of_length_le (by omega)] at this, by have := HN.out; rwa [List.take_of_length_le (by omega)] at this⟩
      go_wp2_with fail
      go_ret2
      exact says_yes HOK2.out _ (bthen HB1.out HBR.out)
   ·have HNO : Hid (¬ ScOK s) := fun h => q2 h.2.1
    have z2 : ¬ (s.rs.length : Int) ≤ 64 := by omega
    have z2n : decide (64 < s.rs.length) = true := decide_eq_true (by omega)
    go_enter Tryz.func74, Tryz.ntmps74
    go_upto_region 1 with fail
    rw [HW1.out]
    refine ordB_below (.quiet 0 (.quiet 1 (.only 2 (.quiet 3 (.quiet 4 (.quiet 5 (.quiet 6 (.quiet 7 (.quiet 8 (.quiet 9 (.quiet 10 (.quiet 11 (.only 12 (.quiet 13 (.quiet 14 (.quiet 15 (.quiet 16 (.quiet 17 (.quiet 18 (.quiet 19 (.quiet 20 .done))))))))))))))))))))) (by kernel_rfl) (by kernel_rfl) (by kernel_rfl) (fun _ _ _ _ _ h => h) ?_
    intro V0 hV0
    iterate 2 ((first | refine ordB_skip rfl rfl ?_ | (refine ordB_take (v := ?_) rfl rfl ?_ ?_; rotate_left 1; (focus (intro W hW; obtain ⟨hcW, hfW⟩ := bcell hW; (go_simp <;> with_reducible rfl))))); simp only [Act.put, zA, zB, zC])
    refine ordB_only (opB_call rfl rfl (fun K hK => ?_))
    go_simp
    go_at_call 31
    refine (in_any _ _ _ _).mono ?_
    rintro e w' ⟨rfl, rfl⟩
    refine hK.out _ _ hV0 (fun hV0_1 => ?_)
    iterate 9 ((first | refine ordB_skip rfl rfl ?_ | (refine ordB_take (v := ?_) rfl rfl ?_ ?_; rotate_left 1; (focus (intro W hW; obtain ⟨hcW, hfW⟩ := bcell hW; (go_simp <;> with_reducible rfl))))); simp only [Act.put, zA, zB, zC])
    refine ordB_only (opB_call rfl rfl (fun K hK => ?_))
    go_simp
    go_at_call 31
    refine (HIN1.out V0).mono ?_
    rintro e w' ⟨rfl, rfl⟩
    refine hK.out _ _ hV0_1 (fun hV0_1_2 => ?_)
    iterate 8 ((first | refine ordB_skip rfl rfl ?_ | (refine ordB_take (v := ?_) rfl rfl ?_ ?_; rotate_left 1; (focus (intro W hW; obtain ⟨hcW, hfW⟩ := bcell hW; (go_simp <;> with_reducible rfl))))); simp only [Act.put, zA, zB, zC])
    refine ordB_nil ?_
    go_wp2_with fail
    go_ret2
    exact says_no HNO.out _ (bthen HB1.out hV0_1_2)
  ·have z1 : inB s.acc 1 (N2 - 1) = false := by simpa using q1
   have HNO : Hid (¬ ScOK s) := fun h => q1 (by unfold inB; have := h.2.2.1; rw [HN2.out] at this; simp; omega)
   clear q1
   go_enter Tryz.func74, Tryz.ntmps74
   go_upto_region 1 with fail
   rw [HW1.out]
   refine ordB_below (.quiet 0 (.quiet 1 (.only 2 (.quiet 3 (.quiet 4 (.quiet 5 (.quiet 6 (.quiet 7 (.quiet 8 (.quiet 9 (.quiet 10 (.quiet 11 (.only 12 (.quiet 13 (.quiet 14 (.quiet 15 (.quiet 16 (.quiet 17 (.quiet 18 (.quiet 19 (.quiet 20 .done))))))))))))))))))))) (by kernel_rfl) (by kernel_rfl) (by kernel_rfl) (fun _ _ _ _ _ h => h) ?_
   intro V0 hV0
   iterate 2 ((first | refine ordB_skip rfl rfl ?_ | (refine ordB_take (v := ?_) rfl rfl ?_ ?_; rotate_left 1; (focus (intro W hW; obtain ⟨hcW, hfW⟩ := bcell hW; (go_simp <;> with_reducible rfl))))); simp only [Act.put, zA, zB, zC])
   refine ordB_only (opB_call rfl rfl (fun K hK => ?_))
   go_simp
   go_at_call 31
   refine (in_any _ _ _ _).mono ?_
   rintro e w' ⟨rfl, rfl⟩
   refine hK.out _ _ hV0 (fun hV0_1 => ?_)
   iterate 9 ((first | refine ordB_skip rfl rfl ?_ | (refine ordB_take (v := ?_) rfl rfl ?_ ?_; rotate_left 1; (focus (intro W hW; obtain ⟨hcW, hfW⟩ := bcell hW; (go_simp <;> with_reducible rfl))))); simp only [Act.put, zA, zB, zC])
   refine ordB_only (opB_call rfl rfl (fun K hK => ?_))
   go_simp
   go_at_call 31
   refine (in_any _ _ _ _).mono ?_
   rintro e w' ⟨rfl, rfl⟩
   refine hK.out _ _ hV0_1 (fun hV0_1_2 => ?_)
   iterate 8 ((first | refine ordB_skip rfl rfl ?_ | (refine ordB_take (v := ?_) rfl rfl ?_ ?_; rotate_left 1; (focus (intro W hW; obtain ⟨hcW, hfW⟩ := bcell hW; (go_simp <;> with_reducible rfl))))); simp only [Act.put, zA, zB, zC])
   refine ordB_nil ?_
   go_wp2_with fail
   go_ret2
   exact says_no HNO.out _ (bthen HB1.out hV0_1_2)
 ·have z0 : inB s.n 1 8 = false := by simpa using q0
  have HNO : Hid (¬ ScOK s) := fun h => q0 (by unfold inB; have := h.1; simp; omega)
  clear q0
  go_enter Tryz.func74, Tryz.ntmps74
  go_upto_region 1 with fail
  rw [HW1.out]
  refine ordB_below (.quiet 0 (.quiet 1 (.only 2 (.quiet 3 (.quiet 4 (.quiet 5 (.quiet 6 (.quiet 7 (.quiet 8 (.quiet 9 (.quiet 10 (.quiet 11 (.only 12 (.quiet 13 (.quiet 14 (.quiet 15 (.quiet 16 (.quiet 17 (.quiet 18 (.quiet 19 (.quiet 20 .done))))))))))))))))))))) (by kernel_rfl) (by kernel_rfl) (by kernel_rfl) (fun _ _ _ _ _ h => h) ?_
  intro V0 hV0
  iterate 2 ((first | refine ordB_skip rfl rfl ?_ | (refine ordB_take (v := ?_) rfl rfl ?_ ?_; rotate_left 1; (focus (intro W hW; obtain ⟨hcW, hfW⟩ := bcell hW; (go_simp <;> with_reducible rfl))))); simp only [Act.put, zA, zB, zC])
  refine ordB_only (opB_call rfl rfl (fun K hK => ?_))
  go_simp
  go_at_call 31
  refine (in_any _ _ _ _).mono ?_
  rintro e w' ⟨rfl, rfl⟩
  refine hK.out _ _ hV0 (fun hV0_1 => ?_)
  iterate 9 ((first | refine ordB_skip rfl rfl ?_ | (refine ordB_take (v := ?_) rfl rfl ?_ ?_; rotate_left 1; (focus (intro W hW; obtain ⟨hcW, hfW⟩ := bcell hW; (go_simp <;> with_reducible rfl))))); simp only [Act.put, zA, zB, zC])
  refine ordB_only (opB_cskip rfl rfl hV0_1 ?_)
  simp only [Act.put, zA, zB, zC]
  iterate 8 ((first | refine ordB_skip rfl rfl ?_ | (refine ordB_take (v := ?_) rfl rfl ?_ ?_; rotate_left 1; (focus (intro W hW; obtain ⟨hcW, hfW⟩ := bcell hW; (go_simp <;> with_reducible rfl))))); simp only [Act.put, zA, zB, zC])
  refine ordB_nil ?_
  go_wp2_with fail
  go_ret2
  exact says_no HNO.out _ (bthen HB1.out hV0_1)
set_option maxHeartbeats 4000000 in
theorem rvalid_any (s : Sc) (A : Option Addr) (c : Nat) (w : World) (hs : ScIn w s A c) : Calls Tryz.prog 35 #[.agg #[.int .i64 s.n, .int .u8 s.acc, .slice A s.rs.length c]] w fun e w' => e = .returned (.bool (decide (ScOK s))) ∧ Below w.heap.size w w' := by
 obtain ⟨w1, hw1⟩ : ∃ w1, w.alloc (.cells #[.int .i64 s.n, .int .u8 s.acc, .slice A s.rs.length c] 30) = w1 := ⟨_, rfl⟩
 have hb1 : Below w.heap.size w w1 := by rw [← hw1]; exact nw _ (Below.refl _ _)
 have hB : Blk w1 w.heap.size 30 #[.int .i64 s.n, .int .u8 s.acc, .slice A s.rs.length c] := by rw [← hw1]; exact Blk.new _ _ _
 have HW1 := Lib.hid hw1
 have HB1 := Lib.hid hb1
 have HCE : Hid (∀ W, Below w1.heap.size w1 W → W.cell? ⟨w.heap.size, 0, none⟩ = some (.int .i64 s.n) ∧ W.cell? ⟨w.heap.size, 1, none⟩ = some (.int .u8 s.acc) ∧ W.cell? ⟨w.heap.size, 2, none⟩ = some (.slice A s.rs.length c) ∧ w.heap.size < W.heap.size) := fun W hW => by
  have e1 := hB.below hW hB.lt
  exact ⟨by rw [e1.cell]; rfl, by rw [e1.cell]; rfl, by rw [e1.cell]; rfl, e1.lt⟩
 obtain ⟨b0, b1, b2, bl⟩ := HCE.out _ (Below.refl _ _)
 clear hw1 hb1 hB
 have HS := Lib.hid (hs.below HB1.out)
 clear hs
 by_cases h : ScOK s
 ·have HV := Lib.hid (decide_eq_true h)
  go_enter Tryz.func35, Tryz.ntmps35
  go_upto_region 1 with fail
  rw [HW1.out]
  go_wp2_with (go_at_call 74; go_loud (refine (rcheck_any s A c w1 HS.out).mono ?_; rintro e w2 ⟨⟨i, rfl⟩, hb2⟩; rw [if_pos h]))
  go_ret
  exact ⟨ret_bool HV.out.symm, bthen HB1.out hb2⟩
 ·have HV := Lib.hid (decide_eq_false h)
  go_enter Tryz.func35, Tryz.ntmps35
  go_upto_region 1 with fail
  rw [HW1.out]
  go_wp2_with (go_at_call 74; go_loud (refine (rcheck_any s A c w1 HS.out).mono ?_; rintro e w2 ⟨⟨i, rfl⟩, hb2⟩; rw [if_neg h]))
  go_ret
  exact ⟨ret_bool HV.out.symm, bthen HB1.out hb2⟩
end Go.Proofs.YtfpnhgahkjglgaaGreat
