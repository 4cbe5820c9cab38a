/-
  The walks of layer 05: accepting modes, and how pairs, spots and modes go on.
-/
import Derived.Test.YtkjfdjcagfkdhaaGreatP13
import Derived.Test.YtkjfdjcagfkdhaaGreatP18
namespace Go.Proofs.YtkjfdjcagfkdhaaGreat
open Go Go.RowKit Go.Maps

theorem IsStep.of {K : Type} {enc : K → Value} {S : Sys K} {k k' : K} {r : Ru} {bo : Bool} {w w' : World} (h : (S.step k r = some k' ∧ bo = true) ∨ (S.step k r = none ∧ bo = false)) (hb : Below w.heap.size w w') : IsStep enc S k r w (.returned (.tuple #[enc k', .bool bo])) w' := by
  refine ⟨k', bo, rfl, ?_, hb⟩
  rcases h with ⟨h1, h2⟩ | ⟨h1, h2⟩
  · rw [h1]; exact ⟨rfl, h2⟩
  · rw [h1]; exact h2
set_option maxRecDepth 100000 in
set_option maxHeartbeats 8000000 in
theorem oaccepting_any (s : Sc) (A : Option Addr) (c : Nat) (m : Int) (w : World) (hs : ScIn w s A c) (hm : 0 ≤ m ∧ m < 8) :
    Calls Tryz.prog 30 #[.agg #[.int .i64 s.n, .int .u8 s.acc, .slice A s.rs.length c], .int .i64 m] w fun e w' => e = .returned (.bool (accB s.acc m)) ∧ Below w.heap.size w w' := by
  obtain ⟨w1, hw1⟩ : ∃ w1, w.alloc (.cells #[.int .i64 s.n, .int .u8 s.acc, .slice A s.rs.length c] 29) = w1 := ⟨_, rfl⟩
  have hb1 : Below w.heap.size w w1 := by rw [← hw1]; exact nw _ (Below.refl _ _)
  have hB : Blk w1 w.heap.size 29 #[.int .i64 s.n, .int .u8 s.acc, .slice A s.rs.length c] := by rw [← hw1]; exact Blk.new _ _ _
  have HW1 := Lib.hid hw1
  have HB1 := Lib.hid hb1
  have HCE : Hid (∀ W, Below w1.heap.size w1 W → W.cell? ⟨w.heap.size, 0, none⟩ = some (.int .i64 s.n) ∧ W.cell? ⟨w.heap.size, 1, none⟩ = some (.int .u8 s.acc) ∧ W.cell? ⟨w.heap.size, 2, none⟩ = some (.slice A s.rs.length c) ∧ w.heap.size < W.heap.size) := fun W hW => by
    have e1 := hB.below hW hB.lt
    exact ⟨by rw [e1.cell]; rfl, by rw [e1.cell]; rfl, by rw [e1.cell]; rfl, e1.lt⟩
  obtain ⟨b0, b1, b2, bl⟩ := HCE.out _ (Below.refl _ _)
  clear hw1 hb1 hB
  have hacc := hs.acc
  have HM := Lib.hid hm
  obtain ⟨hm0, hm1⟩ := hm
  have hmin : min m.toNat 8 = m.toNat := by omega
  clear hs
  go_enter Tryz.func30, Tryz.ntmps30
  go_upto_region 1 with fail
  rw [HW1.out]
  go_wp2_with fail
  go_ret
  refine ⟨ret_bool ?_, HB1.out⟩
  have hp : (0 : Int) < 2 ^ m.toNat := Int.pow_pos (by omega)
  have hd0 : 0 ≤ s.acc / 2 ^ m.toNat := Int.ediv_nonneg hacc.1 (by omega)
  have hd1 : s.acc / 2 ^ m.toNat ≤ s.acc := Int.ediv_le_self _ hacc.1
  rw [(bits_u8 (s.acc / 2 ^ m.toNat) 1 (by omega) (by omega)).1]
  unfold accB
  rw [decide_eq_true hm0, Bool.true_and, Nat.testBit_eq_decide_div_mod_eq, show (1 : Int).toNat = 1 from rfl, Nat.and_one_is_mod]
  have e : (s.acc / 2 ^ m.toNat).toNat = s.acc.toNat / 2 ^ m.toNat := by
    have h1 : s.acc / 2 ^ m.toNat = ((s.acc.toNat / 2 ^ m.toNat : Nat) : Int) := by
      rw [Int.natCast_ediv, Int.toNat_of_nonneg hacc.1]
      congr 1
    rw [h1, Int.toNat_natCast]
  rw [e]
  by_cases h : s.acc.toNat / 2 ^ m.toNat % 2 = 1
  · rw [h]; rfl
  · have h0 : s.acc.toNat / 2 ^ m.toNat % 2 = 0 := by omega
    rw [h0]; rfl
set_option maxRecDepth 100000 in
set_option maxHeartbeats 8000000 in
theorem taccepting_any (s : Sc) (A : Option Addr) (c : Nat) (m : Int) (w : World) (hs : ScIn w s A c) (hm : 0 ≤ m ∧ m < 8) :
    Calls Tryz.prog 66 #[.agg #[.int .i64 s.n, .int .u8 s.acc, .slice A s.rs.length c], .int .i64 m] w fun e w' => e = .returned (.bool (accB s.acc m)) ∧ Below w.heap.size w w' := by
  obtain ⟨w1, hw1⟩ : ∃ w1, w.alloc (.cells #[.int .i64 s.n, .int .u8 s.acc, .slice A s.rs.length c] 29) = w1 := ⟨_, rfl⟩
  have hb1 : Below w.heap.size w w1 := by rw [← hw1]; exact nw _ (Below.refl _ _)
  have hB : Blk w1 w.heap.size 29 #[.int .i64 s.n, .int .u8 s.acc, .slice A s.rs.length c] := by rw [← hw1]; exact Blk.new _ _ _
  have HW1 := Lib.hid hw1
  have HB1 := Lib.hid hb1
  have HCE : Hid (∀ W, Below w1.heap.size w1 W → W.cell? ⟨w.heap.size, 0, none⟩ = some (.int .i64 s.n) ∧ W.cell? ⟨w.heap.size, 1, none⟩ = some (.int .u8 s.acc) ∧ W.cell? ⟨w.heap.size, 2, none⟩ = some (.slice A s.rs.length c) ∧ w.heap.size < W.heap.size) := fun W hW => by
    have e1 := hB.below hW hB.lt
    exact ⟨by rw [e1.cell]; rfl, by rw [e1.cell]; rfl, by rw [e1.cell]; rfl, e1.lt⟩
  obtain ⟨b0, b1, b2, bl⟩ := HCE.out _ (Below.refl _ _)
  clear hw1 hb1 hB
  have hacc := hs.acc
  have HM := Lib.hid hm
  obtain ⟨hm0, hm1⟩ := hm
  have hmin : min m.toNat 8 = m.toNat := by omega
  clear hs
  go_enter Tryz.func66, Tryz.ntmps66
  go_upto_region 1 with fail
  rw [HW1.out]
  go_wp2_with fail
  go_ret
  refine ⟨ret_bool ?_, HB1.out⟩
  have hp : (0 : Int) < 2 ^ m.toNat := Int.pow_pos (by omega)
  have hd0 : 0 ≤ s.acc / 2 ^ m.toNat := Int.ediv_nonneg hacc.1 (by omega)
  have hd1 : s.acc / 2 ^ m.toNat ≤ s.acc := Int.ediv_le_self _ hacc.1
  rw [(bits_u8 (s.acc / 2 ^ m.toNat) 1 (by omega) (by omega)).1]
  unfold accB
  rw [decide_eq_true hm0, Bool.true_and, Nat.testBit_eq_decide_div_mod_eq, show (1 : Int).toNat = 1 from rfl, Nat.and_one_is_mod]
  have e : (s.acc / 2 ^ m.toNat).toNat = s.acc.toNat / 2 ^ m.toNat := by
    have h1 : s.acc / 2 ^ m.toNat = ((s.acc.toNat / 2 ^ m.toNat : Nat) : Int) := by
      rw [Int.natCast_ediv, Int.toNat_of_nonneg hacc.1]
      congr 1
    rw [h1, Int.toNat_natCast]
  rw [e]
  by_cases h : s.acc.toNat / 2 ^ m.toNat % 2 = 1
  · rw [h]; rfl
  · have h0 : s.acc.toNat / 2 ^ m.toNat % 2 = 0 := by omega
    rw [h0]; rfl
set_option maxRecDepth 100000 in
set_option maxHeartbeats 8000000 in
theorem raccepts5_any (s : Sc) (A : Option Addr) (c : Nat) (m : Int) (w : World) (hs : ScIn w s A c) (hm : 0 ≤ m ∧ m < 8) :
    Calls Tryz.prog 23 #[.agg #[.int .i64 s.n, .int .u8 s.acc, .slice A s.rs.length c], .int .i64 m] w fun e w' => e = .returned (.bool (accB s.acc m)) ∧ Below w.heap.size w w' := by
  obtain ⟨w1, hw1⟩ : ∃ w1, w.alloc (.cells #[.int .i64 s.n, .int .u8 s.acc, .slice A s.rs.length c] 29) = w1 := ⟨_, rfl⟩
  have hb1 : Below w.heap.size w w1 := by rw [← hw1]; exact nw _ (Below.refl _ _)
  have hB : Blk w1 w.heap.size 29 #[.int .i64 s.n, .int .u8 s.acc, .slice A s.rs.length c] := by rw [← hw1]; exact Blk.new _ _ _
  have HW1 := Lib.hid hw1
  have HB1 := Lib.hid hb1
  have HCE : Hid (∀ W, Below w1.heap.size w1 W → W.cell? ⟨w.heap.size, 0, none⟩ = some (.int .i64 s.n) ∧ W.cell? ⟨w.heap.size, 1, none⟩ = some (.int .u8 s.acc) ∧ W.cell? ⟨w.heap.size, 2, none⟩ = some (.slice A s.rs.length c) ∧ w.heap.size < W.heap.size) := fun W hW => by
    have e1 := hB.below hW hB.lt
    exact ⟨by rw [e1.cell]; rfl, by rw [e1.cell]; rfl, by rw [e1.cell]; rfl, e1.lt⟩
  obtain ⟨b0, b1, b2, bl⟩ := HCE.out _ (Below.refl _ _)
  clear hw1 hb1 hB
  have hacc := hs.acc
  have HM := Lib.hid hm
  obtain ⟨hm0, hm1⟩ := hm
  have hmin : min m.toNat 8 = m.toNat := by omega
  clear hs
  go_enter Tryz.func23, Tryz.ntmps23
  go_upto_region 1 with fail
  rw [HW1.out]
  go_wp2_with fail
  go_ret
  refine ⟨ret_bool ?_, HB1.out⟩
  have hp : (0 : Int) < 2 ^ m.toNat := Int.pow_pos (by omega)
  have hd0 : 0 ≤ s.acc / 2 ^ m.toNat := Int.ediv_nonneg hacc.1 (by omega)
  have hd1 : s.acc / 2 ^ m.toNat ≤ s.acc := Int.ediv_le_self _ hacc.1
  rw [(bits_u8 (s.acc / 2 ^ m.toNat) 1 (by omega) (by omega)).1]
  unfold accB
  rw [decide_eq_true hm0, Bool.true_and, Nat.testBit_eq_decide_div_mod_eq, show (1 : Int).toNat = 1 from rfl, Nat.and_one_is_mod]
  have e : (s.acc / 2 ^ m.toNat).toNat = s.acc.toNat / 2 ^ m.toNat := by
    have h1 : s.acc / 2 ^ m.toNat = ((s.acc.toNat / 2 ^ m.toNat : Nat) : Int) := by
      rw [Int.natCast_ediv, Int.toNat_of_nonneg hacc.1]
      congr 1
    rw [h1, Int.toNat_natCast]
  rw [e]
  by_cases h : s.acc.toNat / 2 ^ m.toNat % 2 = 1
  · rw [h]; rfl
  · have h0 : s.acc.toNat / 2 ^ m.toNat % 2 = 0 := by omega
    rw [h0]; rfl

set_option maxRecDepth 100000 in
set_option maxHeartbeats 4000000 in
theorem modePair_any (k : (Int × ByteArray)) (w : World) : Calls Tryz.prog 31 #[.agg #[.int .i64 k.1, .string k.2]] w fun e w' => e = .returned (.int .i64 k.1) ∧ Below w.heap.size w w' := by
  obtain ⟨w1, hw1⟩ : ∃ w1, w.alloc (.cells #[.int .i64 k.1, .string k.2] 77) = w1 := ⟨_, rfl⟩
  have hb1 : Below w.heap.size w w1 := by rw [← hw1]; exact nw _ (Below.refl _ _)
  have hB : Blk w1 w.heap.size 77 #[.int .i64 k.1, .string k.2] := by rw [← hw1]; exact Blk.new _ _ _
  have HW1 := Lib.hid hw1
  have HB1 := Lib.hid hb1
  have c0 := hB.cell 0
  have cl := hB.lt
  simp at c0
  clear hw1 hb1 hB
  go_enter Tryz.func31, Tryz.ntmps31
  go_upto_region 1 with fail
  rw [HW1.out]
  go_wp2_with fail
  go_ret
  exact ⟨rfl, HB1.out⟩

set_option maxRecDepth 100000 in
set_option maxHeartbeats 4000000 in
theorem modeSpot_any (k : (Int × Int)) (w : World) : Calls Tryz.prog 26 #[.agg #[.int .i64 k.1, .int .i64 k.2]] w fun e w' => e = .returned (.int .i64 k.1) ∧ Below w.heap.size w w' := by
  obtain ⟨w1, hw1⟩ : ∃ w1, w.alloc (.cells #[.int .i64 k.1, .int .i64 k.2] 67) = w1 := ⟨_, rfl⟩
  have hb1 : Below w.heap.size w w1 := by rw [← hw1]; exact nw _ (Below.refl _ _)
  have hB : Blk w1 w.heap.size 67 #[.int .i64 k.1, .int .i64 k.2] := by rw [← hw1]; exact Blk.new _ _ _
  have HW1 := Lib.hid hw1
  have HB1 := Lib.hid hb1
  have c0 := hB.cell 0
  have cl := hB.lt
  simp at c0
  clear hw1 hb1 hB
  go_enter Tryz.func26, Tryz.ntmps26
  go_upto_region 1 with fail
  rw [HW1.out]
  go_wp2_with fail
  go_ret
  exact ⟨rfl, HB1.out⟩

set_option maxRecDepth 100000 in
set_option maxHeartbeats 4000000 in
theorem modeInt_any (k : Int) (w : World) : Calls Tryz.prog 42 #[.int .i64 k] w fun e w' => e = .returned (.int .i64 k) ∧ Below w.heap.size w w' := by
  go_enter Tryz.func42, Tryz.ntmps42
  go_wp2_with fail
  go_ret
  exact ⟨rfl, Below.refl _ _⟩

set_option maxRecDepth 100000 in
set_option maxHeartbeats 4000000 in
theorem stepPair_any (s : Sc) (k : (Int × ByteArray)) (x : Ru) (w : World) (hsz : k.2.size + x.out.size ≤ 1000000) : Calls Tryz.prog 32 #[.agg #[.int .i64 k.1, .string k.2], .agg #[.int .i64 x.fr, .int .i64 x.to, .string x.inp, .string x.out, .int .i64 x.co]] w (IsStep vPair (pairS s) k x w) := by
  obtain ⟨w3, hw3⟩ : ∃ w3, ((w.alloc (.cells #[.int .i64 k.1, .string k.2] 77)).alloc (.cells #[.int .i64 x.fr, .int .i64 x.to, .string x.inp, .string x.out, .int .i64 x.co] 55)).alloc (.cells #[.int .i64 0, .string { data := #[] }] 77) = w3 := ⟨_, rfl⟩
  obtain ⟨g, hg⟩ : ∃ g, w.heap.size = g := ⟨_, rfl⟩
  have hb3 : Below w.heap.size w w3 := by rw [← hw3]; exact nw _ (nw _ (nw _ (Below.refl _ _)))
  have hA : Blk w3 g 77 #[.int .i64 k.1, .string k.2] := by rw [← hw3, ← hg]; exact ((Blk.new _ _ _).alloc _).alloc _
  have hB : Blk w3 (g + 1) 55 #[.int .i64 x.fr, .int .i64 x.to, .string x.inp, .string x.out, .int .i64 x.co] := by rw [← hw3]; exact (Blk.new_ (by simp; omega)).alloc _
  have hC : Blk w3 (g + 2) 77 #[.int .i64 0, .string ByteArray.empty] := by rw [← hw3]; exact Blk.new_ (by simp; omega)
  have HW3 := Lib.hid hw3
  have HB3 := Lib.hid hb3
  have HC := Lib.hid hC
  have HG := Lib.hid hg
  have a0 := hA.cell 0
  have a1 := hA.cell 1
  have al := hA.lt
  have x0 := hB.cell 0
  have x1 := hB.cell 1
  have x2 := hB.cell 2
  have x3 := hB.cell 3
  have x4 := hB.cell 4
  have xl := hB.lt
  have r0 := hC.cell 0
  have r1 := hC.cell 1
  have f0 := hC.frozen 0
  have f1 := hC.frozen 1
  have rl := hC.lt
  simp at a0 a1 x0 x1 x2 x3 x4 r0 r1
  clear hw3 hb3 hA hB hC hg
  go_enter Tryz.func32, Tryz.ntmps32
  go_upto_region 1 with fail
  rw [HW3.out, HG.out]
  go_wp2_with fail
  have hbE : Below w.heap.size w ((w3.setCell ⟨g + 1 + 1, 0, none⟩ (.int .i64 x.to)).setCell ⟨g + 1 + 1, 1, none⟩ (.string (k.2 ++ x.out))) := (HB3.out.setCell (p := ⟨g + 1 + 1, 0, none⟩) (by show w.heap.size ≤ g + 1 + 1; have := HG.out; omega) _).setCell (p := ⟨g + 1 + 1, 1, none⟩) (by show w.heap.size ≤ g + 1 + 1; have := HG.out; omega) _
  have hE := (HC.out.set_ 0 (.int .i64 x.to)).set_ 1 (.string (k.2 ++ x.out))
  obtain ⟨w5, hw5⟩ : ∃ W, (w3.setCell ⟨g + 1 + 1, 0, none⟩ (.int .i64 x.to)).setCell ⟨g + 1 + 1, 1, none⟩ (.string (k.2 ++ x.out)) = W := ⟨_, rfl⟩
  rw [hw5] at hE hbE ⊢
  have q0 := hE.cell 0
  have q1 := hE.cell 1
  simp at q0 q1
  refine bodyPost_ret (v := .tuple #[.agg #[.int .i64 x.to, .string (k.2 ++ x.out)], .bool true]) (by simp [results, Tryz.results32, go_sem, q0, q1]; done) rfl ?_
  exact ⟨(x.to, k.2 ++ x.out), true, rfl, ⟨rfl, rfl⟩, hbE⟩

set_option maxRecDepth 100000 in
set_option maxHeartbeats 8000000 in
theorem stepSpot_any (s : Sc) (out : ByteArray) (m : Int) (a gO : Nat) (x : Ru) (w : World) (hO : w.cell? ⟨gO, 0, none⟩ = some (.string out)) (hl : gO < w.heap.size) (ha : a ≤ out.size) (hsz : out.size ≤ 1000000) (hxo : x.out.size ≤ 1000000) :
    Calls Tryz.prog 27 #[.agg #[.int .i64 m, .int .i64 (a : Int)], .agg #[.int .i64 x.fr, .int .i64 x.to, .string x.inp, .string x.out, .int .i64 x.co], .pointer (some ⟨gO, 0, none⟩)] w (IsStep vSpot (spotS s (bl out)) (m, (a : Int)) x w) := by
  obtain ⟨w3, hw3⟩ : ∃ w3, ((w.alloc (.cells #[.int .i64 m, .int .i64 (a : Int)] 67)).alloc (.cells #[.int .i64 x.fr, .int .i64 x.to, .string x.inp, .string x.out, .int .i64 x.co] 55)).alloc (.cells #[.int .i64 0, .int .i64 0] 67) = w3 := ⟨_, rfl⟩
  obtain ⟨g, hg⟩ : ∃ g, w.heap.size = g := ⟨_, rfl⟩
  obtain ⟨g1, hg1⟩ : ∃ h, g + 1 = h := ⟨_, rfl⟩
  obtain ⟨gr, hgr⟩ : ∃ h, g1 + 1 = h := ⟨_, rfl⟩
  have hb3 : Below w.heap.size w w3 := by rw [← hw3]; exact nw _ (nw _ (nw _ (Below.refl _ _)))
  have hA : Blk w3 g 67 #[.int .i64 m, .int .i64 (a : Int)] := by rw [← hw3, ← hg]; exact ((Blk.new _ _ _).alloc _).alloc _
  have hB : Blk w3 g1 55 #[.int .i64 x.fr, .int .i64 x.to, .string x.inp, .string x.out, .int .i64 x.co] := by rw [← hw3]; exact (Blk.new_ (by simp; omega)).alloc _
  have hC : Blk w3 gr 67 #[.int .i64 0, .int .i64 0] := by rw [← hw3]; exact Blk.new_ (by simp; omega)
  have o0 : w3.cell? ⟨gO, 0, none⟩ = some (.string out) := (hb3.cell (p := ⟨gO, 0, none⟩) hl).trans hO
  have ol : gO < w3.heap.size := Nat.lt_of_lt_of_le hl hb3.size
  have hgrw : w.heap.size ≤ gr := by omega
  have n0 : g ≠ gr := by omega
  have n1 : g1 ≠ gr := by omega
  have n2 : gO ≠ gr := by omega
  have HW3 := Lib.hid hw3
  have HB3 := Lib.hid hb3
  have HC := Lib.hid hC
  have HG := Lib.hid hg
  have HG1 := Lib.hid hg1
  have HGR := Lib.hid hgr
  have a0 := hA.cell 0
  have a1 := hA.cell 1
  have al := hA.lt
  have x0 := hB.cell 0
  have x1 := hB.cell 1
  have x2 := hB.cell 2
  have x3 := hB.cell 3
  have x4 := hB.cell 4
  have xl := hB.lt
  simp at a0 a1 x0 x1 x2 x3 x4
  obtain ⟨pb, hpb⟩ : ∃ b, decide (bl x.out <+: (bl out).drop a) = b := ⟨_, rfl⟩
  have HPC : Hid (∀ W : World, Calls Tryz.prog 28 #[.string (out.extract a out.size), .string x.out] W fun e w' => e = .returned (.bool pb) ∧ W = w') := fun W => by
    have := hasPre_any (out.extract a out.size) x.out W
    rw [bl_drop, hpb] at this
    exact this
  have HFIN : Hid (((spotS s (bl out)).step (m, (a : Int)) x = some (x.to, (a : Int) + (x.out.size : Int)) ∧ pb = true) ∨ ((spotS s (bl out)).step (m, (a : Int)) x = none ∧ pb = false)) := by
    show ((if bl x.out <+: (bl out).drop (a : Int).toNat then some (x.to, (a : Int) + (x.out.size : Int)) else none) = some _ ∧ pb = true) ∨ ((if bl x.out <+: (bl out).drop (a : Int).toNat then some (x.to, (a : Int) + (x.out.size : Int)) else none) = none ∧ pb = false)
    rw [Int.toNat_natCast]
    by_cases h : bl x.out <+: (bl out).drop a
    · rw [if_pos h]; exact .inl ⟨rfl, by rw [← hpb]; exact decide_eq_true h⟩
    · rw [if_neg h]; exact .inr ⟨rfl, by rw [← hpb]; exact decide_eq_false h⟩
  have hwr : IntKind.i64.wrap ((a : Int) + (x.out.size : Int)) = (a : Int) + (x.out.size : Int) := by rw [IntKind.wrap_i64]; omega
  have ha0 : (0 : Int) ≤ (a : Int) := by omega
  have ha1 : (a : Int) ≤ (out.size : Int) := by omega
  clear hw3 hb3 hA hB hC hg hg1 hgr hO hl hpb
  go_enter Tryz.func27, Tryz.ntmps27
  go_upto_region 1 with fail
  rw [HW3.out, HG.out, HG1.out, HGR.out]
  refine ordB_start (ButB gr w3) (.quiet 0 (.quiet 1 (.quiet 2 (.quiet 3 (.quiet 4 (.quiet 5 (.quiet 6 (.quiet 7 (.quiet 8 (.quiet 9 (.quiet 10 (.quiet 11 (.quiet 12 (.quiet 13 (.quiet 14 (.only 15 (.only 16 (.quiet 17 .done)))))))))))))))))) (by kernel_rfl) (by kernel_rfl) (by kernel_rfl) (fun _ _ _ _ _ h => h) (ButB.of_below (Below.refl _ _).drew) ?_
  have hS0 : ButB gr w3 w3.drew := ButB.of_below (Below.refl _ _).drew
  have hCW : Blk w3.drew gr 67 #[.int .i64 0, .int .i64 0] := HC.out
  have HBB : Below w.heap.size w w3.drew := HB3.out.drew
  obtain ⟨W0, qqW0⟩ : ∃ W, w3.drew = W := ⟨_, rfl⟩
  rw [qqW0] at hS0 hCW HBB ⊢
  clear qqW0
  iterate 15 (first
    | (refine ordB_skip rfl rfl ?_; simp only [Act.put, List.setIfInBounds_toArray, List.set_cons_zero, List.set_cons_succ])
    | (refine ordB_take (v := ?_) rfl rfl ?_ ?_
       rotate_left 1
       focus (intro W hW; have hcW := hW.cell; (go_simp <;> with_reducible rfl))
       simp only [Act.put, List.setIfInBounds_toArray, List.set_cons_zero, List.set_cons_succ]))
  refine ordB_only (opB_call rfl rfl (fun K hK => ?_))
  go_simp
  go_at_call 28
  refine (HPC.out W0).mono ?_
  rintro e w' ⟨rfl, rfl⟩
  refine hK.out _ _ hS0 (fun hS0_1 => ?_)
  refine ordB_only (opB_call rfl rfl (fun K hK => ?_))
  have r0 := hCW.cell 0
  have r1 := hCW.cell 1
  have f0 := hCW.frozen 0
  have f1 := hCW.frozen 1
  have rl := hCW.lt
  simp at r0 r1
  go_simp
  refine hK.out _ _ ((hS0_1.set_ 0 (.int .i64 x.to)).set_ 1 (.int .i64 ((a : Int) + (x.out.size : Int)))) (fun hS0_1_2 => ?_)
  clear hK K
  have hE := (hCW.set_ 0 (.int .i64 x.to)).set_ 1 (.int .i64 ((a : Int) + (x.out.size : Int)))
  have hbE := (HBB.setCell (p := ⟨gr, 0, none⟩) hgrw (.int .i64 x.to)).setCell (p := ⟨gr, 1, none⟩) hgrw (.int .i64 ((a : Int) + (x.out.size : Int)))
  obtain ⟨W0_2, qq⟩ : ∃ W', (W0.setCell ⟨gr, 0, none⟩ (.int .i64 x.to)).setCell ⟨gr, 1, none⟩ (.int .i64 ((a : Int) + (x.out.size : Int))) = W' := ⟨_, rfl⟩
  rw [qq] at hS0_1_2 hE hbE ⊢
  clear qq r0 r1 f0 f1 rl
  iterate 1 (first
    | (refine ordB_skip rfl rfl ?_; simp only [Act.put, List.setIfInBounds_toArray, List.set_cons_zero, List.set_cons_succ])
    | (refine ordB_take (v := ?_) rfl rfl ?_ ?_
       rotate_left 1
       focus (intro W hW; have hcW := hW.cell; (go_simp <;> with_reducible rfl))
       simp only [Act.put, List.setIfInBounds_toArray, List.set_cons_zero, List.set_cons_succ]))
  refine ordB_nil ?_
  clear hS0_1_2
  go_wp2_with fail
  have q0 := hE.cell 0
  have q1 := hE.cell 1
  simp at q0 q1
  refine bodyPost_ret (v := .tuple #[.agg #[.int .i64 x.to, .int .i64 ((a : Int) + (x.out.size : Int))], .bool pb]) (by simp [results, Tryz.results27, go_sem, q0, q1]; done) rfl ?_
  exact IsStep.of HFIN.out hbE

set_option maxRecDepth 100000 in
set_option maxHeartbeats 8000000 in
theorem stepInt_any (s : Sc) (lv : Int → Bool) (k : Int) (gO gL N : Nat) (x : Ru) (w : World) (hO : w.cell? ⟨gO, 0, none⟩ = some (.slice (some ⟨gL, 0, none⟩) N N)) (hl : gO < w.heap.size) (hL : BB w gL N lv) (hx : 0 ≤ x.to ∧ x.to < (N : Int)) (hN : N ≤ 8) :
    Calls Tryz.prog 43 #[.int .i64 k, .agg #[.int .i64 x.fr, .int .i64 x.to, .string x.inp, .string x.out, .int .i64 x.co], .pointer (some ⟨gO, 0, none⟩)] w (IsStep (fun k : Int => Value.int .i64 k) (modeS s lv) k x w) := by
  obtain ⟨w1, hw1⟩ : ∃ w1, w.alloc (.cells #[.int .i64 x.fr, .int .i64 x.to, .string x.inp, .string x.out, .int .i64 x.co] 55) = w1 := ⟨_, rfl⟩
  have hb1 : Below w.heap.size w w1 := by rw [← hw1]; exact nw _ (Below.refl _ _)
  have hB : Blk w1 w.heap.size 55 #[.int .i64 x.fr, .int .i64 x.to, .string x.inp, .string x.out, .int .i64 x.co] := by rw [← hw1]; exact Blk.new _ _ _
  have o0 : w1.cell? ⟨gO, 0, none⟩ = some (.slice (some ⟨gL, 0, none⟩) N N) := (hb1.cell (p := ⟨gO, 0, none⟩) hl).trans hO
  have ol : gO < w1.heap.size := Nat.lt_of_lt_of_le hl hb1.size
  have hL1 := hL.below hb1
  have hxN : x.to.toNat < N := by omega
  have l0 := hL1.cell hxN
  have ll := hL1.lt
  rw [Int.toNat_of_nonneg hx.1] at l0
  have HFIN : Hid (((modeS s lv).step k x = some x.to ∧ lv x.to = true) ∨ ((modeS s lv).step k x = none ∧ lv x.to = false)) := by
    show ((if lv x.to then some x.to else none) = some x.to ∧ lv x.to = true) ∨ ((if lv x.to then some x.to else none) = none ∧ lv x.to = false)
    cases h : lv x.to with
    | true => exact .inl ⟨rfl, rfl⟩
    | false => exact .inr ⟨rfl, rfl⟩
  obtain ⟨hx0, hx1⟩ := hx
  have HW1 := Lib.hid hw1
  have HB1 := Lib.hid hb1
  have x0 := hB.cell 0
  have x1 := hB.cell 1
  have xl := hB.lt
  simp at x0 x1
  clear hw1 hb1 hB hO hl hL hL1
  go_enter Tryz.func43, Tryz.ntmps43
  go_upto_region 1 with fail
  rw [HW1.out]
  refine ordB_below (.quiet 0 (.quiet 1 (.quiet 2 (.quiet 3 (.quiet 4 (.quiet 5 (.quiet 6 (.quiet 7 (.quiet 8 .done))))))))) (by kernel_rfl) (by kernel_rfl) (by kernel_rfl) (fun _ _ _ _ _ h => h) ?_
  intro W0 hS0
  iterate 9 (first
    | (refine ordB_skip rfl rfl ?_; simp only [Act.put, List.setIfInBounds_toArray, List.set_cons_zero, List.set_cons_succ])
    | (refine ordB_take (v := ?_) rfl rfl ?_ ?_
       rotate_left 1
       focus (intro W hW; obtain ⟨hcW, hfW⟩ := bcell hW; (go_simp <;> with_reducible rfl))
       simp only [Act.put, List.setIfInBounds_toArray, List.set_cons_zero, List.set_cons_succ]))
  refine ordB_nil ?_
  have hbE := hS0
  clear hS0
  go_wp2_with fail
  go_ret2
  exact IsStep.of HFIN.out (HB1.out.trans (hbE.mono HB1.out.size))
end Go.Proofs.YtkjfdjcagfkdhaaGreat
