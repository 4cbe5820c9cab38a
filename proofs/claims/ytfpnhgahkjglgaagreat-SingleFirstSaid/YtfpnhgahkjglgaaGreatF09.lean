/-
  OuWalkE, OuWalkK, joined. No conditions.
-/
import Derived.Test.YtfpnhgahkjglgaaGreatF08
import Derived.Test.YtfpnhgahkjglgaaGreatF04
import Derived.Test.YtfpnhgahkjglgaaGreatF06
set_option maxRecDepth 100000
namespace Go.Proofs.YtfpnhgahkjglgaaGreat
open Go Go.RowKit
def IsB (v : Int) (f : Int → Bool) : Prop := (0 ≤ v ∧ v < 256) ∧ ∀ m : Int, 0 ≤ m → m < 8 → v.toNat.testBit m.toNat = f m
theorem IsB.add {v : Int} {f : Int → Bool} (h : IsB v f) {k : Int} (hk : 0 ≤ k ∧ k < 8) : IsB ((v.toNat ||| 2 ^ k.toNat : Nat) : Int) (addB f k) := by
 obtain ⟨h1, h2⟩ := h
 have hp : 2 ^ k.toNat < 2 ^ 8 := Nat.pow_lt_pow_right (by omega) (by omega)
 have hb : v.toNat ||| 2 ^ k.toNat < 2 ^ 8 := Nat.or_lt_two_pow (by omega) hp
 refine ⟨⟨by omega, by omega⟩, fun m h3 h4 => ?_⟩
 rw [Int.toNat_natCast, Nat.testBit_or, Nat.testBit_two_pow, h2 m h3 h4]
 unfold addB
 by_cases e : m = k
 ·subst e; simp
 ·have : ¬ k.toNat = m.toNat := by omega
  simp [e, this]
theorem hopB_pos {f : Int → Bool} {e : Int × Int} (h : f e.1 = true) : hopB f e = addB f e.2 := if_pos h
theorem hopB_neg {f : Int → Bool} {e : Int × Int} (h : ¬ f e.1 = true) : hopB f e = f := if_neg h
theorem IsB.step {v : Int} {E : List (Int × Int)} {f : Int → Bool} {k : Nat} {a b : Int} (h : IsB v ((E.take k).foldl hopB f)) (he : E[k]? = some (a, b)) (ha : 0 ≤ a ∧ a < 8) (hb : 0 ≤ b ∧ b < 8) (ht : v.toNat.testBit a.toNat = true) : IsB ((v.toNat ||| 2 ^ b.toNat : Nat) : Int) ((E.take (k + 1)).foldl hopB f) := by
 rw [take_succ_of he, List.foldl_append]
 show IsB _ (hopB ((E.take k).foldl hopB f) (a, b))
 rw [hopB_pos (by rw [← h.2 a ha.1 ha.2]; exact ht)]
 exact h.add hb
theorem IsB.stay {v : Int} {E : List (Int × Int)} {f : Int → Bool} {k : Nat} {a b : Int} (h : IsB v ((E.take k).foldl hopB f)) (he : E[k]? = some (a, b)) (ha : 0 ≤ a ∧ a < 8) (ht : v.toNat.testBit a.toNat = false) : IsB v ((E.take (k + 1)).foldl hopB f) := by
 rw [take_succ_of he, List.foldl_append]
 show IsB _ (hopB ((E.take k).foldl hopB f) (a, b))
 rw [hopB_neg (by rw [← h.2 a ha.1 ha.2, ht]; simp)]
 exact h
theorem pow8 {m : Int} (h : 0 ≤ m ∧ m < 8) : 1 ≤ (2 : Int) ^ m.toNat ∧ (2 : Int) ^ m.toNat ≤ 128 := by
 have : m = 0 ∨ m = 1 ∨ m = 2 ∨ m = 3 ∨ m = 4 ∨ m = 5 ∨ m = 6 ∨ m = 7 := by omega
 rcases this with rfl | rfl | rfl | rfl | rfl | rfl | rfl | rfl <;> decide
theorem pow_toNat (n : Nat) : ((2 : Int) ^ n).toNat = 2 ^ n := by
 have : (2 : Int) ^ n = ((2 ^ n : Nat) : Int) := by simp
 rw [this, Int.toNat_natCast]
set_option maxHeartbeats 4000000 in
theorem one_any (m : Int) (w : World) (h : 0 ≤ m ∧ m < 8) : Calls Tryz.prog 86 #[.int .i64 m] w fun e w' => e = .returned (.int .u8 (2 ^ m.toNat)) ∧ w = w' := by
 obtain ⟨h0, h1⟩ := h
 have hp := pow8 ⟨h0, h1⟩
 obtain ⟨q, hq⟩ : ∃ q, (2 : Int) ^ m.toNat = q := ⟨_, rfl⟩
 rw [hq] at hp ⊢
 have hmin : min m.toNat 8 = m.toNat := by omega
 have hwr : IntKind.u8.wrap q = q := by unfold IntKind.wrap; simp [IntKind.bits, IntKind.signed]; omega
 go_enter Tryz.func86, Tryz.ntmps86
 go_wp2_with fail
 go_ret
 exact ⟨by first | rfl | (simp; done), rfl⟩
theorem bits_u8 (x y : Int) (hx : 0 ≤ x ∧ x < 256) (hy : 0 ≤ y ∧ y < 256) : bits .and .u8 x y = ((x.toNat &&& y.toNat : Nat) : Int) ∧ bits .or .u8 x y = ((x.toNat ||| y.toNat : Nat) : Int) := by
 have h1 : x.toNat < 2 ^ 8 := by omega
 have h2 : y.toNat < 2 ^ 8 := by omega
 have h3 := (bits_nat .u8 8 (by decide) wraps_u8 x.toNat y.toNat h1 h2)
 rw [Int.toNat_of_nonneg hx.1, Int.toNat_of_nonneg hy.1] at h3
 exact h3
theorem or_pow {u m : Int} (hu : 0 ≤ u ∧ u < 256) (h : 0 ≤ m ∧ m < 8) : bits .or .u8 u (2 ^ m.toNat) = ((u.toNat ||| 2 ^ m.toNat : Nat) : Int) := by
 have hp := pow8 h
 rw [(bits_u8 u _ hu (by omega)).2, pow_toNat]
set_option maxHeartbeats 4000000 in
theorem has_any (v m : Int) (w : World) (hv : 0 ≤ v ∧ v < 256) (h : 0 ≤ m ∧ m < 8) : Calls Tryz.prog 54 #[.int .u8 v, .int .i64 m] w fun e w' => e = .returned (.bool (v.toNat.testBit m.toNat)) ∧ w = w' := by
 go_enter Tryz.func54, Tryz.ntmps54
 go_wp2_with (go_at_call 86; go_loud (refine (one_any m _ h).mono ?_; rintro e w' ⟨rfl, rfl⟩))
 go_ret
 exact ⟨ret_bool (by
  have hp := pow8 h
  rw [(bits_u8 v _ hv (by omega)).1]
  have h2 := and_two_pow_eq_zero v m.toNat hv.1
  have h3 : v.toNat.testBit m.toNat = decide (v / 2 ^ m.toNat % 2 = 1) := by
   rw [Nat.testBit_eq_decide_div_mod_eq, decide_eq_decide]
   have e : v / 2 ^ m.toNat = ((v.toNat / 2 ^ m.toNat : Nat) : Int) := by
    rw [Int.natCast_ediv, Int.toNat_of_nonneg hv.1]
    congr 1
   rw [e]
   omega
  rw [h3]
  by_cases hz : v.toNat &&& ((2 : Int) ^ m.toNat).toNat = 0
  ·have := h2.1 hz
   simp [hz, this]
  ·have : v / 2 ^ m.toNat % 2 = 1 := Classical.byContradiction fun h => hz (h2.2 h)
   rw [decide_eq_true this]
   simpa using hz), rfl⟩
theorem isB_acc {s : Sc} (h : 0 ≤ s.acc ∧ s.acc ≤ 255) : IsB s.acc (accB s.acc) := ⟨by omega, fun m h1 _ => by unfold accB; rw [decide_eq_true h1, Bool.true_and]⟩
theorem isB_zero : IsB 1 (fun m => decide (m = 0)) := by
 refine ⟨by decide, fun m h1 h2 => ?_⟩
 have : m = 0 ∨ m = 1 ∨ m = 2 ∨ m = 3 ∨ m = 4 ∨ m = 5 ∨ m = 6 ∨ m = 7 := by omega
 rcases this with rfl | rfl | rfl | rfl | rfl | rfl | rfl | rfl <;> decide
set_option maxHeartbeats 8000000 in
theorem live05_any (s : Sc) (A : Option Addr) (c : Nat) (w : World) (hs : ScIn w s A c) (hok : ScOK s) :
 Calls Tryz.prog 53 #[.agg #[.int .i64 s.n, .int .u8 s.acc, .slice A s.rs.length c]] w fun e w' => (∃ v : Int, e = .returned (.int .u8 v) ∧ IsB v (cloN s.backs (accB s.acc) s.n.toNat)) ∧ Below w.heap.size w w' := by
 obtain ⟨w1, hw1⟩ : ∃ w1, w.alloc (.cells #[.int .i64 s.n, .int .u8 s.acc, .slice A s.rs.length c] 30) = w1 := ⟨_, rfl⟩
 have hb1 : Below w.heap.size w w1 := by rw [← hw1]; exact nw _ (Below.refl _ _)
 have hB : Blk w1 w.heap.size 30 #[.int .i64 s.n, .int .u8 s.acc, .slice A s.rs.length c] := by rw [← hw1]; exact Blk.new _ _ _
 have HW1 := Lib.hid hw1
 have HB1 := Lib.hid hb1
 have HCE : Hid (∀ W, Below w1.heap.size w1 W → W.cell? ⟨w.heap.size, 0, none⟩ = some (.int .i64 s.n) ∧ W.cell? ⟨w.heap.size, 1, none⟩ = some (.int .u8 s.acc) ∧ W.cell? ⟨w.heap.size, 2, none⟩ = some (.slice A s.rs.length c) ∧ w.heap.size < W.heap.size) := fun W hW => by
  have e1 := hB.below hW hB.lt
  exact ⟨by rw [e1.cell]; rfl, by rw [e1.cell]; rfl, by rw [e1.cell]; rfl, e1.lt⟩
 obtain ⟨b0, b1, b2, bl⟩ := HCE.out _ (Below.refl _ _)
 clear hw1 hb1 hB
 have HS := Lib.hid hs
 have hl := hs.len
 have hacc := hs.acc
 have hn := hok.1
 have HOK := Lib.hid hok
 clear hs hok
 go_enter Tryz.func53, Tryz.ntmps53
 go_upto_region 1 with fail
 rw [HW1.out]
 go_wp2_with fail
 go_loopw [3, 10] (fun lv iv wr => ∃ (v : Int) (j : Nat), j ≤ s.n.toNat ∧ Hid (IsB v (cloN s.backs (accB s.acc) j)) ∧ lv = .int .u8 v ∧ iv = .int .i64 (j : Int) ∧ Below w1.heap.size w1 wr) (fun _ iv _ => s.n.toNat - (intOf iv).toNat)
 case atStart => exact ⟨s.acc, 0, by omega, (by show IsB _ _; exact isB_acc hacc), rfl, rfl, Below.refl _ _⟩
 case round =>
  obtain ⟨wR, rfl⟩ : ∃ W, W = wr := ⟨wr, rfl⟩
  obtain ⟨v, j, hj, HV, rfl, rfl, hbr⟩ := hrel
  have HBR := Lib.hid hbr
  clear hbr
  obtain ⟨b0, b1, b2, bl⟩ := HCE.out _ HBR.out
  by_cases hlt : j < s.n.toNat
  ·have hji : (j : Int) < s.n := by omega
   obtain ⟨jn, hjn⟩ : ∃ q, q = j + 1 := ⟨_, rfl⟩
   have HJN := Lib.hid hjn
   clear hjn
   go_wp2_with fail
   go_loopw [3, 15] (fun lv iv wi => ∃ (u : Int) (k : Nat), k ≤ s.rs.length ∧ Hid (IsB u ((s.backs.take k).foldl hopB (cloN s.backs (accB s.acc) j))) ∧ lv = .int .u8 u ∧ iv = .int .i64 (k : Int) ∧ Below w1.heap.size w1 wi) (fun _ iv _ => s.rs.length - (intOf iv).toNat)
   case atStart => exact ⟨v, 0, by omega, HV.out, rfl, rfl, HBR.out⟩
   case round =>
    obtain ⟨wi, rfl⟩ : ∃ W, W = wr := ⟨wr, rfl⟩
    obtain ⟨u, k, hk, HU, rfl, rfl, hbi⟩ := hrel
    have HBI := Lib.hid hbi
    clear hbi
    clear b0 b1 b2 bl
    obtain ⟨b0, b1, b2, bl⟩ := HCE.out _ HBI.out
    by_cases hkl : k < s.rs.length
    ·obtain ⟨b, off, x, rfl, hbb, hxx, d0, d1, d2, d3, d4⟩ := ((HS.out.below (bthen HB1.out HBI.out)).sl).ru hkl
     have hru := HOK.out.2.2.2.1 x (List.mem_of_getElem? hxx)
     have HEX : Hid (s.backs[k]? = some (x.to, x.fr)) := by show (s.rs.map _)[k]? = _; rw [List.getElem?_map, hxx]; rfl
     have hki : (k : Int) < (s.rs.length : Int) := by omega
     have hk0 : (0 : Int) ≤ (k : Int) := by omega
     have hm1 : 0 ≤ x.to ∧ x.to < 8 := by have := hru.1; omega
     have hm2 : 0 ≤ x.fr ∧ x.fr < 8 := by have := hru.1; omega
     have hub := HU.out.1
     clear hxx hru
     go_upto_region 7 with fail
     obtain ⟨W2, hW2⟩ : ∃ W, wi.alloc (.cells #[.int .i64 x.fr, .int .i64 x.to, .string x.inp, .string x.out, .int .i64 x.co] 61) = W := ⟨_, rfl⟩
     have hb2 : Below wi.heap.size wi W2 := by rw [← hW2]; exact nw _ (Below.refl _ _)
     have hX : Blk W2 wi.heap.size 61 #[.int .i64 x.fr, .int .i64 x.to, .string x.inp, .string x.out, .int .i64 x.co] := by rw [← hW2]; exact Blk.new _ _ _
     rw [hW2]
     obtain ⟨g, hg⟩ : ∃ b, wi.heap.size = b := ⟨_, rfl⟩
     have HB2 := Lib.hid (bthen HBI.out hb2)
     rw [hg] at hX ⊢
     have x0 := hX.cell 0
     have x1 := hX.cell 1
     have xl := hX.lt
     simp at x0 x1
     clear hW2 hb2 hX hg d0 d1 d2 d3 d4 hbb b0 b1 b2 bl
     by_cases hh : u.toNat.testBit (x.to).toNat = true
     ·have HNX : Hid (IsB ((u.toNat ||| 2 ^ (x.fr).toNat : Nat) : Int) ((s.backs.take (k + 1)).foldl hopB (cloN s.backs (accB s.acc) j))) := IsB.step HU.out HEX.out hm1 hm2 hh
      go_wp2_with (first | (go_at_call 54; go_loud (refine (has_any u x.to _ hub hm1).mono ?_; rintro e w' ⟨rfl, rfl⟩)) | (go_at_call 86; go_loud (refine (one_any x.fr _ hm2).mono ?_; rintro e w' ⟨rfl, rfl⟩)))
      rw [or_pow hub hm2]
      go_roundw
      case rel => exact ⟨_, k + 1, by omega, HNX.out, rfl, by go_num, HB2.out⟩
      case measure => simp [intOf]; omega
     ·have hh : u.toNat.testBit (x.to).toNat = false := by simpa using hh
      have HNX : Hid (IsB u ((s.backs.take (k + 1)).foldl hopB (cloN s.backs (accB s.acc) j))) := IsB.stay HU.out HEX.out hm1 hh
      go_wp2_with (first | (go_at_call 54; go_loud (refine (has_any u x.to _ hub hm1).mono ?_; rintro e w' ⟨rfl, rfl⟩)))
      go_roundw
      case rel => exact ⟨u, k + 1, by omega, HNX.out, rfl, by go_num, HB2.out⟩
      case measure => simp [intOf]; omega
    ·have HUE : Hid (IsB u (cloN s.backs (accB s.acc) jn)) := by
      show IsB _ _
      rw [HJN.out]
      show IsB u (cloB s.backs (cloN s.backs (accB s.acc) j))
      have := HU.out
      rwa [List.take_of_length_le (by show (s.rs.map _).length ≤ _; rw [List.length_map]; omega)] at this
     have hjnI : (jn : Int) = (j : Int) + 1 := by have := HJN.out; omega
     have HJI := Lib.hid hjnI
     have hjl : jn ≤ s.n.toNat := by have := HJN.out; omega
     clear hjnI
     go_wp2_with fail
     go_roundw
     case rel => exact ⟨u, jn, hjl, HUE.out, rfl, by rw [HJI.out], HBI.out⟩
     case measure => have := HJN.out; simp [intOf]; omega
  ·obtain rfl : j = s.n.toNat := by omega
   have hji : ¬ ((s.n.toNat : Nat) : Int) < s.n := by omega
   go_wp2_with fail
   go_ret
   exact ⟨⟨v, rfl, HV.out⟩, bthen HB1.out HBR.out⟩
set_option maxHeartbeats 8000000 in
theorem reached05_any (s : Sc) (A : Option Addr) (c : Nat) (w : World) (hs : ScIn w s A c) (hok : ScOK s) :
 Calls Tryz.prog 55 #[.agg #[.int .i64 s.n, .int .u8 s.acc, .slice A s.rs.length c]] w fun e w' => (∃ v : Int, e = .returned (.int .u8 v) ∧ IsB v (cloN s.edges (fun m => decide (m = 0)) s.n.toNat)) ∧ Below w.heap.size w w' := by
 obtain ⟨w1, hw1⟩ : ∃ w1, w.alloc (.cells #[.int .i64 s.n, .int .u8 s.acc, .slice A s.rs.length c] 30) = w1 := ⟨_, rfl⟩
 have hb1 : Below w.heap.size w w1 := by rw [← hw1]; exact nw _ (Below.refl _ _)
 have hB : Blk w1 w.heap.size 30 #[.int .i64 s.n, .int .u8 s.acc, .slice A s.rs.length c] := by rw [← hw1]; exact Blk.new _ _ _
 have HW1 := Lib.hid hw1
 have HB1 := Lib.hid hb1
 have HCE : Hid (∀ W, Below w1.heap.size w1 W → W.cell? ⟨w.heap.size, 0, none⟩ = some (.int .i64 s.n) ∧ W.cell? ⟨w.heap.size, 1, none⟩ = some (.int .u8 s.acc) ∧ W.cell? ⟨w.heap.size, 2, none⟩ = some (.slice A s.rs.length c) ∧ w.heap.size < W.heap.size) := fun W hW => by
  have e1 := hB.below hW hB.lt
  exact ⟨by rw [e1.cell]; rfl, by rw [e1.cell]; rfl, by rw [e1.cell]; rfl, e1.lt⟩
 obtain ⟨b0, b1, b2, bl⟩ := HCE.out _ (Below.refl _ _)
 clear hw1 hb1 hB
 have HS := Lib.hid hs
 have hl := hs.len
 have hacc := hs.acc
 have hn := hok.1
 have HOK := Lib.hid hok
 clear hs hok
 go_enter Tryz.func55, Tryz.ntmps55
 go_upto_region 1 with fail
 rw [HW1.out]
 go_wp2_with (go_at_call 86; go_loud (refine (one_any 0 _ (by omega)).mono ?_; rintro e w' ⟨rfl, rfl⟩))
 go_loopw [3, 9] (fun lv iv wr => ∃ (v : Int) (j : Nat), j ≤ s.n.toNat ∧ Hid (IsB v (cloN s.edges (fun m => decide (m = 0)) j)) ∧ lv = .int .u8 v ∧ iv = .int .i64 (j : Int) ∧ Below w1.heap.size w1 wr) (fun _ iv _ => s.n.toNat - (intOf iv).toNat)
 case atStart => exact ⟨1, 0, by omega, (by show IsB _ _; exact isB_zero), rfl, rfl, Below.refl _ _⟩
 case round =>
  obtain ⟨wR, rfl⟩ : ∃ W, W = wr := ⟨wr, rfl⟩
  obtain ⟨v, j, hj, HV, rfl, rfl, hbr⟩ := hrel
  have HBR := Lib.hid hbr
  clear hbr
  obtain ⟨b0, b1, b2, bl⟩ := HCE.out _ HBR.out
  by_cases hlt : j < s.n.toNat
  ·have hji : (j : Int) < s.n := by omega
   obtain ⟨jn, hjn⟩ : ∃ q, q = j + 1 := ⟨_, rfl⟩
   have HJN := Lib.hid hjn
   clear hjn
   go_wp2_with fail
   go_loopw [3, 14] (fun lv iv wi => ∃ (u : Int) (k : Nat), k ≤ s.rs.length ∧ Hid (IsB u ((s.edges.take k).foldl hopB (cloN s.edges (fun m => decide (m = 0)) j))) ∧ lv = .int .u8 u ∧ iv = .int .i64 (k : Int) ∧ Below w1.heap.size w1 wi) (fun _ iv _ => s.rs.length - (intOf iv).toNat)
   case atStart => exact ⟨v, 0, by omega, HV.out, rfl, rfl, HBR.out⟩
   case round =>
    obtain ⟨wi, rfl⟩ : ∃ W, W = wr := ⟨wr, rfl⟩
    obtain ⟨u, k, hk, HU, rfl, rfl, hbi⟩ := hrel
    have HBI := Lib.hid hbi
    clear hbi
    clear b0 b1 b2 bl
    obtain ⟨b0, b1, b2, bl⟩ := HCE.out _ HBI.out
    by_cases hkl : k < s.rs.length
    ·obtain ⟨b, off, x, rfl, hbb, hxx, d0, d1, d2, d3, d4⟩ := ((HS.out.below (bthen HB1.out HBI.out)).sl).ru hkl
     have hru := HOK.out.2.2.2.1 x (List.mem_of_getElem? hxx)
     have HEX : Hid (s.edges[k]? = some (x.fr, x.to)) := by show (s.rs.map _)[k]? = _; rw [List.getElem?_map, hxx]; rfl
     have hki : (k : Int) < (s.rs.length : Int) := by omega
     have hk0 : (0 : Int) ≤ (k : Int) := by omega
     have hm1 : 0 ≤ x.fr ∧ x.fr < 8 := by have := hru.1; omega
     have hm2 : 0 ≤ x.to ∧ x.to < 8 := by have := hru.1; omega
     have hub := HU.out.1
     clear hxx hru
     go_upto_region 7 with fail
     obtain ⟨W2, hW2⟩ : ∃ W, wi.alloc (.cells #[.int .i64 x.fr, .int .i64 x.to, .string x.inp, .string x.out, .int .i64 x.co] 61) = W := ⟨_, rfl⟩
     have hb2 : Below wi.heap.size wi W2 := by rw [← hW2]; exact nw _ (Below.refl _ _)
     have hX : Blk W2 wi.heap.size 61 #[.int .i64 x.fr, .int .i64 x.to, .string x.inp, .string x.out, .int .i64 x.co] := by rw [← hW2]; exact Blk.new _ _ _
     rw [hW2]
     obtain ⟨g, hg⟩ : ∃ b, wi.heap.size = b := ⟨_, rfl⟩
     have HB2 := Lib.hid (bthen HBI.out hb2)
     rw [hg] at hX ⊢
     have x0 := hX.cell 0
     have x1 := hX.cell 1
     have xl := hX.lt
     simp at x0 x1
     clear hW2 hb2 hX hg d0 d1 d2 d3 d4 hbb b0 b1 b2 bl
     by_cases hh : u.toNat.testBit (x.fr).toNat = true
     ·have HNX : Hid (IsB ((u.toNat ||| 2 ^ (x.to).toNat : Nat) : Int) ((s.edges.take (k + 1)).foldl hopB (cloN s.edges (fun m => decide (m = 0)) j))) := IsB.step HU.out HEX.out hm1 hm2 hh
      go_wp2_with (first | (go_at_call 54; go_loud (refine (has_any u x.fr _ hub hm1).mono ?_; rintro e w' ⟨rfl, rfl⟩)) | (go_at_call 86; go_loud (refine (one_any x.to _ hm2).mono ?_; rintro e w' ⟨rfl, rfl⟩)))
      rw [or_pow hub hm2]
      go_roundw
      case rel => exact ⟨_, k + 1, by omega, HNX.out, rfl, by go_num, HB2.out⟩
      case measure => simp [intOf]; omega
     ·have hh : u.toNat.testBit (x.fr).toNat = false := by simpa using hh
      have HNX : Hid (IsB u ((s.edges.take (k + 1)).foldl hopB (cloN s.edges (fun m => decide (m = 0)) j))) := IsB.stay HU.out HEX.out hm1 hh
      go_wp2_with (first | (go_at_call 54; go_loud (refine (has_any u x.fr _ hub hm1).mono ?_; rintro e w' ⟨rfl, rfl⟩)))
      go_roundw
      case rel => exact ⟨u, k + 1, by omega, HNX.out, rfl, by go_num, HB2.out⟩
      case measure => simp [intOf]; omega
    ·have HUE : Hid (IsB u (cloN s.edges (fun m => decide (m = 0)) jn)) := by
      show IsB _ _
      rw [HJN.out]
      show IsB u (cloB s.edges (cloN s.edges (fun m => decide (m = 0)) j))
      have := HU.out
      rwa [List.take_of_length_le (by show (s.rs.map _).length ≤ _; rw [List.length_map]; omega)] at this
     have hjnI : (jn : Int) = (j : Int) + 1 := by have := HJN.out; omega
     have HJI := Lib.hid hjnI
     have hjl : jn ≤ s.n.toNat := by have := HJN.out; omega
     clear hjnI
     go_wp2_with fail
     go_roundw
     case rel => exact ⟨u, jn, hjl, HUE.out, rfl, by rw [HJI.out], HBI.out⟩
     case measure => have := HJN.out; simp [intOf]; omega
  ·obtain rfl : j = s.n.toNat := by omega
   have hji : ¬ ((s.n.toNat : Nat) : Int) < s.n := by omega
   go_wp2_with fail
   go_ret
   exact ⟨⟨v, rfl, HV.out⟩, bthen HB1.out HBR.out⟩
end Go.Proofs.YtfpnhgahkjglgaaGreat
namespace Go.Proofs.YtfpnhgahkjglgaaGreat
open Go Go.RowKit Go.Maps
theorem grown_at {w w1 w2 : World} {b : Nat} (h : Below w.heap.size w w1) (h2 : w1.grownBy w2 (some b)) (_hb : b < w.heap.size) : w.grownBy w2 (some b) :=
 ⟨h2.os.trans h.os, h2.tape.trans h.tape, h2.output.trans h.output, Nat.le_trans h.size h2.size, fun i hi hn => (h2.block i (Nat.lt_of_lt_of_le hi h.size) hn).trans (h.block i hi)⟩
theorem grown_below {w w1 : World} (h : Below w.heap.size w w1) (b : Nat) : w.grownBy w1 (some b) := ⟨h.os, h.tape, h.output, h.size, fun i hi _ => h.block i hi⟩
def IsRelax {K : Type} [DecidableEq K] (kt : TypeId) (enc : K → Value) (b n : Nat) (M : K → Option Int) (k : K) (c : Int) (w : World) (e : Ending) (w' : World) : Prop :=
 e = .returned (.bool (newsB M k c)) ∧ Tab Tryz.prog kt 3 enc w' b (n + 1) (relaxT M k c) ∧ w.grownBy w' (some b)
set_option maxHeartbeats 8000000 in
theorem relaxPair_any (k : (Int × ByteArray)) (c : Int) (b n : Nat) (M : (Int × ByteArray) → Option Int) (w : World) (hT : Tab Tryz.prog 85 3 vPair w b n M) (hn : n < maxLen) (hk : KOk Tryz.prog 85 vPair k) (hc : (Lit.int .i64 c).wf = true) :
 Calls Tryz.prog 79 #[.map (some b), .agg #[.int .i64 k.1, .string k.2], .int .i64 c] w (IsRelax 85 vPair b n M k c w) := by
 obtain ⟨oo, ho⟩ : ∃ o, M k = o := ⟨_, rfl⟩
 have hlt := hT.lt
 obtain ⟨w1, hw1⟩ : ∃ w1, w.alloc (.cells #[.int .i64 k.1, .string k.2] 85) = w1 := ⟨_, rfl⟩
 have hb1 : Below w.heap.size w w1 := by rw [← hw1]; exact nw _ (Below.refl _ _)
 have hB : Blk w1 w.heap.size 85 #[.int .i64 k.1, .string k.2] := by rw [← hw1]; exact Blk.new _ _ _
 have hT1 : Tab Tryz.prog 85 3 vPair w1 b n M := hT.keep (hb1.block b hlt)
 have HW1 := Lib.hid hw1
 have HB1 := Lib.hid hb1
 have c0 := hB.cell 0
 have c1 := hB.cell 1
 have cl := hB.lt
 simp at c0 c1
 have HT1 := Lib.hid hT1
 have HK := Lib.hid hk
 clear hw1 hb1 hB hT1 hT hk
 go_enter Tryz.func79, Tryz.ntmps79
 go_upto_region 1 with fail
 rw [HW1.out]
 cases oo with
 | none =>
  have HN : Hid (newsB M k c = true) := by show newsB M k c = true; unfold newsB; rw [ho]
  have HP : Hid (relaxT M k c = putT M k c) := relaxT_new (fun o h => by rw [ho] at h; cases h)
  go_wp2_with (first | (at_lookup; refine tab_lookup_ok ktPair _ rfl _ _ rfl rfl HT1.out k rfl HK.out ?_; rw [ho]) | (at_mapUpdate; refine tab_put ktPair _ rfl _ _ _ rfl rfl HT1.out hn k c rfl rfl HK.out hc ?_; intro w2 hT2 hg2 hs2))
  go_ret
  exact ⟨by rw [HN.out] <;> rfl, by rw [HP.out]; exact hT2, grown_at HB1.out hg2 hlt⟩
 | some o =>
  by_cases hle : o ≤ c
  ·have HN : Hid (newsB M k c = false) := by show newsB M k c = false; unfold newsB; rw [ho]; exact decide_eq_false (by omega)
   go_wp2_with (first | (at_lookup; refine tab_lookup_ok ktPair _ rfl _ _ rfl rfl HT1.out k rfl HK.out ?_; rw [ho]))
   go_ret
   exact ⟨by rw [HN.out] <;> rfl, by rw [news_no HN.out]; exact HT1.out.mono (Nat.le_succ _), grown_below HB1.out b⟩
  ·have HN : Hid (newsB M k c = true) := by show newsB M k c = true; unfold newsB; rw [ho]; exact decide_eq_true (by omega)
   have HP : Hid (relaxT M k c = putT M k c) := relaxT_new (fun o' h => by rw [ho] at h; injection h with h; omega)
   go_wp2_with (first | (at_lookup; refine tab_lookup_ok ktPair _ rfl _ _ rfl rfl HT1.out k rfl HK.out ?_; rw [ho]) | (at_mapUpdate; refine tab_put ktPair _ rfl _ _ _ rfl rfl HT1.out hn k c rfl rfl HK.out hc ?_; intro w2 hT2 hg2 hs2))
   go_ret
   exact ⟨by rw [HN.out] <;> rfl, by rw [HP.out]; exact hT2, grown_at HB1.out hg2 hlt⟩
set_option maxHeartbeats 8000000 in
theorem relaxSpot_any (k : (Int × Int)) (c : Int) (b n : Nat) (M : (Int × Int) → Option Int) (w : World) (hT : Tab Tryz.prog 139 3 vSpot w b n M) (hn : n < maxLen) (hk : KOk Tryz.prog 139 vSpot k) (hc : (Lit.int .i64 c).wf = true) :
 Calls Tryz.prog 100 #[.map (some b), .agg #[.int .i64 k.1, .int .i64 k.2], .int .i64 c] w (IsRelax 139 vSpot b n M k c w) := by
 obtain ⟨oo, ho⟩ : ∃ o, M k = o := ⟨_, rfl⟩
 have hlt := hT.lt
 obtain ⟨w1, hw1⟩ : ∃ w1, w.alloc (.cells #[.int .i64 k.1, .int .i64 k.2] 139) = w1 := ⟨_, rfl⟩
 have hb1 : Below w.heap.size w w1 := by rw [← hw1]; exact nw _ (Below.refl _ _)
 have hB : Blk w1 w.heap.size 139 #[.int .i64 k.1, .int .i64 k.2] := by rw [← hw1]; exact Blk.new _ _ _
 have hT1 : Tab Tryz.prog 139 3 vSpot w1 b n M := hT.keep (hb1.block b hlt)
 have HW1 := Lib.hid hw1
 have HB1 := Lib.hid hb1
 have c0 := hB.cell 0
 have c1 := hB.cell 1
 have cl := hB.lt
 simp at c0 c1
 have HT1 := Lib.hid hT1
 have HK := Lib.hid hk
 clear hw1 hb1 hB hT1 hT hk
 go_enter Tryz.func100, Tryz.ntmps100
 go_upto_region 1 with fail
 rw [HW1.out]
 cases oo with
 | none =>
  have HN : Hid (newsB M k c = true) := by show newsB M k c = true; unfold newsB; rw [ho]
  have HP : Hid (relaxT M k c = putT M k c) := relaxT_new (fun o h => by rw [ho] at h; cases h)
  go_wp2_with (first | (at_lookup; refine tab_lookup_ok ktSpot _ rfl _ _ rfl rfl HT1.out k rfl HK.out ?_; rw [ho]) | (at_mapUpdate; refine tab_put ktSpot _ rfl _ _ _ rfl rfl HT1.out hn k c rfl rfl HK.out hc ?_; intro w2 hT2 hg2 hs2))
  go_ret
  exact ⟨by rw [HN.out] <;> rfl, by rw [HP.out]; exact hT2, grown_at HB1.out hg2 hlt⟩
 | some o =>
  by_cases hle : o ≤ c
  ·have HN : Hid (newsB M k c = false) := by show newsB M k c = false; unfold newsB; rw [ho]; exact decide_eq_false (by omega)
   go_wp2_with (first | (at_lookup; refine tab_lookup_ok ktSpot _ rfl _ _ rfl rfl HT1.out k rfl HK.out ?_; rw [ho]))
   go_ret
   exact ⟨by rw [HN.out] <;> rfl, by rw [news_no HN.out]; exact HT1.out.mono (Nat.le_succ _), grown_below HB1.out b⟩
  ·have HN : Hid (newsB M k c = true) := by show newsB M k c = true; unfold newsB; rw [ho]; exact decide_eq_true (by omega)
   have HP : Hid (relaxT M k c = putT M k c) := relaxT_new (fun o' h => by rw [ho] at h; injection h with h; omega)
   go_wp2_with (first | (at_lookup; refine tab_lookup_ok ktSpot _ rfl _ _ rfl rfl HT1.out k rfl HK.out ?_; rw [ho]) | (at_mapUpdate; refine tab_put ktSpot _ rfl _ _ _ rfl rfl HT1.out hn k c rfl rfl HK.out hc ?_; intro w2 hT2 hg2 hs2))
   go_ret
   exact ⟨by rw [HN.out] <;> rfl, by rw [HP.out]; exact hT2, grown_at HB1.out hg2 hlt⟩
set_option maxHeartbeats 8000000 in
theorem relaxStr_any (k : ByteArray) (c : Int) (b n : Nat) (M : ByteArray → Option Int) (w : World) (hT : Tab Tryz.prog 9 3 (fun k : ByteArray => Value.string k) w b n M) (hn : n < maxLen) (hk : KOk Tryz.prog 9 (fun k : ByteArray => Value.string k) k) (hc : (Lit.int .i64 c).wf = true) :
 Calls Tryz.prog 43 #[.map (some b), .string k, .int .i64 c] w (IsRelax 9 (fun k : ByteArray => Value.string k) b n M k c w) := by
 obtain ⟨oo, ho⟩ : ∃ o, M k = o := ⟨_, rfl⟩
 have hlt := hT.lt
 have HT1 := Lib.hid hT
 have HB1 : Hid (Below w.heap.size w w) := Below.refl _ _
 have HK := Lib.hid hk
 clear hT hk
 go_enter Tryz.func43, Tryz.ntmps43
 cases oo with
 | none =>
  have HN : Hid (newsB M k c = true) := by show newsB M k c = true; unfold newsB; rw [ho]
  have HP : Hid (relaxT M k c = putT M k c) := relaxT_new (fun o h => by rw [ho] at h; cases h)
  go_wp2_with (first | (at_lookup; refine tab_lookup_ok ktStr _ rfl _ _ rfl rfl HT1.out k rfl HK.out ?_; rw [ho]) | (at_mapUpdate; refine tab_put ktStr _ rfl _ _ _ rfl rfl HT1.out hn k c rfl rfl HK.out hc ?_; intro w2 hT2 hg2 hs2))
  go_ret
  exact ⟨by rw [HN.out] <;> rfl, by rw [HP.out]; exact hT2, grown_at HB1.out hg2 hlt⟩
 | some o =>
  by_cases hle : o ≤ c
  ·have HN : Hid (newsB M k c = false) := by show newsB M k c = false; unfold newsB; rw [ho]; exact decide_eq_false (by omega)
   go_wp2_with (first | (at_lookup; refine tab_lookup_ok ktStr _ rfl _ _ rfl rfl HT1.out k rfl HK.out ?_; rw [ho]))
   go_ret
   exact ⟨by rw [HN.out] <;> rfl, by rw [news_no HN.out]; exact HT1.out.mono (Nat.le_succ _), grown_below HB1.out b⟩
  ·have HN : Hid (newsB M k c = true) := by show newsB M k c = true; unfold newsB; rw [ho]; exact decide_eq_true (by omega)
   have HP : Hid (relaxT M k c = putT M k c) := relaxT_new (fun o' h => by rw [ho] at h; injection h with h; omega)
   go_wp2_with (first | (at_lookup; refine tab_lookup_ok ktStr _ rfl _ _ rfl rfl HT1.out k rfl HK.out ?_; rw [ho]) | (at_mapUpdate; refine tab_put ktStr _ rfl _ _ _ rfl rfl HT1.out hn k c rfl rfl HK.out hc ?_; intro w2 hT2 hg2 hs2))
   go_ret
   exact ⟨by rw [HN.out] <;> rfl, by rw [HP.out]; exact hT2, grown_at HB1.out hg2 hlt⟩
end Go.Proofs.YtfpnhgahkjglgaaGreat
