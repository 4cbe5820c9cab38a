/-
  OuWalkH, OuClo, joined. No conditions.
-/
import Derived.Test.YtfpnhgahkjglgaaGreatF16
import Derived.Test.YtfpnhgahkjglgaaGreatF14
import Derived.Test.YtfpnhgahkjglgaaGreatF13
set_option maxRecDepth 100000
namespace Go.Proofs.YtfpnhgahkjglgaaGreat
open Go Go.RowKit
theorem bool_info : (Tryz.prog.info? 4).map (fun i => (i.zero, i.size, i.bytes)) = some (some (.bool false), 1, 1) := by kernel_rfl
def BB (W : World) (g n : Nat) (f : Int → Bool) : Prop := Blk W g 4 ((List.range n).map fun k : Nat => Value.bool (f (k : Int))).toArray
section
variable {W W' : World} {g n : Nat} {f : Int → Bool}
theorem BB.lt (h : BB W g n f) : g < W.heap.size := Blk.lt h
theorem BB.cell (h : BB W g n f) {k : Nat} (hk : k < n) : W.cell? ⟨g, k, none⟩ = some (.bool (f (k : Int))) := by
 rw [Blk.cell h]
 simp [hk]
theorem BB.frozen (h : BB W g n f) (k : Nat) : W.frozen? ⟨g, k, none⟩ = false := Blk.frozen h k
theorem BB.below (h : BB W g n f) (hb : Below W.heap.size W W') : BB W' g n f := Blk.below h hb (Blk.lt h)
theorem BB.set_ (h : BB W g n f) (k : Nat) (b : Bool) : BB (W.setCell ⟨g, k, none⟩ (.bool b)) g n (fun x => if x = (k : Int) then b else f x) := by
 have := Blk.set_ h k (.bool b)
 unfold BB
 rw [show ((List.range n).map fun j : Nat => Value.bool (if (j : Int) = (k : Int) then b else f (j : Int))) = ((List.range n).map fun j : Nat => Value.bool (f (j : Int))).set k (.bool b) from ?_]
 ·simpa using this
 ·refine List.ext_getElem? fun j => ?_
  rw [List.getElem?_set]
  simp only [List.getElem?_map]
  by_cases hj : j < n
  ·rw [List.getElem?_range hj]
   by_cases e : k = j
   ·subst e
    simp [hj]
   ·have : ¬ (j : Int) = (k : Int) := by omega
    simp [e, this]
  ·rw [List.getElem?_eq_none (by rw [List.length_range]; omega)]
   by_cases e : k = j
   ·subst e
    simp [hj]
   ·simp [e]
theorem BB.add (h : BB W g n f) (k : Nat) : BB (W.setCell ⟨g, k, none⟩ (.bool true)) g n (addB f (k : Int)) := by
 have := h.set_ k true
 have e : (fun x => if x = (k : Int) then true else f x) = addB f (k : Int) := by
  funext x
  unfold addB
  by_cases h : x = (k : Int) <;> simp [h]
 rwa [e] at this
theorem BB.new (W : World) (n : Nat) : BB (W.alloc (.cells (List.replicate n (Value.bool false)).toArray 4)) W.heap.size n (fun _ => false) := by
 have := Blk.new W 4 (List.replicate n (Value.bool false)).toArray
 unfold BB
 rwa [show ((List.range n).map fun _ : Nat => Value.bool false) = List.replicate n (Value.bool false) from by rw [List.map_const', List.length_range]]
end
theorem fold_next {E : List (Int × Int)} {f : Int → Bool} {k : Nat} {a b : Int} (he : E[k]? = some (a, b)) : (E.take (k + 1)).foldl hopB f = hopB ((E.take k).foldl hopB f) (a, b) := by
 rw [take_succ_of he, List.foldl_append]
 rfl
set_option maxHeartbeats 8000000 in
theorem rreached_any (s : Sc) (A : Option Addr) (c : Nat) (m : Int) (w : World) (hs : ScIn w s A c) (hok : ScOK s) (hm : 0 ≤ m ∧ m < s.n) :
 Calls Tryz.prog 20 #[.agg #[.int .i64 s.n, .int .u8 s.acc, .slice A s.rs.length c], .int .i64 m] w fun e w' => (∃ g, e = .returned (.slice (some ⟨g, 0, none⟩) s.n.toNat s.n.toNat) ∧ w.heap.size ≤ g ∧ BB w' g s.n.toNat (cloN s.edges (fun k => decide (k = m)) s.n.toNat)) ∧ Below w.heap.size w w' := by
 obtain ⟨i0, hi, hz0, hz1, hz2⟩ := info_parts bool_info
 obtain ⟨w1, hw1⟩ : ∃ w1, w.alloc (.cells #[.int .i64 s.n, .int .u8 s.acc, .slice A s.rs.length c] 30) = w1 := ⟨_, rfl⟩
 have hb1 : Below w.heap.size w w1 := by rw [← hw1]; exact nw _ (Below.refl _ _)
 have hB : Blk w1 w.heap.size 30 #[.int .i64 s.n, .int .u8 s.acc, .slice A s.rs.length c] := by rw [← hw1]; exact Blk.new _ _ _
 have HW1 := Lib.hid hw1
 have HB1 := Lib.hid hb1
 have HCE : Hid (∀ W, Below w1.heap.size w1 W → W.cell? ⟨w.heap.size, 0, none⟩ = some (.int .i64 s.n) ∧ W.cell? ⟨w.heap.size, 1, none⟩ = some (.int .u8 s.acc) ∧ W.cell? ⟨w.heap.size, 2, none⟩ = some (.slice A s.rs.length c) ∧ w.heap.size < W.heap.size) := fun W hW => by
  have e1 := hB.below hW hB.lt
  exact ⟨by rw [e1.cell]; rfl, by rw [e1.cell]; rfl, by rw [e1.cell]; rfl, e1.lt⟩
 obtain ⟨b0, b1, b2, bl⟩ := HCE.out _ (Below.refl _ _)
 clear hw1 hb1 hB
 have HS := Lib.hid hs
 have hl := hs.len
 have hn := hok.1
 have HOK := Lib.hid hok
 clear hs hok
 obtain ⟨N, hN⟩ : ∃ N : Nat, s.n.toNat = N := ⟨_, rfl⟩
 have hNI : s.n = (N : Int) := by omega
 have HN := Lib.hid hNI
 rw [hN]
 clear hN hNI
 go_enter Tryz.func20, Tryz.ntmps20
 go_upto_region 1 with fail
 rw [HW1.out]
 go_upto_region 2 with (refine wpList_mk _ rfl _ _ 62 rfl 4 i0 (.bool false) (.bool false) Tryz.underlying62 hi hz0 hz1 (by rw [hz2]; omega) rfl N (by show Value.int .i64 s.n = _; rw [HN.out]) (by show Value.int .i64 s.n = _; rw [HN.out]) (by have := HN.out; omega) ?_)
 obtain ⟨W2, hW2⟩ : ∃ W, w1.alloc (.cells (Array.replicate N (.bool false)) 4) = W := ⟨_, rfl⟩
 have hb2 : Below w1.heap.size w1 W2 := by rw [← hW2]; exact nw _ (Below.refl _ _)
 have hB2 : BB W2 w1.heap.size N (fun _ => false) := by
  have := BB.new w1 N
  rw [show (List.replicate N (Value.bool false)).toArray = Array.replicate N (.bool false) from List.toArray_replicate _ _] at this
  rwa [hW2] at this
 rw [hW2]
 obtain ⟨g, hg⟩ : ∃ b, w1.heap.size = b := ⟨_, rfl⟩
 rw [hg] at hB2 ⊢
 have HG := Lib.hid hg
 have hNn := HN.out
 have hmN : m.toNat < N := by omega
 have hmi : m < (N : Int) := by omega
 obtain ⟨hm0, hm1⟩ := hm
 have r0 := hB2.cell hmN
 have rl := hB2.lt
 have rf := hB2.frozen m.toNat
 have HB2 := Lib.hid hb2
 have HR2 := Lib.hid hB2
 clear hW2 hB2 hb2 hg b0 b1 b2 bl hNn
 go_upto_region 3 with fail
 obtain ⟨W3, hW3⟩ : ∃ W, W2.setCell ⟨g, m.toNat, none⟩ (.bool true) = W := ⟨_, rfl⟩
 have hb3 : Below w1.heap.size w1 W3 := by rw [← hW3]; exact HB2.out.setCell (by show _ ≤ g; rw [← HG.out]; exact Nat.le_refl _) _
 have hB3 : BB W3 g N (fun k => decide (k = m)) := by
  have := HR2.out.add m.toNat
  rw [hW3] at this
  have e : addB (fun _ => false) ((m.toNat : Nat) : Int) = fun k => decide (k = m) := by
   funext x
   unfold addB
   rw [Int.toNat_of_nonneg hm0, Bool.or_false]
  rwa [e] at this
 rw [hW3]
 have HB3 := Lib.hid hb3
 have HR3 := Lib.hid hB3
 clear hW3 hb3 hB3 r0 rl rf
 go_wp2_with fail
 go_loopw [6] (fun iv wr => ∃ j : Nat, j ≤ N ∧ iv = .int .i64 (j : Int) ∧ Hid (BB wr g N (cloN s.edges (fun k => decide (k = m)) j)) ∧ Below w1.heap.size w1 wr) (fun iv _ => N - (intOf iv).toNat)
 case atStart => exact ⟨0, by omega, rfl, HR3.out, HB3.out⟩
 case round =>
  obtain ⟨wR, rfl⟩ : ∃ W, W = wr := ⟨wr, rfl⟩
  obtain ⟨j, hj, rfl, HV, hbr⟩ := hrel
  have HBR := Lib.hid hbr
  clear hbr
  obtain ⟨b0, b1, b2, bl⟩ := HCE.out _ HBR.out
  rw [HN.out] at b0
  by_cases hlt : j < N
  ·have hji : (j : Int) < (N : Int) := by omega
   obtain ⟨jn, hjn⟩ : ∃ q, q = j + 1 := ⟨_, rfl⟩
   have HJN := Lib.hid hjn
   clear hjn
   go_wp2_with fail
   go_loopw [7] (fun iv wi => ∃ k : Nat, k ≤ s.rs.length ∧ iv = .int .i64 (k : Int) ∧ Hid (BB wi g N ((s.edges.take k).foldl hopB (cloN s.edges (fun k => decide (k = m)) j))) ∧ Below w1.heap.size w1 wi) (fun iv _ => s.rs.length - (intOf iv).toNat)
   case atStart => exact ⟨0, by omega, rfl, HV.out, HBR.out⟩
   case round =>
    obtain ⟨wi, rfl⟩ : ∃ W, W = wr := ⟨wr, rfl⟩
    obtain ⟨k, hk, rfl, HU, hbi⟩ := hrel
    have HBI := Lib.hid hbi
    clear hbi
    clear b0 b1 b2 bl
    obtain ⟨b0, b1, b2, bl⟩ := HCE.out _ HBI.out
    rw [HN.out] at b0
    by_cases hkl : k < s.rs.length
    ·obtain ⟨b, off, x, rfl, hbb, hxx, d0, d1, d2, d3, d4⟩ := ((HS.out.below (bthen HB1.out HBI.out)).sl).ru hkl
     have hru := HOK.out.2.2.2.1 x (List.mem_of_getElem? hxx)
     have HEX : Hid (s.edges[k]? = some (x.fr, x.to)) := by show (s.rs.map _)[k]? = _; rw [List.getElem?_map, hxx]; rfl
     have hki : (k : Int) < (s.rs.length : Int) := by omega
     have hk0 : (0 : Int) ≤ (k : Int) := by omega
     have hN2 := HN.out
     have hf0 : 0 ≤ x.fr := by have := hru.1; omega
     have hf1 : x.fr < (N : Int) := by have := hru.1; omega
     have ht0 : 0 ≤ x.to := by have := hru.1; omega
     have ht1 : x.to < (N : Int) := by have := hru.1; omega
     have hfN : x.fr.toNat < N := by omega
     have htN : x.to.toNat < N := by omega
     clear hxx hru hN2
     have r0 := HU.out.cell hfN
     have r1 := HU.out.cell htN
     have rf := HU.out.frozen x.to.toNat
     have rl := HU.out.lt
     have HNX := Lib.hid (fold_next HEX.out (f := cloN s.edges (fun k => decide (k = m)) j))
     rw [Int.toNat_of_nonneg hf0] at r0
     by_cases hh : (s.edges.take k).foldl hopB (cloN s.edges (fun k => decide (k = m)) j) x.fr = true
     ·rw [hh] at r0
      have HH := Lib.hid hh
      clear hh
      go_wp2_with fail
      go_roundw
      case rel => exact ⟨k + 1, by omega, by go_num, (by show BB _ _ _ _; rw [HNX.out, hopB_pos HH.out]; have h9 := HU.out.add x.to.toNat; rwa [Int.toNat_of_nonneg ht0] at h9), HBI.out.setCell (by show _ ≤ g; rw [← HG.out]; exact Nat.le_refl _) _⟩
      case measure => simp [intOf]; omega
     ·have hh2 : (s.edges.take k).foldl hopB (cloN s.edges (fun k => decide (k = m)) j) x.fr = false := by simpa using hh
      have HH := Lib.hid hh
      rw [hh2] at r0
      clear hh hh2
      go_wp2_with fail
      go_roundw
      case rel => exact ⟨k + 1, by omega, by go_num, (by show BB _ _ _ _; rw [HNX.out, hopB_neg HH.out]; exact HU.out), HBI.out⟩
      case measure => simp [intOf]; omega
    ·have HUE : Hid (BB wi g N (cloN s.edges (fun k => decide (k = m)) jn)) := by
      show BB _ _ _ _
      rw [HJN.out]
      show BB wi g N (cloB s.edges (cloN s.edges (fun k => decide (k = m)) j))
      have := HU.out
      rwa [List.take_of_length_le (by show (s.rs.map _).length ≤ _; rw [List.length_map]; omega)] at this
     have hki : ¬ (k : Int) < (s.rs.length : Int) := by omega
     have hjnI : (j : Int) + 1 = (jn : Int) := by have := HJN.out; omega
     have hjl : jn ≤ N := by have := HJN.out; omega
     have hjb0 : 0 ≤ (jn : Int) := by omega
     have hjb1 : (jn : Int) ≤ 8 := by have := HN.out; omega
     go_wp2_with fail
     go_roundw
     case rel => exact ⟨jn, hjl, by first | rfl | (rw [hjnI]; done) | go_num, HUE.out, HBI.out⟩
     case measure => have := HJN.out; simp [intOf]; omega
  ·obtain rfl : j = N := by omega
   have hji : ¬ (j : Int) < (j : Int) := by omega
   go_wp2_with fail
   go_ret
   exact ⟨⟨g, rfl, by rw [← HG.out]; exact HB1.out.size, HV.out⟩, bthen HB1.out HBR.out⟩
set_option maxHeartbeats 8000000 in
theorem raccepts_any (s : Sc) (A : Option Addr) (c : Nat) (m : Int) (w : World) (hs : ScIn w s A c) (hm : 0 ≤ m ∧ m < 8) :
 Calls Tryz.prog 105 #[.agg #[.int .i64 s.n, .int .u8 s.acc, .slice A s.rs.length c], .int .i64 m] w fun e w' => e = .returned (.bool (accB s.acc m)) ∧ Below w.heap.size w w' := by
 obtain ⟨w1, hw1⟩ : ∃ w1, w.alloc (.cells #[.int .i64 s.n, .int .u8 s.acc, .slice A s.rs.length c] 30) = w1 := ⟨_, rfl⟩
 have hb1 : Below w.heap.size w w1 := by rw [← hw1]; exact nw _ (Below.refl _ _)
 have hB : Blk w1 w.heap.size 30 #[.int .i64 s.n, .int .u8 s.acc, .slice A s.rs.length c] := by rw [← hw1]; exact Blk.new _ _ _
 have HW1 := Lib.hid hw1
 have HB1 := Lib.hid hb1
 have HCE : Hid (∀ W, Below w1.heap.size w1 W → W.cell? ⟨w.heap.size, 0, none⟩ = some (.int .i64 s.n) ∧ W.cell? ⟨w.heap.size, 1, none⟩ = some (.int .u8 s.acc) ∧ W.cell? ⟨w.heap.size, 2, none⟩ = some (.slice A s.rs.length c) ∧ w.heap.size < W.heap.size) := fun W hW => by
  have e1 := hB.below hW hB.lt
  exact ⟨by rw [e1.cell]; rfl, by rw [e1.cell]; rfl, by rw [e1.cell]; rfl, e1.lt⟩
 obtain ⟨b0, b1, b2, bl⟩ := HCE.out _ (Below.refl _ _)
 clear hw1 hb1 hB
 have hacc := hs.acc
 have HM := Lib.hid hm
 obtain ⟨hm0, hm1⟩ := hm
 have hmin : min m.toNat 8 = m.toNat := by omega
 clear hs
 go_enter Tryz.func105, Tryz.ntmps105
 go_upto_region 1 with fail
 rw [HW1.out]
 go_wp2_with fail
 go_ret
 refine ⟨ret_bool ?_, HB1.out⟩
 have hp : (0 : Int) < 2 ^ m.toNat := Int.pow_pos (by omega)
 have hd0 : 0 ≤ s.acc / 2 ^ m.toNat := Int.ediv_nonneg hacc.1 (by omega)
 have hd1 : s.acc / 2 ^ m.toNat ≤ s.acc := Int.ediv_le_self _ hacc.1
 rw [(bits_u8 (s.acc / 2 ^ m.toNat) 1 (by omega) (by omega)).1]
 unfold accB
 rw [decide_eq_true hm0, Bool.true_and, Nat.testBit_eq_decide_div_mod_eq, show (1 : Int).toNat = 1 from rfl, Nat.and_one_is_mod]
 have e : (s.acc / 2 ^ m.toNat).toNat = s.acc.toNat / 2 ^ m.toNat := by
  have h1 : s.acc / 2 ^ m.toNat = ((s.acc.toNat / 2 ^ m.toNat : Nat) : Int) := by
   rw [Int.natCast_ediv, Int.toNat_of_nonneg hacc.1]
   congr 1
  rw [h1, Int.toNat_natCast]
 rw [e]
 by_cases h : s.acc.toNat / 2 ^ m.toNat % 2 = 1
 ·rw [h]; rfl
 ·have h0 : s.acc.toNat / 2 ^ m.toNat % 2 = 0 := by omega
  rw [h0]; rfl
theorem from_iff {s : Sc} (h : ScOK s) {m0 m : Int} : cloN s.edges (fun m => decide (m = m0)) s.n.toNat m = true ↔ Pth s.edges (fun a => a = m0) m := by
 have hn := h.1
 rw [cloN_iff (fun e he => by
  obtain ⟨r, hr, rfl⟩ := List.mem_map.1 he
  have := (h.2.2.2.1 r hr).1
  show 0 ≤ r.to ∧ r.to < _
  omega)]
 exact ⟨fun h => pth_mono h fun a ha => of_decide_eq_true ha, fun h => pth_mono h fun a ha => decide_eq_true ha⟩
theorem from_range {s : Sc} (h : ScOK s) {m0 m : Int} (h0 : 0 ≤ m0 ∧ m0 < s.n) (hm : Pth s.edges (fun a => a = m0) m) : 0 ≤ m ∧ m < s.n := by
 cases hm with
 | base e => rw [e]; exact h0
 | step _ h2 =>
  obtain ⟨r, hr, rfl⟩ := List.mem_map.1 h2
  have := (h.2.2.2.1 r hr).1
  show 0 ≤ r.to ∧ r.to < _
  omega
def LvW (s : Sc) (j k : Nat) (f : Int → Bool) : Prop := (∀ x : Nat, x < j → (f x = true ↔ LV s x)) ∧ (f j = true ↔ ∃ y : Nat, y < k ∧ Pth s.edges (fun a => a = (j : Int)) (y : Int) ∧ accB s.acc (y : Int) = true) ∧ ∀ x : Nat, j < x → f x = false
theorem lvw_next {s : Sc} {j k : Nat} {f : Int → Bool} (h : LvW s j k f) (b : Bool) (hb : b = true ↔ Pth s.edges (fun a => a = (j : Int)) (k : Int) ∧ accB s.acc (k : Int) = true) : LvW s j (k + 1) (fun x => if x = (j : Int) then (f (j : Int) || b) else f x) := by
 refine ⟨fun x hx => ?_, ?_, fun x hx => ?_⟩
 ·have : ¬ (x : Int) = (j : Int) := by omega
  simp only [this, if_false]
  exact h.1 x hx
 ·simp only [if_true, Bool.or_eq_true, h.2.1, hb]
  constructor
  ·rintro (⟨y, hy, h2⟩ | h2)
   ·exact ⟨y, by omega, h2⟩
   ·exact ⟨k, by omega, h2⟩
  ·rintro ⟨y, hy, h2⟩
   by_cases e : y = k
   ·subst e; exact .inr h2
   ·exact .inl ⟨y, by omega, h2⟩
 ·have : ¬ (x : Int) = (j : Int) := by omega
  simp only [this, if_false]
  exact h.2.2 x hx
theorem lvw_end {s : Sc} {N j : Nat} {f : Int → Bool} (hok : ScOK s) (hN : s.n = (N : Int)) (hj : j < N) (h : LvW s j N f) : LvW s (j + 1) 0 f := by
 refine ⟨fun x hx => ?_, ?_, fun x hx => h.2.2 x (by omega)⟩
 ·by_cases e : x = j
  ·subst e
   rw [h.2.1, lv_iff]
   constructor
   ·rintro ⟨y, _, h2⟩
    exact ⟨_, h2⟩
   ·rintro ⟨y, h2, h3⟩
    have := from_range hok (by omega) h2
    exact ⟨y.toNat, by omega, by rw [Int.toNat_of_nonneg this.1]; exact ⟨h2, h3⟩⟩
  ·exact h.1 x (by omega)
 ·have := h.2.2 (j + 1) (by omega)
  exact ⟨fun h9 => (by rw [this] at h9; cases h9), fun ⟨y, hy, _⟩ => by omega⟩
theorem BB.far {W : World} {g n : Nat} {f : Int → Bool} (h : BB W g n f) {p : Addr} (hp : g ≠ p.block) (u : Value) : BB (W.setCell p u) g n f := Blk.far h hp u
def IsLvR (s : Sc) (N : Nat) (w : World) (e : Ending) (w' : World) : Prop := (∃ g f, e = .returned (.slice (some ⟨g, 0, none⟩) N N) ∧ w.heap.size ≤ g ∧ BB w' g N f ∧ ∀ x : Nat, x < N → (f x = true ↔ LV s x)) ∧ Below w.heap.size w w'
theorem lvw_start {s : Sc} : LvW s 0 0 (fun _ => false) := ⟨fun x h => absurd h (by omega), ⟨fun h => (by cases h), fun ⟨y, h, _⟩ => absurd h (by omega)⟩, fun _ _ => rfl⟩
set_option maxHeartbeats 8000000 in
theorem rlive_any (s : Sc) (A : Option Addr) (c : Nat) (w : World) (hs : ScIn w s A c) (hok : ScOK s) :
 Calls Tryz.prog 76 #[.agg #[.int .i64 s.n, .int .u8 s.acc, .slice A s.rs.length c]] w (IsLvR s s.n.toNat w) := by
 obtain ⟨i0, hi, hz0, hz1, hz2⟩ := info_parts bool_info
 obtain ⟨w1, hw1⟩ : ∃ w1, w.alloc (.cells #[.int .i64 s.n, .int .u8 s.acc, .slice A s.rs.length c] 30) = w1 := ⟨_, rfl⟩
 have hb1 : Below w.heap.size w w1 := by rw [← hw1]; exact nw _ (Below.refl _ _)
 have hB : Blk w1 w.heap.size 30 #[.int .i64 s.n, .int .u8 s.acc, .slice A s.rs.length c] := by rw [← hw1]; exact Blk.new _ _ _
 have HW1 := Lib.hid hw1
 have HB1 := Lib.hid hb1
 have HCE : Hid (∀ W, Below w1.heap.size w1 W → W.cell? ⟨w.heap.size, 0, none⟩ = some (.int .i64 s.n) ∧ W.cell? ⟨w.heap.size, 1, none⟩ = some (.int .u8 s.acc) ∧ W.cell? ⟨w.heap.size, 2, none⟩ = some (.slice A s.rs.length c) ∧ w.heap.size < W.heap.size) := fun W hW => by
  have e1 := hB.below hW hB.lt
  exact ⟨by rw [e1.cell]; rfl, by rw [e1.cell]; rfl, by rw [e1.cell]; rfl, e1.lt⟩
 obtain ⟨b0, b1, b2, bl⟩ := HCE.out _ (Below.refl _ _)
 clear hw1 hb1 hB
 have HS := Lib.hid hs
 have hn := hok.1
 have HOK := Lib.hid hok
 clear hs hok
 obtain ⟨N, hN⟩ : ∃ N : Nat, s.n.toNat = N := ⟨_, rfl⟩
 have hNI : s.n = (N : Int) := by omega
 have HN := Lib.hid hNI
 have HRE : Hid (∀ (m : Int) (W : World), Below w1.heap.size w1 W → 0 ≤ m → m < (N : Int) → Calls Tryz.prog 20 #[.agg #[.int .i64 s.n, .int .u8 s.acc, .slice A s.rs.length c], .int .i64 m] W fun e w' => (∃ g, e = .returned (.slice (some ⟨g, 0, none⟩) N N) ∧ W.heap.size ≤ g ∧ BB w' g N (cloN s.edges (fun k => decide (k = m)) N)) ∧ Below W.heap.size W w') := fun m W hW h0 h1 => by
  have := rreached_any s A c m W (HS.out.below (bthen HB1.out hW)) HOK.out ⟨h0, by omega⟩
  rwa [hN] at this
 have HFR : Hid (∀ m0 m : Int, cloN s.edges (fun m => decide (m = m0)) N m = true ↔ Pth s.edges (fun a => a = m0) m) := fun m0 m => by rw [← hN]; exact from_iff HOK.out
 rw [hN]
 clear hN hNI
 go_enter Tryz.func76, Tryz.ntmps76
 go_upto_region 1 with fail
 rw [HW1.out]
 go_upto_region 2 with (refine wpList_mk _ rfl _ _ 62 rfl 4 i0 (.bool false) (.bool false) Tryz.underlying62 hi hz0 hz1 (by rw [hz2]; omega) rfl N (by show Value.int .i64 s.n = _; rw [HN.out]) (by show Value.int .i64 s.n = _; rw [HN.out]) (by have := HN.out; omega) ?_)
 obtain ⟨W2, hW2⟩ : ∃ W, w1.alloc (.cells (Array.replicate N (.bool false)) 4) = W := ⟨_, rfl⟩
 have hb2 : Below w1.heap.size w1 W2 := by rw [← hW2]; exact nw _ (Below.refl _ _)
 have hB2 : BB W2 w1.heap.size N (fun _ => false) := by
  have := BB.new w1 N
  rw [show (List.replicate N (Value.bool false)).toArray = Array.replicate N (.bool false) from List.toArray_replicate _ _] at this
  rwa [hW2] at this
 rw [hW2]
 obtain ⟨g, hg⟩ : ∃ b, w1.heap.size = b := ⟨_, rfl⟩
 rw [hg] at hB2 ⊢
 have HG := Lib.hid hg
 have HB2 := Lib.hid hb2
 have HR2 := Lib.hid hB2
 clear hW2 hB2 hb2 hg b0 b1 b2 bl
 go_wp2_with fail
 go_loopw [4] (fun iv wr => ∃ (j : Nat) (f : Int → Bool), j ≤ N ∧ iv = .int .i64 (j : Int) ∧ Hid (BB wr g N f ∧ LvW s j 0 f) ∧ Below w1.heap.size w1 wr) (fun iv _ => N - (intOf iv).toNat)
 case atStart => exact ⟨0, _, by omega, rfl, ⟨HR2.out, lvw_start⟩, HB2.out⟩
 case round =>
  obtain ⟨wR, rfl⟩ : ∃ W, W = wr := ⟨wr, rfl⟩
  obtain ⟨j, f, hj, rfl, HV, hbr⟩ := hrel
  have HBR := Lib.hid hbr
  clear hbr
  obtain ⟨b0, b1, b2, bl⟩ := HCE.out _ HBR.out
  by_cases hlt : j < N
  ·have hji : (j : Int) < (N : Int) := by omega
   have hjs : (j : Int) < s.n := by rw [HN.out]; exact hji
   have hj0 : 0 ≤ (j : Int) := by omega
   have hjb : (j : Int) ≤ 8 := by have := HN.out; omega
   obtain ⟨jn, hjn⟩ : ∃ q, q = j + 1 := ⟨_, rfl⟩
   have HJN := Lib.hid hjn
   have hjnI : (j : Int) + 1 = (jn : Int) := by omega
   have hjn0 : 0 ≤ (jn : Int) := by omega
   have hjn1 : (jn : Int) ≤ 9 := by omega
   clear hjn
   go_upto_region 6 with (go_at_call 20; go_loud (refine (HRE.out (j : Int) _ HBR.out hj0 hji).mono ?_; rintro e w3 ⟨⟨gl, rfl, hgl, hBl⟩, hb3⟩))
   have hgne : gl ≠ g := by
    have := HV.out.1.lt
    omega
   have HB3 := Lib.hid (bthen HBR.out hb3)
   have hV3 : BB w3 g N f ∧ LvW s j 0 f := ⟨HV.out.1.below hb3, HV.out.2⟩
   have HV3 := Lib.hid hV3
   have HBl := Lib.hid hBl
   clear hBl hV3 hb3 hgl b0 b1 b2 bl
   obtain ⟨b0, b1, b2, bl⟩ := HCE.out _ HB3.out
   go_wp2_with fail
   go_loopw [6] (fun iv wi => ∃ (k : Nat) (f : Int → Bool), k ≤ N ∧ iv = .int .i64 (k : Int) ∧ Hid (BB wi g N f ∧ LvW s j k f) ∧ Hid (BB wi gl N (cloN s.edges (fun k => decide (k = (j : Int))) N)) ∧ Below w1.heap.size w1 wi) (fun iv _ => N - (intOf iv).toNat)
   case atStart => exact ⟨0, f, by omega, rfl, HV3.out, HBl.out, HB3.out⟩
   case round =>
    obtain ⟨wi, rfl⟩ : ∃ W, W = wr := ⟨wr, rfl⟩
    obtain ⟨k, f, hk, rfl, HU, HL, hbi⟩ := hrel
    have HBI := Lib.hid hbi
    clear hbi
    clear b0 b1 b2 bl HV3 HBl
    obtain ⟨b0, b1, b2, bl⟩ := HCE.out _ HBI.out
    by_cases hkl : k < N
    ·have hki : (k : Int) < (N : Int) := by omega
     have hks : (k : Int) < s.n := by rw [HN.out]; exact hki
     have hk0 : 0 ≤ (k : Int) := by omega
     have hkb : (k : Int) ≤ 8 := by have := HN.out; omega
     have hk8 : 0 ≤ (k : Int) ∧ (k : Int) < 8 := by have := HN.out; omega
     have r0 := HU.out.1.cell hlt
     have r1 := HL.out.cell hkl
     have rf := HU.out.1.frozen j
     have rl := HU.out.1.lt
     have rl1 := HL.out.lt
     have HAC : Hid (Calls Tryz.prog 105 #[.agg #[.int .i64 s.n, .int .u8 s.acc, .slice A s.rs.length c], .int .i64 (k : Int)] wi fun e w' => e = .returned (.bool (accB s.acc (k : Int))) ∧ Below wi.heap.size wi w') := raccepts_any s A c (k : Int) wi (HS.out.below (bthen HB1.out HBI.out)) hk8
     have HFK := Lib.hid (HFR.out (j : Int) (k : Int))
     obtain ⟨b, hb⟩ : ∃ b, b = (cloN s.edges (fun k => decide (k = (j : Int))) N (k : Int) && accB s.acc (k : Int)) := ⟨_, rfl⟩
     have HB : Hid (b = true ↔ Pth s.edges (fun a => a = (j : Int)) (k : Int) ∧ accB s.acc (k : Int) = true) := by show _ ↔ _; rw [hb, Bool.and_eq_true, HFK.out]
     cases hfj : f (j : Int) with
     | true =>
      have HVV : Hid ((f (j : Int) || b) = true) := by show _ = _; rw [hfj]; rfl
      rw [hfj] at r0
      clear hb hfj
      go_wp2_with fail
      go_roundw
      case rel => exact ⟨k + 1, fun x => if x = (j : Int) then true else f x, by omega, by go_num, ⟨(HU.out.1).set_ j true, by have h9 := lvw_next HU.out.2 b HB.out; rw [HVV.out] at h9; exact h9⟩, (HL.out).far hgne _, (HBI.out).setCell (by show _ ≤ g; rw [← HG.out]; exact Nat.le_refl _) _⟩
      case measure => simp [intOf]; omega
     | false =>
      rw [hfj] at r0
      cases hck : cloN s.edges (fun k => decide (k = (j : Int))) N (k : Int) with
      | false =>
       have HVV : Hid ((f (j : Int) || b) = false) := by show _ = _; rw [hfj, hb, hck]; rfl
       rw [hck] at r1
       clear hb hfj hck
       go_wp2_with fail
       go_roundw
       case rel => exact ⟨k + 1, fun x => if x = (j : Int) then false else f x, by omega, by go_num, ⟨(HU.out.1).set_ j false, by have h9 := lvw_next HU.out.2 b HB.out; rw [HVV.out] at h9; exact h9⟩, (HL.out).far hgne _, (HBI.out).setCell (by show _ ≤ g; rw [← HG.out]; exact Nat.le_refl _) _⟩
       case measure => simp [intOf]; omega
      | true =>
       cases hak : accB s.acc (k : Int) with
       | true =>
        have HVV : Hid ((f (j : Int) || b) = true) := by show _ = _; rw [hfj, hb, hck, hak]; rfl
        rw [hck] at r1
        rw [hak] at HAC
        clear hb hfj hck hak
        go_wp2_with (go_at_call 105; go_loud (refine HAC.out.mono ?_; rintro e w5 ⟨rfl, hb5⟩; have rf := (HU.out.1.below hb5).frozen j; have rl := (HU.out.1.below hb5).lt; have r0 := (HU.out.1.below hb5).cell hlt))
        go_roundw
        case rel => exact ⟨k + 1, fun x => if x = (j : Int) then true else f x, by omega, by go_num, ⟨(HU.out.1.below hb5).set_ j true, by have h9 := lvw_next HU.out.2 b HB.out; rw [HVV.out] at h9; exact h9⟩, (HL.out.below hb5).far hgne _, (bthen HBI.out hb5).setCell (by show _ ≤ g; rw [← HG.out]; exact Nat.le_refl _) _⟩
        case measure => simp [intOf]; omega
       | false =>
        have HVV : Hid ((f (j : Int) || b) = false) := by show _ = _; rw [hfj, hb, hck, hak]; rfl
        rw [hck] at r1
        rw [hak] at HAC
        clear hb hfj hck hak
        go_wp2_with (go_at_call 105; go_loud (refine HAC.out.mono ?_; rintro e w5 ⟨rfl, hb5⟩; have rf := (HU.out.1.below hb5).frozen j; have rl := (HU.out.1.below hb5).lt; have r0 := (HU.out.1.below hb5).cell hlt))
        go_roundw
        case rel => exact ⟨k + 1, fun x => if x = (j : Int) then false else f x, by omega, by go_num, ⟨(HU.out.1.below hb5).set_ j false, by have h9 := lvw_next HU.out.2 b HB.out; rw [HVV.out] at h9; exact h9⟩, (HL.out.below hb5).far hgne _, (bthen HBI.out hb5).setCell (by show _ ≤ g; rw [← HG.out]; exact Nat.le_refl _) _⟩
        case measure => simp [intOf]; omega
    ·obtain rfl : k = N := by omega
     have hks : ¬ (k : Int) < s.n := by rw [HN.out]; omega
     have HUE := Lib.hid (And.intro HU.out.1 (lvw_end HOK.out HN.out hlt HU.out.2))
     have hjl : jn ≤ k := by have := HJN.out; omega
     go_wp2_with fail
     go_roundw
     case rel => exact ⟨jn, f, hjl, rfl, by rw [HJN.out]; exact HUE.out, HBI.out⟩
     case measure => have := HJN.out; simp [intOf]; omega
  ·obtain rfl : j = N := by omega
   have hjs : ¬ (j : Int) < s.n := by rw [HN.out]; omega
   go_wp2_with fail
   go_ret
   exact ⟨⟨g, f, rfl, by rw [← HG.out]; exact HB1.out.size, HV.out.1, HV.out.2.1⟩, bthen HB1.out HBR.out⟩
end Go.Proofs.YtfpnhgahkjglgaaGreat
namespace Go.Proofs.YtfpnhgahkjglgaaGreat
open Go Go.RowKit Go.Maps
theorem IsStep.of {K : Type} {enc : K → Value} {S : Sys K} {k k' : K} {r : Ru} {bo : Bool} {w w' : World} (h : (S.step k r = some k' ∧ bo = true) ∨ (S.step k r = none ∧ bo = false)) (hb : Below w.heap.size w w') : IsStep enc S k r w (.returned (.tuple #[enc k', .bool bo])) w' := by
 refine ⟨k', bo, rfl, ?_, hb⟩
 rcases h with ⟨h1, h2⟩ | ⟨h1, h2⟩
 ·rw [h1]; exact ⟨rfl, h2⟩
 ·rw [h1]; exact h2
set_option maxHeartbeats 8000000 in
theorem oaccepting_any (s : Sc) (A : Option Addr) (c : Nat) (m : Int) (w : World) (hs : ScIn w s A c) (hm : 0 ≤ m ∧ m < 8) :
 Calls Tryz.prog 42 #[.agg #[.int .i64 s.n, .int .u8 s.acc, .slice A s.rs.length c], .int .i64 m] w fun e w' => e = .returned (.bool (accB s.acc m)) ∧ Below w.heap.size w w' := by
 obtain ⟨w1, hw1⟩ : ∃ w1, w.alloc (.cells #[.int .i64 s.n, .int .u8 s.acc, .slice A s.rs.length c] 30) = w1 := ⟨_, rfl⟩
 have hb1 : Below w.heap.size w w1 := by rw [← hw1]; exact nw _ (Below.refl _ _)
 have hB : Blk w1 w.heap.size 30 #[.int .i64 s.n, .int .u8 s.acc, .slice A s.rs.length c] := by rw [← hw1]; exact Blk.new _ _ _
 have HW1 := Lib.hid hw1
 have HB1 := Lib.hid hb1
 have HCE : Hid (∀ W, Below w1.heap.size w1 W → W.cell? ⟨w.heap.size, 0, none⟩ = some (.int .i64 s.n) ∧ W.cell? ⟨w.heap.size, 1, none⟩ = some (.int .u8 s.acc) ∧ W.cell? ⟨w.heap.size, 2, none⟩ = some (.slice A s.rs.length c) ∧ w.heap.size < W.heap.size) := fun W hW => by
  have e1 := hB.below hW hB.lt
  exact ⟨by rw [e1.cell]; rfl, by rw [e1.cell]; rfl, by rw [e1.cell]; rfl, e1.lt⟩
 obtain ⟨b0, b1, b2, bl⟩ := HCE.out _ (Below.refl _ _)
 clear hw1 hb1 hB
 have hacc := hs.acc
 have HM := Lib.hid hm
 obtain ⟨hm0, hm1⟩ := hm
 have hmin : min m.toNat 8 = m.toNat := by omega
 clear hs
 go_enter Tryz.func42, Tryz.ntmps42
 go_upto_region 1 with fail
 rw [HW1.out]
 go_wp2_with fail
 go_ret
 refine ⟨ret_bool ?_, HB1.out⟩
 have hp : (0 : Int) < 2 ^ m.toNat := Int.pow_pos (by omega)
 have hd0 : 0 ≤ s.acc / 2 ^ m.toNat := Int.ediv_nonneg hacc.1 (by omega)
 have hd1 : s.acc / 2 ^ m.toNat ≤ s.acc := Int.ediv_le_self _ hacc.1
 rw [(bits_u8 (s.acc / 2 ^ m.toNat) 1 (by omega) (by omega)).1]
 unfold accB
 rw [decide_eq_true hm0, Bool.true_and, Nat.testBit_eq_decide_div_mod_eq, show (1 : Int).toNat = 1 from rfl, Nat.and_one_is_mod]
 have e : (s.acc / 2 ^ m.toNat).toNat = s.acc.toNat / 2 ^ m.toNat := by
  have h1 : s.acc / 2 ^ m.toNat = ((s.acc.toNat / 2 ^ m.toNat : Nat) : Int) := by
   rw [Int.natCast_ediv, Int.toNat_of_nonneg hacc.1]
   congr 1
  rw [h1, Int.toNat_natCast]
 rw [e]
 by_cases h : s.acc.toNat / 2 ^ m.toNat % 2 = 1
 ·rw [h]; rfl
 ·have h0 : s.acc.toNat / 2 ^ m.toNat % 2 = 0 := by omega
  rw [h0]; rfl
set_option maxHeartbeats 8000000 in
theorem raccepts5_any (s : Sc) (A : Option Addr) (c : Nat) (m : Int) (w : World) (hs : ScIn w s A c) (hm : 0 ≤ m ∧ m < 8) :
 Calls Tryz.prog 48 #[.agg #[.int .i64 s.n, .int .u8 s.acc, .slice A s.rs.length c], .int .i64 m] w fun e w' => e = .returned (.bool (accB s.acc m)) ∧ Below w.heap.size w w' := by
 obtain ⟨w1, hw1⟩ : ∃ w1, w.alloc (.cells #[.int .i64 s.n, .int .u8 s.acc, .slice A s.rs.length c] 30) = w1 := ⟨_, rfl⟩
 have hb1 : Below w.heap.size w w1 := by rw [← hw1]; exact nw _ (Below.refl _ _)
 have hB : Blk w1 w.heap.size 30 #[.int .i64 s.n, .int .u8 s.acc, .slice A s.rs.length c] := by rw [← hw1]; exact Blk.new _ _ _
 have HW1 := Lib.hid hw1
 have HB1 := Lib.hid hb1
 have HCE : Hid (∀ W, Below w1.heap.size w1 W → W.cell? ⟨w.heap.size, 0, none⟩ = some (.int .i64 s.n) ∧ W.cell? ⟨w.heap.size, 1, none⟩ = some (.int .u8 s.acc) ∧ W.cell? ⟨w.heap.size, 2, none⟩ = some (.slice A s.rs.length c) ∧ w.heap.size < W.heap.size) := fun W hW => by
  have e1 := hB.below hW hB.lt
  exact ⟨by rw [e1.cell]; rfl, by rw [e1.cell]; rfl, by rw [e1.cell]; rfl, e1.lt⟩
 obtain ⟨b0, b1, b2, bl⟩ := HCE.out _ (Below.refl _ _)
 clear hw1 hb1 hB
 have hacc := hs.acc
 have HM := Lib.hid hm
 obtain ⟨hm0, hm1⟩ := hm
 have hmin : min m.toNat 8 = m.toNat := by omega
 clear hs
 go_enter Tryz.func48, Tryz.ntmps48
 go_upto_region 1 with fail
 rw [HW1.out]
 go_wp2_with fail
 go_ret
 refine ⟨ret_bool ?_, HB1.out⟩
 have hp : (0 : Int) < 2 ^ m.toNat := Int.pow_pos (by omega)
 have hd0 : 0 ≤ s.acc / 2 ^ m.toNat := Int.ediv_nonneg hacc.1 (by omega)
 have hd1 : s.acc / 2 ^ m.toNat ≤ s.acc := Int.ediv_le_self _ hacc.1
 rw [(bits_u8 (s.acc / 2 ^ m.toNat) 1 (by omega) (by omega)).1]
 unfold accB
 rw [decide_eq_true hm0, Bool.true_and, Nat.testBit_eq_decide_div_mod_eq, show (1 : Int).toNat = 1 from rfl, Nat.and_one_is_mod]
 have e : (s.acc / 2 ^ m.toNat).toNat = s.acc.toNat / 2 ^ m.toNat := by
  have h1 : s.acc / 2 ^ m.toNat = ((s.acc.toNat / 2 ^ m.toNat : Nat) : Int) := by
   rw [Int.natCast_ediv, Int.toNat_of_nonneg hacc.1]
   congr 1
  rw [h1, Int.toNat_natCast]
 rw [e]
 by_cases h : s.acc.toNat / 2 ^ m.toNat % 2 = 1
 ·rw [h]; rfl
 ·have h0 : s.acc.toNat / 2 ^ m.toNat % 2 = 0 := by omega
  rw [h0]; rfl
set_option maxHeartbeats 4000000 in
theorem modePair_any (k : (Int × ByteArray)) (w : World) : Calls Tryz.prog 39 #[.agg #[.int .i64 k.1, .string k.2]] w fun e w' => e = .returned (.int .i64 k.1) ∧ Below w.heap.size w w' := by
 obtain ⟨w1, hw1⟩ : ∃ w1, w.alloc (.cells #[.int .i64 k.1, .string k.2] 85) = w1 := ⟨_, rfl⟩
 have hb1 : Below w.heap.size w w1 := by rw [← hw1]; exact nw _ (Below.refl _ _)
 have hB : Blk w1 w.heap.size 85 #[.int .i64 k.1, .string k.2] := by rw [← hw1]; exact Blk.new _ _ _
 have HW1 := Lib.hid hw1
 have HB1 := Lib.hid hb1
 have c0 := hB.cell 0
 have cl := hB.lt
 simp at c0
 clear hw1 hb1 hB
 go_enter Tryz.func39, Tryz.ntmps39
 go_upto_region 1 with fail
 rw [HW1.out]
 go_wp2_with fail
 go_ret
 exact ⟨rfl, HB1.out⟩
set_option maxHeartbeats 4000000 in
theorem modeSpot_any (k : (Int × Int)) (w : World) : Calls Tryz.prog 67 #[.agg #[.int .i64 k.1, .int .i64 k.2]] w fun e w' => e = .returned (.int .i64 k.1) ∧ Below w.heap.size w w' := by
 obtain ⟨w1, hw1⟩ : ∃ w1, w.alloc (.cells #[.int .i64 k.1, .int .i64 k.2] 139) = w1 := ⟨_, rfl⟩
 have hb1 : Below w.heap.size w w1 := by rw [← hw1]; exact nw _ (Below.refl _ _)
 have hB : Blk w1 w.heap.size 139 #[.int .i64 k.1, .int .i64 k.2] := by rw [← hw1]; exact Blk.new _ _ _
 have HW1 := Lib.hid hw1
 have HB1 := Lib.hid hb1
 have c0 := hB.cell 0
 have cl := hB.lt
 simp at c0
 clear hw1 hb1 hB
 go_enter Tryz.func67, Tryz.ntmps67
 go_upto_region 1 with fail
 rw [HW1.out]
 go_wp2_with fail
 go_ret
 exact ⟨rfl, HB1.out⟩
set_option maxHeartbeats 4000000 in
theorem stepPair_any (s : Sc) (k : (Int × ByteArray)) (x : Ru) (w : World) (hsz : k.2.size + x.out.size ≤ 1000000) : Calls Tryz.prog 40 #[.agg #[.int .i64 k.1, .string k.2], .agg #[.int .i64 x.fr, .int .i64 x.to, .string x.inp, .string x.out, .int .i64 x.co]] w (IsStep vPair (pairS s) k x w) := by
 obtain ⟨w3, hw3⟩ : ∃ w3, ((w.alloc (.cells #[.int .i64 k.1, .string k.2] 85)).alloc (.cells #[.int .i64 x.fr, .int .i64 x.to, .string x.inp, .string x.out, .int .i64 x.co] 61)).alloc (.cells #[.int .i64 0, .string { data := #[] }] 85) = w3 := ⟨_, rfl⟩
 obtain ⟨g, hg⟩ : ∃ g, w.heap.size = g := ⟨_, rfl⟩
 have hb3 : Below w.heap.size w w3 := by rw [← hw3]; exact nw _ (nw _ (nw _ (Below.refl _ _)))
 have hA : Blk w3 g 85 #[.int .i64 k.1, .string k.2] := by rw [← hw3, ← hg]; exact ((Blk.new _ _ _).alloc _).alloc _
 have hB : Blk w3 (g + 1) 61 #[.int .i64 x.fr, .int .i64 x.to, .string x.inp, .string x.out, .int .i64 x.co] := by rw [← hw3]; exact (Blk.new_ (by simp; omega)).alloc _
 have hC : Blk w3 (g + 2) 85 #[.int .i64 0, .string ByteArray.empty] := by rw [← hw3]; exact Blk.new_ (by simp; omega)
 have HW3 := Lib.hid hw3
 have HB3 := Lib.hid hb3
 have HC := Lib.hid hC
 have HG := Lib.hid hg
 have a0 := hA.cell 0
 have a1 := hA.cell 1
 have al := hA.lt
 have x0 := hB.cell 0
 have x1 := hB.cell 1
 have x2 := hB.cell 2
 have x3 := hB.cell 3
 have x4 := hB.cell 4
 have xl := hB.lt
 have r0 := hC.cell 0
 have r1 := hC.cell 1
 have f0 := hC.frozen 0
 have f1 := hC.frozen 1
 have rl := hC.lt
 simp at a0 a1 x0 x1 x2 x3 x4 r0 r1
 clear hw3 hb3 hA hB hC hg
 go_enter Tryz.func40, Tryz.ntmps40
 go_upto_region 1 with fail
 rw [HW3.out, HG.out]
 go_wp2_with fail
 have hbE : Below w.heap.size w ((w3.setCell ⟨g + 1 + 1, 0, none⟩ (.int .i64 x.to)).setCell ⟨g + 1 + 1, 1, none⟩ (.string (k.2 ++ x.out))) := (HB3.out.setCell (p := ⟨g + 1 + 1, 0, none⟩) (by show w.heap.size ≤ g + 1 + 1; have := HG.out; omega) _).setCell (p := ⟨g + 1 + 1, 1, none⟩) (by show w.heap.size ≤ g + 1 + 1; have := HG.out; omega) _
 have hE := (HC.out.set_ 0 (.int .i64 x.to)).set_ 1 (.string (k.2 ++ x.out))
 obtain ⟨w5, hw5⟩ : ∃ W, (w3.setCell ⟨g + 1 + 1, 0, none⟩ (.int .i64 x.to)).setCell ⟨g + 1 + 1, 1, none⟩ (.string (k.2 ++ x.out)) = W := ⟨_, rfl⟩
 rw [hw5] at hE hbE ⊢
 have q0 := hE.cell 0
 have q1 := hE.cell 1
 simp at q0 q1
 refine bodyPost_ret (v := .tuple #[.agg #[.int .i64 x.to, .string (k.2 ++ x.out)], .bool true]) (by simp [results, Tryz.results40, go_sem, q0, q1]; done) rfl ?_
 exact ⟨(x.to, k.2 ++ x.out), true, rfl, ⟨rfl, rfl⟩, hbE⟩
set_option maxHeartbeats 8000000 in
theorem stepSpot_any (s : Sc) (out : ByteArray) (m : Int) (a gO : Nat) (x : Ru) (w : World) (hO : w.cell? ⟨gO, 0, none⟩ = some (.string out)) (hl : gO < w.heap.size) (ha : a ≤ out.size) (hsz : out.size ≤ 1000000) (hxo : x.out.size ≤ 1000000) :
 Calls Tryz.prog 68 #[.agg #[.int .i64 m, .int .i64 (a : Int)], .agg #[.int .i64 x.fr, .int .i64 x.to, .string x.inp, .string x.out, .int .i64 x.co], .pointer (some ⟨gO, 0, none⟩)] w (IsStep vSpot (spotS s (bl out)) (m, (a : Int)) x w) := by
 obtain ⟨w3, hw3⟩ : ∃ w3, ((w.alloc (.cells #[.int .i64 m, .int .i64 (a : Int)] 139)).alloc (.cells #[.int .i64 x.fr, .int .i64 x.to, .string x.inp, .string x.out, .int .i64 x.co] 61)).alloc (.cells #[.int .i64 0, .int .i64 0] 139) = w3 := ⟨_, rfl⟩
 obtain ⟨g, hg⟩ : ∃ g, w.heap.size = g := ⟨_, rfl⟩
 obtain ⟨g1, hg1⟩ : ∃ h, g + 1 = h := ⟨_, rfl⟩
 obtain ⟨gr, hgr⟩ : ∃ h, g1 + 1 = h := ⟨_, rfl⟩
 have hb3 : Below w.heap.size w w3 := by rw [← hw3]; exact nw _ (nw _ (nw _ (Below.refl _ _)))
 have hA : Blk w3 g 139 #[.int .i64 m, .int .i64 (a : Int)] := by rw [← hw3, ← hg]; exact ((Blk.new _ _ _).alloc _).alloc _
 have hB : Blk w3 g1 61 #[.int .i64 x.fr, .int .i64 x.to, .string x.inp, .string x.out, .int .i64 x.co] := by rw [← hw3]; exact (Blk.new_ (by simp; omega)).alloc _
 have hC : Blk w3 gr 139 #[.int .i64 0, .int .i64 0] := by rw [← hw3]; exact Blk.new_ (by simp; omega)
 have o0 : w3.cell? ⟨gO, 0, none⟩ = some (.string out) := (hb3.cell (p := ⟨gO, 0, none⟩) hl).trans hO
 have ol : gO < w3.heap.size := Nat.lt_of_lt_of_le hl hb3.size
 have hgrw : w.heap.size ≤ gr := by omega
 have n0 : g ≠ gr := by omega
 have n1 : g1 ≠ gr := by omega
 have n2 : gO ≠ gr := by omega
 have HW3 := Lib.hid hw3
 have HB3 := Lib.hid hb3
 have HC := Lib.hid hC
 have HG := Lib.hid hg
 have HG1 := Lib.hid hg1
 have HGR := Lib.hid hgr
 have a0 := hA.cell 0
 have a1 := hA.cell 1
 have al := hA.lt
 have x0 := hB.cell 0
 have x1 := hB.cell 1
 have x2 := hB.cell 2
 have x3 := hB.cell 3
 have x4 := hB.cell 4
 have xl := hB.lt
 simp at a0 a1 x0 x1 x2 x3 x4
 obtain ⟨pb, hpb⟩ : ∃ b, decide (bl x.out <+: (bl out).drop a) = b := ⟨_, rfl⟩
 have HPC : Hid (∀ W : World, Calls Tryz.prog 69 #[.string (out.extract a out.size), .string x.out] W fun e w' => e = .returned (.bool pb) ∧ W = w') := fun W => by
  have := hasPre_any (out.extract a out.size) x.out W
  rw [bl_drop, hpb] at this
  exact this
 have HFIN : Hid (((spotS s (bl out)).step (m, (a : Int)) x = some (x.to, (a : Int) + (x.out.size : Int)) ∧ pb = true) ∨ ((spotS s (bl out)).step (m, (a : Int)) x = none ∧ pb = false)) := by
  show ((if bl x.out <+: (bl out).drop (a : Int).toNat then some (x.to, (a : Int) + (x.out.size : Int)) else none) = some _ ∧ pb = true) ∨ ((if bl x.out <+: (bl out).drop (a : Int).toNat then some (x.to, (a : Int) + (x.out.size : Int)) else none) = none ∧ pb = false)
  rw [Int.toNat_natCast]
  by_cases h : bl x.out <+: (bl out).drop a
  ·rw [if_pos h]; exact .inl ⟨rfl, by rw [← hpb]; exact decide_eq_true h⟩
  ·rw [if_neg h]; exact .inr ⟨rfl, by rw [← hpb]; exact decide_eq_false h⟩
 have hwr : IntKind.i64.wrap ((a : Int) + (x.out.size : Int)) = (a : Int) + (x.out.size : Int) := by rw [IntKind.wrap_i64]; omega
 have ha0 : (0 : Int) ≤ (a : Int) := by omega
 have ha1 : (a : Int) ≤ (out.size : Int) := by omega
 clear hw3 hb3 hA hB hC hg hg1 hgr hO hl hpb
 go_enter Tryz.func68, Tryz.ntmps68
 go_upto_region 1 with fail
 rw [HW3.out, HG.out, HG1.out, HGR.out]
 refine ordB_start (ButB gr w3) (.quiet 0 (.quiet 1 (.quiet 2 (.quiet 3 (.quiet 4 (.quiet 5 (.quiet 6 (.quiet 7 (.quiet 8 (.quiet 9 (.quiet 10 (.quiet 11 (.quiet 12 (.quiet 13 (.quiet 14 (.only 15 (.only 16 (.quiet 17 .done)))))))))))))))))) (by kernel_rfl) (by kernel_rfl) (by kernel_rfl) (fun _ _ _ _ _ h => h) (ButB.of_below (Below.refl _ _).drew) ?_
 have hS0 : ButB gr w3 w3.drew := ButB.of_below (Below.refl _ _).drew
 have hCW : Blk w3.drew gr 139 #[.int .i64 0, .int .i64 0] := HC.out
 have HBB : Below w.heap.size w w3.drew := HB3.out.drew
 obtain ⟨W0, qqW0⟩ : ∃ W, w3.drew = W := ⟨_, rfl⟩
 rw [qqW0] at hS0 hCW HBB ⊢
 clear qqW0
 iterate 15 ((first | refine ordB_skip rfl rfl ?_ | (refine ordB_take (v := ?_) rfl rfl ?_ ?_; rotate_left 1; (focus (intro W hW; have hcW := hW.cell; (go_simp <;> with_reducible rfl))))); simp only [Act.put, zA, zB, zC])
 refine ordB_only (opB_call rfl rfl (fun K hK => ?_))
 go_simp
 go_at_call 69
 refine (HPC.out W0).mono ?_
 rintro e w' ⟨rfl, rfl⟩
 refine hK.out _ _ hS0 (fun hS0_1 => ?_)
 refine ordB_only (opB_call rfl rfl (fun K hK => ?_))
 have r0 := hCW.cell 0
 have r1 := hCW.cell 1
 have f0 := hCW.frozen 0
 have f1 := hCW.frozen 1
 have rl := hCW.lt
 simp at r0 r1
 go_simp
 refine hK.out _ _ ((hS0_1.set_ 0 (.int .i64 x.to)).set_ 1 (.int .i64 ((a : Int) + (x.out.size : Int)))) (fun hS0_1_2 => ?_)
 clear hK K
 have hE := (hCW.set_ 0 (.int .i64 x.to)).set_ 1 (.int .i64 ((a : Int) + (x.out.size : Int)))
 have hbE := (HBB.setCell (p := ⟨gr, 0, none⟩) hgrw (.int .i64 x.to)).setCell (p := ⟨gr, 1, none⟩) hgrw (.int .i64 ((a : Int) + (x.out.size : Int)))
 obtain ⟨W0_2, qq⟩ : ∃ W', (W0.setCell ⟨gr, 0, none⟩ (.int .i64 x.to)).setCell ⟨gr, 1, none⟩ (.int .i64 ((a : Int) + (x.out.size : Int))) = W' := ⟨_, rfl⟩
 rw [qq] at hS0_1_2 hE hbE ⊢
 clear qq r0 r1 f0 f1 rl
 iterate 1 ((first | refine ordB_skip rfl rfl ?_ | (refine ordB_take (v := ?_) rfl rfl ?_ ?_; rotate_left 1; (focus (intro W hW; have hcW := hW.cell; (go_simp <;> with_reducible rfl))))); simp only [Act.put, zA, zB, zC])
 refine ordB_nil ?_
 clear hS0_1_2
 go_wp2_with fail
 have q0 := hE.cell 0
 have q1 := hE.cell 1
 simp at q0 q1
 refine bodyPost_ret (v := .tuple #[.agg #[.int .i64 x.to, .int .i64 ((a : Int) + (x.out.size : Int))], .bool pb]) (by simp [results, Tryz.results68, go_sem, q0, q1]; done) rfl ?_
 exact IsStep.of HFIN.out hbE
end Go.Proofs.YtfpnhgahkjglgaaGreat
