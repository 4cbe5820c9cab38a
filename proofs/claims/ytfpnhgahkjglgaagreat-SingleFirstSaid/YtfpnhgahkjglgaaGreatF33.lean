/-
  The walk of layer 05's reference: whether an input has an output, by least costs.
-/
import Derived.Test.YtfpnhgahkjglgaaGreatF32
import Derived.Test.YtfpnhgahkjglgaaGreatF30
set_option maxRecDepth 100000
namespace Go.Proofs.YtfpnhgahkjglgaaGreat
open Go Go.RowKit
theorem rep_at {N j : Nat} (h : j < N) : (List.replicate j (-1 : Int) ++ List.replicate (N - j) 0)[j]? = some 0 := by
 rw [List.getElem?_append_right (by simp), List.length_replicate, Nat.sub_self, List.getElem?_replicate_of_lt (by omega)]
theorem rep_set {N j : Nat} (h : j < N) : (List.replicate j (-1 : Int) ++ List.replicate (N - j) 0).set j (-1) = List.replicate (j + 1) (-1) ++ List.replicate (N - (j + 1)) 0 := by
 rw [List.set_append, if_neg (by simp), List.length_replicate, Nat.sub_self, show N - j = N - (j + 1) + 1 by omega, List.replicate_succ, List.set_cons_zero, List.replicate_succ', List.append_assoc]
 rfl
theorem coI_start {s : Sc} {inp out : ByteArray} {W n N : Nat} (hN : 0 < N) : CoI s inp out W n N (((0 * N : Nat) : Int) * 1000) ((List.replicate N (-1)).set 0 0) := by
 refine ⟨by simp, fun x c hx => ?_⟩
 by_cases e : 0 = x
 ·subst e
  rw [List.getElem?_set_self (by simpa using hN)] at hx
  obtain rfl := Option.some.inj hx
  right
  refine ⟨by omega, by simp, ?_⟩
  rw [Nat.zero_div, Nat.zero_div, Nat.zero_mod, Nat.zero_mod]
  exact .start
 ·rw [List.getElem?_set_ne e] at hx
  left
  have := List.mem_of_getElem? hx
  exact (List.mem_replicate.1 this).2
theorem kn_start {s : Sc} {inp out : ByteArray} {W n N : Nat} (hN : 0 < N) : KnR s inp out W n 0 ((List.replicate N (-1)).set 0 0) := fun i k h => by
 cases h
 refine ⟨0, ?_, by omega⟩
 show ((List.replicate N (-1 : Int)).set 0 0)[spi W n 0 0 0]? = _
 have e : spi W n 0 0 0 = 0 := by unfold spi; simp
 rw [e, List.getElem?_set_self (by simpa using hN)]
theorem best_no {m : Nat} {b : Int} {P : Nat → Prop} {Q : Nat → Prop} (h : 0 ≤ b ↔ ∃ m' : Nat, m' < m ∧ P m' ∧ Q m') (hn : ¬ (P m ∧ Q m)) : 0 ≤ b ↔ ∃ m' : Nat, m' < m + 1 ∧ P m' ∧ Q m' :=
 h.trans ⟨fun ⟨m', h1, h2⟩ => ⟨m', by omega, h2⟩, fun ⟨m', h1, h2⟩ => ⟨m', by
  rcases Nat.lt_or_eq_of_le (Nat.lt_succ_iff.1 h1) with h3 | h3
  ·exact h3
  ·subst h3; exact absurd h2 hn, h2⟩⟩
theorem fol_cases {inp out : ByteArray} {t : Ru} {a p m tt ee : Nat} (htt : a + t.inp.size = tt) (hee : p + t.out.size = ee) (ha : a ≤ inp.size) (hp : p ≤ out.size) :
 (((t.fr == (m : Int)) = false ∧ (t.fr != (m : Int)) = true) ∧ Hid (¬ Fol inp out t a p m)) ∨
 ((t.fr = (m : Int) ∧ (t.fr == (m : Int)) = true ∧ (t.fr != (m : Int)) = false) ∧
  (((inp.size : Int) < (tt : Int) ∧ Hid (¬ Fol inp out t a p m)) ∨
  ((¬ (inp.size : Int) < (tt : Int) ∧ (a : Int) ≤ (tt : Int) ∧ (tt : Int) ≤ (inp.size : Int) ∧ (0 : Int) ≤ (a : Int) ∧ (0 : Int) ≤ (tt : Int)) ∧
   (((out.size : Int) < (ee : Int) ∧ Hid (¬ Fol inp out t a p m)) ∨
   ((¬ (out.size : Int) < (ee : Int) ∧ (p : Int) ≤ (ee : Int) ∧ (ee : Int) ≤ (out.size : Int) ∧ (0 : Int) ≤ (p : Int) ∧ (0 : Int) ≤ (ee : Int)) ∧
    ((((inp.extract a tt).toList == t.inp.toList) = false ∧ Hid (¬ Fol inp out t a p m)) ∨
    (((inp.extract a tt).toList == t.inp.toList) = true ∧
     ((((out.extract p ee).toList == t.out.toList) = false ∧ Hid (¬ Fol inp out t a p m)) ∨
     (((out.extract p ee).toList == t.out.toList) = true ∧ Hid (Fol inp out t a p m ∧ tt ≤ inp.size ∧ ee ≤ out.size)))))))))) := by
 by_cases hm : t.fr = (m : Int)
 ·refine .inr ⟨⟨hm, by simpa using hm, by rw [hm]; simp⟩, ?_⟩
  by_cases hle : tt ≤ inp.size
  ·refine .inr ⟨⟨by omega, by omega, by omega, by omega, by omega⟩, ?_⟩
   by_cases hle2 : ee ≤ out.size
   ·refine .inr ⟨⟨by omega, by omega, by omega, by omega, by omega⟩, ?_⟩
    by_cases heq : inp.extract a tt = t.inp
    ·refine .inr ⟨by rw [heq]; simp, ?_⟩
     have h1 : bl t.inp <+: (bl inp).drop a := (ext_pre (by rw [htt]; exact hle)).1 (by rw [htt]; exact heq)
     by_cases hfq : out.extract p ee = t.out
     ·exact .inr ⟨by rw [hfq]; simp, ⟨hm, h1, (ext_pre (by rw [hee]; exact hle2)).1 (by rw [hee]; exact hfq)⟩, hle, hle2⟩
     ·refine .inl ⟨by rw [beq_eq_false_iff_ne]; exact fun e => hfq (toL_inj e), fun h => hfq ?_⟩
      have := (ext_pre (by rw [hee]; exact hle2)).2 h.2.2
      rw [hee] at this
      exact this
    ·refine .inl ⟨by rw [beq_eq_false_iff_ne]; exact fun e => heq (toL_inj e), fun h => heq ?_⟩
     have := (ext_pre (by rw [htt]; exact hle)).2 h.2.1
     rw [htt] at this
     exact this
   ·refine .inl ⟨by omega, fun h => ?_⟩
    have h2 := h.2.2.length_le
    rw [bl_len, List.length_drop, bl_len] at h2
    omega
  ·refine .inl ⟨by omega, fun h => ?_⟩
   have h2 := h.2.1.length_le
   rw [bl_len, List.length_drop, bl_len] at h2
   omega
 ·have hm2 : (t.fr == (m : Int)) = false := by simpa using hm
  exact .inl ⟨⟨hm2, by rw [bne, hm2]; rfl⟩, fun h => hm h.1⟩
theorem put_cases (u x : Int) : (u < 0 ∧ decide (u < 0) = true ∧ Hid ((decide (u < 0) || decide (x < u)) = true)) ∨ (¬ u < 0 ∧ decide (u < 0) = false ∧ x < u ∧ decide (x < u) = true ∧ Hid ((decide (u < 0) || decide (x < u)) = true)) ∨
 (¬ u < 0 ∧ decide (u < 0) = false ∧ ¬ x < u ∧ decide (x < u) = false ∧ Hid ((decide (u < 0) || decide (x < u)) = false)) := by
 by_cases h : u < 0
 ·exact .inl ⟨h, decide_eq_true h, by show (_ || _) = _; rw [decide_eq_true h]; rfl⟩
 ·by_cases h2 : x < u
  ·exact .inr (.inl ⟨h, decide_eq_false h, h2, decide_eq_true h2, by show (_ || _) = _; rw [decide_eq_true h2, Bool.or_true]⟩)
  ·exact .inr (.inr ⟨h, decide_eq_false h, h2, decide_eq_false h2, by show (_ || _) = _; rw [decide_eq_false h, decide_eq_false h2]; rfl⟩)
def IsRCost (s : Sc) (inp out : ByteArray) (w : World) (e : Ending) (w' : World) : Prop :=
 (∃ r : Int, e = .returned (.int .i64 r) ∧ (0 ≤ r ↔ soundE s = 0 ∧ letB inp = true ∧ ∃ c, Whole s inp out c)) ∧ Below w.heap.size w w'
set_option maxHeartbeats 16000000 in
theorem rcost_any (s : Sc) (A : Option Addr) (c : Nat) (inp out : ByteArray) (w : World) (hs : ScIn w s A c) (hsz : inp.size ≤ maxLen) (hout : out.size ≤ 1000) (hfl : ScOK s → SoundP s → FlatR s) :
 Calls Tryz.prog 34 #[.agg #[.int .i64 s.n, .int .u8 s.acc, .slice A s.rs.length c], .string inp, .string out] w (IsRCost s inp out w) := by
 obtain ⟨i0, hi, hz0, hz1, hz2⟩ := info_parts int_info
 obtain ⟨w1, hw1⟩ : ∃ w1, w.alloc (.cells #[.int .i64 s.n, .int .u8 s.acc, .slice A s.rs.length c] 30) = w1 := ⟨_, rfl⟩
 have hb1 : Below w.heap.size w w1 := by rw [← hw1]; exact nw _ (Below.refl _ _)
 have hB : Blk w1 w.heap.size 30 #[.int .i64 s.n, .int .u8 s.acc, .slice A s.rs.length c] := by rw [← hw1]; exact Blk.new _ _ _
 have HW1 := Lib.hid hw1
 have HB1 := Lib.hid hb1
 have HCE : Hid (∀ W, Below w1.heap.size w1 W → W.cell? ⟨w.heap.size, 0, none⟩ = some (.int .i64 s.n) ∧ W.cell? ⟨w.heap.size, 1, none⟩ = some (.int .u8 s.acc) ∧ W.cell? ⟨w.heap.size, 2, none⟩ = some (.slice A s.rs.length c) ∧ w.heap.size < W.heap.size) := fun W hW => by
  have e1 := hB.below hW hB.lt
  exact ⟨by rw [e1.cell]; rfl, by rw [e1.cell]; rfl, by rw [e1.cell]; rfl, e1.lt⟩
 obtain ⟨b0, b1, b2, bl⟩ := HCE.out _ (Below.refl _ _)
 clear hw1 hb1 hB
 have HS2 : Hid (∀ W, Below w1.heap.size w1 W → ScIn W s A c) := fun W hW => hs.below (HB1.out.trans (hW.mono HB1.out.size))
 have HSND : Hid (∀ W, Below w1.heap.size w1 W → Calls Tryz.prog 16 #[.agg #[.int .i64 s.n, .int .u8 s.acc, .slice A s.rs.length c]] W fun e w' => IsSnd s e ∧ Below W.heap.size W w') := fun W hW => rsound5_any s A c W (HS2.out W hW)
 have HSZ := Lib.hid hsz
 have hrl := hs.len
 clear hs hsz
 by_cases hE : soundE s = 0
 ·have HE := Lib.hid hE
  by_cases hL : letB inp = true
  ·have HLT : Hid (∀ W, Calls Tryz.prog 30 #[.string inp] W fun e w' => e = .returned (.bool true) ∧ W = w') := fun W => by
    have h := rletters_any inp W HSZ.out
    rw [hL] at h
    exact h
   have HEL : Hid (soundE s = 0 ∧ letB inp = true) := ⟨hE, hL⟩
   have HOK := Lib.hid (soundE_iff.1 hE).1
   have HFS : Hid (Flat (spotS s (Go.Proofs.YtfpnhgahkjglgaaGreat.bl out)) (0, 0) (Go.Proofs.YtfpnhgahkjglgaaGreat.bl inp)) := spot_flat (hfl HOK.out (soundE_iff.1 hE).2) _ _
   have hI40 : inp.size ≤ 40 := (letB_iff.1 hL).1
   obtain ⟨n, hn⟩ : ∃ n : Nat, s.n = (n : Int) := ⟨s.n.toNat, by have := HOK.out.1; omega⟩
   have hn1 : 1 ≤ n := by have := HOK.out.1; omega
   have hn8 : n ≤ 8 := by have := HOK.out.1; omega
   have HNI := Lib.hid hn
   have HNN : Hid (n = s.n.toNat) := by show _ = _; rw [hn]; rfl
   rw [hn] at HW1 HCE HSND b0 ⊢
   clear hE hL hn
   go_enter Tryz.func34, Tryz.ntmps34
   go_upto_region 1 with fail
   rw [HW1.out]
   go_upto_region 3 with (first | (go_at_call 16; go_loud (refine (HSND.out _ (Below.refl _ _)).mono ?_; rintro e w2 ⟨hq, hb2⟩; obtain rfl := hq.yes HE.out; have HB2 := Lib.hid hb2; clear hb2 hq)) | (go_at_call 30; go_loud (refine (HLT.out w2).mono ?_; rintro e w' ⟨rfl, rfl⟩)))
   go_upto_region 4 with fail
   obtain ⟨W, hW⟩ : ∃ W : Nat, out.size + 1 = W := ⟨_, rfl⟩
   have hWi : (out.size : Int) + 1 = (W : Int) := by omega
   rw [hWi]
   have hW1 : 1 ≤ W := by omega
   have hW1001 : W ≤ 1001 := by omega
   have HWE : Hid (W = out.size + 1) := hW.symm
   obtain ⟨P, hP⟩ : ∃ P : Nat, (inp.size + 1) * W = P := ⟨_, rfl⟩
   have hPb : P ≤ 41 * 1001 := by rw [← hP]; exact Nat.mul_le_mul (by omega) hW1001
   have hP1 : 1 * 1 ≤ P := by rw [← hP]; exact Nat.mul_le_mul (by omega) hW1
   obtain ⟨N, hN⟩ : ∃ N : Nat, P * n = N := ⟨_, rfl⟩
   have hNb : N ≤ 41041 * 8 := by rw [← hN]; exact Nat.mul_le_mul hPb hn8
   have hN1 : 1 * 1 ≤ N := by rw [← hN]; exact Nat.mul_le_mul (by omega) hn1
   have HNE : Hid (N = (inp.size + 1) * W * n) := by show _ = _; rw [hP, hN]
   have HPE := Lib.hid hP
   have hPi : ((inp.size : Int) + 1) * (W : Int) = (P : Int) := by rw [← hP, Int.natCast_mul]; rfl
   have hNi : (P : Int) * (n : Int) = (N : Int) := by rw [← hN, Int.natCast_mul]
   have hwP : IntKind.i64.wrap (((inp.size : Int) + 1) * (W : Int)) = (P : Int) := by rw [hPi]; exact IntWalk.i64_in _ (by omega)
   have hwN : IntKind.i64.wrap ((P : Int) * (n : Int)) = (N : Int) := by rw [hNi]; exact IntWalk.i64_in _ (by omega)
   have hN6 : N ≤ 1000000 := by omega
   clear b0 b1 b2 bl
   obtain ⟨b0, b1, b2, bl⟩ := HCE.out _ HB2.out
   clear hW hWi hP hN hPi hNi
   go_upto_region 5 with (at_make; go_loud (refine wpList_mk _ rfl _ _ 99 rfl 3 i0 (.int .i64 0) (.int .i64 0) Tryz.underlying99 hi hz0 hz1 (by omega) rfl N rfl rfl hN6 ?_))
   obtain ⟨W3, hW3⟩ : ∃ W, w2.alloc (.cells (Array.replicate N (Value.int .i64 0)) 3) = W := ⟨_, rfl⟩
   have hb3 : Below w2.heap.size w2 W3 := by rw [← hW3]; exact nw _ (Below.refl _ _)
   have hR3 : Row W3 w2.heap.size (List.replicate N 0) := by rw [← hW3, ← List.toArray_replicate]; exact Row.zeros _ _
   rw [hW3]
   clear hW3
   obtain ⟨gh, hgh⟩ : ∃ b, w2.heap.size = b := ⟨_, rfl⟩
   rw [hgh] at hR3 hb3 ⊢
   have HBG : Hid (∀ V, Below gh W3 V → Below w.heap.size w V) := fun V hV => HB1.out.trans ((HB2.out.trans ((hb3.mono (by have := HB2.out.size; omega)).trans (hV.mono (by have := HB2.out.size; omega)))).mono HB1.out.size)
   have HBH : Hid (∀ V, Below gh W3 V → Below w1.heap.size w1 V) := fun V hV => HB2.out.trans ((hb3.mono (by have := HB2.out.size; omega)).trans (hV.mono (by have := HB2.out.size; omega)))
   have HROW3 := Lib.hid hR3
   clear hb3 hR3 hgh b0 b1 b2 bl
   go_wp2_with fail
   go_loopw [9] (fun jv wr => ∃ j : Nat, j ≤ N ∧ jv = .int .i64 (j : Int) ∧ Row wr gh (List.replicate j (-1) ++ List.replicate (N - j) 0) ∧ Below gh W3 wr) (fun jv _ => N - (intOf jv).toNat)
   case atStart => exact ⟨0, Nat.zero_le _, rfl, by simpa using HROW3.out, Below.refl _ _⟩
   case round =>
    obtain ⟨wR, rfl⟩ : ∃ W, W = wr := ⟨wr, rfl⟩
    obtain ⟨j, hj, rfl, hrow, hbr⟩ := hrel
    have HROW := Lib.hid hrow
    have HBR := Lib.hid hbr
    by_cases hlt : j < N
    ·have hji : (j : Int) < (N : Int) := by omega
     have hj0 : (0 : Int) ≤ (j : Int) := by omega
     have a0 := hrow.cell (rep_at hlt)
     have af := hrow.frozen j
     have al := hrow.lt
     clear hrow hbr
     go_wp2_with fail
     go_roundw
     case rel => exact ⟨j + 1, by omega, by go_num, by rw [← rep_set hlt]; exact HROW.out.set_ j (-1), HBR.out.setCell (p := ⟨gh, j, none⟩) (Nat.le_refl _) _⟩
     case measure => simp [intOf]; omega
    ·obtain rfl : j = N := by omega
     have hji : ¬ ((j : Nat) : Int) < (j : Int) := by omega
     have hR0 : Row wR gh (List.replicate j (-1)) := by simpa using hrow
     have HR0 := Lib.hid hR0
     have a0 := hR0.cell (k := 0) (x := -1) (by rw [List.getElem?_replicate_of_lt (by omega)])
     have af := hR0.frozen 0
     have al := hR0.lt
     have hj0 : (0 : Int) < (j : Int) := by omega
     clear hrow hbr hR0 HROW hlt
     obtain ⟨R, hR⟩ : ∃ R : Nat, (inp.size + out.size + 1) * n = R := ⟨_, rfl⟩
     have hRb : R ≤ 1041 * 8 := by rw [← hR]; exact Nat.mul_le_mul (by omega) hn8
     have hRi : ((inp.size : Int) + (out.size : Int) + 1) * (n : Int) = (R : Int) := by rw [← hR, Int.natCast_mul]; rfl
     have hwR : IntKind.i64.wrap (((inp.size : Int) + (out.size : Int) + 1) * (n : Int)) = (R : Int) := by rw [hRi]; exact IntWalk.i64_in _ (by omega)
     have HRE := Lib.hid hR
     clear hR hRi
     go_upto_region 10 with fail
     obtain ⟨W4, hW4⟩ : ∃ V, wR.setCell ⟨gh, 0, none⟩ (.int .i64 0) = V := ⟨_, rfl⟩
     have HROW4 : Hid (Row W4 gh ((List.replicate j (-1)).set 0 0)) := by show Row _ _ _; rw [← hW4]; exact HR0.out.set_ 0 0
     have HB4 : Hid (Below gh W3 W4) := by show Below _ _ _; rw [← hW4]; exact HBR.out.setCell (p := ⟨gh, 0, none⟩) (Nat.le_refl _) _
     rw [hW4]
     clear hW4 a0 af al HR0 HBR
     have HC0 : Hid (CoI s inp out W n j (((0 * j : Nat) : Int) * 1000) ((List.replicate j (-1)).set 0 0)) := coI_start (by omega)
     have HK0 : Hid (KnR s inp out W n 0 ((List.replicate j (-1)).set 0 0)) := kn_start (by omega)
     go_wp2_with fail
     go_loopw [10] (fun rv wr => ∃ (r : Nat) (T : List Int), r ≤ R + 1 ∧ rv = .int .i64 (r : Int) ∧ Row wr gh T ∧ Hid (CoI s inp out W n j (((r * j : Nat) : Int) * 1000) T ∧ KnR s inp out W n r T) ∧ Below gh W3 wr) (fun rv _ => R + 1 - (intOf rv).toNat)
     case atStart => exact ⟨0, _, by omega, rfl, HROW4.out, ⟨HC0.out, HK0.out⟩, HB4.out⟩
     case round =>
      clear HROW4 HB4 HC0 HK0
      obtain ⟨wR, rfl⟩ : ∃ W, W = wr := ⟨wr, rfl⟩
      obtain ⟨r, T, hr, rfl, hrow, HI, hbr⟩ := hrel
      have HROW := Lib.hid hrow
      have HBR := Lib.hid hbr
      obtain ⟨b0, b1, b2, bl⟩ := HCE.out _ (HBH.out _ hbr)
      clear hrow hbr
      by_cases hlt : r ≤ R
      ·have hri : (r : Int) ≤ (R : Int) := by omega
       obtain ⟨q, hq⟩ : ∃ q : Nat, r * j = q := ⟨_, rfl⟩
       have hqb : q ≤ 8328 * 328328 := by rw [← hq]; exact Nat.mul_le_mul (by omega) (by omega)
       have HQE : Hid ((r + 1) * j = q + j) := by show _ = _; rw [Nat.succ_mul, hq]
       have HC : Hid (CoI s inp out W n j (((q + 0 : Nat) : Int) * 1000) T) := by have := HI.out.1; rw [hq] at this; exact this
       clear hq
       go_wp2_with fail
       go_loopw [11] (fun kv wr => ∃ (k : Nat) (T' : List Int), k ≤ j ∧ kv = .int .i64 (k : Int) ∧ Row wr gh T' ∧ Hid (CoI s inp out W n j (((q + k : Nat) : Int) * 1000) T' ∧ RdC s inp out W n T T' k 0) ∧ Below gh W3 wr) (fun kv _ => j - (intOf kv).toNat)
       case atStart => exact ⟨0, T, Nat.zero_le _, rfl, HROW.out, ⟨HC.out, RdC.start T⟩, HBR.out⟩
       case round =>
        clear HC b0 b1 b2 bl hri
        have HIK := Lib.hid HI.out.2
        have HTL : Hid (T.length = j) := HI.out.1.len
        clear HI HROW HBR
        obtain ⟨wQ, rfl⟩ : ∃ W, W = wr := ⟨wr, rfl⟩
        obtain ⟨k, T', hk, rfl, hrow, HI, hbr⟩ := hrel
        have HROW := Lib.hid hrow
        have HBR := Lib.hid hbr
        have hT'l : T'.length = j := HI.out.1.len
        by_cases hlk : k < j
        ·have hki : (k : Int) < (j : Int) := by omega
         have hk0 : (0 : Int) ≤ (k : Int) := by omega
         obtain ⟨v, hv⟩ : ∃ v, T'[k]? = some v := ⟨_, List.getElem?_eq_getElem (by omega)⟩
         have HV := Lib.hid hv
         have a0 := hrow.cell hv
         have al := hrow.lt
         clear hrow hT'l hv
         by_cases hv0 : v < 0
         ·have HRD : Hid (RdC s inp out W n T T' (k + 1) 0) := HI.out.2.leave (fun ⟨d, h1, h2⟩ => by have := Option.some.inj (HV.out.symm.trans h1); omega)
          have HC2 : Hid (CoI s inp out W n j (((q + (k + 1) : Nat) : Int) * 1000) T') := HI.out.1.more (by omega)
          clear hbr
          go_wp2_with fail
          go_roundw
          case rel => exact ⟨k + 1, T', by omega, by go_num, HROW.out, ⟨HC2.out, HRD.out⟩, HBR.out⟩
          case measure => simp [intOf]; omega
         ·have hv1 : 0 ≤ v := by omega
          have HVB : Hid (v ≤ ((q + k : Nat) : Int) * 1000) := by
           rcases HI.out.1.rch k v HV.out with h | h
           ·omega
           ·exact h.2.1
          obtain ⟨b0, b1, b2, bl⟩ := HCE.out _ (HBH.out _ hbr)
          have hn0 : (n : Int) ≠ 0 := by omega
          have hn0n : n ≠ 0 := by omega
          have hW0 : (W : Int) ≠ 0 := by omega
          have hW0n : W ≠ 0 := by omega
          obtain ⟨m, hm⟩ : ∃ m : Nat, k % n = m := ⟨_, rfl⟩
          obtain ⟨d, hd⟩ : ∃ d : Nat, k / n = d := ⟨_, rfl⟩
          obtain ⟨a, ha⟩ : ∃ a : Nat, d / W = a := ⟨_, rfl⟩
          obtain ⟨p, hp⟩ : ∃ p : Nat, d % W = p := ⟨_, rfl⟩
          have hmt : (k : Int).tmod (n : Int) = (m : Int) := by rw [Int.tmod_eq_emod_of_nonneg hk0, ← Int.natCast_emod, hm]
          have hdt : (k : Int).tdiv (n : Int) = (d : Int) := by rw [Int.tdiv_eq_ediv_of_nonneg hk0, ← Int.natCast_ediv, hd]
          have hat_ : (d : Int).tdiv (W : Int) = (a : Int) := by rw [Int.tdiv_eq_ediv_of_nonneg (by omega), ← Int.natCast_ediv, ha]
          have hpt : (d : Int).tmod (W : Int) = (p : Int) := by rw [Int.tmod_eq_emod_of_nonneg (by omega), ← Int.natCast_emod, hp]
          have hdk : d ≤ k := by rw [← hd]; exact Nat.div_le_self _ _
          have had : a ≤ d := by rw [← ha]; exact Nat.div_le_self _ _
          have hmn : m < n := by rw [← hm]; exact Nat.mod_lt _ (by omega)
          have hpW : p < W := by rw [← hp]; exact Nat.mod_lt _ (by omega)
          have HPT : Hid (k / n / W = a ∧ k / n % W = p ∧ k % n = m) := ⟨by rw [hd, ha], by rw [hd, hp], hm⟩
          have HAI : Hid (a ≤ inp.size) := by
           rcases HI.out.1.rch k v HV.out with h | ⟨_, _, h⟩
           ·omega
           ·have := (co_facts HOK.out h).1; rw [HPT.out.1] at this; exact this
          have hwm : IntKind.i64.wrap (m : Int) = (m : Int) := IntWalk.i64_in _ (by omega)
          have hwd : IntKind.i64.wrap (d : Int) = (d : Int) := IntWalk.i64_in _ (by omega)
          have hwa : IntKind.i64.wrap (a : Int) = (a : Int) := IntWalk.i64_in _ (by omega)
          have hwp : IntKind.i64.wrap (p : Int) = (p : Int) := IntWalk.i64_in _ (by omega)
          clear hm hd ha hp hbr
          go_upto_region 17 with fail
          go_cut [12, 13, 14] (fun s12 s13 s14 V => s12 = .int .i64 (m : Int) ∧ s13 = .int .i64 (a : Int) ∧ s14 = .int .i64 (p : Int) ∧ Below wQ.heap.size wQ V)
          case first => as_aux_lemma =>
           refine ordB_below (.quiet 0 (.quiet 1 (.quiet 2 (.quiet 3 (.quiet 4 (.quiet 5 (.quiet 6 (.quiet 7 (.quiet 8 (.quiet 9 (.quiet 10 (.quiet 11 (.quiet 12 (.quiet 13 (.quiet 14 (.quiet 15 (.quiet 16 (.quiet 17 (.quiet 18 .done))))))))))))))))))) (by kernel_rfl) (by kernel_rfl) (by kernel_rfl) (fun _ _ _ _ _ h => h) ?_
           intro V0 hV0
           iterate 19 ((first | refine ordB_skip rfl rfl ?_ | (refine ordB_take (v := ?_) rfl rfl ?_ ?_; rotate_left 1; (focus (intro W hW; obtain ⟨hcW, hfW⟩ := bcell hW; (go_simp <;> with_reducible rfl))))); simp only [Act.put, zA, zB, zC])
           refine ordB_nil ?_
           have hB17 := hV0
           clear hV0
           go_wp2_with fail
           go_meet
           exact ⟨rfl, rfl, rfl, hB17⟩
          case rest =>
           obtain ⟨X1, rfl⟩ : ∃ W, W = wc := ⟨wc, rfl⟩
           obtain ⟨rfl, rfl, rfl, hbx⟩ := hcut
           have HRX : Hid (Row X1 gh T') := HROW.out.below hbx al
           have HBX : Hid (Below gh W3 X1) := HBR.out.trans (hbx.mono (Nat.le_of_lt al))
           have HC2 : Hid (CoI s inp out W n j (((q + (k + 1) : Nat) : Int) * 1000) T') := HI.out.1.more (by omega)
           clear hmt hdt hat_ hpt hwm hwd hwa hwp hbx b0 b1 b2 bl a0 al
           go_wp2_with fail
           go_loopw [15] (fun iv wr => ∃ (i : Nat) (T2 : List Int), i ≤ s.rs.length ∧ iv = .int .i64 (i : Int) ∧ Row wr gh T2 ∧ Hid (CoI s inp out W n j (((q + (k + 1) : Nat) : Int) * 1000) T2 ∧ RdC s inp out W n T T2 k i ∧ T2[k]? = some v) ∧ Below gh W3 wr) (fun iv _ => s.rs.length - (intOf iv).toNat)
           case atStart => exact ⟨0, T', Nat.zero_le _, rfl, HRX.out, ⟨HC2.out, HI.out.2, HV.out⟩, HBX.out⟩
           case round => as_aux_lemma =>
            clear HRX HBX HC2 HI HROW HBR HV
            obtain ⟨wU, rfl⟩ : ∃ W, W = wr := ⟨wr, rfl⟩
            obtain ⟨i, T2, hil, rfl, hrow, HI, hbr⟩ := hrel
            have HROW := Lib.hid hrow
            have HBR := Lib.hid hbr
            obtain ⟨b0, b1, b2, bl⟩ := HCE.out _ (HBH.out _ hbr)
            by_cases hli : i < s.rs.length
            ·have hii : (i : Int) < (s.rs.length : Int) := by omega
             have hi0 : (0 : Int) ≤ (i : Int) := by omega
             obtain ⟨bb, off, t, hA, hbb, hxx, d0, d1, d2, d3, d4⟩ := ((HS2.out _ (HBH.out _ hbr)).sl).ru hli
             have HX := Lib.hid hxx
             have hru := HOK.out.2.2.2.1 t (List.mem_of_getElem? hxx)
             have hti := hru.2.1.1
             have hto := hru.2.2.1.1
             have htc := hru.2.2.2
             have htt := hru.1
             subst hA
             have hRA := hrow.alloc (.cells #[.int .i64 t.fr, .int .i64 t.to, .string t.inp, .string t.out, .int .i64 t.co] 61)
             have hBA := hbr.alloc (B := gh) (by have := hrow.lt; omega) (.cells #[.int .i64 t.fr, .int .i64 t.to, .string t.inp, .string t.out, .int .i64 t.co] 61)
             clear hrow hbr hxx hru
             go_upto_region 22 with fail
             obtain ⟨g8, hg8⟩ : ∃ b, wU.heap.size = b := ⟨_, rfl⟩
             obtain ⟨X2, hX2⟩ : ∃ V, wU.alloc (.cells #[.int .i64 t.fr, .int .i64 t.to, .string t.inp, .string t.out, .int .i64 t.co] 61) = V := ⟨_, rfl⟩
             have hL8 : Blk X2 g8 61 #[.int .i64 t.fr, .int .i64 t.to, .string t.inp, .string t.out, .int .i64 t.co] := by rw [← hX2]; exact Blk.new_ hg8.symm
             rw [hX2] at hRA hBA ⊢
             rw [hg8]
             have hne8 : gh < g8 := by rw [← hg8]; exact HROW.out.lt
             have HL8 := Lib.hid hL8
             have HRA := Lib.hid hRA
             have HBA := Lib.hid hBA
             have y2 := hL8.cell 2
             have y3 := hL8.cell 3
             have yl := hL8.lt
             simp at y2 y3
             obtain ⟨tt, htt2⟩ : ∃ z, a + t.inp.size = z := ⟨_, rfl⟩
             obtain ⟨ee, hee2⟩ : ∃ z, p + t.out.size = z := ⟨_, rfl⟩
             have hwt : IntKind.i64.wrap ((a : Int) + (t.inp.size : Int)) = (tt : Int) := by rw [← Int.natCast_add, htt2]; exact IntWalk.i64_in _ (by omega)
             have hwe : IntKind.i64.wrap ((p : Int) + (t.out.size : Int)) = (ee : Int) := by rw [← Int.natCast_add, hee2]; exact IntWalk.i64_in _ (by omega)
             have HTT := Lib.hid htt2
             have HEE := Lib.hid hee2
             have hats : a ≤ tt := by omega
             have hpes : p ≤ ee := by omega
             clear hX2 hg8 hL8 hRA hBA htt2 hee2 d0 d1 d2 d3 d4 hbb b0 b1 b2 bl
             go_cut [17, 18] (fun s17 s18 V => s17 = .int .i64 (tt : Int) ∧ s18 = .int .i64 (ee : Int) ∧ Below X2.heap.size X2 V)
             case first => as_aux_lemma =>
              refine ordB_below (.quiet 0 (.quiet 1 (.quiet 2 (.quiet 3 (.quiet 4 (.quiet 5 (.quiet 6 (.quiet 7 (.quiet 8 (.quiet 9 (.quiet 10 (.quiet 11 .done)))))))))))) (by kernel_rfl) (by kernel_rfl) (by kernel_rfl) (fun _ _ _ _ _ h => h) ?_
              intro V0 hV0
              iterate 12 ((first | refine ordB_skip rfl rfl ?_ | (refine ordB_take (v := ?_) rfl rfl ?_ ?_; rotate_left 1; (focus (intro W hW; obtain ⟨hcW, hfW⟩ := bcell hW; (go_simp <;> with_reducible rfl))))); simp only [Act.put, zA, zB, zC])
              refine ordB_nil ?_
              have hB22 := hV0
              clear hV0
              go_wp2_with fail
              go_meet
              exact ⟨rfl, rfl, hB22⟩
             case rest =>
              obtain ⟨X3, rfl⟩ : ∃ W, W = wc := ⟨wc, rfl⟩
              obtain ⟨rfl, rfl, hb3⟩ := hcut
              have hL9 := HL8.out.below hb3 HL8.out.lt
              have HL9 := Lib.hid hL9
              have HRB := Lib.hid (HRA.out.below hb3 HRA.out.lt)
              have HBB : Hid (Below gh W3 X3) := HBA.out.trans (hb3.mono (Nat.le_of_lt HRA.out.lt))
              clear y2 y3 yl hwt hwe hb3
              have y0 := hL9.cell 0
              have y2 := hL9.cell 2
              have y3 := hL9.cell 3
              have yl := hL9.lt
              simp at y0 y2 y3
              clear hL9
              go_upto_region 23 with fail
              go_cut [149] (fun s149 V => IsPutB (¬ Fol inp out t a p m) (Fol inp out t a p m ∧ tt ≤ inp.size ∧ ee ≤ out.size) s149 ∧ Below X3.heap.size X3 V)
              case first => as_aux_lemma =>
               rcases fol_cases HTT.out HEE.out HAI.out (show p ≤ out.size by have := HWE.out; omega) (m := m) with ⟨⟨hm2, hm3⟩, HNO⟩ | ⟨⟨hm, hm2, hm3⟩, ⟨hlei, HNO⟩ | ⟨⟨hlei, hs1, hs2, hs3, hs4⟩, ⟨hlej, HNO⟩ | ⟨⟨hlej, hr1, hr2, hr3, hr4⟩, ⟨heq2, HNO⟩ | ⟨heq2, ⟨hfq2, HNO⟩ | ⟨hfq2, HYES⟩⟩⟩⟩⟩
               all_goals
                try rw [hm] at y0
                try clear hm
                refine ordB_below (.quiet 0 (.quiet 1 (.quiet 2 (.quiet 3 (.quiet 4 (.quiet 5 (.quiet 6 (.quiet 7 (.quiet 8 (.quiet 9 (.quiet 10 (.quiet 11 (.quiet 12 (.quiet 13 (.quiet 14 (.quiet 15 (.quiet 16 (.quiet 17 (.quiet 18 (.quiet 19 (.quiet 20 (.quiet 21 (.quiet 22 (.quiet 23 (.quiet 24 (.quiet 25 (.quiet 26 (.quiet 27 (.quiet 28 (.quiet 29 (.quiet 30 (.quiet 31 (.quiet 32 (.quiet 33 .done)))))))))))))))))))))))))))))))))) (by kernel_rfl) (by kernel_rfl) (by kernel_rfl) (fun _ _ _ _ _ h => h) ?_
                intro V0 hV0
                iterate 34 ((first | refine ordB_skip rfl rfl ?_ | (refine ordB_take (v := ?_) rfl rfl ?_ ?_; rotate_left 1; (focus (intro W hW; obtain ⟨hcW, hfW⟩ := bcell hW; (go_simp <;> with_reducible rfl))))); simp only [Act.put, zA, zB, zC])
                refine ordB_nil ?_
                have hB23 := hV0
                clear hV0
                go_wp2_with fail
                go_meet
                first | exact ⟨.yes (fun h => HNO.out h), hB23⟩ | exact ⟨.no HYES.out, hB23⟩
              case rest =>
               obtain ⟨X4, rfl⟩ : ∃ W, W = wc := ⟨wc, rfl⟩
               obtain ⟨⟨bo, rfl, hno, hyes⟩, hb4⟩ := hcut
               have HNO := Lib.hid hno
               have HYS := Lib.hid hyes
               have hL9 := HL9.out.below hb4 HL9.out.lt
               have HRC := Lib.hid (HRB.out.below hb4 HRB.out.lt)
               have HBC : Hid (Below gh W3 X4) := HBB.out.trans (hb4.mono (Nat.le_of_lt HRB.out.lt))
               obtain ⟨b0, b1, b2, bl⟩ := HCE.out _ (HBH.out _ HBC.out)
               clear y0 y2 y3 yl hno hyes hb4
               have y1 := hL9.cell 1
               have y4 := hL9.cell 4
               have yl := hL9.lt
               simp at y1 y4
               have HL10 := Lib.hid hL9
               clear hL9
               cases hbo : bo with
               | true =>
                have HSK : Hid (RdC s inp out W n T T2 k (i + 1)) := HI.out.2.1.skip HX.out (.inl (by rw [HPT.out.1, HPT.out.2.1, HPT.out.2.2]; exact HNO.out hbo))
                clear hbo
                go_wp2_with fail
                go_roundw
                case rel => exact ⟨i + 1, T2, by omega, by go_num, HRC.out, ⟨HI.out.1, HSK.out, HI.out.2.2⟩, HBC.out⟩
                case measure => simp [intOf]; omega
               | false =>
                have HF5 := Lib.hid (HYS.out hbo)
                clear hbo
                have HTO : Hid (spi W n tt ee t.to.toNat < j ∧ CoR s inp out tt ee t.to.toNat (v + t.co)) := by
                 have h := fol_to HOK.out HWE.out HNN.out HNE.out HI.out.1 HI.out.2.2 hv1 (List.mem_of_getElem? HX.out) (by rw [HPT.out.1, HPT.out.2.1, HPT.out.2.2]; exact HF5.out.1)
                 rw [HPT.out.1, HPT.out.2.1, HTT.out, HEE.out] at h
                 exact h
                obtain ⟨tn, htn⟩ : ∃ tn : Nat, t.to = (tn : Int) := ⟨t.to.toNat, by omega⟩
                have hteq : t.to.toNat = tn := by omega
                rw [hteq] at HTO
                have HTN := Lib.hid hteq
                have htnn : (tn : Int) < (n : Int) := by have := htt.2.2; rw [HNI.out] at this; omega
                rw [htn] at y1
                have httb : tt ≤ 40 := by have := HF5.out.2.1; omega
                have heeb : ee ≤ 1000 := by have := HF5.out.2.2; omega
                obtain ⟨x1, hx1⟩ : ∃ z : Nat, tt * W = z := ⟨_, rfl⟩
                have hx1b : x1 ≤ 40 * 1001 := by rw [← hx1]; exact Nat.mul_le_mul httb hW1001
                have hx1i : (tt : Int) * (W : Int) = (x1 : Int) := by rw [← hx1, Int.natCast_mul]
                have hz1 : IntKind.i64.wrap ((tt : Int) * (W : Int)) = (x1 : Int) := by rw [hx1i]; exact IntWalk.i64_in _ (by omega)
                obtain ⟨x2, hx2⟩ : ∃ z : Nat, x1 + ee = z := ⟨_, rfl⟩
                have hz2 : IntKind.i64.wrap ((x1 : Int) + (ee : Int)) = (x2 : Int) := by rw [← Int.natCast_add, hx2]; exact IntWalk.i64_in _ (by omega)
                obtain ⟨x3, hx3⟩ : ∃ z : Nat, x2 * n = z := ⟨_, rfl⟩
                have hx3b : x3 ≤ 41040 * 8 := by rw [← hx3]; exact Nat.mul_le_mul (by omega) hn8
                have hx3i : (x2 : Int) * (n : Int) = (x3 : Int) := by rw [← hx3, Int.natCast_mul]
                have hz3 : IntKind.i64.wrap ((x2 : Int) * (n : Int)) = (x3 : Int) := by rw [hx3i]; exact IntWalk.i64_in _ (by omega)
                obtain ⟨y, hy⟩ : ∃ z : Nat, x3 + tn = z := ⟨_, rfl⟩
                have hz4 : IntKind.i64.wrap ((x3 : Int) + (tn : Int)) = (y : Int) := by rw [← Int.natCast_add, hy]; exact IntWalk.i64_in _ (by omega)
                have HYE : Hid (spi W n tt ee tn = y) := by show _ = _; unfold spi; rw [hx1, hx2, hx3, hy]
                have hyj : y < j := by have := HTO.out.1; rw [HYE.out] at this; exact this
                clear hx1 hx2 hx3 hy hx1i hx3i htn hteq htt
                go_upto_region 25 with fail
                obtain ⟨u, hu⟩ : ∃ u, T2[y]? = some u := ⟨_, List.getElem?_eq_getElem (by have := HI.out.1.len; omega)⟩
                have HU := Lib.hid hu
                have e1 := HRC.out.cell hu
                have e2 := HRC.out.cell HI.out.2.2
                have el := HRC.out.lt
                have hy0 : (0 : Int) ≤ (y : Int) := by omega
                have hyji : (y : Int) < (j : Int) := by omega
                have hvc : v ≤ ((q + k : Nat) : Int) * 1000 := HVB.out
                have hw8 : IntKind.i64.wrap (v + t.co) = v + t.co := IntWalk.i64_in _ (by omega)
                obtain ⟨tv, htv⟩ : ∃ b, (decide (u < 0) || decide (v + t.co < u)) = b := ⟨_, rfl⟩
                have HTV := Lib.hid htv
                clear htv hu y1 hz1 hz2 hz3 hz4
                go_cut [179] (fun s179 V => s179 = .bool tv ∧ Below X4.heap.size X4 V)
                case first => as_aux_lemma =>
                 rcases put_cases u (v + t.co) with ⟨hu0, hu1, HTW⟩ | ⟨hu0, hu1, hu2, hu3, HTW⟩ | ⟨hu0, hu1, hu2, hu3, HTW⟩
                 all_goals
                  refine ordB_below (.quiet 0 (.quiet 1 (.quiet 2 (.quiet 3 (.quiet 4 (.quiet 5 (.quiet 6 (.quiet 7 (.quiet 8 (.quiet 9 (.quiet 10 (.quiet 11 (.quiet 12 (.quiet 13 (.quiet 14 (.quiet 15 (.quiet 16 (.quiet 17 (.quiet 18 .done))))))))))))))))))) (by kernel_rfl) (by kernel_rfl) (by kernel_rfl) (fun _ _ _ _ _ h => h) ?_
                  intro V0 hV0
                  iterate 19 ((first | refine ordB_skip rfl rfl ?_ | (refine ordB_take (v := ?_) rfl rfl ?_ ?_; rotate_left 1; (focus (intro W hW; obtain ⟨hcW, hfW⟩ := bcell hW; (go_simp <;> with_reducible rfl))))); simp only [Act.put, zA, zB, zC])
                  refine ordB_nil ?_
                  have hB25 := hV0
                  clear hV0
                  go_wp2_with fail
                  go_meet
                  exact ⟨by rw [← HTV.out, HTW.out], hB25⟩
                case rest =>
                 obtain ⟨X5, rfl⟩ : ∃ W, W = wc := ⟨wc, rfl⟩
                 obtain ⟨rfl, hb5⟩ := hcut
                 have hL9 := HL10.out.below hb5 HL10.out.lt
                 have HRD := Lib.hid (HRC.out.below hb5 el)
                 have HBD : Hid (Below gh W3 X5) := HBC.out.trans (hb5.mono (Nat.le_of_lt el))
                 clear y4 yl e1 e2 el b0 b1 b2 bl hb5
                 have y4 := hL9.cell 4
                 have yl := hL9.lt
                 simp at y4
                 have e1 := HRD.out.cell HU.out
                 have e2 := HRD.out.cell HI.out.2.2
                 have ef := HRD.out.frozen y
                 have el := HRD.out.lt
                 clear hL9
                 cases tv with
                 | true =>
                  have HCN : Hid (CoI s inp out W n j (((q + (k + 1) : Nat) : Int) * 1000) (T2.set y (v + t.co))) := by
                   have h := HI.out.1.put (a := tt) (p := ee) (m := tn) (c := v + t.co) HWE.out HNN.out ⟨by omega, by omega⟩ HF5.out.2.2 (by rw [HNI.out]; exact htnn) HTO.out.2
                   rw [HYE.out] at h
                   exact h
                  have HRN : Hid (RdC s inp out W n T (T2.set y (v + t.co)) k (i + 1)) := by
                   have h := HI.out.2.1.put HX.out (c := v + t.co) (by omega) (by rw [HPT.out.1, HPT.out.2.1, HTT.out, HEE.out, HTN.out, HYE.out]; have := HI.out.1.len; omega)
                   rw [HPT.out.1, HPT.out.2.1, HTT.out, HEE.out, HTN.out, HYE.out] at h
                   exact h
                  have HVN : Hid ((T2.set y (v + t.co))[k]? = some v) := by
                   show _ = _
                   rw [List.getElem?_set_ne (fun e => ?_)]
                   ·exact HI.out.2.2
                   ·subst e
                    have h1 := Option.some.inj (HI.out.2.2.symm.trans HU.out)
                    have h2 := HTV.out
                    rw [← h1, decide_eq_false (by omega), decide_eq_false (by omega)] at h2
                    cases h2
                  go_upto_region 26 with fail
                  refine ordT_below [10] [(0, false), (1, false), (2, false), (3, false), (4, false), (5, false), (6, false), (7, false), (8, false), (9, false), (10, true)] (by kernel_rfl) (by kernel_rfl) (by kernel_rfl) (fun _ _ _ _ _ h => h) ?_
                  intro W0 hS0
                  repeat (first
                   | (refine ordT_skip rfl rfl (by assumption) ?_; simp only [Act.put, zA, zB, zC])
                   | (refine ordT_cskip rfl rfl (by assumption) ?_; simp only [Act.put, zA, zB, zC])
                   | (refine ordT_take (v := ?_) rfl rfl (by assumption) ?_ ?_
                      rotate_left 1
                      focus (intro W hW; obtain ⟨hcW, hfW⟩ := bcell hW; (go_simp <;> with_reducible rfl))
                      simp only [Act.put, zA, zB, zC])
                   | (refine ordT_call rfl rfl (fun K hK => ?_)
                      obtain ⟨hcS, hfS⟩ := bcell hS0
                      go_simp
                      first
                       | (refine hK.out _ _ (fun h => by cases h) ?_)))
                  refine ordT_nil ?_
                  go_wp2_with fail
                  go_roundw
                  case rel => exact ⟨i + 1, T2.set y (v + t.co), by omega, by go_num, (HRD.out.below hS0 el).set_ y (v + t.co), ⟨HCN.out, HRN.out, HVN.out⟩, (HBD.out.trans (hS0.mono (Nat.le_of_lt el))).setCell (p := ⟨gh, y, none⟩) (Nat.le_refl _) _⟩
                  case measure => simp [intOf]; omega
                 | false =>
                  have HSK : Hid (RdC s inp out W n T T2 k (i + 1)) := HI.out.2.1.skip HX.out (.inr (by
                   rw [HPT.out.1, HPT.out.2.1, HTT.out, HEE.out, HTN.out, HYE.out]
                   have h2 := HTV.out
                   rw [Bool.or_eq_false_iff] at h2
                   have := of_decide_eq_false h2.1
                   exact ⟨u, HU.out, by omega⟩))
                  go_wp2_with fail
                  go_roundw
                  case rel => exact ⟨i + 1, T2, by omega, by go_num, HRD.out, ⟨HI.out.1, HSK.out, HI.out.2.2⟩, HBD.out⟩
                  case measure => simp [intOf]; omega
            ·obtain rfl : i = s.rs.length := by omega
             have hii : ¬ ((s.rs.length : Nat) : Int) < (s.rs.length : Int) := by omega
             have HNX : Hid (RdC s inp out W n T T2 (k + 1) 0) := HI.out.2.1.next (Nat.le_refl _)
             clear hrow hbr
             go_wp2_with fail
             go_roundw
             case rel => exact ⟨k + 1, T2, by omega, by go_num, HROW.out, ⟨HI.out.1, HNX.out⟩, HBR.out⟩
             case measure => simp [intOf]; omega
        ·obtain rfl : k = j := by omega
         have hki : ¬ ((k : Nat) : Int) < (k : Int) := by omega
         have HKN : Hid (KnR s inp out W n (r + 1) T') := knR_next HOK.out HWE.out HNN.out HNE.out HIK.out HTL.out HI.out.2
         have HCN : Hid (CoI s inp out W n k ((((r + 1) * k : Nat) : Int) * 1000) T') := by show CoI _ _ _ _ _ _ _ _; rw [HQE.out]; exact HI.out.1
         clear hrow hbr
         go_wp2_with fail
         go_roundw
         case rel => exact ⟨r + 1, T', by omega, by go_num, HROW.out, ⟨HCN.out, HKN.out⟩, HBR.out⟩
         case measure => simp [intOf]; omega
      ·obtain rfl : r = R + 1 := by omega
       have hri : ¬ (((R + 1 : Nat)) : Int) ≤ (R : Int) := by omega
       have hri2 : ¬ ((R : Int) + 1) ≤ (R : Int) := by omega
       have HFI : Hid (∀ m : Nat, m < n → (Mkd T (spi W n inp.size out.size m) ↔ ∃ c, Rte s (m : Int) inp out c)) := fun m hm => kn_whole HOK.out HFS.out HWE.out HNN.out HI.out.1 (by rw [HRE.out]; omega) HI.out.2 m hm
       have HTL : Hid (T.length = j) := HI.out.1.len
       have HTB : Hid (∀ x c, T[x]? = some c → -1 ≤ c ∧ c ≤ 1000000000000000) := fun x c hx => by
        rcases HI.out.1.rch x c hx with h | h
        ·omega
        ·have h1 := h.2.1
         have h2 : (R + 1) * j ≤ 8329 * 328328 := Nat.mul_le_mul (by omega) (by omega)
         omega
       clear HI hlt
       go_wp2_with fail
       go_loopw [20, 21] (fun bv mv wr => ∃ (m : Nat) (b : Int), m ≤ n ∧ mv = .int .i64 (m : Int) ∧ bv = .int .i64 b ∧ (-1 ≤ b ∧ b ≤ 1000000000000000) ∧ Hid (0 ≤ b ↔ ∃ m' : Nat, m' < m ∧ accB s.acc (m' : Int) = true ∧ ∃ c, Rte s (m' : Int) inp out c) ∧ Row wr gh T ∧ Below gh W3 wr) (fun _ mv _ => n - (intOf mv).toNat)
       case atStart => exact ⟨0, -1, Nat.zero_le _, rfl, rfl, by omega, ⟨fun h => absurd h (by decide), fun ⟨m', h, _⟩ => absurd h (Nat.not_lt_zero _)⟩, HROW.out, HBR.out⟩
       case round => as_aux_lemma =>
        clear HROW HBR b0 b1 b2 bl
        obtain ⟨wQ, rfl⟩ : ∃ W, W = wr := ⟨wr, rfl⟩
        obtain ⟨m, b, hm, rfl, rfl, hb, HBI, hrow, hbr⟩ := hrel
        have HROW := Lib.hid hrow
        have HBR := Lib.hid hbr
        obtain ⟨b0, b1, b2, bl⟩ := HCE.out _ (HBH.out _ hbr)
        by_cases hlm : m < n
        ·have hmi : (m : Int) < (n : Int) := by omega
         have hm0 : (0 : Int) ≤ (m : Int) := by omega
         obtain ⟨P1, hP1e⟩ : ∃ z : Nat, P - 1 = z := ⟨_, rfl⟩
         have hy1 : IntKind.i64.wrap ((P : Int) - 1) = (P1 : Int) := by rw [show (P : Int) - 1 = (P1 : Int) by omega]; exact IntWalk.i64_in _ (by omega)
         have HP1E : Hid (inp.size * W + out.size = P1) := by
          show _ = _
          have h1 := HPE.out
          have h2 := HWE.out
          rw [Nat.add_mul, Nat.one_mul] at h1
          omega
         obtain ⟨Q, hQ⟩ : ∃ z : Nat, P1 * n = z := ⟨_, rfl⟩
         have hQb : Q ≤ 41041 * 8 := by rw [← hQ]; exact Nat.mul_le_mul (by omega) hn8
         have hQi : (P1 : Int) * (n : Int) = (Q : Int) := by rw [← hQ, Int.natCast_mul]
         have hy2 : IntKind.i64.wrap ((P1 : Int) * (n : Int)) = (Q : Int) := by rw [hQi]; exact IntWalk.i64_in _ (by omega)
         obtain ⟨x, hx⟩ : ∃ z : Nat, Q + m = z := ⟨_, rfl⟩
         have hy3 : IntKind.i64.wrap ((Q : Int) + (m : Int)) = (x : Int) := by rw [← Int.natCast_add, hx]; exact IntWalk.i64_in _ (by omega)
         have HXE : Hid (spi W n inp.size out.size m = x) := by show _ = _; unfold spi; rw [HP1E.out, hQ, hx]
         have hxj : x < j := by
          have h1 := spi_lt (W := W) (n := n) (a := inp.size) (p := out.size) (m := m) (i := inp.size) (Nat.le_refl _) (by have := HWE.out; omega) hlm
          rw [HXE.out, ← HNE.out] at h1
          exact h1
         obtain ⟨cv, hcv⟩ : ∃ u, T[x]? = some u := ⟨_, List.getElem?_eq_getElem (by have := HTL.out; omega)⟩
         have e1 := hrow.cell hcv
         have el := hrow.lt
         have hcb := HTB.out x cv hcv
         have hx0 : (0 : Int) ≤ (x : Int) := by omega
         have hxji : (x : Int) < (j : Int) := by omega
         have HCV : Hid (0 ≤ cv ↔ ∃ c, Rte s (m : Int) inp out c) := by
          have h := HFI.out m hlm
          rw [HXE.out] at h
          refine Iff.trans ⟨fun h2 => ⟨cv, hcv, h2⟩, fun ⟨d, h2, h3⟩ => by obtain rfl := Option.some.inj (hcv.symm.trans h2); exact h3⟩ h
         have HAC : Hid (Calls Tryz.prog 48 #[.agg #[.int .i64 (n : Int), .int .u8 s.acc, .slice A s.rs.length c], .int .i64 (m : Int)] wQ fun e w' => e = .returned (.bool (accB s.acc (m : Int))) ∧ Below wQ.heap.size wQ w') := by
          have h := raccepts5_any s A c (m : Int) wQ (HS2.out _ (HBH.out _ hbr)) ⟨hm0, by omega⟩
          rw [HNI.out] at h
          exact h
         clear hP1e hQ hQi hx hcv hrow hbr
         go_upto_region 32 with fail
         obtain ⟨ac, hac⟩ : ∃ z, accB s.acc (m : Int) = z := ⟨_, rfl⟩
         rw [hac] at HAC
         have HAE := Lib.hid hac
         clear hac hy1 hy2 hy3 e1
         have go_ : True := trivial
         cases ac with
         | false =>
          have HX : Hid (0 ≤ b ↔ ∃ m' : Nat, m' < m + 1 ∧ accB s.acc (m' : Int) = true ∧ ∃ c, Rte s (m' : Int) inp out c) := best_no HBI.out (fun h => by rw [HAE.out] at h; cases h.1)
          go_wp2_with (go_at_call 48; go_loud (refine HAC.out.mono ?_; rintro e w8 ⟨rfl, hb8⟩; have HR8 := Lib.hid (HROW.out.below hb8 el); have HB8 := Lib.hid (HBR.out.trans (hb8.mono (Nat.le_of_lt el))); clear hb8))
          go_roundw
          case rel => exact ⟨m + 1, b, by omega, by go_num, rfl, hb, HX.out, HR8.out, HB8.out⟩
          case measure => simp [intOf]; omega
         | true =>
          by_cases hc0 : 0 ≤ cv
          ·have hc1 : decide (0 ≤ cv) = true := decide_eq_true hc0
           have HME : Hid (accB s.acc (m : Int) = true ∧ ∃ c, Rte s (m : Int) inp out c) := ⟨HAE.out, HCV.out.1 hc0⟩
           by_cases hbn : b < 0
           ·have hb1 : decide (b < 0) = true := decide_eq_true hbn
            have HX : Hid (0 ≤ cv ↔ ∃ m' : Nat, m' < m + 1 ∧ accB s.acc (m' : Int) = true ∧ ∃ c, Rte s (m' : Int) inp out c) := ⟨fun _ => ⟨m, Nat.lt_succ_self _, HME.out.1, HME.out.2⟩, fun _ => hc0⟩
            go_wp2_with (go_at_call 48; go_loud (refine HAC.out.mono ?_; rintro e w8 ⟨rfl, hb8⟩; have HR8 := Lib.hid (HROW.out.below hb8 el); have HB8 := Lib.hid (HBR.out.trans (hb8.mono (Nat.le_of_lt el))); clear hb8))
            go_roundw
            case rel => exact ⟨m + 1, cv, by omega, by go_num, rfl, hcb, HX.out, HR8.out, HB8.out⟩
            case measure => simp [intOf]; omega
           ·have hb1 : decide (b < 0) = false := decide_eq_false hbn
            by_cases hcb2 : cv < b
            ·have hb2 : decide (cv < b) = true := decide_eq_true hcb2
             have HX : Hid (0 ≤ cv ↔ ∃ m' : Nat, m' < m + 1 ∧ accB s.acc (m' : Int) = true ∧ ∃ c, Rte s (m' : Int) inp out c) := ⟨fun _ => ⟨m, Nat.lt_succ_self _, HME.out.1, HME.out.2⟩, fun _ => hc0⟩
             go_wp2_with (go_at_call 48; go_loud (refine HAC.out.mono ?_; rintro e w8 ⟨rfl, hb8⟩; have HR8 := Lib.hid (HROW.out.below hb8 el); have HB8 := Lib.hid (HBR.out.trans (hb8.mono (Nat.le_of_lt el))); clear hb8))
             go_roundw
             case rel => exact ⟨m + 1, cv, by omega, by go_num, rfl, hcb, HX.out, HR8.out, HB8.out⟩
             case measure => simp [intOf]; omega
            ·have hb2 : decide (cv < b) = false := decide_eq_false hcb2
             have HX : Hid (0 ≤ b ↔ ∃ m' : Nat, m' < m + 1 ∧ accB s.acc (m' : Int) = true ∧ ∃ c, Rte s (m' : Int) inp out c) := ⟨fun _ => ⟨m, Nat.lt_succ_self _, HME.out.1, HME.out.2⟩, fun _ => by omega⟩
             go_wp2_with (go_at_call 48; go_loud (refine HAC.out.mono ?_; rintro e w8 ⟨rfl, hb8⟩; have HR8 := Lib.hid (HROW.out.below hb8 el); have HB8 := Lib.hid (HBR.out.trans (hb8.mono (Nat.le_of_lt el))); clear hb8))
             go_roundw
             case rel => exact ⟨m + 1, b, by omega, by go_num, rfl, hb, HX.out, HR8.out, HB8.out⟩
             case measure => simp [intOf]; omega
          ·have hc1 : decide (0 ≤ cv) = false := decide_eq_false hc0
           have HX : Hid (0 ≤ b ↔ ∃ m' : Nat, m' < m + 1 ∧ accB s.acc (m' : Int) = true ∧ ∃ c, Rte s (m' : Int) inp out c) := best_no HBI.out (fun h => hc0 (HCV.out.2 h.2))
           go_wp2_with (go_at_call 48; go_loud (refine HAC.out.mono ?_; rintro e w8 ⟨rfl, hb8⟩; have HR8 := Lib.hid (HROW.out.below hb8 el); have HB8 := Lib.hid (HBR.out.trans (hb8.mono (Nat.le_of_lt el))); clear hb8))
           go_roundw
           case rel => exact ⟨m + 1, b, by omega, by go_num, rfl, hb, HX.out, HR8.out, HB8.out⟩
           case measure => simp [intOf]; omega
        ·obtain rfl : m = n := by omega
         have hmi : ¬ ((m : Nat) : Int) < (m : Int) := by omega
         have HFIN : Hid (0 ≤ b ↔ soundE s = 0 ∧ letB inp = true ∧ ∃ c, Whole s inp out c) := by
          refine HBI.out.trans ⟨fun ⟨m', h1, h2, c, h3⟩ => ⟨HEL.out.1, HEL.out.2, c, (m' : Int), h2, h3⟩, fun ⟨_, _, c, mi, h2, h3⟩ => ?_⟩
          have h4 := spot_mode HOK.out (spot_iff.2 h3)
          have h5 := HNI.out
          refine ⟨mi.toNat, ?_, ?_, c, ?_⟩
          ·have := h4.1; have := h4.2; simp at *; omega
          ·rw [Int.toNat_of_nonneg h4.1]; exact h2
          ·rw [Int.toNat_of_nonneg h4.1]; exact h3
         clear hrow hbr
         go_wp2_with fail
         go_ret
         exact ⟨⟨b, rfl, HFIN.out⟩, HBG.out _ HBR.out⟩
  ·have HLT : Hid (∀ W, Calls Tryz.prog 30 #[.string inp] W fun e w' => e = .returned (.bool false) ∧ W = w') := fun W => by
    have h := rletters_any inp W HSZ.out
    rw [Bool.eq_false_iff.2 hL] at h
    exact h
   have HNO : Hid (¬ (soundE s = 0 ∧ letB inp = true ∧ ∃ c, Whole s inp out c)) := fun h => hL h.2.1
   clear hE hL
   go_enter Tryz.func34, Tryz.ntmps34
   go_upto_region 1 with fail
   rw [HW1.out]
   go_wp2_with (first | (go_at_call 16; go_loud (refine (HSND.out _ (Below.refl _ _)).mono ?_; rintro e w2 ⟨hq, hb2⟩; obtain rfl := hq.yes HE.out; have HB2 := Lib.hid hb2; clear hb2 hq)) | (go_at_call 30; go_loud (refine (HLT.out w2).mono ?_; rintro e w' ⟨rfl, rfl⟩)))
   go_ret
   exact ⟨⟨-1, rfl, ⟨fun h => absurd h (by decide), fun h => absurd h HNO.out⟩⟩, HB1.out.trans (HB2.out.mono HB1.out.size)⟩
 ·have HE := Lib.hid hE
  have HNO : Hid (¬ (soundE s = 0 ∧ letB inp = true ∧ ∃ c, Whole s inp out c)) := fun h => hE h.1
  clear hE
  go_enter Tryz.func34, Tryz.ntmps34
  go_upto_region 1 with fail
  rw [HW1.out]
  go_wp2_with ((go_at_call 16; go_loud (refine (HSND.out _ (Below.refl _ _)).mono ?_; rintro e w2 ⟨hq, hb2⟩; obtain rfl := hq.no HE.out; have HB2 := Lib.hid hb2; clear hb2 hq)))
  go_ret
  exact ⟨⟨-1, rfl, ⟨fun h => absurd h (by decide), fun h => absurd h HNO.out⟩⟩, HB1.out.trans (HB2.out.mono HB1.out.size)⟩
end Go.Proofs.YtfpnhgahkjglgaaGreat
