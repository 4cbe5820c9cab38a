/-
  SiRPrv, SiWalkA, joined. No conditions.
-/
import Derived.Test.YtfpnhgahkjglgaaGreatF32
import Derived.Test.YtfpnhgahkjglgaaGreatF33
import Derived.Test.YtfpnhgahkjglgaaGreatF06
import Derived.Test.YtfpnhgahkjglgaaGreatF28
import Derived.Test.YtfpnhgahkjglgaaGreatF17
set_option maxRecDepth 100000
namespace Go.Proofs.YtfpnhgahkjglgaaGreat
open Go Go.RowKit Go.Maps
def encBa (u : List UInt8) : List Value := [.string (ba u)]
def RBa (_ : World) (u : List UInt8) (vs : List Value) : Prop := vs = encBa u
theorem keeps_ba : Keeps RBa := fun _ _ _ _ _ h => h
theorem bcellI {B : Nat} {W w1 : World} (hb : Below B W w1) : ∀ b o, b < B → w1.cell? ⟨b, o, none⟩ = W.cell? ⟨b, o, none⟩ := fun b o h => hb.cell (p := ⟨b, o, none⟩) h
theorem ba_oneS (l : List (List UInt8)) : ∀ u ∈ l.flatMap encBa, u.oneCell' = true := fun u hu => by
 obtain ⟨x, _, hx⟩ := List.mem_flatMap.1 hu
 simp [encBa] at hx
 subst hx
 rfl
theorem str_info : (Tryz.prog.info? 9).map (fun i => (i.zero, i.size, i.bytes)) = some (some (.string ⟨#[]⟩), 1, 16) := by kernel_rfl
theorem SlR.ba_ {w : World} {A : Option Addr} {k : Nat} {xs : List (List UInt8)} (h : SlR 1 RBa w A xs) (hk : k < xs.length) : ∃ b off u, A = some ⟨b, off, none⟩ ∧ b < w.heap.size ∧ xs[k]? = some u ∧ w.cell? ⟨b, off + k, none⟩ = some (.string (ba u)) := by
 obtain ⟨b, off, x, vs, hA, hlt, hx, hr, _, hv⟩ := h.at_ hk
 have := hv 0 (.string (ba x)) (by rw [hr]; rfl)
 simp only [Nat.mul_one, Nat.add_zero] at this
 exact ⟨b, off, x, hA, hlt, hx, this⟩
theorem ba_snoc (u : List UInt8) (a : UInt8) : ba (u ++ [a]) = ba u ++ { data := #[a] } := bl_inj (by rw [bl_app]; rfl)
def IsInps (n : Nat) (w : World) (e : Ending) (w' : World) : Prop :=
 (∃ A c, e = .returned (.slice A (inpsL n).length c) ∧ ((inpsL n).length ≤ c ∧ c ≤ maxLen) ∧ SlR 1 RBa w' A (inpsL n)) ∧ Below w.heap.size w w'
set_option maxHeartbeats 4000000 in
theorem rinputs_any (n : Nat) (w : World) (hn : n ≤ 4) : Calls Tryz.prog 17 #[.int .i64 (n : Int)] w (IsInps n w) := by
 obtain ⟨i0, hinf, hz0, hz1, hz2⟩ := info_partsR str_info
 obtain ⟨w1, hw1⟩ : ∃ w1, w.alloc (.cells #[.string { data := #[] }] 9) = w1 := ⟨_, rfl⟩
 have hb1 : Below w.heap.size w w1 := by rw [← hw1]; exact nw _ (Below.refl _ _)
 have hB : Blk w1 w.heap.size 9 #[.string { data := #[] }] := by rw [← hw1]; exact Blk.new _ _ _
 have HSL1 : Hid (SlR 1 RBa w1 (some ⟨w.heap.size, 0, none⟩) (inpsL 0)) := slr_blkR (enc := encBa) hB (fun _ => rfl) (fun _ => rfl)
 have HB1 := Lib.hid hb1
 have HW1 := Lib.hid hw1
 clear hw1 hb1 hB
 go_enter Tryz.func17, Tryz.ntmps17
 go_upto_region 2 with fail
 rw [HW1.out]
 go_wp2_with fail
 go_loopw [3, 4] (fun ov jv wr => ∃ (j : Nat) (A : Option Addr) (c : Nat), j ≤ n ∧ jv = .int .i64 (j : Int) ∧ ov = .slice A (inpsL j).length c ∧ ((inpsL j).length ≤ c ∧ c ≤ maxLen) ∧ SlR 1 RBa wr A (inpsL j) ∧ Below w.heap.size w wr) (fun _ jv _ => n - (intOf jv).toNat)
 case atStart => exact ⟨0, some ⟨w.heap.size, 0, none⟩, 1, Nat.zero_le _, rfl, rfl, ⟨by decide, by decide⟩, HSL1.out, HB1.out⟩
 case round =>
  obtain ⟨wR, rfl⟩ : ∃ W, W = wr := ⟨wr, rfl⟩
  obtain ⟨j, A, c, hj, rfl, rfl, hc, hsl, hbr⟩ := hrel
  have HSL := Lib.hid hsl
  have HBR := Lib.hid hbr
  have HC := Lib.hid hc
  clear hsl hc
  by_cases hlt : j < n
  ·have hji : (j : Int) < (n : Int) := by omega
   have HPW : Hid ((inpsL j).length ≤ 27) := by show _ ≤ _; rw [inps_len]; exact Nat.le_trans (Nat.pow_le_pow_right (by decide) (show j ≤ 3 by omega)) (by decide)
   obtain ⟨B0, hB0⟩ : ∃ b, wR.heap.size = b := ⟨_, rfl⟩
   obtain ⟨w5, hw5⟩ : ∃ W, wR.alloc (.cells #[] 9) = W := ⟨_, rfl⟩
   have HB5 : Hid (Below wR.heap.size wR w5) := by show Below _ _ _; rw [← hw5]; exact nw _ (Below.refl _ _)
   have HOW5 : Hid (w5.ownsRow B0 9 1 (.slice (some ⟨B0, 0, none⟩) 0 0) 0 []) := by rw [← hw5, ← hB0]; exact own_empty wR _ _ _ (Nat.le_refl _)
   have HSL5 : Hid (∀ W, Below B0 w5 W → SlR 1 RBa W A (inpsL j)) := fun W hW => HSL.out.below keeps_ba (HB5.out.trans (hW.mono (Nat.le_of_eq hB0)))
   have HB0 := Lib.hid hB0
   have hw0 : B0 < w5.heap.size := (HOW5.out.lt B0 rfl).2
   have hwB : w.heap.size ≤ B0 := by have := hbr.size; omega
   clear hbr
   go_upto_region 6 with fail
   try rw [hw5, hB0]
   clear hw5 hB0
   go_wp2_with fail
   go_loopw [5, 6] (fun nv kv wr => ∃ k : Nat, k ≤ (inpsL j).length ∧ kv = .int .i64 (k : Int) ∧ wr.ownsRow B0 9 1 nv (((inpsL j).take k).flatMap moreI).length ((((inpsL j).take k).flatMap moreI).flatMap encBa) ∧ Below B0 w5 wr) (fun _ kv _ => (inpsL j).length - (intOf kv).toNat)
   case atStart => exact ⟨0, Nat.zero_le _, rfl, HOW5.out, Below.refl _ _⟩
   case round =>
    obtain ⟨wQ, rfl⟩ : ∃ W, W = wr := ⟨wr, rfl⟩
    obtain ⟨k, hk, rfl, how, hbq⟩ := hrel
    have HOW := Lib.hid how
    have HBQ := Lib.hid hbq
    have hl81 : (((inpsL j).take k).flatMap moreI).length ≤ 81 := by
     rw [more_len, List.length_take]
     have := HPW.out
     omega
    by_cases hlk : k < (inpsL j).length
    ·have hki : (k : Int) < ((inpsL j).length : Int) := by omega
     have hk0 : (0 : Int) ≤ (k : Int) := by omega
     obtain ⟨b, off, u, rfl, hbb, hu, d00⟩ := HSL.out.ba_ hlk
     have d0 := ((HB5.out.trans (hbq.mono (Nat.le_of_eq HB0.out))).cell (p := ⟨b, off + k, none⟩) hbb).trans d00
     have hbB : b < B0 := by have := HB0.out; omega
     have hbq2 : b < wQ.heap.size := by have := hbq.size; omega
     obtain ⟨z, hz⟩ : ∃ z, ba u = z := ⟨_, rfl⟩
     have HZ : Hid (((moreI u).flatMap encBa).toArray = #[.string (z ++ { data := #[97] }), .string (z ++ { data := #[98] }), .string (z ++ { data := #[99] })]) := by show _ = _; rw [← hz]; simp [moreI, encBa, ba_snoc]
     have hzs : z.size ≤ 4 := by rw [← hz]; show u.length ≤ 4; have := (inps_mem.1 (List.mem_of_getElem? hu)).1; omega
     have hzq : ¬ 9223372036854775807 < z.size + 1 := by omega
     have HNX : Hid (((inpsL j).take (k + 1)).flatMap moreI = ((inpsL j).take k).flatMap moreI ++ moreI u) := by show _ = _; rw [take_succ_of hu, List.flatMap_append]; simp
     have hB0q : B0 ≤ wQ.heap.size := by have := hbq.size; omega
     have h27 : k < 27 := by have := HPW.out; omega
     rw [hz] at d0
     clear how hbq hz d00 hu
     go_upto_region 9 with fail
     have HD9 := own_below HOW.out ((Below.refl wQ.heap.size wQ).drew)
     refine ordB_start (Below B0 wQ) (.quiet 0 (.quiet 1 (.quiet 2 (.quiet 3 (.quiet 4 (.quiet 5 (.quiet 6 (.quiet 7 (.quiet 8 (.quiet 9 (.quiet 10 (.quiet 11 (.quiet 12 (.quiet 13 (.quiet 14 (.quiet 15 (.only 16 (.only 17 (.quiet 18 .done))))))))))))))))))) (by kernel_rfl) (by kernel_rfl) (by kernel_rfl) (fun _ _ _ _ _ h => h) ((Below.refl B0 wQ).drew) ?_
     have HD0 : Below B0 wQ wQ.drew := (Below.refl _ _).drew
     obtain ⟨W0, hWd⟩ : ∃ Wd, wQ.drew = Wd := ⟨_, rfl⟩
     rw [hWd] at HD0 HD9 ⊢
     clear hWd
     iterate 16 ((first | refine ordB_skip rfl rfl ?_ | (refine ordB_take (v := ?_) rfl rfl ?_ ?_; rotate_left 1; (focus (intro W hW; have hcW := bcellI hW; (go_simp <;> with_reducible rfl))))); simp only [Act.put, zA, zB, zC])
     refine ordB_only (opB_call rfl rfl (fun K hK => ?_))
     go_simp
     have hB0s : B0 ≤ W0.heap.size := by have := HD0.size; omega
     have HD1 := HD0.alloc hB0s (.cells #[.string (z ++ { data := #[97] }), .string (z ++ { data := #[98] }), .string (z ++ { data := #[99] })] 9)
     refine hK.out _ _ HD1 (fun _ => ?_)
     clear hK K
     have hE : Blk (W0.alloc (.cells #[.string (z ++ { data := #[97] }), .string (z ++ { data := #[98] }), .string (z ++ { data := #[99] })] 9)) W0.heap.size 9 #[.string (z ++ { data := #[97] }), .string (z ++ { data := #[98] }), .string (z ++ { data := #[99] })] := Blk.new_ rfl
     have ho := HD9.alloc (.cells #[.string (z ++ { data := #[97] }), .string (z ++ { data := #[98] }), .string (z ++ { data := #[99] })] 9)
     obtain ⟨ve, hve⟩ : ∃ b, W0.heap.size = b := ⟨_, rfl⟩
     rw [hve] at hE ⊢
     clear hve
     obtain ⟨W1, qq⟩ : ∃ W', W0.alloc (.cells #[.string (z ++ { data := #[97] }), .string (z ++ { data := #[98] }), .string (z ++ { data := #[99] })] 9) = W' := ⟨_, rfl⟩
     rw [qq] at HD1 hE ho ⊢
     clear qq
     have hB1s : B0 ≤ W1.heap.size := by have := HD1.size; omega
     have hSL : SlR 1 RBa W1 (some ⟨ve, 0, none⟩) (moreI u) := slr_blkR (enc := encBa) (by rw [HZ.out]; exact hE) (fun _ => rfl) (fun _ => rfl)
     try simp only [Act.put, zA, zB, zC]
     refine ordB_only (opB_call rfl rfl (fun K hK => ?_))
     refine wp_appS (enc := encBa) (R := RBa) _ _ 50 rfl B0 9 i0 _ 1 16 Tryz.underlying50 hinf hz0 hz1 hz2 rfl (by decide) _ _ _ rfl ho (some ⟨ve, 0, none⟩) 3 (moreI u) rfl hSL (fun _ _ _ h => h) (fun _ => rfl) (ba_oneS (moreI u)) (by show _ + 3 ≤ _; omega) (by decide) hB1s ?_
     intro v4 W2 h41 h42 h43
     refine hK.out _ _ (HD1.trans h42) (fun HD2 => ?_)
     clear hK K h43
     have HB2 := Lib.hid (HBQ.out.trans HD2)
     have HOW2 : Hid (W2.ownsRow B0 9 1 v4 (((inpsL j).take (k + 1)).flatMap moreI).length ((((inpsL j).take (k + 1)).flatMap moreI).flatMap encBa)) := by
      show World.ownsRow _ _ _ _ _ _ _
      rw [HNX.out, List.flatMap_append, List.length_append]
      exact h41
     clear h41 h42 hSL ho hE
     try simp only [Act.put, zA, zB, zC]
     iterate 1 ((first | refine ordB_skip rfl rfl ?_ | (refine ordB_take (v := ?_) rfl rfl ?_ ?_; rotate_left 1; (focus (intro W hW; have hcW := bcellI hW; (go_simp <;> with_reducible rfl))))); simp only [Act.put, zA, zB, zC])
     refine ordB_nil ?_
     go_wp2_with fail
     go_roundw
     case rel => exact ⟨k + 1, by omega, by go_num, HOW2.out, HB2.out⟩
     case measure => simp [intOf]; omega
    ·obtain rfl : k = (inpsL j).length := by omega
     have hki : ¬ (((inpsL j).length : Nat) : Int) < ((inpsL j).length : Int) := by omega
     have HEQ : Hid (((inpsL j).take (inpsL j).length).flatMap moreI = inpsL (j + 1)) := by show _ = _; rw [List.take_length]; rfl
     rw [HEQ.out] at how
     obtain ⟨A9, c9, rfl, hc9, hcm9, hs9⟩ := own_slr (R := RBa) how (fun _ => rfl) (fun _ => rfl) rfl
     have HS9 := Lib.hid hs9
     have HC9 := Lib.hid (And.intro hc9 hcm9)
     have HB9 : Hid (Below w.heap.size w wQ) := HBR.out.trans ((HB5.out.trans (hbq.mono (Nat.le_of_eq HB0.out))).mono HBR.out.size)
     clear how hbq hs9 hc9 hcm9 hl81
     go_wp2_with fail
     go_roundw
     case rel => exact ⟨j + 1, A9, c9, by omega, by go_num, rfl, HC9.out, HS9.out, HB9.out⟩
     case measure => simp [intOf]; omega
  ·obtain rfl : j = n := by omega
   have hji : ¬ ((j : Nat) : Int) < (j : Int) := by omega
   clear hbr
   go_wp2_with fail
   go_ret
   exact ⟨⟨A, c, rfl, HC.out, HSL.out⟩, HBR.out⟩
theorem neg_or8 (r : Int) : r < 0 ∨ 0 ≤ r := by omega
def RCst (s : Sc) (i o : ByteArray) (r : Int) : Prop := 0 ≤ r ↔ soundE s = 0 ∧ letB i = true ∧ ∃ c, Whole s i o c
def IsPrv8 (s : Sc) (ti ta tb : ByteArray) (w : World) (e : Ending) (w' : World) : Prop := ∃ b : Bool, e = .returned (.bool b) ∧ (b = true ↔ PrvP s ti ta tb) ∧ Below w.heap.size w w'
set_option maxHeartbeats 8000000 in
theorem rproves_any (s : Sc) (A : Option Addr) (c : Nat) (ti ta tb : ByteArray) (w : World) (hs : ScIn w s A c) (hfl : ScOK s → SoundP s → FlatR s) (hti : ti.size ≤ maxLen) (hta : ta.size ≤ 1000) (htb : tb.size ≤ 1000) :
 Calls Tryz.prog 15 #[.agg #[.int .i64 s.n, .int .u8 s.acc, .slice A s.rs.length c], .agg #[.string ti, .string ta, .string tb]] w (IsPrv8 s ti ta tb w) := by
 obtain ⟨w2, hw2⟩ : ∃ w2, (w.alloc (.cells #[.int .i64 s.n, .int .u8 s.acc, .slice A s.rs.length c] 30)).alloc (.cells #[.string ti, .string ta, .string tb] 33) = w2 := ⟨_, rfl⟩
 obtain ⟨gb, hgb⟩ : ∃ g, w.heap.size = g := ⟨_, rfl⟩
 obtain ⟨gt, hgt⟩ : ∃ h, gb + 1 = h := ⟨_, rfl⟩
 have hb2 : Below w.heap.size w w2 := by rw [← hw2]; exact nw _ (nw _ (Below.refl _ _))
 have hB : Blk w2 gb 30 #[.int .i64 s.n, .int .u8 s.acc, .slice A s.rs.length c] := by rw [← hw2, ← hgb]; exact (Blk.new _ _ _).alloc _
 have hT : Blk w2 gt 33 #[.string ti, .string ta, .string tb] := by rw [← hw2]; exact Blk.new_ (by simp; omega)
 have HS2 := Lib.hid (hs.below hb2)
 have HW2 := Lib.hid hw2
 have HB2 := Lib.hid hb2
 have HG := Lib.hid hgb
 have HGT := Lib.hid hgt
 have HTI := Lib.hid hti
 have HCE : Hid (∀ W, Below w2.heap.size w2 W → W.cell? ⟨gb, 0, none⟩ = some (.int .i64 s.n) ∧ W.cell? ⟨gb, 1, none⟩ = some (.int .u8 s.acc) ∧ W.cell? ⟨gb, 2, none⟩ = some (.slice A s.rs.length c) ∧ gb < W.heap.size ∧ W.cell? ⟨gt, 0, none⟩ = some (.string ti) ∧ W.cell? ⟨gt, 1, none⟩ = some (.string ta) ∧ W.cell? ⟨gt, 2, none⟩ = some (.string tb) ∧ gt < W.heap.size) := fun W hW => by
  have e1 := hB.below hW hB.lt
  have e2 := hT.below hW hT.lt
  exact ⟨by rw [e1.cell]; rfl, by rw [e1.cell]; rfl, by rw [e1.cell]; rfl, e1.lt, by rw [e2.cell]; rfl, by rw [e2.cell]; rfl, by rw [e2.cell]; rfl, e2.lt⟩
 have HSND : Hid (∀ W, Below w2.heap.size w2 W → Calls Tryz.prog 16 #[.agg #[.int .i64 s.n, .int .u8 s.acc, .slice A s.rs.length c]] W fun e w' => IsSnd s e ∧ Below W.heap.size W w') := fun W hW => rsound5_any s A c W (HS2.out.below hW)
 have HC1 : Hid (∀ W, Below w2.heap.size w2 W → Calls Tryz.prog 34 #[.agg #[.int .i64 s.n, .int .u8 s.acc, .slice A s.rs.length c], .string ti, .string ta] W fun e w' => (∃ r, e = .returned (.int .i64 r) ∧ RCst s ti ta r) ∧ Below W.heap.size W w') := fun W hW => rcost_any s A c ti ta W (HS2.out.below hW) hti hta hfl
 have HC2 : Hid (∀ W, Below w2.heap.size w2 W → Calls Tryz.prog 34 #[.agg #[.int .i64 s.n, .int .u8 s.acc, .slice A s.rs.length c], .string ti, .string tb] W fun e w' => (∃ r, e = .returned (.int .i64 r) ∧ RCst s ti tb r) ∧ Below W.heap.size W w') := fun W hW => rcost_any s A c ti tb W (HS2.out.below hW) hti htb hfl
 obtain ⟨b0, b1, b2, bl, t0, t1, t2, tl⟩ := HCE.out _ (Below.refl _ _)
 clear hs hw2 hb2 hB hT hgb hgt hfl hti hta htb
 by_cases hE : soundE s = 0
 ·have HE := Lib.hid hE
  by_cases hL : letB ti = true
  ·have HL := Lib.hid hL
   have HLT : Hid (∀ W, Calls Tryz.prog 30 #[.string ti] W fun e w' => e = .returned (.bool true) ∧ W = w') := fun W => by
    have h := rletters_any ti W HTI.out
    rw [hL] at h
    exact h
   clear hE hL
   by_cases heq : ta = tb
   ·have h1 : (ta.toList == tb.toList) = true := by rw [heq]; simp
    have HNO : Hid (¬ PrvP s ti ta tb) := fun h => h.2.1 heq
    clear heq
    go_enter Tryz.func15, Tryz.ntmps15
    go_upto_region 1 with fail
    rw [HW2.out, HG.out, HGT.out]
    go_wp2_with (first | (go_at_call 16; go_loud (refine (HSND.out _ (Below.refl _ _)).mono ?_; rintro e W3 ⟨hq, hb3⟩; obtain rfl := hq.yes HE.out; have HB3 := Lib.hid hb3; clear hb3 hq; obtain ⟨b0, b1, b2, bl, t0, t1, t2, tl⟩ := HCE.out _ HB3.out)) | (go_at_call 30; go_loud (refine (HLT.out W3).mono ?_; rintro e w' ⟨rfl, rfl⟩)))
    go_ret
    exact ⟨false, rfl, ⟨fun h => (by cases h), fun h => absurd h HNO.out⟩, bthen HB2.out HB3.out⟩
   ·have h1 : (ta.toList == tb.toList) = false := by rw [beq_eq_false_iff_ne]; exact fun e => heq (toL_inj e)
    have HNE := Lib.hid heq
    clear heq
    go_enter Tryz.func15, Tryz.ntmps15
    go_upto_region 1 with fail
    rw [HW2.out, HG.out, HGT.out]
    go_wp2_with (first | (go_at_call 16; go_loud (refine (HSND.out _ (Below.refl _ _)).mono ?_; rintro e W3 ⟨hq, hb3⟩; obtain rfl := hq.yes HE.out; have HB3 := Lib.hid hb3; clear hb3 hq; obtain ⟨b0, b1, b2, bl, t0, t1, t2, tl⟩ := HCE.out _ HB3.out)) | (go_at_call 30; go_loud (refine (HLT.out W3).mono ?_; rintro e w' ⟨rfl, rfl⟩)) | (go_at_call 34; go_loud (first | (with_reducible refine (HC2.out _ (HB3.out.trans (hb4.mono HB3.out.size))).mono ?_; rintro e W5 ⟨⟨r2, rfl, hr2⟩, hb5⟩; have HR2 := Lib.hid hr2; have HB5 := Lib.hid hb5; clear hr2 hb5) | (with_reducible refine (HC1.out _ HB3.out).mono ?_; rintro e W4 ⟨⟨r1, rfl, hr1⟩, hb4⟩; have HR1 := Lib.hid hr1; clear hr1; obtain ⟨b0, b1, b2, bl, t0, t1, t2, tl⟩ := HCE.out _ (HB3.out.trans (hb4.mono HB3.out.size)); rcases neg_or8 r1 with hn | hn))))
    ·go_ret
     exact ⟨false, rfl, ⟨fun h => (by cases h), fun h => absurd (HR1.out.2 ⟨h.1, h.2.2.1, h.2.2.2.1⟩) (by omega)⟩, bthen HB2.out (bthen HB3.out hb4)⟩
    ·go_ret
     refine ⟨decide (0 ≤ r2), rfl, ?_, bthen HB2.out (bthen HB3.out (bthen hb4 HB5.out))⟩
     rw [decide_eq_true_iff]
     refine HR2.out.trans ?_
     have h1 := HR1.out.1 hn
     exact ⟨fun h => ⟨h.1, HNE.out, h.2.1, h1.2.2, h.2.2⟩, fun h => ⟨h.1, h.2.2.1, h.2.2.2.2⟩⟩
  ·have HLT : Hid (∀ W, Calls Tryz.prog 30 #[.string ti] W fun e w' => e = .returned (.bool false) ∧ W = w') := fun W => by
    have h := rletters_any ti W HTI.out
    rw [Bool.eq_false_iff.2 hL] at h
    exact h
   have HNO : Hid (¬ PrvP s ti ta tb) := fun h => hL h.2.2.1
   clear hE hL
   go_enter Tryz.func15, Tryz.ntmps15
   go_upto_region 1 with fail
   rw [HW2.out, HG.out, HGT.out]
   go_wp2_with (first | (go_at_call 16; go_loud (refine (HSND.out _ (Below.refl _ _)).mono ?_; rintro e W3 ⟨hq, hb3⟩; obtain rfl := hq.yes HE.out; have HB3 := Lib.hid hb3; clear hb3 hq; obtain ⟨b0, b1, b2, bl, t0, t1, t2, tl⟩ := HCE.out _ HB3.out)) | (go_at_call 30; go_loud (refine (HLT.out W3).mono ?_; rintro e w' ⟨rfl, rfl⟩)))
   go_ret
   exact ⟨false, rfl, ⟨fun h => (by cases h), fun h => absurd h HNO.out⟩, bthen HB2.out HB3.out⟩
 ·have HE := Lib.hid hE
  have HNO : Hid (¬ PrvP s ti ta tb) := fun h => hE h.1
  clear hE
  go_enter Tryz.func15, Tryz.ntmps15
  go_upto_region 1 with fail
  rw [HW2.out, HG.out, HGT.out]
  go_wp2_with ((go_at_call 16; go_loud (refine (HSND.out _ (Below.refl _ _)).mono ?_; rintro e W3 ⟨hq, hb3⟩; obtain rfl := hq.no HE.out; have HB3 := Lib.hid hb3; clear hb3 hq; obtain ⟨b0, b1, b2, bl, t0, t1, t2, tl⟩ := HCE.out _ HB3.out)))
  go_ret
  exact ⟨false, rfl, ⟨fun h => (by cases h), fun h => absurd h HNO.out⟩, bthen HB2.out HB3.out⟩
theorem run_eqGp (x y : Gp) (W : World) : (Op.equalIn 10000 120 (.agg #[.string (ba x.a), .string (ba x.b), .bool x.p]) (.agg #[.string (ba y.a), .string (ba y.b), .bool y.p])).run Tryz.prog W = .ok (decide (x = y)) W := by
 rw [run_equalIn_agg W 9999 _ _ _ (by kernel_rfl) (by kernel_rfl)]
 have hf : (Tryz.prog.fieldsOf 120).toList.map (fun f => (f.type, f.offset, f.name != "_")) = [(9, 0, true), (9, 1, true), (4, 2, true)] := by kernel_rfl
 obtain ⟨f0, l0, e0, h0, hf⟩ := List.map_eq_cons_iff.1 hf
 obtain ⟨f1, l1, e1, h1, hf⟩ := List.map_eq_cons_iff.1 hf
 obtain ⟨f2, l2, e2, h2, hf⟩ := List.map_eq_cons_iff.1 hf
 obtain rfl := List.map_eq_nil_iff.1 hf
 simp only [Prod.mk.injEq] at h0 h1 h2
 have hpb : Tryz.prog.plainKey 4 = true := by kernel_rfl
 have hps : Tryz.prog.plainKey 9 = true := by kernel_rfl
 have qb : ∀ a b : Bool, (Op.equalIn 9999 4 (.bool a) (.bool b)).run Tryz.prog W = .ok (a == b) W := fun a b => run_equalIn_bool W 9998 4 a b Tryz.underlying4
 have qs : ∀ a b : ByteArray, (Op.equalIn 9999 9 (.string a) (.string b)).run Tryz.prog W = .ok (a.toList == b.toList) W := fun a b => run_equalIn_string W 9998 9 a b Tryz.underlying9
 obtain ⟨X, hX⟩ : ∃ X : Array Value, X = #[.string (ba x.a), .string (ba x.b), .bool x.p] := ⟨_, rfl⟩
 obtain ⟨Y, hY⟩ : ∃ X : Array Value, X = #[.string (ba y.a), .string (ba y.b), .bool y.p] := ⟨_, rfl⟩
 rw [← hX, ← hY]
 have k5 : (Op.eqFields 9999 X Y []).run Tryz.prog W = .ok true W := by simp [Op.eqFields]
 have k2 := eqF_cons (f := f2) (xs := X) (ys := Y) h2.2.2 (by rw [h2.1]; exact hpb) (by rw [h2.2.1, hX]; rfl) (by rw [h2.2.1, hY]; rfl) (by rw [h2.1]; exact qb x.p y.p) k5
 rw [← e2] at k2
 have k1 := eqF_cons (f := f1) (xs := X) (ys := Y) h1.2.2 (by rw [h1.1]; exact hps) (by rw [h1.2.1, hX]; rfl) (by rw [h1.2.1, hY]; rfl) (by rw [h1.1]; exact qs (ba x.b) (ba y.b)) k2
 rw [← e1] at k1
 have key := eqF_cons (f := f0) (xs := X) (ys := Y) h0.2.2 (by rw [h0.1]; exact hps) (by rw [h0.2.1, hX]; rfl) (by rw [h0.2.1, hY]; rfl) (by rw [h0.1]; exact qs (ba x.a) (ba y.a)) k1
 rw [← e0] at key
 refine key.trans ?_
 congr 1
 rw [Bool.eq_iff_iff]
 simp only [Bool.and_eq_true, beq_iff_eq, decide_eq_true_iff, and_true]
 constructor
 ·rintro ⟨h1, h2, h3⟩
  obtain ⟨a, b, p⟩ := x
  obtain ⟨a', b', p'⟩ := y
  have h1 := ba_inj (toL_inj h1)
  have h2 := ba_inj (toL_inj h2)
  simp only at h1 h2 h3
  rw [h1, h2, h3]
 ·rintro rfl
  exact ⟨rfl, rfl, rfl⟩
theorem ba_emp (l : List UInt8) : (ba l).toList.isEmpty = l.isEmpty := by rw [Lib.toList_data]; rfl
set_option maxHeartbeats 4000000 in
theorem gdiffer_any (g : Gp) (w : World) : Calls Tryz.prog 94 #[.agg #[.string (ba g.a), .string (ba g.b), .bool g.p]] w fun e w' => e = .returned (.bool (!decide (g = Gp.none_))) ∧ Below w.heap.size w w' := by
 obtain ⟨w1, hw1⟩ : ∃ w1, w.alloc (.cells #[.string (ba g.a), .string (ba g.b), .bool g.p] 120) = w1 := ⟨_, rfl⟩
 have hb1 : Below w.heap.size w w1 := by rw [← hw1]; exact nw _ (Below.refl _ _)
 have hB : Blk w1 w.heap.size 120 #[.string (ba g.a), .string (ba g.b), .bool g.p] := by rw [← hw1]; exact Blk.new _ _ _
 have HW1 := Lib.hid hw1
 have HB1 := Lib.hid hb1
 have b0 := hB.cell 0
 have b1 := hB.cell 1
 have b2 := hB.cell 2
 have bl := hB.lt
 simp at b0 b1 b2
 have HEQ : ∀ W, (Op.equalIn 10000 120 (.agg #[.string (ba g.a), .string (ba g.b), .bool g.p]) (.agg #[.string { data := #[] }, .string { data := #[] }, .bool false])).run Tryz.prog W = .ok (decide (g = Gp.none_)) W := fun W => run_eqGp g Gp.none_ W
 obtain ⟨q, hq⟩ : ∃ q, decide (g = Gp.none_) = q := ⟨_, rfl⟩
 rw [hq] at HEQ ⊢
 clear hw1 hb1 hB hq
 go_enter Tryz.func94, Tryz.ntmps94
 go_upto_region 1 with fail
 rw [HW1.out]
 go_wp2_with fail
 go_ret
 exact ⟨rfl, HB1.out⟩
set_option maxHeartbeats 4000000 in
theorem gindex_any (A : Option Addr) (xs : List Gp) (c : Nat) (r : Gp) (w : World) (hx : SlR 3 RGp w A xs) (hl : xs.length ≤ 65536) :
 Calls Tryz.prog 115 #[.slice A xs.length c, .agg #[.string (ba r.a), .string (ba r.b), .bool r.p]] w fun e w' => (∃ i : Int, e = .returned (.int .i64 i) ∧ (0 ≤ i ↔ r ∈ xs)) ∧ Below w.heap.size w w' := by
 obtain ⟨w1, hw1⟩ : ∃ w1, w.alloc (.cells #[.string (ba r.a), .string (ba r.b), .bool r.p] 120) = w1 := ⟨_, rfl⟩
 have hb1 : Below w.heap.size w w1 := by rw [← hw1]; exact nw _ (Below.refl _ _)
 have hB : Blk w1 w.heap.size 120 #[.string (ba r.a), .string (ba r.b), .bool r.p] := by rw [← hw1]; exact Blk.new _ _ _
 have HW1 := Lib.hid hw1
 have HB1 := Lib.hid hb1
 clear hw1 hb1
 go_enter Tryz.func115, Tryz.ntmps115
 go_upto_region 1 with fail
 rw [HW1.out]
 go_wp2_with fail
 go_loopw [5, 8] (fun _ i wr => ∃ k : Nat, k ≤ xs.length ∧ Hid (∀ y ∈ xs.take k, y ≠ r) ∧ i = .int .i64 (k : Int) ∧ Below w1.heap.size w1 wr) (fun _ i _ => xs.length - (intOf i).toNat)
 case atStart => exact ⟨0, by omega, by show ∀ y ∈ xs.take 0, y ≠ r; simp, rfl, Below.refl _ _⟩
 case round =>
  obtain ⟨k, hk, HN, rfl, hb⟩ := hrel
  have HBE := Lib.hid (bthen HB1.out hb)
  have hBB := hB.below hb hB.lt
  have b0 := hBB.cell 0
  have b1 := hBB.cell 1
  have b2 := hBB.cell 2
  have bl := hBB.lt
  simp at b0 b1 b2
  have HBR := Lib.hid hb
  by_cases hlt : k < xs.length
  ·obtain ⟨b, off, x, rfl, hbb, hxx, d0, d1, d2⟩ := (hx.below keeps_gp HBE.out).gps hlt
   have HX := Lib.hid hxx
   have hki : (k : Int) < (xs.length : Int) := by omega
   have hk0 : (0 : Int) ≤ (k : Int) := by omega
   clear hxx hb hBB
   by_cases he : r = x
   ·have HE := Lib.hid he
    have HEQ := fun W => run_eqGp r x W
    rw [decide_eq_true he] at HEQ
    clear he
    go_wp2_with fail
    go_quiet (fail)
    go_wp2_with fail
    go_ret
    exact ⟨⟨_, rfl, ⟨fun _ => by rw [HE.out]; exact List.mem_of_getElem? HX.out, fun _ => by omega⟩⟩, below_drewN HBE.out _⟩
   ·have HE := Lib.hid he
    have HEQ := fun W => run_eqGp r x W
    rw [decide_eq_false he] at HEQ
    clear he
    go_wp2_with fail
    go_quiet (fail)
    go_wp2_with fail
    go_roundw
    case rel => exact ⟨k + 1, by omega, (by
     show ∀ y ∈ xs.take (k + 1), y ≠ r
     rw [take_succ_of HX.out]
     intro y hy
     rcases List.mem_append.1 hy with hy | hy
     ·exact HN.out y hy
     ·rw [List.mem_singleton.1 hy]; exact fun e => HE.out e.symm), by go_num, below_drewN HBR.out _⟩
    case measure => simp [intOf]; omega
  ·have HN2 : Hid (∀ y ∈ xs, y ≠ r) := by have := HN.out; rwa [List.take_of_length_le (by omega)] at this
   clear hb hBB
   go_wp2_with fail
   go_ret
   exact ⟨⟨-1, rfl, ⟨fun h => absurd h (by decide), fun h => absurd rfl (HN2.out r h)⟩⟩, HBE.out⟩
set_option maxHeartbeats 4000000 in
theorem gcont_any (A : Option Addr) (xs : List Gp) (c : Nat) (r : Gp) (w : World) (hx : SlR 3 RGp w A xs) (hl : xs.length ≤ 65536) :
 Calls Tryz.prog 90 #[.slice A xs.length c, .agg #[.string (ba r.a), .string (ba r.b), .bool r.p]] w fun e w' => e = .returned (.bool (xs.contains r)) ∧ Below w.heap.size w w' := by
 obtain ⟨w1, hw1⟩ : ∃ w1, w.alloc (.cells #[.string (ba r.a), .string (ba r.b), .bool r.p] 120) = w1 := ⟨_, rfl⟩
 have hb1 : Below w.heap.size w w1 := by rw [← hw1]; exact nw _ (Below.refl _ _)
 have hB : Blk w1 w.heap.size 120 #[.string (ba r.a), .string (ba r.b), .bool r.p] := by rw [← hw1]; exact Blk.new _ _ _
 have HW1 := Lib.hid hw1
 have HB1 := Lib.hid hb1
 have HX := Lib.hid (hx.below keeps_gp hb1)
 have b0 := hB.cell 0
 have b1 := hB.cell 1
 have b2 := hB.cell 2
 have bl := hB.lt
 simp at b0 b1 b2
 have hd : xs.contains r = decide (r ∈ xs) := by rw [Bool.eq_iff_iff]; simp
 rw [hd]
 clear hw1 hb1 hx hd
 go_enter Tryz.func90, Tryz.ntmps90
 go_upto_region 1 with fail
 rw [HW1.out]
 go_wp2_with (go_at_call 115; go_loud (refine (gindex_any A xs c r w1 HX.out hl).mono ?_; rintro e w2 ⟨⟨i, rfl, hi⟩, hb2⟩))
 have HI := Lib.hid hi
 clear hi
 go_wp2_with fail
 go_ret
 exact ⟨rfl, bthen HB1.out hb2⟩
set_option maxHeartbeats 8000000 in
theorem sended_any (s : Sc) (A : Option Addr) (c gf gm : Nat) (p : Pl) (w : World) (hS : Blk w gf 109 #[.int .i64 s.n, .int .u8 s.acc, .slice A s.rs.length c, .map (some gm)]) (hacc : 0 ≤ s.acc ∧ s.acc ≤ 255) (hm : 0 ≤ p.1 ∧ p.1 < 8) :
 Calls Tryz.prog 95 #[.pointer (some ⟨gf, 0, none⟩), .agg #[.int .i64 p.1, .string (ba p.2)]] w fun e w' => e = .returned (.bool ((schA s).acc p)) ∧ Below w.heap.size w w' := by
 obtain ⟨w1, hw1⟩ : ∃ w1, w.alloc (.cells #[.int .i64 p.1, .string (ba p.2)] 116) = w1 := ⟨_, rfl⟩
 have hb1 : Below w.heap.size w w1 := by rw [← hw1]; exact nw _ (Below.refl _ _)
 have hB : Blk w1 w.heap.size 116 #[.int .i64 p.1, .string (ba p.2)] := by rw [← hw1]; exact Blk.new _ _ _
 have hSB := hS.below hb1 hS.lt
 have HW1 := Lib.hid hw1
 have HB1 := Lib.hid hb1
 have b0 := hB.cell 0
 have b1 := hB.cell 1
 have bl := hB.lt
 have f1 := hSB.cell 1
 have fl := hSB.lt
 simp at b0 b1 f1
 obtain ⟨m, t⟩ := p
 simp only at b0 b1 hm
 have HM := Lib.hid hm
 obtain ⟨hm0, hm1⟩ := hm
 have hmin : min m.toNat 8 = m.toNat := by omega
 show Calls _ _ _ _ fun e w' => e = .returned (.bool (decide (t = []) && accB s.acc m)) ∧ _
 clear hw1 hb1 hB hS hSB
 cases t with
 | cons a t =>
  have h1 : (ba (a :: t)).toList.isEmpty = false := ba_emp _
  go_enter Tryz.func95, Tryz.ntmps95
  go_upto_region 1 with fail
  rw [HW1.out]
  refine ordB_below (.quiet 0 (.quiet 1 (.quiet 2 (.quiet 3 (.quiet 4 (.quiet 5 (.quiet 6 (.quiet 7 (.quiet 8 (.quiet 9 (.quiet 10 (.quiet 11 (.quiet 12 (.quiet 13 (.quiet 14 (.quiet 15 .done)))))))))))))))) (by kernel_rfl) (by kernel_rfl) (by kernel_rfl) (fun _ _ _ _ _ h => h) ?_
  intro V0 hV0
  iterate 16 ((first | refine ordB_skip rfl rfl ?_ | (refine ordB_take (v := ?_) rfl rfl ?_ ?_; rotate_left 1; (focus (intro W hW; obtain ⟨hcW, hfW⟩ := bcell hW; (go_simp <;> with_reducible rfl))))); simp only [Act.put, zA, zB, zC])
  refine ordB_nil ?_
  go_wp2_with fail
  go_ret
  exact ⟨by simp, bthen HB1.out hV0⟩
 | nil =>
  have h1 : (ba []).toList.isEmpty = true := ba_emp _
  go_enter Tryz.func95, Tryz.ntmps95
  go_upto_region 1 with fail
  rw [HW1.out]
  refine ordB_below (.quiet 0 (.quiet 1 (.quiet 2 (.quiet 3 (.quiet 4 (.quiet 5 (.quiet 6 (.quiet 7 (.quiet 8 (.quiet 9 (.quiet 10 (.quiet 11 (.quiet 12 (.quiet 13 (.quiet 14 (.quiet 15 .done)))))))))))))))) (by kernel_rfl) (by kernel_rfl) (by kernel_rfl) (fun _ _ _ _ _ h => h) ?_
  intro V0 hV0
  iterate 16 ((first | refine ordB_skip rfl rfl ?_ | (refine ordB_take (v := ?_) rfl rfl ?_ ?_; rotate_left 1; (focus (intro W hW; obtain ⟨hcW, hfW⟩ := bcell hW; (go_simp <;> with_reducible rfl))))); simp only [Act.put, zA, zB, zC])
  refine ordB_nil ?_
  go_wp2_with fail
  go_ret
  refine ⟨ret_bool ?_, bthen HB1.out hV0⟩
  have hp : (0 : Int) < 2 ^ m.toNat := Int.pow_pos (by omega)
  have hd0 : 0 ≤ s.acc / 2 ^ m.toNat := Int.ediv_nonneg hacc.1 (by omega)
  have hd1 : s.acc / 2 ^ m.toNat ≤ s.acc := Int.ediv_le_self _ hacc.1
  rw [(bits_u8 (s.acc / 2 ^ m.toNat) 1 (by omega) (by omega)).1]
  unfold accB
  rw [decide_eq_true hm0, Bool.true_and, Nat.testBit_eq_decide_div_mod_eq, show (1 : Int).toNat = 1 from rfl, Nat.and_one_is_mod]
  have e : (s.acc / 2 ^ m.toNat).toNat = s.acc.toNat / 2 ^ m.toNat := by
   have h1 : s.acc / 2 ^ m.toNat = ((s.acc.toNat / 2 ^ m.toNat : Nat) : Int) := by
    rw [Int.natCast_ediv, Int.toNat_of_nonneg hacc.1]
    congr 1
   rw [h1, Int.toNat_natCast]
  rw [e]
  by_cases h : s.acc.toNat / 2 ^ m.toNat % 2 = 1
  ·rw [h]; rfl
  ·have h0 : s.acc.toNat / 2 ^ m.toNat % 2 = 0 := by omega
   rw [h0]; rfl
end Go.Proofs.YtfpnhgahkjglgaaGreat
