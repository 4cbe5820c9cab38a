/-
  OuLawG, OuOrdP, OuLev, joined. No conditions.
-/
import Derived.Test.YtfpnhgahkjglgaaGreatF22
import Derived.Test.YtfpnhgahkjglgaaGreatF05
import Derived.Test.YtfpnhgahkjglgaaGreatF21
import Derived.Test.YtfpnhgahkjglgaaGreatF19
import Derived.Test.YtfpnhgahkjglgaaGreatF01
set_option maxRecDepth 100000
namespace Go.Proofs.YtfpnhgahkjglgaaGreat
open Go Go.RowKit
def abc6 (x : Int) : ByteArray := (ByteArray.mk #[97, 98, 99, 65, 66, 49]).extract (x % 6).toNat (x % 6 + 1).toNat
def abcB (s : ByteArray) : Bool := (bl s).all fun a => a == 97 || a == 98 || a == 99
theorem abcB_app (a b : ByteArray) : abcB (a ++ b) = (abcB a && abcB b) := by unfold abcB; rw [bl_app, List.all_append]
theorem abcL_abc (x : Int) : abcB (abcL x) = true := by
 rcases abcL_cases x with h | h | h <;> rw [h] <;> decide +kernel
theorem abc6_cases (x : Int) : abc6 x = ByteArray.mk #[97] ∨ abc6 x = ByteArray.mk #[98] ∨ abc6 x = ByteArray.mk #[99] ∨ abc6 x = ByteArray.mk #[65] ∨ abc6 x = ByteArray.mk #[66] ∨ abc6 x = ByteArray.mk #[49] := by
 have h : x % 6 = 0 ∨ x % 6 = 1 ∨ x % 6 = 2 ∨ x % 6 = 3 ∨ x % 6 = 4 ∨ x % 6 = 5 := by omega
 unfold abc6
 rcases h with h | h | h | h | h | h
 ·rw [h]; exact .inl (by rfl)
 ·rw [h]; exact .inr (.inl (by rfl))
 ·rw [h]; exact .inr (.inr (.inl (by rfl)))
 ·rw [h]; exact .inr (.inr (.inr (.inl (by rfl))))
 ·rw [h]; exact .inr (.inr (.inr (.inr (.inl (by rfl)))))
 ·rw [h]; exact .inr (.inr (.inr (.inr (.inr (by rfl)))))
theorem abc6_ok (x : Int) : (abc6 x).size = 1 ∧ knownS (abc6 x) = true := by
 rcases abc6_cases x with h | h | h | h | h | h <;> rw [h] <;> exact ⟨by rfl, by decide +kernel⟩
set_option maxHeartbeats 8000000 in
theorem made1_any (A B : Option Addr) (li lo : List Int) (c d m : Nat) (qf qt qc : Int) (w : World) (hx : SlR 1 RU8 w A li) (hy : SlR 1 RU8 w B lo) (hli : li.length ≤ maxLen) (hlo : lo.length ≤ maxLen) (h8 : ∀ x ∈ li, 0 ≤ x ∧ x ≤ 255) (k8 : ∀ x ∈ lo, 0 ≤ x ∧ x ≤ 255)
 (hf : 0 ≤ qf ∧ qf ≤ 255) (ht : 0 ≤ qt ∧ qt ≤ 255) (hco : 0 ≤ qc ∧ qc ≤ 255) (hm : 1 ≤ m ∧ m ≤ 2) :
 Calls Tryz.prog 24 #[.agg #[.slice A li.length c, .slice B lo.length d, .int .u8 qf, .int .u8 qt, .int .u8 qc], .int .i64 (m : Int)] w fun e w' => ∃ r : Ru, e = .returned (.agg #[.int .i64 r.fr, .int .i64 r.to, .string r.inp, .string r.out, .int .i64 r.co]) ∧ RuOK (m : Int) r ∧ abcB r.inp = true ∧ Below w.heap.size w w' := by
 obtain ⟨w1, hw1⟩ : ∃ w1, (w.alloc (.cells #[.slice A li.length c, .slice B lo.length d, .int .u8 qf, .int .u8 qt, .int .u8 qc] 70)).alloc (.cells #[.int .i64 0, .int .i64 0, .string ⟨#[]⟩, .string ⟨#[]⟩, .int .i64 0] 61) = w1 := ⟨_, rfl⟩
 obtain ⟨g, hg⟩ : ∃ g, w.heap.size = g := ⟨_, rfl⟩
 have hb1 : Below w.heap.size w w1 := by rw [← hw1]; exact nw _ (nw _ (Below.refl _ _))
 have hB : Blk w1 g 70 #[.slice A li.length c, .slice B lo.length d, .int .u8 qf, .int .u8 qt, .int .u8 qc] := by rw [← hw1, ← hg]; exact (Blk.new _ _ _).alloc _
 have hC : Blk w1 (g + 1) 61 #[.int .i64 0, .int .i64 0, .string ⟨#[]⟩, .string ⟨#[]⟩, .int .i64 0] := by rw [← hw1]; exact Blk.new_ (by simp; omega)
 have HW1 := Lib.hid hw1
 have HG := Lib.hid hg
 have HB1 := Lib.hid hb1
 have HBB := Lib.hid hB
 have HCC := Lib.hid hC
 have hgw : w.heap.size ≤ g + 1 := by omega
 have hli2 := hli
 have hlo2 := hlo
 have HX := Lib.hid hx
 have HY := Lib.hid hy
 have x0 := hB.cell 0
 have x1 := hB.cell 1
 have x2 := hB.cell 2
 have x3 := hB.cell 3
 have x4 := hB.cell 4
 have xl := hB.lt
 simp at x0 x1 x2 x3 x4
 have hw5 : IntKind.i64.wrap qf = qf := by rw [IntKind.wrap_i64]; omega
 have hw6 : IntKind.i64.wrap qt = qt := by rw [IntKind.wrap_i64]; omega
 have hw7 : IntKind.i64.wrap qc = qc := by rw [IntKind.wrap_i64]; omega
 have hw8 : IntKind.i64.wrap (qc * 2) = qc * 2 := by rw [IntKind.wrap_i64]; omega
 have hF : 0 ≤ qf % (m : Int) ∧ qf % (m : Int) < (m : Int) := ⟨Int.emod_nonneg _ (by omega), Int.emod_lt_of_pos _ (by omega)⟩
 have hG : 0 ≤ qt % (m : Int) ∧ qt % (m : Int) < (m : Int) := ⟨Int.emod_nonneg _ (by omega), Int.emod_lt_of_pos _ (by omega)⟩
 have hm0 : (0 : Int) < (m : Int) := by omega
 have hm1 : ¬ m = 0 := by omega
 have hf0 := hf.1
 have ht0 := ht.1
 have hwF : IntKind.i64.wrap (qf % (m : Int)) = qf % (m : Int) := by rw [IntKind.wrap_i64]; omega
 have hwG : IntKind.i64.wrap (qt % (m : Int)) = qt % (m : Int) := by rw [IntKind.wrap_i64]; omega
 have htm1 : qf.tmod (m : Int) = qf % (m : Int) := Int.tmod_eq_emod_of_nonneg hf.1
 have htm2 : qt.tmod (m : Int) = qt % (m : Int) := Int.tmod_eq_emod_of_nonneg ht.1
 clear hw1 hg hb1 hB hC hx hy
 go_enter Tryz.func24, Tryz.ntmps24
 go_upto_region 1 with fail
 rw [HW1.out, HG.out]
 refine ordB_below (.quiet 0 (.quiet 1 (.quiet 2 (.quiet 3 (.quiet 4 (.quiet 5 (.quiet 6 (.quiet 7 (.quiet 8 (.quiet 9 (.quiet 10 (.quiet 11 (.quiet 12 (.quiet 13 (.quiet 14 (.only 15 (.only 16 .done))))))))))))))))) (by kernel_rfl) (by kernel_rfl) (by kernel_rfl) (fun _ _ _ _ _ h => h) ?_
 intro W0 hS0
 iterate 15 ((first | refine ordB_skip rfl rfl ?_ | (refine ordB_take (v := ?_) rfl rfl ?_ ?_; rotate_left 1; (focus (intro W hW; obtain ⟨hcW, hfW⟩ := bcell hW; (go_simp <;> with_reducible rfl))))); simp only [Act.put, zA, zB, zC])
 refine ordB_only (opB_call rfl rfl (fun K hK => ?_))
 go_simp
 refine hK.out _ _ (hS0.alloc hS0.size _) (fun hS0_1 => ?_)
 have hR := Blk.new W0 61 #[.int .i64 0, .int .i64 0, .string ⟨#[]⟩, .string ⟨#[]⟩, .int .i64 0]
 have hRb := nw (.cells #[.int .i64 0, .int .i64 0, .string ⟨#[]⟩, .string ⟨#[]⟩, .int .i64 0] 61) (Below.refl W0.heap.size W0)
 have hRg := hS0.size
 obtain ⟨W0_1, qqW0_1⟩ : ∃ W', W0.alloc (.cells #[.int .i64 0, .int .i64 0, .string ⟨#[]⟩, .string ⟨#[]⟩, .int .i64 0] 61) = W' := ⟨_, rfl⟩
 rw [qqW0_1] at hS0_1 hR hRb ⊢
 clear qqW0_1 hRb
 refine ordB_only (opB_call rfl rfl (fun K hK => ?_))
 have hRc0 := hR.cell 0
 have hRf0 := hR.frozen 0
 have hRc1 := hR.cell 1
 have hRf1 := hR.frozen 1
 have hRc2 := hR.cell 2
 have hRf2 := hR.frozen 2
 have hRc3 := hR.cell 3
 have hRf3 := hR.frozen 3
 have hRc4 := hR.cell 4
 have hRf4 := hR.frozen 4
 simp at hRc0 hRc1 hRc2 hRc3 hRc4
 go_simp
 refine hK.out _ _ (((((hS0_1.setCell (p := ⟨W0.heap.size, 0, none⟩) hRg _).setCell (p := ⟨W0.heap.size, 1, none⟩) hRg _).setCell (p := ⟨W0.heap.size, 2, none⟩) hRg _).setCell (p := ⟨W0.heap.size, 3, none⟩) hRg _).setCell (p := ⟨W0.heap.size, 4, none⟩) hRg _) (fun hS0_1_2 => ?_)
 have hR := (((((hR.set_ 0 (.int .i64 (qf % (m : Int)))).set_ 1 (.int .i64 (qt % (m : Int)))).set_ 2 (.string ⟨#[]⟩)).set_ 3 (.string ⟨#[]⟩)).set_ 4 (.int .i64 (qc * 2)))
 obtain ⟨W0_1_2, qqW0_1_2⟩ : ∃ W', (((((W0_1.setCell ⟨W0.heap.size, 0, none⟩ (.int .i64 (qf % (m : Int)))).setCell ⟨W0.heap.size, 1, none⟩ (.int .i64 (qt % (m : Int)))).setCell ⟨W0.heap.size, 2, none⟩ (.string ⟨#[]⟩)).setCell ⟨W0.heap.size, 3, none⟩ (.string ⟨#[]⟩)).setCell ⟨W0.heap.size, 4, none⟩ (.int .i64 (qc * 2))) = W' := ⟨_, rfl⟩
 rw [qqW0_1_2] at hS0_1_2 hR  ⊢
 clear qqW0_1_2 hRc0 hRf0 hRc1 hRf1 hRc2 hRf2 hRc3 hRf3 hRc4 hRf4
 refine ordB_nil ?_
 have hb5 := hS0_1_2
 clear hS0_1_2
 obtain ⟨g5, hg5⟩ : ∃ g, W0.heap.size = g := ⟨_, rfl⟩
 have hg5w : w1.heap.size ≤ g5 := by rw [← hg5]; exact hRg
 rw [hg5] at hR ⊢
 have HR := Lib.hid hR
 have HB5 := Lib.hid hb5
 obtain ⟨X1, hX1⟩ : ∃ V, W0_1_2 = V := ⟨_, rfl⟩
 rw [hX1] at HR HB5 ⊢
 clear hg5 hR hb5 hRg x0 x1 x2 x3 x4 xl
 obtain ⟨F, hFe⟩ : ∃ F, qf % (m : Int) = F := ⟨_, rfl⟩
 obtain ⟨G, hGe⟩ : ∃ F, qt % (m : Int) = F := ⟨_, rfl⟩
 obtain ⟨K5, hKe⟩ : ∃ F, qc * 2 = F := ⟨_, rfl⟩
 have hK5 : 0 ≤ K5 ∧ K5 ≤ 1000 := by omega
 rw [hFe, hGe, hKe] at HR
 rw [hFe] at hF
 rw [hGe] at hG
 clear hX1 hFe hGe hKe hw5 hw6 hw7 hw8 hwF hwG htm1 htm2
 go_wp2_with fail
 go_loopw [6] (fun iv wr => ∃ (k : Nat) (T : ByteArray), k ≤ li.length ∧ k ≤ 2 ∧ iv = .int .i64 (k : Int) ∧ T.size = k ∧ Hid (smallS T = true ∧ abcB T = true) ∧ Blk wr g5 61 #[.int .i64 F, .int .i64 G, .string T, .string ⟨#[]⟩, .int .i64 K5] ∧ Below w1.heap.size w1 wr) (fun iv _ => 2 - (intOf iv).toNat)
 case atStart => exact ⟨0, ⟨#[]⟩, by omega, by omega, rfl, rfl, (by show smallS (ByteArray.mk #[]) = true ∧ abcB (ByteArray.mk #[]) = true; decide +kernel), HR.out, HB5.out⟩
 case round =>
  obtain ⟨X0, rfl⟩ : ∃ W, W = wr := ⟨wr, rfl⟩
  obtain ⟨k, T, hk, hk2, rfl, hTs, HT, hblk, hbx⟩ := hrel
  have HBX := Lib.hid hbx
  have HBK := Lib.hid hblk
  have hBX := HBB.out.below hbx HBB.out.lt
  have x0 := hBX.cell 0
  have xl := hBX.lt
  have r2 := hblk.cell 2
  have f2 := hblk.frozen 2
  have rl := hblk.lt
  simp at x0 r2
  clear hbx hblk hBX
  by_cases hlt : k < li.length
  ·have hki : (k : Int) < (li.length : Int) := by omega
   by_cases hlt2 : k < 2
   ·obtain ⟨bk, off, x, rfl, hbb, hxx, hcx0⟩ := (HX.out.below keeps_u8 (bthen HB1.out HBX.out)).u8 hlt
    have hx8 := h8 x (List.mem_of_getElem? hxx)
    have hxt : x.tmod 3 = x % 3 := Int.tmod_eq_emod_of_nonneg hx8.1
    have hxz : 0 ≤ x := hx8.1
    have hkI2 : (k : Int) < 2 := by omega
    have hTz : T.size ≤ 2 := by omega
    have hq0 : 0 ≤ x % 3 := by omega
    have hq1 : x % 3 ≤ 2 := by omega
    have hq2 : 0 ≤ x % 3 + 1 := by omega
    have hq3 : x % 3 + 1 ≤ 3 := by omega
    have hq4 : x % 3 ≤ x % 3 + 1 := by omega
    have hq5 : ¬ 9223372036854775807 < k + ((x % 3 + 1).toNat - (x % 3).toNat) := by omega
    have hwr : IntKind.u8.wrap (x % 3 + 1) = x % 3 + 1 := by unfold IntKind.wrap; simp [IntKind.bits, IntKind.signed]; omega
    have hk0 : (0 : Int) ≤ (k : Int) := by omega
    clear hxx
    go_wp2_with fail
    refine ordT_below [18] [(0, false), (1, false), (2, false), (3, false), (4, false), (5, false), (6, false), (7, false), (8, false), (9, false), (10, false), (11, false), (12, false), (13, false), (14, false), (15, false), (16, false), (17, false), (18, true)] (by kernel_rfl) (by kernel_rfl) (by kernel_rfl) (fun _ _ _ _ _ h => h) ?_
    intro W0 hS0
    repeat (first
     | (refine ordT_skip rfl rfl (by assumption) ?_; simp only [Act.put, zA, zB, zC])
     | (refine ordT_cskip rfl rfl (by assumption) ?_; simp only [Act.put, zA, zB, zC])
     | (refine ordT_take (v := ?_) rfl rfl (by assumption) ?_ ?_
        rotate_left 1
        focus (intro W hW; obtain ⟨hcW, hfW⟩ := bcell hW; (go_simp <;> with_reducible rfl))
        simp only [Act.put, zA, zB, zC])
     | (refine ordT_call rfl rfl (fun K hK => ?_)
        obtain ⟨hcS, hfS⟩ := bcell hS0
        go_simp
        first
         | (refine hK.out _ _ (fun h => by cases h) ?_)))
    refine ordT_nil ?_
    have HBN := Lib.hid (((HBX.out.trans (hS0.mono HBX.out.size)).setCell (p := ⟨g5, 2, none⟩) hg5w (.string (T ++ abcL x))))
    have HKN := Lib.hid ((HBK.out.below hS0 rl).set_ 2 (.string (T ++ abcL x)))
    clear hS0
    go_wp2_with fail
    go_roundw
    case rel => exact ⟨k + 1, T ++ abcL x, by omega, by omega, by go_num, (by rw [ByteArray.size_append, hTs, (abcL_ok x).1]), (by show smallS (T ++ abcL x) = true ∧ abcB (T ++ abcL x) = true; rw [smallS_app, abcB_app, HT.out.1, HT.out.2, (abcL_ok x).2, abcL_abc x]; exact ⟨rfl, rfl⟩), HKN.out, HBN.out⟩
    case measure => simp [intOf]; omega
   ·obtain rfl : k = 2 := by omega
    go_wp2_with fail
    go_loopw [7] (fun iv wr => ∃ (k : Nat) (U : ByteArray), k ≤ lo.length ∧ k ≤ 2 ∧ iv = .int .i64 (k : Int) ∧ U.size = k ∧ Hid (knownS U = true) ∧ Blk wr g5 61 #[.int .i64 F, .int .i64 G, .string T, .string U, .int .i64 K5] ∧ Below w1.heap.size w1 wr) (fun iv _ => 2 - (intOf iv).toNat)
    case atStart => exact ⟨0, ⟨#[]⟩, by omega, by omega, rfl, rfl, (by show knownS (ByteArray.mk #[]) = true; decide +kernel), HBK.out, HBX.out⟩
    case round =>
     obtain ⟨X2, rfl⟩ : ∃ W, W = wr := ⟨wr, rfl⟩
     obtain ⟨j, U, hj, hj2, rfl, hUs, HU, hblk2, hbx2⟩ := hrel
     have HBX2 := Lib.hid hbx2
     have HBK2 := Lib.hid hblk2
     have hBX2 := HBB.out.below hbx2 HBB.out.lt
     clear x0 xl r2 f2 rl
     have x1 := hBX2.cell 1
     have xl := hBX2.lt
     have r3 := hblk2.cell 3
     have f3 := hblk2.frozen 3
     have rl := hblk2.lt
     simp at x1 r3
     clear hbx2 hblk2 hBX2
     by_cases hlt3 : j < lo.length
     ·have hji : (j : Int) < (lo.length : Int) := by omega
      by_cases hlt4 : j < 2
      ·obtain ⟨bj, ofj, y, rfl, hbb3, hyy, hcy0⟩ := (HY.out.below keeps_u8 (bthen HB1.out HBX2.out)).u8 hlt3
       have hy8 := k8 y (List.mem_of_getElem? hyy)
       have hyt : y.tmod 6 = y % 6 := Int.tmod_eq_emod_of_nonneg hy8.1
       have hyz : 0 ≤ y := hy8.1
       have hjI2 : (j : Int) < 2 := by omega
       have hUz : U.size ≤ 2 := by omega
       have hp0 : 0 ≤ y % 6 := by omega
       have hp1 : y % 6 ≤ 5 := by omega
       have hp2 : 0 ≤ y % 6 + 1 := by omega
       have hp3 : y % 6 + 1 ≤ 6 := by omega
       have hp4 : y % 6 ≤ y % 6 + 1 := by omega
       have hp5 : ¬ 9223372036854775807 < j + ((y % 6 + 1).toNat - (y % 6).toNat) := by omega
       have hwr2 : IntKind.u8.wrap (y % 6 + 1) = y % 6 + 1 := by unfold IntKind.wrap; simp [IntKind.bits, IntKind.signed]; omega
       have hj0 : (0 : Int) ≤ (j : Int) := by omega
       clear hyy
       go_wp2_with fail
       refine ordT_below [18] [(0, false), (1, false), (2, false), (3, false), (4, false), (5, false), (6, false), (7, false), (8, false), (9, false), (10, false), (11, false), (12, false), (13, false), (14, false), (15, false), (16, false), (17, false), (18, true)] (by kernel_rfl) (by kernel_rfl) (by kernel_rfl) (fun _ _ _ _ _ h => h) ?_
       intro W0 hS0
       repeat (first
        | (refine ordT_skip rfl rfl (by assumption) ?_; simp only [Act.put, zA, zB, zC])
        | (refine ordT_cskip rfl rfl (by assumption) ?_; simp only [Act.put, zA, zB, zC])
        | (refine ordT_take (v := ?_) rfl rfl (by assumption) ?_ ?_
           rotate_left 1
           focus (intro W hW; obtain ⟨hcW, hfW⟩ := bcell hW; (go_simp <;> with_reducible rfl))
           simp only [Act.put, zA, zB, zC])
        | (refine ordT_call rfl rfl (fun K hK => ?_)
           obtain ⟨hcS, hfS⟩ := bcell hS0
           go_simp
           first
            | (refine hK.out _ _ (fun h => by cases h) ?_)))
       refine ordT_nil ?_
       have HBN := Lib.hid (((HBX2.out.trans (hS0.mono HBX2.out.size)).setCell (p := ⟨g5, 3, none⟩) hg5w (.string (U ++ abc6 y))))
       have HKN := Lib.hid ((HBK2.out.below hS0 rl).set_ 3 (.string (U ++ abc6 y)))
       clear hS0
       go_wp2_with fail
       go_roundw
       case rel => exact ⟨j + 1, U ++ abc6 y, by omega, by omega, by go_num, (by rw [ByteArray.size_append, hUs, (abc6_ok y).1]), (by show knownS (U ++ abc6 y) = true; rw [knownS_app, HU.out, (abc6_ok y).2]; rfl), HKN.out, HBN.out⟩
       case measure => simp [intOf]; omega
      ·obtain rfl : j = 2 := by omega
       have hc2 := HCC.out.below HBX2.out HCC.out.lt
       have d0 := hc2.cell 0
       have d1 := hc2.cell 1
       have d2 := hc2.cell 2
       have d3 := hc2.cell 3
       have d4 := hc2.cell 4
       have dl := hc2.lt
       have f0 := hc2.frozen 0
       have f1 := hc2.frozen 1
       have f2 := hc2.frozen 2
       have f3 := hc2.frozen 3
       have f4 := hc2.frozen 4
       have e0 := HBK2.out.cell 0
       have e1 := HBK2.out.cell 1
       have e2 := HBK2.out.cell 2
       have e3 := HBK2.out.cell 3
       have e4 := HBK2.out.cell 4
       have el := HBK2.out.lt
       simp at d0 d1 d2 d3 d4 e0 e1 e2 e3 e4
       have HE := Lib.hid ((((((HCC.out.below HBX2.out HCC.out.lt).set_ 0 (.int .i64 F)).set_ 1 (.int .i64 G)).set_ 2 (.string T)).set_ 3 (.string U)).set_ 4 (.int .i64 K5))
       have HBE := Lib.hid ((((((HB1.out.trans (HBX2.out.mono HB1.out.size)).setCell (p := ⟨g + 1, 0, none⟩) hgw (.int .i64 F)).setCell (p := ⟨g + 1, 1, none⟩) hgw (.int .i64 G)).setCell (p := ⟨g + 1, 2, none⟩) hgw (.string T)).setCell (p := ⟨g + 1, 3, none⟩) hgw (.string U)).setCell (p := ⟨g + 1, 4, none⟩) hgw (.int .i64 K5))
       clear hc2
       go_wp2_with fail
       obtain ⟨W, hW⟩ : ∃ W, (((((X2.setCell ⟨g + 1, 0, none⟩ (.int .i64 F)).setCell ⟨g + 1, 1, none⟩ (.int .i64 G)).setCell ⟨g + 1, 2, none⟩ (.string T)).setCell ⟨g + 1, 3, none⟩ (.string U)).setCell ⟨g + 1, 4, none⟩ (.int .i64 K5)) = W := ⟨_, rfl⟩
       have hE := HE.out
       have hbE := HBE.out
       rw [hW] at hE hbE ⊢
       clear hW HE HBE d0 d1 d2 d3 d4 e0 e1 e2 e3 e4
       have q0 := hE.cell 0
       have q1 := hE.cell 1
       have q2 := hE.cell 2
       have q3 := hE.cell 3
       have q4 := hE.cell 4
       simp at q0 q1 q2 q3 q4
       refine bodyPost_ret (v := .agg #[.int .i64 F, .int .i64 G, .string T, .string U, .int .i64 K5]) (by simp [results, Tryz.results24, go_sem, q0, q1, q2, q3, q4]; done) rfl ?_
       exact ⟨⟨F, G, T, U, K5⟩, rfl, ⟨⟨hF, hG⟩, ⟨by show T.size ≤ 4; omega, HT.out.1⟩, ⟨by show U.size ≤ 4; omega, HU.out⟩, hK5⟩, HT.out.2, hbE⟩
     ·obtain rfl : j = lo.length := by omega
      have hji : ¬ ((lo.length : Nat) : Int) < (lo.length : Int) := by omega
      have hc2 := HCC.out.below HBX2.out HCC.out.lt
      have d0 := hc2.cell 0
      have d1 := hc2.cell 1
      have d2 := hc2.cell 2
      have d3 := hc2.cell 3
      have d4 := hc2.cell 4
      have dl := hc2.lt
      have f0 := hc2.frozen 0
      have f1 := hc2.frozen 1
      have f2 := hc2.frozen 2
      have f3 := hc2.frozen 3
      have f4 := hc2.frozen 4
      have e0 := HBK2.out.cell 0
      have e1 := HBK2.out.cell 1
      have e2 := HBK2.out.cell 2
      have e3 := HBK2.out.cell 3
      have e4 := HBK2.out.cell 4
      have el := HBK2.out.lt
      simp at d0 d1 d2 d3 d4 e0 e1 e2 e3 e4
      have HE := Lib.hid ((((((HCC.out.below HBX2.out HCC.out.lt).set_ 0 (.int .i64 F)).set_ 1 (.int .i64 G)).set_ 2 (.string T)).set_ 3 (.string U)).set_ 4 (.int .i64 K5))
      have HBE := Lib.hid ((((((HB1.out.trans (HBX2.out.mono HB1.out.size)).setCell (p := ⟨g + 1, 0, none⟩) hgw (.int .i64 F)).setCell (p := ⟨g + 1, 1, none⟩) hgw (.int .i64 G)).setCell (p := ⟨g + 1, 2, none⟩) hgw (.string T)).setCell (p := ⟨g + 1, 3, none⟩) hgw (.string U)).setCell (p := ⟨g + 1, 4, none⟩) hgw (.int .i64 K5))
      clear hc2
      go_wp2_with fail
      obtain ⟨W, hW⟩ : ∃ W, (((((X2.setCell ⟨g + 1, 0, none⟩ (.int .i64 F)).setCell ⟨g + 1, 1, none⟩ (.int .i64 G)).setCell ⟨g + 1, 2, none⟩ (.string T)).setCell ⟨g + 1, 3, none⟩ (.string U)).setCell ⟨g + 1, 4, none⟩ (.int .i64 K5)) = W := ⟨_, rfl⟩
      have hE := HE.out
      have hbE := HBE.out
      rw [hW] at hE hbE ⊢
      clear hW HE HBE d0 d1 d2 d3 d4 e0 e1 e2 e3 e4
      have q0 := hE.cell 0
      have q1 := hE.cell 1
      have q2 := hE.cell 2
      have q3 := hE.cell 3
      have q4 := hE.cell 4
      simp at q0 q1 q2 q3 q4
      refine bodyPost_ret (v := .agg #[.int .i64 F, .int .i64 G, .string T, .string U, .int .i64 K5]) (by simp [results, Tryz.results24, go_sem, q0, q1, q2, q3, q4]; done) rfl ?_
      exact ⟨⟨F, G, T, U, K5⟩, rfl, ⟨⟨hF, hG⟩, ⟨by show T.size ≤ 4; omega, HT.out.1⟩, ⟨by show U.size ≤ 4; omega, HU.out⟩, hK5⟩, HT.out.2, hbE⟩
  ·obtain rfl : k = li.length := by omega
   have hki : ¬ ((li.length : Nat) : Int) < (li.length : Int) := by omega
   go_wp2_with fail
   go_loopw [7] (fun iv wr => ∃ (k : Nat) (U : ByteArray), k ≤ lo.length ∧ k ≤ 2 ∧ iv = .int .i64 (k : Int) ∧ U.size = k ∧ Hid (knownS U = true) ∧ Blk wr g5 61 #[.int .i64 F, .int .i64 G, .string T, .string U, .int .i64 K5] ∧ Below w1.heap.size w1 wr) (fun iv _ => 2 - (intOf iv).toNat)
   case atStart => exact ⟨0, ⟨#[]⟩, by omega, by omega, rfl, rfl, (by show knownS (ByteArray.mk #[]) = true; decide +kernel), HBK.out, HBX.out⟩
   case round =>
    obtain ⟨X2, rfl⟩ : ∃ W, W = wr := ⟨wr, rfl⟩
    obtain ⟨j, U, hj, hj2, rfl, hUs, HU, hblk2, hbx2⟩ := hrel
    have HBX2 := Lib.hid hbx2
    have HBK2 := Lib.hid hblk2
    have hBX2 := HBB.out.below hbx2 HBB.out.lt
    clear x0 xl r2 f2 rl
    have x1 := hBX2.cell 1
    have xl := hBX2.lt
    have r3 := hblk2.cell 3
    have f3 := hblk2.frozen 3
    have rl := hblk2.lt
    simp at x1 r3
    clear hbx2 hblk2 hBX2
    by_cases hlt3 : j < lo.length
    ·have hji : (j : Int) < (lo.length : Int) := by omega
     by_cases hlt4 : j < 2
     ·obtain ⟨bj, ofj, y, rfl, hbb3, hyy, hcy0⟩ := (HY.out.below keeps_u8 (bthen HB1.out HBX2.out)).u8 hlt3
      have hy8 := k8 y (List.mem_of_getElem? hyy)
      have hyt : y.tmod 6 = y % 6 := Int.tmod_eq_emod_of_nonneg hy8.1
      have hyz : 0 ≤ y := hy8.1
      have hjI2 : (j : Int) < 2 := by omega
      have hUz : U.size ≤ 2 := by omega
      have hp0 : 0 ≤ y % 6 := by omega
      have hp1 : y % 6 ≤ 5 := by omega
      have hp2 : 0 ≤ y % 6 + 1 := by omega
      have hp3 : y % 6 + 1 ≤ 6 := by omega
      have hp4 : y % 6 ≤ y % 6 + 1 := by omega
      have hp5 : ¬ 9223372036854775807 < j + ((y % 6 + 1).toNat - (y % 6).toNat) := by omega
      have hwr2 : IntKind.u8.wrap (y % 6 + 1) = y % 6 + 1 := by unfold IntKind.wrap; simp [IntKind.bits, IntKind.signed]; omega
      have hj0 : (0 : Int) ≤ (j : Int) := by omega
      clear hyy
      go_wp2_with fail
      refine ordT_below [18] [(0, false), (1, false), (2, false), (3, false), (4, false), (5, false), (6, false), (7, false), (8, false), (9, false), (10, false), (11, false), (12, false), (13, false), (14, false), (15, false), (16, false), (17, false), (18, true)] (by kernel_rfl) (by kernel_rfl) (by kernel_rfl) (fun _ _ _ _ _ h => h) ?_
      intro W0 hS0
      repeat (first
       | (refine ordT_skip rfl rfl (by assumption) ?_; simp only [Act.put, zA, zB, zC])
       | (refine ordT_cskip rfl rfl (by assumption) ?_; simp only [Act.put, zA, zB, zC])
       | (refine ordT_take (v := ?_) rfl rfl (by assumption) ?_ ?_
          rotate_left 1
          focus (intro W hW; obtain ⟨hcW, hfW⟩ := bcell hW; (go_simp <;> with_reducible rfl))
          simp only [Act.put, zA, zB, zC])
       | (refine ordT_call rfl rfl (fun K hK => ?_)
          obtain ⟨hcS, hfS⟩ := bcell hS0
          go_simp
          first
           | (refine hK.out _ _ (fun h => by cases h) ?_)))
      refine ordT_nil ?_
      have HBN := Lib.hid (((HBX2.out.trans (hS0.mono HBX2.out.size)).setCell (p := ⟨g5, 3, none⟩) hg5w (.string (U ++ abc6 y))))
      have HKN := Lib.hid ((HBK2.out.below hS0 rl).set_ 3 (.string (U ++ abc6 y)))
      clear hS0
      go_wp2_with fail
      go_roundw
      case rel => exact ⟨j + 1, U ++ abc6 y, by omega, by omega, by go_num, (by rw [ByteArray.size_append, hUs, (abc6_ok y).1]), (by show knownS (U ++ abc6 y) = true; rw [knownS_app, HU.out, (abc6_ok y).2]; rfl), HKN.out, HBN.out⟩
      case measure => simp [intOf]; omega
     ·obtain rfl : j = 2 := by omega
      have hc2 := HCC.out.below HBX2.out HCC.out.lt
      have d0 := hc2.cell 0
      have d1 := hc2.cell 1
      have d2 := hc2.cell 2
      have d3 := hc2.cell 3
      have d4 := hc2.cell 4
      have dl := hc2.lt
      have f0 := hc2.frozen 0
      have f1 := hc2.frozen 1
      have f2 := hc2.frozen 2
      have f3 := hc2.frozen 3
      have f4 := hc2.frozen 4
      have e0 := HBK2.out.cell 0
      have e1 := HBK2.out.cell 1
      have e2 := HBK2.out.cell 2
      have e3 := HBK2.out.cell 3
      have e4 := HBK2.out.cell 4
      have el := HBK2.out.lt
      simp at d0 d1 d2 d3 d4 e0 e1 e2 e3 e4
      have HE := Lib.hid ((((((HCC.out.below HBX2.out HCC.out.lt).set_ 0 (.int .i64 F)).set_ 1 (.int .i64 G)).set_ 2 (.string T)).set_ 3 (.string U)).set_ 4 (.int .i64 K5))
      have HBE := Lib.hid ((((((HB1.out.trans (HBX2.out.mono HB1.out.size)).setCell (p := ⟨g + 1, 0, none⟩) hgw (.int .i64 F)).setCell (p := ⟨g + 1, 1, none⟩) hgw (.int .i64 G)).setCell (p := ⟨g + 1, 2, none⟩) hgw (.string T)).setCell (p := ⟨g + 1, 3, none⟩) hgw (.string U)).setCell (p := ⟨g + 1, 4, none⟩) hgw (.int .i64 K5))
      clear hc2
      go_wp2_with fail
      obtain ⟨W, hW⟩ : ∃ W, (((((X2.setCell ⟨g + 1, 0, none⟩ (.int .i64 F)).setCell ⟨g + 1, 1, none⟩ (.int .i64 G)).setCell ⟨g + 1, 2, none⟩ (.string T)).setCell ⟨g + 1, 3, none⟩ (.string U)).setCell ⟨g + 1, 4, none⟩ (.int .i64 K5)) = W := ⟨_, rfl⟩
      have hE := HE.out
      have hbE := HBE.out
      rw [hW] at hE hbE ⊢
      clear hW HE HBE d0 d1 d2 d3 d4 e0 e1 e2 e3 e4
      have q0 := hE.cell 0
      have q1 := hE.cell 1
      have q2 := hE.cell 2
      have q3 := hE.cell 3
      have q4 := hE.cell 4
      simp at q0 q1 q2 q3 q4
      refine bodyPost_ret (v := .agg #[.int .i64 F, .int .i64 G, .string T, .string U, .int .i64 K5]) (by simp [results, Tryz.results24, go_sem, q0, q1, q2, q3, q4]; done) rfl ?_
      exact ⟨⟨F, G, T, U, K5⟩, rfl, ⟨⟨hF, hG⟩, ⟨by show T.size ≤ 4; omega, HT.out.1⟩, ⟨by show U.size ≤ 4; omega, HU.out⟩, hK5⟩, HT.out.2, hbE⟩
    ·obtain rfl : j = lo.length := by omega
     have hji : ¬ ((lo.length : Nat) : Int) < (lo.length : Int) := by omega
     have hc2 := HCC.out.below HBX2.out HCC.out.lt
     have d0 := hc2.cell 0
     have d1 := hc2.cell 1
     have d2 := hc2.cell 2
     have d3 := hc2.cell 3
     have d4 := hc2.cell 4
     have dl := hc2.lt
     have f0 := hc2.frozen 0
     have f1 := hc2.frozen 1
     have f2 := hc2.frozen 2
     have f3 := hc2.frozen 3
     have f4 := hc2.frozen 4
     have e0 := HBK2.out.cell 0
     have e1 := HBK2.out.cell 1
     have e2 := HBK2.out.cell 2
     have e3 := HBK2.out.cell 3
     have e4 := HBK2.out.cell 4
     have el := HBK2.out.lt
     simp at d0 d1 d2 d3 d4 e0 e1 e2 e3 e4
     have HE := Lib.hid ((((((HCC.out.below HBX2.out HCC.out.lt).set_ 0 (.int .i64 F)).set_ 1 (.int .i64 G)).set_ 2 (.string T)).set_ 3 (.string U)).set_ 4 (.int .i64 K5))
     have HBE := Lib.hid ((((((HB1.out.trans (HBX2.out.mono HB1.out.size)).setCell (p := ⟨g + 1, 0, none⟩) hgw (.int .i64 F)).setCell (p := ⟨g + 1, 1, none⟩) hgw (.int .i64 G)).setCell (p := ⟨g + 1, 2, none⟩) hgw (.string T)).setCell (p := ⟨g + 1, 3, none⟩) hgw (.string U)).setCell (p := ⟨g + 1, 4, none⟩) hgw (.int .i64 K5))
     clear hc2
     go_wp2_with fail
     obtain ⟨W, hW⟩ : ∃ W, (((((X2.setCell ⟨g + 1, 0, none⟩ (.int .i64 F)).setCell ⟨g + 1, 1, none⟩ (.int .i64 G)).setCell ⟨g + 1, 2, none⟩ (.string T)).setCell ⟨g + 1, 3, none⟩ (.string U)).setCell ⟨g + 1, 4, none⟩ (.int .i64 K5)) = W := ⟨_, rfl⟩
     have hE := HE.out
     have hbE := HBE.out
     rw [hW] at hE hbE ⊢
     clear hW HE HBE d0 d1 d2 d3 d4 e0 e1 e2 e3 e4
     have q0 := hE.cell 0
     have q1 := hE.cell 1
     have q2 := hE.cell 2
     have q3 := hE.cell 3
     have q4 := hE.cell 4
     simp at q0 q1 q2 q3 q4
     refine bodyPost_ret (v := .agg #[.int .i64 F, .int .i64 G, .string T, .string U, .int .i64 K5]) (by simp [results, Tryz.results24, go_sem, q0, q1, q2, q3, q4]; done) rfl ?_
     exact ⟨⟨F, G, T, U, K5⟩, rfl, ⟨⟨hF, hG⟩, ⟨by show T.size ≤ 4; omega, HT.out.1⟩, ⟨by show U.size ≤ 4; omega, HU.out⟩, hK5⟩, HT.out.2, hbE⟩
theorem made_flat {m : Nat} {rs : List Ru} (hm : m ≤ 2) : ScOK ⟨(m : Int), 1, rs⟩ → SoundP ⟨(m : Int), 1, rs⟩ → FlatR ⟨(m : Int), 1, rs⟩ := fun h1 h2 =>
 flat_two h2 (by show (m : Int) ≤ 2; omega) (fun r hr => (h1.2.2.2.1 r hr).1)
end Go.Proofs.YtfpnhgahkjglgaaGreat
namespace Go.Proofs.YtfpnhgahkjglgaaGreat
open List
inductive Ch (s : Sc) (p : Ru → Bool) (a : Int) : Nat → Int → Prop
 | zero : Ch s p a 0 a
 | succ {n : Nat} {b : Int} {r : Ru} : Ch s p a n b → r ∈ s.rs → p r = true → r.fr = b → Ch s p a (n + 1) r.to
theorem ch_range {s : Sc} {p : Ru → Bool} {a : Int} {N : Nat} (ha : 0 ≤ a ∧ a < (N : Int)) (hr : ∀ r ∈ s.rs, 0 ≤ r.to ∧ r.to < (N : Int)) {n : Nat} {x : Int} (h : Ch s p a n x) : 0 ≤ x ∧ x < (N : Int) := by
 cases h with
 | zero => exact ha
 | succ _ h2 _ _ => exact hr _ h2
noncomputable def UB (s : Sc) (p : Ru → Bool) (a : Int) (i : Nat) : Int → Bool := fun x => @decide (∃ n, n ≤ i ∧ Ch s p a n x) (Classical.propDecidable _)
theorem ub_iff {s : Sc} {p : Ru → Bool} {a : Int} {i : Nat} {x : Int} : UB s p a i x = true ↔ ∃ n, n ≤ i ∧ Ch s p a n x := by
 unfold UB
 exact @decide_eq_true_iff _ (Classical.propDecidable _)
theorem ub_mono {s : Sc} {p : Ru → Bool} {a : Int} {i j : Nat} (h : i ≤ j) {x : Int} (hx : UB s p a i x = true) : UB s p a j x = true := by
 obtain ⟨n, h1, h2⟩ := ub_iff.1 hx
 exact ub_iff.2 ⟨n, by omega, h2⟩
theorem ch_bound {s : Sc} {p : Ru → Bool} {a : Int} {N : Nat} (ha : 0 ≤ a ∧ a < (N : Int)) (hr : ∀ r ∈ s.rs, 0 ≤ r.to ∧ r.to < (N : Int)) {n : Nat} {x : Int} (h : Ch s p a n x) : ∃ m, m < N ∧ Ch s p a m x := by
 have key : ∀ i, (∀ n x, Ch s p a n x → UB s p a i x = true) ∨ i + 1 ≤ cntB N (UB s p a i) := by
  intro i
  induction i with
  | zero =>
   right
   have h0 : cntB N (fun _ => false) < cntB N (UB s p a 0) := cnt_lt (fun x hx => by cases hx) ha rfl (ub_iff.2 ⟨0, Nat.le_refl _, .zero⟩)
   omega
  | succ i ih =>
   rcases ih with ih | ih
   ·exact .inl fun n x hx => ub_mono (Nat.le_succ i) (ih n x hx)
   ·by_cases hc : ∃ x, UB s p a (i + 1) x = true ∧ UB s p a i x = false
    ·obtain ⟨x, h1, h2⟩ := hc
     obtain ⟨n', _, h3⟩ := ub_iff.1 h1
     have := cnt_lt (n := N) (f := UB s p a i) (g := UB s p a (i + 1)) (fun y hy => ub_mono (Nat.le_succ i) hy) (ch_range ha hr h3) h2 h1
     right
     omega
    ·left
     have hsub : ∀ x, UB s p a (i + 1) x = true → UB s p a i x = true := fun x hx => by
      cases hb : UB s p a i x with
      | true => rfl
      | false => exact absurd ⟨x, hx, hb⟩ hc
     intro n x hx
     refine ub_mono (Nat.le_succ i) ?_
     induction hx with
     | zero => exact ub_iff.2 ⟨0, by omega, .zero⟩
     | succ _ h2 h3 h4 ih2 =>
      obtain ⟨k, h5, h6⟩ := ub_iff.1 ih2
      exact hsub _ (ub_iff.2 ⟨k + 1, by omega, .succ h6 h2 h3 h4⟩)
 have hN : 0 < N := by omega
 have hx : UB s p a (N - 1) x = true := by
  rcases key (N - 1) with h1 | h1
  ·exact h1 n x h
  ·exact cnt_full (by omega) (ch_range ha hr h)
 obtain ⟨m, h1, h2⟩ := ub_iff.1 hx
 exact ⟨m, by omega, h2⟩
theorem rm_ch {s : Sc} {x : Int} : RM s x ↔ ∃ n, Ch s (fun _ => true) 0 n x := by
 constructor
 ·intro h
  unfold RM at h
  induction h with
  | base h => exact ⟨0, h ▸ .zero⟩
  | step _ h2 ih =>
   obtain ⟨r, hr, rfl⟩ := mem_map.1 h2
   obtain ⟨n, h3⟩ := ih
   exact ⟨n + 1, .succ h3 hr rfl rfl⟩
 ·rintro ⟨n, h⟩
  induction h with
  | zero => exact .base rfl
  | succ _ h2 _ h4 ih => exact rm_step (by rw [h4]; exact ih) h2
theorem mt_ch {s : Sc} {a x : Int} : Mt s a x ↔ ∃ n, Ch s Ru.mute a (n + 1) x := by
 constructor
 ·intro h
  induction h with
  | one h1 h2 h3 => exact ⟨0, .succ .zero h1 h2 h3⟩
  | more _ h1 h2 h3 ih =>
   obtain ⟨n, h4⟩ := ih
   exact ⟨n + 1, .succ h4 h1 h2 h3⟩
 ·rintro ⟨n, h⟩
  induction n generalizing x with
  | zero =>
   cases h with
   | succ h1 h2 h3 h4 =>
    cases h1
    exact .one h2 h3 h4
  | succ n ih =>
   cases h with
   | succ h1 h2 h3 h4 => exact .more (ih h1) h2 h3 h4
theorem mt_short {s : Sc} {a : Int} {N : Nat} (ha : 0 ≤ a ∧ a < (N : Int)) (hr : ∀ r ∈ s.rs, 0 ≤ r.to ∧ r.to < (N : Int)) : Mt s a a ↔ ∃ n, n < N ∧ Ch s Ru.mute a (n + 1) a := by
 constructor
 ·intro h
  obtain ⟨n, h1⟩ := mt_ch.1 h
  have key : ∀ x, Ch s Ru.mute a (n + 1) x → ∃ m, m < N ∧ Ch s Ru.mute a (m + 1) x := fun x h1 => by
   cases h1 with
   | succ h2 h3 h4 h5 =>
    obtain ⟨m, h6, h7⟩ := ch_bound ha hr h2
    exact ⟨m, h6, .succ h7 h3 h4 h5⟩
  exact key a h1
 ·rintro ⟨n, _, h⟩
  exact mt_ch.2 ⟨n, h⟩
theorem stuck_short {s : Sc} {N : Nat} (h0 : 0 < N) (hr : ∀ r ∈ s.rs, 0 ≤ r.to ∧ r.to < (N : Int)) (hl : LV s 0) : (∃ m, RM s m ∧ ¬ LV s m) ↔ ∃ n m, n < N ∧ Ch s (fun _ => true) 0 (n + 1) m ∧ ¬ LV s m := by
 constructor
 ·rintro ⟨m, h1, h2⟩
  obtain ⟨n, h3⟩ := rm_ch.1 h1
  obtain ⟨k, h4, h5⟩ := ch_bound ⟨by omega, by omega⟩ hr h3
  rcases k with _ | k
  ·cases h5
   exact absurd hl h2
  ·exact ⟨k, m, by omega, h5, h2⟩
 ·rintro ⟨n, m, _, h1, h2⟩
  exact ⟨m, rm_ch.2 ⟨_, h1⟩, h2⟩
end Go.Proofs.YtfpnhgahkjglgaaGreat
