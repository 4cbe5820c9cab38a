/-
  The walk of layer 08's law SingleOrders.
-/
import Derived.Test.YtfpnhgahkjglgaaP29
import Derived.Test.YtfpnhgahkjglgaaP30
import Derived.Test.YtfpnhgahkjglgaaP33
namespace Go.Proofs.Ytfpnhgahkjglgaa
open Go Go.RowKit Go.Maps

theorem bool_eq {a b : Bool} {P : Prop} (h1 : a = true ↔ P) (h2 : b = true ↔ P) : b = a := by
  rw [Bool.eq_iff_iff]
  exact h2.trans h1.symm
set_option maxRecDepth 100000 in
set_option maxHeartbeats 16000000 in
theorem singleOrders_any (A : Option Addr) (xs : List Rw) (c : Nat) (qb qd : Int) (B : Option Addr) (l : List Int) (d : Nat) (pk : Int) (w : World) (hx : SlR 5 RRw w A xs) (hl0 : xs.length ≤ maxLen) (hqb : 0 ≤ qb ∧ qb ≤ 255) (hqd : 0 ≤ qd ∧ qd ≤ 255)
    (hy : SlR 1 RU8 w B l) (hll : l.length ≤ maxLen) (hl8 : ∀ x ∈ l, 0 ≤ x ∧ x ≤ 255) (hk : 0 ≤ pk ∧ pk ≤ 255) :
    Calls Try.prog 3 #[.agg #[.int .u8 qb, .int .u8 qd, .slice A xs.length c], .slice B l.length d, .int .u8 pk] w fun e w' => e = .returned (.bool true) ∧ Below w.heap.size w w' := by
  obtain ⟨i0, hinf, hz0, hz1, hz2⟩ := info_partsR rule_info
  unfold maxLen at hll
  obtain ⟨w1, hw1⟩ : ∃ w1, (w.alloc (.cells #[.int .u8 qb, .int .u8 qd, .slice A xs.length c] 24)) = w1 := ⟨_, rfl⟩
  obtain ⟨g, hg⟩ : ∃ g, w.heap.size = g := ⟨_, rfl⟩
  have hb1 : Below w.heap.size w w1 := by rw [← hw1]; exact nw _ (Below.refl _ _)
  have hX0 : Blk w1 g 24 #[.int .u8 qb, .int .u8 qd, .slice A xs.length c] := by rw [← hw1]; exact (Blk.new_ hg.symm)
  have HW1 := Lib.hid hw1
  have HG := Lib.hid hg
  have HB1 := Lib.hid hb1
  have HKP : Hid (∀ W, Below w1.heap.size w1 W → (W.cell? ⟨g, 0, none⟩ = some (.int .u8 qb) ∧ W.cell? ⟨g, 1, none⟩ = some (.int .u8 qd) ∧ W.cell? ⟨g, 2, none⟩ = some (.slice A xs.length c) ∧ g < W.heap.size)) := fun W hW => ⟨by rw [(hX0.below hW hX0.lt).cell]; rfl, by rw [(hX0.below hW hX0.lt).cell]; rfl, by rw [(hX0.below hW hX0.lt).cell]; rfl, (hX0.below hW hX0.lt).lt⟩
  have HMA : Hid (∀ W, Below w1.heap.size w1 W → Calls Try.prog 6 #[.agg #[.int .u8 qb, .int .u8 qd, .slice A xs.length c]] W (IsMade W)) := fun W hW => made_any5 A xs c qb qd W (hx.below keeps_rw (hb1.trans (hW.mono hb1.size))) hl0 hqb hqd
  have HSA : Hid (∀ W, Calls Try.prog 5 #[] W fun e w' => e = .returned (.bool true) ∧ Below W.heap.size W w') := lsan_any
  have HY := Lib.hid (hy.below keeps_u8 hb1)
  have HL8 := Lib.hid hl8
  obtain ⟨kk, hkk⟩ : ∃ n : Nat, pk = (n : Int) := ⟨pk.toNat, by omega⟩
  subst hkk
  have hk8 : kk ≤ 255 := by omega
  have hwk : IntKind.i64.wrap (kk : Int) = (kk : Int) := IntWalk.i64_in _ (by omega)
  clear hw1 hg hb1 hX0 hx hy hl8 hk
  go_enter Try.func3, Try.ntmps3
  go_upto_region 1 with fail
  rw [HW1.out, HG.out]
  go_upto_region 3 with (first
    | (go_at_call 5; go_loud (refine (HSA.out _).mono ?_; rintro e w2 ⟨rfl, hb2⟩; obtain ⟨x0, x1, x2, xl⟩ := HKP.out _ hb2))
    | (go_at_call 6; go_loud (refine (HMA.out _ hb2).mono ?_; rintro e w3 ⟨m, rs, A3, c3, rfl, hm, hrs9, hok, hsc, hb3⟩; have hb13 := hb2.trans (hb3.mono hb2.size))))
  obtain ⟨g8, hg8⟩ : ∃ x, w3.heap.size = x := ⟨_, rfl⟩
  obtain ⟨w4, hw4⟩ : ∃ W, w3.alloc (.cells #[.int .i64 (m : Int), .int .u8 1, .slice A3 rs.length c3] 29) = W := ⟨_, rfl⟩
  have hS8 : Blk w4 g8 29 #[.int .i64 (m : Int), .int .u8 1, .slice A3 rs.length c3] := by rw [← hw4, ← hg8]; exact Blk.new _ _ _
  have hb4 : Below w3.heap.size w3 w4 := by rw [← hw4]; exact nw _ (Below.refl _ _)
  have HSC4 := Lib.hid (hsc.below hb4)
  have HB4 := Lib.hid (hb13.trans (hb4.mono hb13.size))
  have HMM := Lib.hid hm
  have HOK := Lib.hid hok
  have e0 := hS8.cell 0
  have e1 := hS8.cell 1
  have e2 := hS8.cell 2
  have el := hS8.lt
  simp at e0 e1 e2
  rw [hw4, hg8]
  clear hw4 hg8 hsc hok hb13 hb2 hb3 hb4 x0 x1 x2 xl hm
  go_upto_region 5 with fail
  obtain ⟨g10, hg10⟩ : ∃ x, w4.heap.size = x := ⟨_, rfl⟩
  obtain ⟨w5, hw5⟩ : ∃ W, w4.alloc (.cells #[.int .i64 (m : Int), .int .u8 1, .slice none 0 0] 29) = W := ⟨_, rfl⟩
  have hb5 : Below w4.heap.size w4 w5 := by rw [← hw5]; exact nw _ (Below.refl _ _)
  have HO5 : Hid (Blk w5 g10 29 #[.int .i64 (m : Int), .int .u8 1, .slice none 0 0]) := by rw [← hw5, ← hg10]; exact Blk.new _ _ _
  have HB5 := Lib.hid (HB4.out.trans (hb5.mono HB4.out.size))
  have HG10 : Hid (g8 < g10 ∧ w4.heap.size ≤ g10 ∧ g10 < w5.heap.size) := ⟨by have := hS8.lt; omega, by omega, HO5.out.lt⟩
  have HSC5 : Hid (∀ W, Below g10 w5 W → ScIn W ⟨(m : Int), 1, rs⟩ A3 c3) := fun W hW => HSC4.out.below (hb5.trans (hW.mono (by omega)))
  have HC8 : Hid (∀ W, Below g10 w5 W → W.cell? ⟨g8, 0, none⟩ = some (.int .i64 (m : Int)) ∧ W.cell? ⟨g8, 1, none⟩ = some (.int .u8 1) ∧ W.cell? ⟨g8, 2, none⟩ = some (.slice A3 rs.length c3) ∧ g8 < W.heap.size) := fun W hW => by
    have h1 := (hS8.below hb5 hS8.lt).below hW HG10.out.1
    exact ⟨by rw [h1.cell]; rfl, by rw [h1.cell]; rfl, by rw [h1.cell]; rfl, h1.lt⟩
  have HYY : Hid (∀ W, Below g10 w5 W → SlR 1 RU8 W B l) := fun W hW => HY.out.below keeps_u8 (HB5.out.trans (hW.mono (by have := HB4.out.size; omega)))
  rw [hw5, hg10]
  clear hw5 hg10 hb5 hS8 e0 e1 e2 el
  go_wp2_with fail
  go_loopw [11] (fun iv wr => ∃ (i : Nat) (v : Value), i ≤ rs.length ∧ iv = .int .i64 (i : Int) ∧ wr.ownsRow (g10 + 1) 32 5 v i ((oTo rs l kk i).flatMap encRu) ∧ Blk wr g10 29 #[.int .i64 (m : Int), .int .u8 1, v] ∧ Below g10 w5 wr) (fun iv _ => rs.length - (intOf iv).toNat)
  case atStart => exact ⟨0, _, Nat.zero_le _, rfl, own_nil _ _ _ _, HO5.out, Below.refl _ _⟩
  case round =>
    obtain ⟨wR, rfl⟩ : ∃ W, W = wr := ⟨wr, rfl⟩
    obtain ⟨i, v, hi, rfl, how, hob, hbr⟩ := hrel
    have HOW := Lib.hid how
    have HOB := Lib.hid hob
    have HBR := Lib.hid hbr
    have HBL : Hid (g10 < wR.heap.size) := hob.lt
    by_cases hlt : i < rs.length
    · have hii : (i : Int) < (rs.length : Int) := by omega
      have hi0 : (0 : Int) ≤ (i : Int) := by omega
      have hn0 : ¬ (rs.length : Int) = 0 := by omega
      have hn0n : ¬ rs.length = 0 := by omega
      obtain ⟨ix, hix⟩ : ∃ x, (i + kk) % rs.length = x := ⟨_, rfl⟩
      have hixl : ix < rs.length := by rw [← hix]; exact Nat.mod_lt _ (by omega)
      have hws : IntKind.i64.wrap ((i : Int) + (kk : Int)) = (i : Int) + (kk : Int) := IntWalk.i64_in _ (by omega)
      have htm : ((i : Int) + (kk : Int)).tmod (rs.length : Int) = (ix : Int) := by rw [Int.tmod_eq_emod_of_nonneg (by omega), ← hix]; rfl
      have hixi : (ix : Int) < (rs.length : Int) := by omega
      have hix0 : (0 : Int) ≤ (ix : Int) := by omega
      have hsx := (HSC5.out _ hbr).sl
      obtain ⟨z0, z1, z2, zl⟩ := HC8.out _ hbr
      obtain ⟨bb, off, r, rfl, hbb, hrx, d0, d1, d2, d3, d4⟩ := hsx.ru hixl
      have HOR : Hid (oR rs l kk i = ⟨r.fr, r.to, r.inp, r.out, (i : Int) + l.getD i 0⟩) := oR_at (by rw [hix]; exact hrx)
      have hrc := HOK.out.2.2.2.1 r (List.mem_of_getElem? hrx)
      clear how hob hbr hrx hsx hix hrc
      go_upto_region 8 with fail
      refine ordB_below (.quiet 0 (.quiet 1 (.quiet 2 (.quiet 3 (.quiet 4 (.quiet 5 (.quiet 6 (.quiet 7 (.quiet 8 (.quiet 9 (.only 10 (.only 11 .done)))))))))))) (by kernel_rfl) (by kernel_rfl) (by kernel_rfl) (fun _ _ _ _ _ h => h) ?_
      intro V0 hV0
      iterate 10 (first
        | (refine ordB_skip rfl rfl ?_; simp only [Act.put, List.setIfInBounds_toArray, List.set_cons_zero, List.set_cons_succ])
        | (refine ordB_take (v := ?_) rfl rfl ?_ ?_
           rotate_left 1
           focus (intro W hW; obtain ⟨hcW, hfW⟩ := bcell hW; (go_simp <;> with_reducible rfl))
           simp only [Act.put, List.setIfInBounds_toArray, List.set_cons_zero, List.set_cons_succ]))
      refine ordB_only (opB_call rfl rfl (fun K hK => ?_))
      go_simp
      refine hK.out _ _ (hV0.alloc hV0.size _) (fun hV0_1 => ?_)
      have TT := Blk.new V0 32 #[.int .i64 0, .int .i64 0, .string ⟨#[]⟩, .string ⟨#[]⟩, .int .i64 0]
      have TTb := nw (.cells #[.int .i64 0, .int .i64 0, .string ⟨#[]⟩, .string ⟨#[]⟩, .int .i64 0] 32) (Below.refl V0.heap.size V0)
      have TTg := hV0.size
      obtain ⟨V0_1, qqV0_1⟩ : ∃ W', V0.alloc (.cells #[.int .i64 0, .int .i64 0, .string ⟨#[]⟩, .string ⟨#[]⟩, .int .i64 0] 32) = W' := ⟨_, rfl⟩
      rw [qqV0_1] at hV0_1 TT TTb ⊢
      clear qqV0_1 TTb
      refine ordB_only (opB_call rfl rfl (fun K hK => ?_))
      have TTc0 := TT.cell 0
      have TTf0 := TT.frozen 0
      have TTc1 := TT.cell 1
      have TTf1 := TT.frozen 1
      have TTc2 := TT.cell 2
      have TTf2 := TT.frozen 2
      have TTc3 := TT.cell 3
      have TTf3 := TT.frozen 3
      have TTc4 := TT.cell 4
      have TTf4 := TT.frozen 4
      simp at TTc0 TTc1 TTc2 TTc3 TTc4
      go_simp
      refine hK.out _ _ (((((hV0_1.setCell (p := ⟨V0.heap.size, 0, none⟩) TTg _).setCell (p := ⟨V0.heap.size, 1, none⟩) TTg _).setCell (p := ⟨V0.heap.size, 2, none⟩) TTg _).setCell (p := ⟨V0.heap.size, 3, none⟩) TTg _).setCell (p := ⟨V0.heap.size, 4, none⟩) TTg _) (fun hV0_1_2 => ?_)
      have TT := (((((TT.set_ 0 (.int .i64 r.fr)).set_ 1 (.int .i64 r.to)).set_ 2 (.string r.inp)).set_ 3 (.string r.out)).set_ 4 (.int .i64 r.co))
      obtain ⟨V0_1_2, qqV0_1_2⟩ : ∃ W', (((((V0_1.setCell ⟨V0.heap.size, 0, none⟩ (.int .i64 r.fr)).setCell ⟨V0.heap.size, 1, none⟩ (.int .i64 r.to)).setCell ⟨V0.heap.size, 2, none⟩ (.string r.inp)).setCell ⟨V0.heap.size, 3, none⟩ (.string r.out)).setCell ⟨V0.heap.size, 4, none⟩ (.int .i64 r.co)) = W' := ⟨_, rfl⟩
      rw [qqV0_1_2] at hV0_1_2 TT  ⊢
      clear qqV0_1_2 TTc0 TTf0 TTc1 TTf1 TTc2 TTf2 TTc3 TTf3 TTc4 TTf4
      refine ordB_nil ?_
      have HB8 := Lib.hid (HBR.out.trans (hV0_1_2.mono (by have := HBL.out; omega)))
      have HTT := Lib.hid TT
      obtain ⟨g12, hg12⟩ : ∃ g, V0.heap.size = g := ⟨_, rfl⟩
      obtain ⟨W8, hW8⟩ : ∃ W, V0_1_2 = W := ⟨_, rfl⟩
      rw [hg12] at HTT ⊢
      rw [hW8] at HB8 HTT ⊢
      have HG12 : Hid (wR.heap.size ≤ g12) := by show _ ≤ _; rw [← hg12]; exact hV0.size
      have HOW8 := Lib.hid (own_below HOW.out (hW8 ▸ hV0_1_2))
      have HOB8 := Lib.hid (HOB.out.below (hW8 ▸ hV0_1_2) HOB.out.lt)
      have HSZ8 : Hid (wR.heap.size ≤ W8.heap.size) := (hW8 ▸ hV0_1_2).size
      clear hW8 hg12 TT hV0_1_2 z0 z1 z2 zl d0 d1 d2 d3 d4
      have t4 := HTT.out.cell 4
      have tf4 := HTT.out.frozen 4
      have tl := HTT.out.lt
      simp at t4
      go_upto_region 10 with fail
      obtain ⟨W9, hW9⟩ : ∃ W, W8.setCell ⟨g12, 4, none⟩ (.int .i64 (i : Int)) = W := ⟨_, rfl⟩
      have HT9 : Hid (Blk W9 g12 32 #[.int .i64 r.fr, .int .i64 r.to, .string r.inp, .string r.out, .int .i64 (i : Int)]) := by show Blk _ _ _ _; rw [← hW9]; simpa using HTT.out.set_ 4 (.int .i64 (i : Int))
      have hgg : g10 < g12 := by have h1 := HG12.out; have h2 := HBL.out; omega
      have HB9 : Hid (Below g10 w5 W9) := by rw [← hW9]; exact HB8.out.setCell (p := ⟨g12, 4, none⟩) (by show g10 ≤ g12; omega) _
      have HOW9 : Hid (W9.ownsRow (g10 + 1) 32 5 v i ((oTo rs l kk i).flatMap encRu)) := by rw [← hW9]; exact own_set HOW8.out (a := ⟨g12, 4, none⟩) (own_lt HOW.out HG12.out) _
      have HOB9 : Hid (Blk W9 g10 29 #[.int .i64 (m : Int), .int .u8 1, v]) := by rw [← hW9]; exact HOB8.out.far (p := ⟨g12, 4, none⟩) (by show g10 ≠ g12; omega) _
      have HS9 : Hid (wR.heap.size ≤ W9.heap.size ∧ v.ownBlock ≠ some g12) := ⟨by rw [← hW9]; have := HSZ8.out; simpa using this, own_lt HOW.out HG12.out⟩
      rw [hW9]
      clear hW9 t4 tf4 tl HTT HB8 HOW8 HOB8 HSZ8
      go_upto_if 48 with fail
      go_cut [] (fun W => Blk W g12 32 #[.int .i64 r.fr, .int .i64 r.to, .string r.inp, .string r.out, .int .i64 ((i : Int) + l.getD i 0)] ∧ W.ownsRow (g10 + 1) 32 5 v i ((oTo rs l kk i).flatMap encRu) ∧ Blk W g10 29 #[.int .i64 (m : Int), .int .u8 1, v] ∧ Below g10 w5 W)
      case first =>
        by_cases hil : i < l.length
        · have hili : (i : Int) < (l.length : Int) := by omega
          obtain ⟨bl, ofl, ci, rfl, hbl, hcx, dl⟩ := ((HYY.out _ HB9.out).u8) hil
          have hcd : l.getD i 0 = ci := by rw [List.getD_eq_getElem?_getD, hcx]; rfl
          have hc8 := HL8.out ci (List.mem_of_getElem? hcx)
          have HCD := Lib.hid hcd
          have hblt : bl < w1.heap.size := by
            obtain ⟨b2, o2, _, hA2, hb2, _⟩ := (HY.out.u8) hil
            injection hA2 with hA2
            injection hA2 with hA2 _
            omega
          have hne : bl ≠ g12 := by have h1 := HB4.out.size; have h2 := HG10.out.2.1; omega
          have hwc : IntKind.i64.wrap ci = ci := IntWalk.i64_in _ (by omega)
          have hws2 : IntKind.i64.wrap ((i : Int) + ci) = (i : Int) + ci := IntWalk.i64_in _ (by omega)
          have HNV := Lib.hid HS9.out.2
          clear hcd hcx hblt
          go_upto_region 11 with fail
          refine ordV_start (Below W9.heap.size W9) (fun _ => True) [9] [(0, some false), (1, some false), (2, some false), (3, some false), (4, some false), (5, some false), (6, some false), (7, some false), (8, none), (9, some true)] (by kernel_rfl) (by kernel_rfl) (by kernel_rfl) (fun _ _ _ _ _ h => h) trivial ?_
          have HD : Below W9.heap.size W9 W9.drew := (Below.refl _ _).drew
          have hC : Blk W9.drew g12 32 #[.int .i64 r.fr, .int .i64 r.to, .string r.inp, .string r.out, .int .i64 (i : Int)] := HT9.out
          have hB0 : Below g10 w5 W9.drew := HB9.out.drew
          have hW0 : W9.drew.ownsRow (g10 + 1) 32 5 v i ((oTo rs l kk i).flatMap encRu) := HOW9.out
          have hO0 : Blk W9.drew g10 29 #[.int .i64 (m : Int), .int .u8 1, v] := HOB9.out
          obtain ⟨Wd, hWd⟩ : ∃ Wd, W9.drew = Wd := ⟨_, rfl⟩
          rw [hWd] at HD hC hB0 hW0 hO0 ⊢
          clear hWd
          have t4 := HT9.out.cell 4
          have tl := HT9.out.lt
          simp at t4
          iterate 8 (refine ordV_takeS (v := ?_) rfl rfl HD ?_ ?_; rotate_left 1; (focus (intro W hW; obtain ⟨hcW, hfW⟩ := bcell hW; (go_simp <;> (try with_reducible rfl)))); simp only [Act.put, List.setIfInBounds_toArray, List.set_cons_zero, List.set_cons_succ])
          iterate 1 (refine ordV_takeR (v := ?_) rfl rfl ?_ ?_; rotate_left 1; (focus (intro W hW; (go_simp <;> (try with_reducible rfl)))); simp only [Act.put, List.setIfInBounds_toArray, List.set_cons_zero, List.set_cons_succ])
          have r4 := hC.cell 4
          have rf4 := hC.frozen 4
          have rl := hC.lt
          simp at r4
          refine ordV_call rfl rfl (fun K hK => ?_)
          go_simp
          refine hK.out _ _ trivial (fun _ h => by cases h) ?_
          clear hK K
          refine ordV_nil ?_
          have hE : Blk (Wd.setCell ⟨g12, 4, none⟩ (.int .i64 ((i : Int) + ci))) g12 32 #[.int .i64 r.fr, .int .i64 r.to, .string r.inp, .string r.out, .int .i64 ((i : Int) + ci)] := by simpa using hC.set_ 4 (.int .i64 ((i : Int) + ci))
          have hbE := hB0.setCell (p := ⟨g12, 4, none⟩) (by show g10 ≤ g12; omega) (.int .i64 ((i : Int) + ci))
          have hwE := own_set hW0 (a := ⟨g12, 4, none⟩) HNV.out (.int .i64 ((i : Int) + ci))
          have hoE := hO0.far (p := ⟨g12, 4, none⟩) (by show g10 ≠ g12; omega) (.int .i64 ((i : Int) + ci))
          obtain ⟨W10, qq⟩ : ∃ W', Wd.setCell ⟨g12, 4, none⟩ (.int .i64 ((i : Int) + ci)) = W' := ⟨_, rfl⟩
          rw [qq] at hE hbE hwE hoE ⊢
          clear qq r4 rf4 rl hC hB0 hW0 hO0 t4 tl
          go_wp2_with fail
          go_meet
          rw [HCD.out]
          exact ⟨hE, hwE, hoE, hbE⟩
        · have hili : ¬ (i : Int) < (l.length : Int) := by omega
          have hcd : l.getD i 0 = 0 := by rw [List.getD_eq_getElem?_getD, List.getElem?_eq_none (by omega)]; rfl
          have HC0 : Hid ((i : Int) + l.getD i 0 = (i : Int)) := by show _ = _; rw [hcd, Int.add_zero]
          clear hcd
          go_wp2_with fail
          go_meet
          rw [HC0.out]
          exact ⟨HT9.out, HOW9.out, HOB9.out, HB9.out⟩
      case rest =>
        obtain ⟨X1, rfl⟩ : ∃ W, W = wc := ⟨wc, rfl⟩
        obtain ⟨hT, how, hob, hbx⟩ := hcut
        have HBX := Lib.hid hbx
        have HOX := Lib.hid hob
        obtain ⟨v0, hv0⟩ : ∃ x, v = x := ⟨_, rfl⟩
        have HOW2 := Lib.hid how
        have t0 := hT.cell 0
        have t1 := hT.cell 1
        have t2 := hT.cell 2
        have t3 := hT.cell 3
        have t4 := hT.cell 4
        have tl := hT.lt
        have o2 := hob.cell 2
        have ol := hob.lt
        simp at t0 t1 t2 t3 t4 o2
        have hvne : v.ownBlock ≠ some g10 := fun e => absurd (own_block_le how _ e) (Nat.not_succ_le_self _)
        have HOR2 := Lib.hid HOR.out
        have hi9 : i ≤ 9 := by omega
        clear HT9 HOW9 HOB9 HB9 HS9 HOW HOB HBR hT how hob hbx hv0
        go_wp2_with (at_builtin; go_loud (refine wpList_appS5 (enc := encRu) (R := RRu) rfl _ _ 27 rfl (g10 + 1) 32 i0 _ 5 56 Try.underlying27 hinf hz0 hz1 hz2 rfl (by decide) v _ _ rfl (HOW2.out.alloc _) (some ⟨X1.heap.size, 0, none⟩) 1 [(⟨r.fr, r.to, r.inp, r.out, (i : Int) + l.getD i 0⟩ : Ru)] rfl (slr_blkR (enc := encRu) (Blk.new_ (by simp)) (fun _ => rfl) (fun _ => rfl)) (fun _ _ _ h => h) (fun _ => rfl) (fun u hu => by simp [encRu] at hu; rcases hu with rfl | rfl | rfl | rfl | rfl <;> rfl) (by simp; omega) (by decide) (by simp; omega) ?_; intro v4 w4' hown4 hb4 ha4; obtain ⟨A4, c4, rfl⟩ := own_sl hown4; have HOW4 := Lib.hid hown4; have HA4 := Lib.hid ha4; have hP4 := (HOX.out.alloc _).apps ha4 hvne; have HP4 := Lib.hid hP4; have HB4' := Lib.hid hb4; have h44 := hP4.cell 2; have hf44 := hP4.frozen 2; have hl44 := hP4.lt; simp at h44; clear hown4 ha4 hP4 hb4))
        go_roundw
        case rel =>
          have hown5 : w4'.ownsRow (g10 + 1) 32 5 (.slice A4 (i + 1) c4) (i + 1) ((oTo rs l kk (i + 1)).flatMap encRu) := by
            rw [oTo_next, HOR2.out, List.flatMap_append]
            simpa using HOW4.out
          exact ⟨i + 1, .slice A4 (i + 1) c4, by omega, by go_num, own_set hown5 (a := ⟨g10, 2, none⟩) (fun e => absurd (own_block_le hown5 _ e) (Nat.not_succ_le_self _)) _, by simpa using HP4.out.set_ 2 (.slice A4 (i + 1) c4), ((HBX.out.alloc (by omega) _).trans (HB4'.out.mono (by omega))).setCell (p := ⟨g10, 2, none⟩) (Nat.le_refl _) _⟩
        case measure => simp [intOf]; omega
    · obtain rfl : i = rs.length := by omega
      have hii : ¬ ((rs.length : Nat) : Int) < (rs.length : Int) := by omega
      obtain ⟨ts, hts⟩ : ∃ x, oTo rs l kk rs.length = x := ⟨_, rfl⟩
      have htl : ts.length = rs.length := by rw [← hts, oTo_len]
      rw [hts] at how
      have hlk : Like ⟨(m : Int), 1, rs⟩ ⟨(m : Int), 1, ts⟩ := by rw [← hts]; exact like_other (m : Int) 1 rs l kk
      obtain ⟨A4, c4, rfl, hc4, hcm4, hs4⟩ := own_slr (R := RRu) how (fun _ => rfl) (fun _ => rfl) htl.symm
      have hsc4 : ScIn wR ⟨(m : Int), 1, ts⟩ A4 c4 := ⟨hs4, by show ts.length ≤ 65536; omega, fun r hr => by
        obtain ⟨r', hr', hl'⟩ := hlk.2.2 r hr
        have h1 := HOK.out.2.2.2.1 r' hr'
        exact ⟨by rw [hl'.2.2.1]; exact Nat.le_trans h1.2.1.1 (by decide), by rw [hl'.2.2.2]; exact Nat.le_trans h1.2.2.1.1 (by decide)⟩, by show 0 ≤ (1 : Int) ∧ (1 : Int) ≤ 255; decide, by rw [show (⟨(m : Int), 1, ts⟩ : Sc).rs.length = rs.length from htl]; exact ⟨hc4, hcm4⟩⟩
      have HSC2 := Lib.hid hsc4
      have HLK := Lib.hid hlk
      have HFL1 : Hid (∀ t : List Ru, ScOK ⟨(m : Int), 1, t⟩ → SoundP ⟨(m : Int), 1, t⟩ → FlatR ⟨(m : Int), 1, t⟩) := fun t => made_flat HMM.out.2
      have HVA : Hid (Calls Try.prog 7 #[.agg #[.int .i64 (m : Int), .int .u8 1, .slice A4 rs.length c4]] wR fun e w' => e = .returned (.bool (decide (ScOK ⟨(m : Int), 1, ts⟩))) ∧ Below wR.heap.size wR w') := by
        have := rvalid_any ⟨(m : Int), 1, ts⟩ A4 c4 wR HSC2.out
        rw [show (⟨(m : Int), 1, ts⟩ : Sc).rs.length = rs.length from htl] at this
        exact this
      have HCH1 : Hid (∀ W, Below wR.heap.size wR W → Calls Try.prog 8 #[.agg #[.int .i64 (m : Int), .int .u8 1, .slice A3 rs.length c3]] W (IsChkR ⟨(m : Int), 1, rs⟩ W)) := fun W hW => scheck_any ⟨(m : Int), 1, rs⟩ A3 c3 W (HSC5.out _ (HBR.out.trans (hW.mono (Nat.le_of_lt HBL.out)))) (HFL1.out rs)
      have HCH2 : Hid (∀ W, Below wR.heap.size wR W → Calls Try.prog 8 #[.agg #[.int .i64 (m : Int), .int .u8 1, .slice A4 rs.length c4]] W (IsChkR ⟨(m : Int), 1, ts⟩ W)) := fun W hW => by
        have := scheck_any ⟨(m : Int), 1, ts⟩ A4 c4 W (HSC2.out.below hW) (HFL1.out ts)
        rw [show (⟨(m : Int), 1, ts⟩ : Sc).rs.length = rs.length from htl] at this
        exact this
      have HIS1 : Hid (∀ W, Below wR.heap.size wR W → Calls Try.prog 9 #[.agg #[.int .i64 (m : Int), .int .u8 1, .slice A3 rs.length c3]] W (IsIsR ⟨(m : Int), 1, rs⟩ W)) := fun W hW => sis_any ⟨(m : Int), 1, rs⟩ A3 c3 W (HSC5.out _ (HBR.out.trans (hW.mono (Nat.le_of_lt HBL.out)))) (HFL1.out rs)
      have HIS2 : Hid (∀ W, Below wR.heap.size wR W → Calls Try.prog 9 #[.agg #[.int .i64 (m : Int), .int .u8 1, .slice A4 rs.length c4]] W (IsIsR ⟨(m : Int), 1, ts⟩ W)) := fun W hW => by
        have := sis_any ⟨(m : Int), 1, ts⟩ A4 c4 W (HSC2.out.below hW) (HFL1.out ts)
        rw [show (⟨(m : Int), 1, ts⟩ : Sc).rs.length = rs.length from htl] at this
        exact this
      have HCE : Hid (∀ W, Below wR.heap.size wR W → (W.cell? ⟨g8, 0, none⟩ = some (.int .i64 (m : Int)) ∧ W.cell? ⟨g8, 1, none⟩ = some (.int .u8 1) ∧ W.cell? ⟨g8, 2, none⟩ = some (.slice A3 rs.length c3) ∧ g8 < W.heap.size) ∧ W.cell? ⟨g10, 0, none⟩ = some (.int .i64 (m : Int)) ∧ W.cell? ⟨g10, 1, none⟩ = some (.int .u8 1) ∧ W.cell? ⟨g10, 2, none⟩ = some (.slice A4 rs.length c4) ∧ g10 < W.heap.size) := fun W hW => by
        have e1 := HOB.out.below hW HOB.out.lt
        exact ⟨HC8.out _ (HBR.out.trans (hW.mono (Nat.le_of_lt HBL.out))), by rw [e1.cell]; rfl, by rw [e1.cell]; rfl, by rw [e1.cell]; rfl, e1.lt⟩
      have HBW : Hid (Below w.heap.size w wR) := HB1.out.trans ((HB5.out.mono HB1.out.size).trans (HBR.out.mono (by have h1 := HB1.out.size; have h2 := HB4.out.size; have h3 := HG10.out.2.1; omega))) 
      clear how hob hbr hs4 hsc4 hlk hts hc4 hcm4 htl
      obtain ⟨⟨s0, s1, s2, sl⟩, o0, o1, o2, ol⟩ := HCE.out _ (Below.refl _ _)
      by_cases hval : ScOK ⟨(m : Int), 1, ts⟩
      · have HEQ := Lib.hid (like_E HLK.out HOK.out hval)
        rw [decide_eq_true hval] at HVA
        clear hval
        go_upto_region 16 with (first | (go_at_call 7; go_loud (refine HVA.out.mono ?_; rintro e w6 ⟨rfl, hb6⟩; have HB6 := Lib.hid hb6; obtain ⟨⟨s0, s1, s2, sl⟩, o0, o1, o2, ol⟩ := HCE.out _ hb6)) | (go_at_call 8; go_loud (refine (HCH1.out _ HB6.out).mono ?_; rintro e w7 ⟨ti, ta, tb, er, rfl, hck, hb7⟩; have HCK := Lib.hid hck; have HB7 := Lib.hid (bthen HB6.out hb7); clear hck hb7)))
        obtain ⟨g13, hg13⟩ : ∃ x, w7.heap.size = x := ⟨_, rfl⟩
        obtain ⟨w8, hw8⟩ : ∃ W, w7.alloc (.cells #[.string ti, .string ta, .string tb] 35) = W := ⟨_, rfl⟩
        have hT8 : Blk w8 g13 35 #[.string ti, .string ta, .string tb] := by rw [← hw8, ← hg13]; exact Blk.new _ _ _
        have hb8 : Below wR.heap.size wR w8 := by rw [← hw8]; exact HB7.out.alloc HB7.out.size _
        have HT8 := Lib.hid hT8
        have HB8 := Lib.hid hb8
        rw [hw8, hg13]
        clear hw8 hg13 hT8 hb8 s0 s1 s2 sl o0 o1 o2 ol
        obtain ⟨⟨s0, s1, s2, sl⟩, o0, o1, o2, ol⟩ := HCE.out _ HB8.out
        go_upto_region 17 with (go_at_call 8; go_loud (refine (HCH2.out _ HB8.out).mono ?_; rintro e w9 ⟨ti', ta', tb', er', rfl, hck, hb9⟩; obtain ⟨rfl, rfl⟩ := like_chk HLK.out HEQ.out HCK.out hck; have HB9 := Lib.hid (bthen HB8.out hb9); have HT9 := Lib.hid (HT8.out.below hb9 HT8.out.lt); clear hck hb9))
        obtain ⟨g15, hg15⟩ : ∃ x, w9.heap.size = x := ⟨_, rfl⟩
        obtain ⟨w10, hw10⟩ : ∃ W, w9.alloc (.cells #[.string ti, .string ta', .string tb'] 35) = W := ⟨_, rfl⟩
        have hT10 : Blk w10 g15 35 #[.string ti, .string ta', .string tb'] := by rw [← hw10, ← hg15]; exact Blk.new _ _ _
        have hb10 : Below wR.heap.size wR w10 := by rw [← hw10]; exact HB9.out.alloc HB9.out.size _
        have hT13 := HT9.out.below (show Below w9.heap.size w9 w10 by rw [← hw10]; exact nw _ (Below.refl _ _)) HT9.out.lt
        have HB10 := Lib.hid hb10
        have t0 := hT13.cell 0
        have tl := hT13.lt
        have v0 := hT10.cell 0
        have vl := hT10.lt
        simp at t0 v0
        rw [hw10, hg15]
        clear hw10 hg15 hT10 hb10 hT13 s0 s1 s2 sl o0 o1 o2 ol
        obtain ⟨⟨s0, s1, s2, sl⟩, o0, o1, o2, ol⟩ := HCE.out _ HB10.out
        have HSI : Hid ((soundE ⟨(m : Int), 1, ts⟩ = 0 ∧ FirstTo ⟨(m : Int), 1, ts⟩ none) ↔ (soundE ⟨(m : Int), 1, rs⟩ = 0 ∧ FirstTo ⟨(m : Int), 1, rs⟩ none)) := and_congr HEQ.out.symm (like_none HLK.out).symm
        refine ordB_below (.quiet 0 (.quiet 1 (.quiet 2 (.quiet 3 (.quiet 4 (.quiet 5 (.quiet 6 (.quiet 7 (.quiet 8 (.quiet 9 (.quiet 10 (.quiet 11 (.quiet 13 (.only 12 (.only 14 (.quiet 15 (.quiet 16 (.quiet 17 (.quiet 18 (.quiet 19 (.quiet 20 .done))))))))))))))))))))) (by kernel_rfl) (by kernel_rfl) (by kernel_rfl) (fun _ _ _ _ _ h => h) ?_
        intro V0 hV0
        iterate 13 (first
          | (refine ordB_skip rfl rfl ?_; simp only [Act.put, List.setIfInBounds_toArray, List.set_cons_zero, List.set_cons_succ])
          | (refine ordB_take (v := ?_) rfl rfl ?_ ?_
             rotate_left 1
             focus (intro W hW; obtain ⟨hcW, hfW⟩ := bcell hW; (go_simp <;> with_reducible rfl))
             simp only [Act.put, List.setIfInBounds_toArray, List.set_cons_zero, List.set_cons_succ]))
        refine ordB_only (opB_call rfl rfl (fun K hK => ?_))
        go_simp
        go_at_call 9
        refine (HIS1.out V0 (bthen HB10.out hV0)).mono ?_
        rintro e V0_1 ⟨b1, rfl, hi1, hx1⟩
        refine hK.out _ _ (hV0.trans (hx1.mono hV0.size)) (fun hV0_1 => ?_)
        refine ordB_only (opB_call rfl rfl (fun K hK => ?_))
        go_simp
        go_at_call 9
        refine (HIS2.out V0_1 (bthen HB10.out hV0_1)).mono ?_
        rintro e V9 ⟨b2, rfl, hi2, hx2⟩
        refine hK.out _ _ (hV0_1.trans (hx2.mono hV0_1.size)) (fun hV0_1_2 => ?_)
        obtain rfl := bool_eq hi1 (hi2.trans HSI.out)
        iterate 6 (first
          | (refine ordB_skip rfl rfl ?_; simp only [Act.put, List.setIfInBounds_toArray, List.set_cons_zero, List.set_cons_succ])
          | (refine ordB_take (v := ?_) rfl rfl ?_ ?_
             rotate_left 1
             focus (intro W hW; obtain ⟨hcW, hfW⟩ := bcell hW; (go_simp <;> with_reducible rfl))
             simp only [Act.put, List.setIfInBounds_toArray, List.set_cons_zero, List.set_cons_succ]))
        refine ordB_nil ?_
        go_wp2_with fail
        go_ret
        exact ⟨by simp, bthen HBW.out (bthen HB10.out hV0_1_2)⟩
      · rw [decide_eq_false hval] at HVA
        clear hval
        go_wp2_with (go_at_call 7; go_loud (refine HVA.out.mono ?_; rintro e w6 ⟨rfl, hb6⟩))
        go_ret
        exact ⟨rfl, bthen HBW.out hb6⟩
end Go.Proofs.Ytfpnhgahkjglgaa
