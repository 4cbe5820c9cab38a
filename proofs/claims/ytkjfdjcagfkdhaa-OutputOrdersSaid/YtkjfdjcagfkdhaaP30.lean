/-
  OuMadeW, OuOrdP, joined. No conditions.
-/
import Derived.Test.YtkjfdjcagfkdhaaP28
import Derived.Test.YtkjfdjcagfkdhaaP27
import Derived.Test.YtkjfdjcagfkdhaaP29
import Derived.Test.YtkjfdjcagfkdhaaP07
import Derived.Test.YtkjfdjcagfkdhaaP22
import Derived.Deep.DeepCutAuto
import Derived.Test.YtkjfdjcagfkdhaaP21
import Derived.Test.YtkjfdjcagfkdhaaP19
/-
  The walk of layer 05: the schemes that the laws draw.
-/
namespace Go.Proofs.Ytkjfdjcagfkdhaa
open Go Go.RowKit

/-- A scheme that Base answers. -/
def IsBase (w : World) (e : Ending) (w' : World) : Prop := ∃ (m : Nat) (rs : List Ru) (g : Nat), e = .returned (.agg #[.int .i64 (m : Int), .int .u8 1, .slice (some ⟨g, 0, none⟩) rs.length rs.length]) ∧
  (1 ≤ m ∧ m ≤ 2) ∧ (3 ≤ rs.length ∧ rs.length ≤ 5) ∧ ScOK ⟨(m : Int), 1, rs⟩ ∧ SlR 5 RRu w' (some ⟨g, 0, none⟩) rs ∧ w.heap.size ≤ g ∧ Below w.heap.size w w'
theorem base_any (q : Int) (w : World) (h0 : 0 ≤ q ∧ q ≤ 255) : Calls Try.prog 15 #[.int .u8 q] w (IsBase w) := by
  have h6 : q % 6 = 0 ∨ q % 6 = 1 ∨ q % 6 = 2 ∨ q % 6 = 3 ∨ q % 6 = 4 ∨ q % 6 = 5 := by omega
  rcases h6 with h | h | h | h | h | h
  · refine (base0_any q w h h0).mono ?_
    rintro e w' ⟨g, rfl, h1, h2, h3⟩
    exact ⟨1, (baseS 0).rs, g, rfl, by decide, by decide, (base_ok 0).1, h1.sl, h2, h3⟩
  · refine (base1_any q w h h0).mono ?_
    rintro e w' ⟨g, rfl, h1, h2, h3⟩
    exact ⟨1, (baseS 1).rs, g, rfl, by decide, by decide, (base_ok 1).1, h1.sl, h2, h3⟩
  · refine (base2_any q w h h0).mono ?_
    rintro e w' ⟨g, rfl, h1, h2, h3⟩
    exact ⟨2, (baseS 2).rs, g, rfl, by decide, by decide, (base_ok 2).1, h1.sl, h2, h3⟩
  · refine (base3_any q w h h0).mono ?_
    rintro e w' ⟨g, rfl, h1, h2, h3⟩
    exact ⟨1, (baseS 3).rs, g, rfl, by decide, by decide, (base_ok 3).1, h1.sl, h2, h3⟩
  · refine (base4_any q w h h0).mono ?_
    rintro e w' ⟨g, rfl, h1, h2, h3⟩
    exact ⟨1, (baseS 4).rs, g, rfl, by decide, by decide, (base_ok 4).1, h1.sl, h2, h3⟩
  · refine (base5_any q w h h0).mono ?_
    rintro e w' ⟨g, rfl, h1, h2, h3⟩
    exact ⟨1, (baseS 5).rs, g, rfl, by decide, by decide, (base_ok 5).1, h1.sl, h2, h3⟩
/-- A scheme that Made answers. -/
def IsMade (w : World) (e : Ending) (w' : World) : Prop := ∃ (m : Nat) (rs : List Ru) (A : Option Addr) (c : Nat), e = .returned (.agg #[.int .i64 (m : Int), .int .u8 1, .slice A rs.length c]) ∧
  (1 ≤ m ∧ m ≤ 2) ∧ rs.length ≤ 9 ∧ ScOK ⟨(m : Int), 1, rs⟩ ∧ ScIn w' ⟨(m : Int), 1, rs⟩ A c ∧ Below w.heap.size w w'
theorem scIn_of {w : World} {m : Nat} {rs : List Ru} {A : Option Addr} {c : Nat} (hok : ScOK ⟨(m : Int), 1, rs⟩) (hs : SlR 5 RRu w A rs) (hc : rs.length ≤ c ∧ c ≤ maxLen) (hl : rs.length ≤ 10) : ScIn w ⟨(m : Int), 1, rs⟩ A c :=
  ⟨hs, by show rs.length ≤ 65536; omega, fun r hr => ⟨Nat.le_trans (hok.2.2.2.1 r hr).2.1.1 (by decide), Nat.le_trans (hok.2.2.2.1 r hr).2.2.1.1 (by decide)⟩, ⟨by show (0 : Int) ≤ 1; decide, by show (1 : Int) ≤ 255; decide⟩, hc⟩
set_option maxRecDepth 100000 in
set_option maxHeartbeats 8000000 in
theorem made_any5 (A : Option Addr) (xs : List Rw) (c : Nat) (qb qd : Int) (w : World) (hx : SlR 5 RRw w A xs) (hl0 : xs.length ≤ maxLen) (hqb : 0 ≤ qb ∧ qb ≤ 255) (hqd : 0 ≤ qd ∧ qd ≤ 255) :
    Calls Try.prog 6 #[.agg #[.int .u8 qb, .int .u8 qd, .slice A xs.length c]] w (IsMade w) := by
  have hl := hl0
  unfold maxLen at hl
  obtain ⟨i0, hinf, hz0, hz1, hz2⟩ := info_partsR rule_info
  obtain ⟨w2, hw2⟩ : ∃ w2, (w.alloc (.cells #[.int .u8 qb, .int .u8 qd, .slice A xs.length c] 24)).alloc (.cells #[.int .i64 0, .int .u8 0, .slice none 0 0] 30) = w2 := ⟨_, rfl⟩
  obtain ⟨b1, hb1e⟩ : ∃ b, w.heap.size = b := ⟨_, rfl⟩
  have hb2 : Below w.heap.size w w2 := by rw [← hw2]; exact nw _ (nw _ (Below.refl _ _))
  have hB1 : Blk w2 b1 24 #[.int .u8 qb, .int .u8 qd, .slice A xs.length c] := by rw [← hw2, ← hb1e]; exact (Blk.new _ _ _).alloc _
  have hB2 : Blk w2 (b1 + 1) 30 #[.int .i64 0, .int .u8 0, .slice none 0 0] := by rw [← hw2]; exact Blk.new_ (by simp; omega)
  obtain ⟨lo, hlo⟩ : ∃ x, w2.heap.size = x := ⟨_, rfl⟩
  have hwb1 : w.heap.size ≤ b1 + 1 := by omega
  have hlo1 : b1 + 1 < lo := by rw [← hlo]; exact hB2.lt
  have HW2 := Lib.hid hw2
  have HB1 := Lib.hid hB1
  have HB2 := Lib.hid hB2
  have HBB := Lib.hid hb2
  have HLO := Lib.hid hlo
  have HX := Lib.hid hx
  have HQB := Lib.hid hqb
  have x0 := hB1.cell 0
  have xl := hB1.lt
  simp at x0
  clear hw2 hb2 hB1 hB2 hlo hx hqb
  go_enter Try.func6, Try.ntmps6
  go_upto_region 1 with fail
  rw [HW2.out]
  try rw [hb1e]
  clear HW2
  go_upto_region 2 with (go_at_call 15; go_loud (refine (base_any qb _ HQB.out).mono ?_; rintro e w5 ⟨m, rs0, g, rfl, hm, hl35, hok0, hsl0, hg5, hb5⟩))
  obtain ⟨b3, hb3⟩ : ∃ x, w5.heap.size = x := ⟨_, rfl⟩
  generalize hw6 : w5.alloc (.cells _ 30) = w6
  have hB3 : Blk w6 b3 30 #[.int .i64 (m : Int), .int .u8 1, .slice (some ⟨g, 0, none⟩) rs0.length rs0.length] := by rw [← hw6]; exact Blk.new_ hb3.symm
  have hb6 : Below w2.heap.size w2 w6 := by rw [← hw6]; exact hb5.alloc hb5.size _
  have hsl6 : SlR 5 RRu w6 (some ⟨g, 0, none⟩) rs0 := by rw [← hw6]; exact hsl0.below keeps_ru (nw _ (Below.refl _ _))
  have hg3 : g < b3 := by
    obtain ⟨g', o', he, hlt, _⟩ := hsl0 (by intro h; rw [h] at hl35; simp at hl35)
    simp at he
    omega
  rw [HLO.out] at hg5
  have hlo3 : lo ≤ b3 := by omega
  rw [hb3]
  clear hw6 hb3 hb5 hsl0
  have hm1 := hm.1
  have hm2 := hm.2
  have HM := Lib.hid hm
  have HOK0 := Lib.hid hok0
  have HSL6 := Lib.hid hsl6
  have HB6 := Lib.hid hb6
  have HB3 := Lib.hid hB3
  have HB1 := Lib.hid (HB1.out.below hb6 HB1.out.lt)
  have HB2 := Lib.hid (HB2.out.below hb6 HB2.out.lt)
  have x1 := HB1.out.cell 1
  have x2 := HB1.out.cell 2
  have xl := HB1.out.lt
  have s2 := hB3.cell 2
  have sf2 := hB3.frozen 2
  have sl := hB3.lt
  simp at x1 x2 s2
  clear hm hok0 hsl6 hb6 hB3 x0
  go_cut [] (fun wx => ∃ (v : Value) (rs : List Ru), RowG wx lo b3 44 5 v rs.length (rs.flatMap encRu5) ∧ Hid (ScOK ⟨(m : Int), 1, rs⟩ ∧ rs.length ≤ 5) ∧ Blk wx b3 30 #[.int .i64 (m : Int), .int .u8 1, v] ∧ Below b3 w6 wx)
  case first =>
    have hd2 : qd % 2 = 0 ∨ qd % 2 = 1 := by omega
    have htm : qd.tmod 2 = qd % 2 := Int.tmod_eq_emod_of_nonneg hqd.1
    have hcl : ∀ j u, (rs0.flatMap encRu5)[j]? = some u → w6.cell? ⟨g, 0 + j, none⟩ = some u := fun j u hj => by have := slr_cells_ (enc := encRu5) HSL6.out (by decide) (fun _ _ _ h => h) j u hj; rw [Addr.add_lit] at this; exact this
    have HCL := Lib.hid hcl
    clear hcl
    rcases hd2 with hd | hd
    · rw [hd] at htm
      go_wp2_with fail
      go_meet
      case rel => exact ⟨.slice (some ⟨g, 0, none⟩) rs0.length rs0.length, rs0, RowG.set (.inr ⟨g, 0, rfl, ⟨hg5, hg3⟩, flatMap_len_ (s := 5) (enc := encRu5) (fun _ => rfl) rs0, HCL.out⟩) 2 _, ⟨HOK0.out, hl35.2⟩, HB3.out.set_ 2 _, (Below.refl _ _).setCell (p := ⟨b3, 2, none⟩) (Nat.le_refl _) _⟩
    · rw [hd] at htm
      have h1l : (1 : Int) ≤ (rs0.length : Int) := by omega
      have HRD : Hid (SlR 5 RRu w6 (some ⟨g, 5, none⟩) (rs0.drop 1)) := by
        intro hne
        obtain ⟨g', o', he, hlt, hc⟩ := HSL6.out (by intro h; rw [h] at hl35; simp at hl35)
        injection he with he
        injection he with he1 he2
        subst he1 he2
        refine ⟨g, 5, rfl, hlt, fun k x hk => ?_⟩
        rw [List.getElem?_drop] at hk
        obtain ⟨vs, h1, h2, h3⟩ := hc (1 + k) x hk
        refine ⟨vs, h1, h2, fun j v hj => ?_⟩
        have := h3 j v hj
        rw [show 0 + (1 + k) * 5 + j = 5 + k * 5 + j by omega] at this
        exact this
      have hdl : (rs0.drop 1).length = rs0.length - 1 := List.length_drop
      go_wp2_with fail
      go_meet
      case rel =>
        refine ⟨.slice (some ⟨g, 5, none⟩) (rs0.length - 1) (rs0.length - 1), rs0.drop 1, ?_, ⟨scOK_drop HOK0.out 1, by rw [hdl]; omega⟩, HB3.out.set_ 2 _, (Below.refl _ _).setCell (p := ⟨b3, 2, none⟩) (Nat.le_refl _) _⟩
        rw [hdl]
        refine RowG.set (.inr ⟨g, 5, rfl, ⟨hg5, hg3⟩, by rw [flatMap_len_ (s := 5) (fun _ => rfl) _, hdl], fun j u hj => ?_⟩) 2 _
        have := slr_cells_ (enc := encRu5) HRD.out (by decide) (fun _ _ _ h => h) j u hj
        rw [Addr.add_lit] at this
        exact this
  case rest =>
    obtain ⟨w7, rfl⟩ : ∃ W, W = wc := ⟨wc, rfl⟩
    obtain ⟨v0, rs1, hG, HOK, hB, hb7⟩ := hcut
    clear s2 sf2 sl x1 x2 xl HSL6 HB3 HOK0
    go_wp2_with fail
    go_loopw [4] (fun i wr => ∃ (k : Nat) (v : Value) (rs : List Ru), k ≤ xs.length ∧ k ≤ 4 ∧ i = .int .i64 k ∧ RowG wr lo b3 44 5 v rs.length (rs.flatMap encRu5) ∧ Hid (ScOK ⟨(m : Int), 1, rs⟩ ∧ rs.length ≤ 5 + k) ∧ Blk wr b3 30 #[.int .i64 (m : Int), .int .u8 1, v] ∧ Below b3 w6 wr) (fun i _ => 4 - (intOf i).toNat)
    case atStart => exact ⟨0, v0, rs1, by omega, by omega, rfl, hG, HOK, hB, hb7⟩
    case round =>
      clear hG HOK hB hb7 v0 rs1
      obtain ⟨k, v, rs, hk, hk4, rfl, hown, HOK, hB, hbr⟩ := hrel
      have hlen9 : rs.length ≤ 9 := by have := HOK.out.2; omega
      have hbl := hB.lt
      have hb1r := HB1.out.below hbr (show b1 < b3 by omega)
      have x2 := hb1r.cell 2
      have xl := hb1r.lt
      simp at x2
      have hbw : Below w.heap.size w wr := HBB.out.trans ((HB6.out.mono (by rw [HLO.out]; omega)).trans (hbr.mono (by omega)))
      by_cases hlt : k < xs.length
      · by_cases hlt4 : k < 4
        · obtain ⟨b, off, x, rfl, hbb, hxx, hxok, d0, d1, d2, d3, d4⟩ := (HX.out.below keeps_rw hbw).rw5 hlt
          have hbb2 : b < b1 := by obtain ⟨b', o', e, hb', _⟩ := HX.out (by rintro rfl; simp at hlt); simp only [Option.some.injEq, Addr.mk.injEq, and_true] at e; omega
          have hkl : (k : Int) < (xs.length : Int) := by omega
          have hk4' : (k : Int) < 4 := by omega
          have hvn1 : v.ownBlock ≠ some b1 := hown.ne (.inr (by omega)) hlo3
          have hvnb : v.ownBlock ≠ some b := hown.ne (.inr (by omega)) hlo3
          have hvne : v.ownBlock ≠ some b3 := hown.ne (.inl rfl) hlo3
          have hc0 := hB.cell 0
          have hc2 := hB.cell 2
          simp at hc0 hc2
          have HXX := Lib.hid hxok
          have HOW := Lib.hid hown
          have HB := Lib.hid hB
          have HBr := Lib.hid hbr
          have hb3le : b3 ≤ wr.heap.size := by omega
          clear hxx hxok hown hB hbr hb1r hbw
          go_wp2_with fail
          refine ordV_start (ButR v wr) (fun _ => True) [13] [(0, some false), (1, some false), (2, some false), (3, some false), (4, some false), (5, some false), (6, some false), (7, some false), (8, some false), (9, some true), (10, some true), (11, some true), (12, some false), (13, some true)] (by kernel_rfl) (by kernel_rfl) (by kernel_rfl) (fun _ _ _ _ _ h => h) trivial ?_
          have HD : Below wr.heap.size wr wr.drew := (Below.refl _ _).drew
          obtain ⟨Wd, hWd⟩ : ∃ Wd, wr.drew = Wd := ⟨_, rfl⟩
          rw [hWd] at HD ⊢
          clear hWd
          have HS0 := ButR.of_below (v := v) HD
          iterate 9 (refine ordV_takeS (v := ?_) rfl rfl HS0 ?_ ?_; rotate_left 1; (focus (intro W hW; have hcW := hW.cell; (go_simp <;> (try with_reducible rfl)))); simp only [Act.put, List.setIfInBounds_toArray, List.set_cons_zero, List.set_cons_succ])
          refine ordV_call rfl rfl (fun K hK => ?_)
          go_simp
          go_at_call 16
          refine (made1_any x.A x.B x.a x.b x.c x.d m x.f x.t x.co Wd (HXX.out.below HD).sa (HXX.out.below HD).sb HXX.out.la HXX.out.lb HXX.out.ba HXX.out.bb HXX.out.f HXX.out.t HXX.out.co HM.out).mono ?_
          rintro e W1 ⟨r, rfl, hr, hb1⟩
          have HD1 : Below wr.heap.size wr W1 := HD.trans (hb1.mono HD.size)
          have HS1 := ButR.of_below (v := v) HD1
          have HRR := Lib.hid hr
          clear hb1 hr
          refine hK.out _ _ trivial (fun _ _ => HS1) ?_
          clear hK K
          try simp only [Act.put, List.setIfInBounds_toArray, List.set_cons_zero, List.set_cons_succ]
          refine ordV_call rfl rfl (fun K hK => ?_)
          go_simp
          have HD2 := HD1.alloc HD1.size (.cells #[.int .i64 r.fr, .int .i64 r.to, .string r.inp, .string r.out, .int .i64 r.co] 44)
          have HS2 := ButR.of_below (v := v) HD2
          refine hK.out _ _ trivial (fun _ _ => HS2) ?_
          clear hK K
          try simp only [Act.put, List.setIfInBounds_toArray, List.set_cons_zero, List.set_cons_succ]
          refine ordV_call rfl rfl (fun K hK => ?_)
          refine wp_appG _ _ 28 rfl lo b3 44 i0 _ 5 56 Try.underlying28 hinf hz0 hz1 hz2 rfl (by decide) v _ _ rfl (HOW.out.below hb3le HD2) ⟨W1.heap.size, 0, none⟩ 1 [.int .i64 r.fr, .int .i64 r.to, .string r.inp, .string r.out, .int .i64 r.co] rfl rfl (news_blk (Blk.new_ (t := 44) (cs := #[.int .i64 r.fr, .int .i64 r.to, .string r.inp, .string r.out, .int .i64 r.co]) rfl)) (fun u hu => by simp at hu; rcases hu with rfl | rfl | rfl | rfl | rfl <;> rfl) (by omega) (by decide) (by have := HD2.size; omega) ?_
          intro v4 w4 hown4 hb4 ha4
          have HS3 := HS2.apps hb4.size ha4
          refine hK.out _ _ trivial (fun _ _ => HS3) ?_
          clear hK K
          have hown5 : w4.ownsRow (b3 + 1) 44 5 v4 (rs.length + 1) ((rs ++ [r]).flatMap encRu5) := by rw [List.flatMap_append]; exact hown4
          obtain ⟨A9, c9, rfl, hc9, hcm9, _⟩ := own_slr (R := RRu) hown5 (fun _ => rfl) (fun _ => rfl) (by simp)
          have hB4 := (HB.out.below HD2 HB.out.lt).apps ha4 hvne
          have s2 := hB4.cell 2
          have sf2 := hB4.frozen 2
          have sl := hB4.lt
          simp at s2
          try simp only [Act.put, List.setIfInBounds_toArray, List.set_cons_zero, List.set_cons_succ]
          iterate 1 (refine ordV_takeS (v := ?_) rfl rfl HS3 ?_ ?_; rotate_left 1; (focus (intro W hW; have hcW := hW.cell; (go_simp <;> (try with_reducible rfl)))); simp only [Act.put, List.setIfInBounds_toArray, List.set_cons_zero, List.set_cons_succ])
          refine ordV_call rfl rfl (fun K hK => ?_)
          go_simp
          refine hK.out _ _ trivial (fun _ h => by cases h) ?_
          clear hK K
          refine ordV_nil ?_
          have hbE := ((HBr.out.trans (HD2.mono (by omega))).trans (hb4.mono (by omega))).setCell (p := ⟨b3, 2, none⟩) (Nat.le_refl _) (.slice A9 (rs.length + 1) c9)
          have hBE := hB4.set_ 2 (.slice A9 (rs.length + 1) c9)
          have hOE := own_set hown5 (a := ⟨b3, 2, none⟩) (fun e => absurd (own_block_le hown5 _ e) (Nat.not_succ_le_self _)) (.slice A9 (rs.length + 1) c9)
          obtain ⟨W9, hW9⟩ : ∃ W, w4.setCell ⟨b3, 2, none⟩ (.slice A9 (rs.length + 1) c9) = W := ⟨_, rfl⟩
          rw [hW9] at hbE hBE hOE ⊢
          clear hW9
          have hE0 := hBE.cell 0
          have hE1 := hBE.cell 1
          have hE2 := hBE.cell 2
          have hEl := hBE.lt
          simp at hE0 hE1 hE2
          obtain ⟨A8, c8, he8, _, _, hsl9⟩ := own_slr (R := RRu) hOE (fun _ => rfl) (fun _ => rfl) (by simp)
          obtain ⟨rfl, rfl⟩ : A9 = A8 ∧ c9 = c8 := by injection he8 with h1 h2 h3; exact ⟨h1, h3⟩
          have hRT : Calls Try.prog 17 #[.agg #[.int .i64 (m : Int), .int .u8 1, .slice A9 (rs.length + 1) c9], .int .i64 (rs.length : Int)] W9 fun e w' => e = .returned (.bool (!decide (r ∈ rs))) ∧ Below W9.heap.size W9 w' := by
            have h := rright_any ⟨(m : Int), 1, rs ++ [r]⟩ A9 c9 rs.length r W9 ⟨hsl9, by show (rs ++ [r]).length ≤ 65536; simp; omega, fun x hx => by
              rcases List.mem_append.1 hx with hx | hx
              · exact ⟨Nat.le_trans (HOK.out.1.2.2.2.1 x hx).2.1.1 (by decide), Nat.le_trans (HOK.out.1.2.2.2.1 x hx).2.2.1.1 (by decide)⟩
              · rw [List.mem_singleton.1 hx]; exact ⟨Nat.le_trans HRR.out.2.1.1 (by decide), Nat.le_trans HRR.out.2.2.1.1 (by decide)⟩, ⟨by show (0 : Int) ≤ 1; decide, by show (1 : Int) ≤ 255; decide⟩, ⟨by show (rs ++ [r]).length ≤ c9; simpa using hc9, hcm9⟩⟩ ⟨by show (1 : Int) ≤ (m : Int); omega, by show (m : Int) ≤ 8; omega⟩ (by show (rs ++ [r])[rs.length]? = some r; simp)
            have e1 : (rs ++ [r]).take rs.length = rs := List.take_left
            have e2 : (rs ++ [r]).length = rs.length + 1 := by simp
            simp only [e1, e2, decide_eq_true HRR.out, Bool.and_true] at h
            exact h
          have hE0 := hBE.cell 0
          have hE1 := hBE.cell 1
          have hE2 := hBE.cell 2
          have hEl := hBE.lt
          simp at hE0 hE1 hE2
          have hwl : IntKind.i64.wrap (((rs.length : Int) + 1) - 1) = (rs.length : Int) := by rw [show ((rs.length : Int) + 1) - 1 = (rs.length : Int) by omega]; exact IntWalk.i64_in _ (by omega)
          have hwl2 : IntKind.i64.wrap (rs.length : Int) = (rs.length : Int) := IntWalk.i64_in _ (by omega)
          have HBE := Lib.hid hBE
          have HOE := Lib.hid hOE
          have HbE := Lib.hid hbE
          have hclen : (rs.length : Int) ≤ (c9 : Int) := by omega
          clear hBE hOE hbE he8 hsl9 hown5 hown4 hB4 s2 sf2 sl HS0 HS1 HS2 HS3 ha4 hb4 HD HD1 HD2
          by_cases hmem : r ∈ rs
          · rw [decide_eq_true hmem, Bool.not_true] at hRT
            have HRT := Lib.hid hRT
            clear hRT hmem
            go_wp2_with (go_at_call 17; go_loud (refine HRT.out.mono ?_; rintro e w10 ⟨rfl, hb10⟩; have hBF := HBE.out.below hb10 hEl; have f2 := hBF.cell 2; have ff2 := hBF.frozen 2; have fl := hBF.lt; simp at f2))
            go_roundw
            case rel =>
              have hCT := own_cut (w := w10) (base := b3 + 1) (e := 44) (s := 5) (n := rs.length) (m := 0) (A := A9) (c := c9) (xs := rs.flatMap encRu5) (ys := encRu5 r) (by have := own_below HOE.out hb10; rw [List.flatMap_append] at this; simpa using this) (flatMap_len_ (s := 5) (enc := encRu5) (fun _ => rfl) rs)
              exact ⟨k + 1, .slice A9 rs.length c9, rs, by omega, by omega, by go_num, .inl (own_set hCT (a := ⟨b3, 2, none⟩) (fun e => absurd (own_block_le hCT _ e) (Nat.not_succ_le_self _)) _), ⟨HOK.out.1, by have := HOK.out.2; omega⟩, by simpa using hBF.set_ 2 (.slice A9 rs.length c9), (HbE.out.trans (hb10.mono (by omega))).setCell (p := ⟨b3, 2, none⟩) (Nat.le_refl _) _⟩
            case measure => simp [intOf]; omega
          · rw [decide_eq_false hmem, Bool.not_false] at hRT
            have HRT := Lib.hid hRT
            have HMEM := Lib.hid hmem
            clear hRT hmem
            go_wp2_with (go_at_call 17; go_loud (refine HRT.out.mono ?_; rintro e w10 ⟨rfl, hb10⟩))
            go_roundw
            case rel => exact ⟨k + 1, .slice A9 (rs.length + 1) c9, rs ++ [r], by omega, by omega, by go_num, by have := own_below HOE.out hb10; simpa [RowG] using Or.inl this, ⟨scOK_snoc HOK.out.1 HRR.out HMEM.out (by show rs.length < 64; omega), by have := HOK.out.2; simp; omega⟩, by simpa using HBE.out.below hb10 hEl, HbE.out.trans (hb10.mono (by omega))⟩
            case measure => simp [intOf]; omega
        · have hkl : (k : Int) < (xs.length : Int) := by omega
          have hk4' : ¬ (k : Int) < 4 := by omega
          have hvn2 : v.ownBlock ≠ some (b1 + 1) := hown.ne (.inr (by omega)) hlo3
          have hw3 := ((hown.setN hvn2 0 (.int .i64 (m : Int))).setN hvn2 1 (.int .u8 1)).setN hvn2 2 v
          have hsz3 : b3 ≤ (((wr.setCell ⟨b1 + 1, 0, none⟩ (.int .i64 (m : Int))).setCell ⟨b1 + 1, 1, none⟩ (.int .u8 1)).setCell ⟨b1 + 1, 2, none⟩ v).heap.size := by simp; omega
          obtain ⟨A9, c9, rfl, hc9, hcm9, hsl⟩ := hw3.slr (R := RRu) (fun _ => rfl) (fun _ _ => rfl) (by unfold maxLen; omega) hsz3
          have hR2 := HB2.out.below hbr (show b1 + 1 < b3 by omega)
          have z0 := hR2.cell 0
          have z1 := hR2.cell 1
          have z2 := hR2.cell 2
          have zf0 := hR2.frozen 0
          have zf1 := hR2.frozen 1
          have zf2 := hR2.frozen 2
          have zl := hR2.lt
          have c0 := hB.cell 0
          have c1 := hB.cell 1
          have c2 := hB.cell 2
          simp at z0 z1 z2 c0 c1 c2
          have HR2 := Lib.hid hR2
          have HSLF := Lib.hid hsl
          have HBW := Lib.hid hbw
          clear hB hR2 hown hsl hbw hw3 hsz3 hbr hb1r
          go_wp2_with fail
          (try simp only [Exit.inBlock, Exit.then])
          refine ret_cell (t := 30) (cs := #[.int .i64 (m : Int), .int .u8 1, .slice A9 rs.length c9]) (((HR2.out.set_ 0 (.int .i64 (m : Int))).set_ 1 (.int .u8 1)).set_ 2 (.slice A9 rs.length c9)) rfl rfl Try.underlying30 rfl (by kernel_rfl) rfl ?_
          exact ⟨m, rs, A9, c9, rfl, HM.out, hlen9, HOK.out.1, scIn_of HOK.out.1 HSLF.out ⟨hc9, hcm9⟩ (by omega), ((HBW.out.setCell (p := ⟨b1 + 1, 0, none⟩) hwb1 _).setCell (p := ⟨b1 + 1, 1, none⟩) hwb1 _).setCell (p := ⟨b1 + 1, 2, none⟩) hwb1 _⟩
      · have hkl : ¬ (k : Int) < (xs.length : Int) := by omega
        have hvn2 : v.ownBlock ≠ some (b1 + 1) := hown.ne (.inr (by omega)) hlo3
        have hw3 := ((hown.setN hvn2 0 (.int .i64 (m : Int))).setN hvn2 1 (.int .u8 1)).setN hvn2 2 v
        have hsz3 : b3 ≤ (((wr.setCell ⟨b1 + 1, 0, none⟩ (.int .i64 (m : Int))).setCell ⟨b1 + 1, 1, none⟩ (.int .u8 1)).setCell ⟨b1 + 1, 2, none⟩ v).heap.size := by simp; omega
        obtain ⟨A9, c9, rfl, hc9, hcm9, hsl⟩ := hw3.slr (R := RRu) (fun _ => rfl) (fun _ _ => rfl) (by unfold maxLen; omega) hsz3
        have hR2 := HB2.out.below hbr (show b1 + 1 < b3 by omega)
        have z0 := hR2.cell 0
        have z1 := hR2.cell 1
        have z2 := hR2.cell 2
        have zf0 := hR2.frozen 0
        have zf1 := hR2.frozen 1
        have zf2 := hR2.frozen 2
        have zl := hR2.lt
        have c0 := hB.cell 0
        have c1 := hB.cell 1
        have c2 := hB.cell 2
        simp at z0 z1 z2 c0 c1 c2
        have HR2 := Lib.hid hR2
        have HSLF := Lib.hid hsl
        have HBW := Lib.hid hbw
        clear hB hR2 hown hsl hbw hw3 hsz3 hbr hb1r
        go_wp2_with fail
        (try simp only [Exit.inBlock, Exit.then])
        refine ret_cell (t := 30) (cs := #[.int .i64 (m : Int), .int .u8 1, .slice A9 rs.length c9]) (((HR2.out.set_ 0 (.int .i64 (m : Int))).set_ 1 (.int .u8 1)).set_ 2 (.slice A9 rs.length c9)) rfl rfl Try.underlying30 rfl (by kernel_rfl) rfl ?_
        exact ⟨m, rs, A9, c9, rfl, HM.out, hlen9, HOK.out.1, scIn_of HOK.out.1 HSLF.out ⟨hc9, hcm9⟩ (by omega), ((HBW.out.setCell (p := ⟨b1 + 1, 0, none⟩) hwb1 _).setCell (p := ⟨b1 + 1, 1, none⟩) hwb1 _).setCell (p := ⟨b1 + 1, 2, none⟩) hwb1 _⟩
end Go.Proofs.Ytkjfdjcagfkdhaa

/-
  What Best gives for two numbers, and what Cost gives for its texts. Plain laws. No conditions.
-/
namespace Go.Proofs.Ytkjfdjcagfkdhaa
open Go Go.RowKit

/-- What holds of the results for k and for n, k being at most n. -/
structure OrdF (s : Sc) (inp : ByteArray) (k : Int) (a b : List Rs) (e f : Int) : Prop where
  err : e = f
  most : (a.length : Int) ≤ k
  le : a.length ≤ b.length
  pre : a = b.take a.length
  all : (a.length : Int) < k → b.length = a.length
  sorted : b.Pairwise (fun x y => befR x y = true)
  texts : b.Pairwise (fun x y => x.tx ≠ y.tx)
  size : ∀ y ∈ b, y.tx.size ≤ 1000
  cost : ∀ y ∈ b, ∀ r, CostOf s inp y.tx r → r = y.co
  some_ : e ≠ 0 ∨ 0 < a.length
  len : b.length ≤ 50
theorem best_whole {s : Sc} {inp : ByteArray} (hok : ScOK s) (hF : FlatS s inp) (hi : inp.size ≤ 40) {y : Rs} (hy : y ∈ bestL s inp) : y.tx.size ≤ 1000 ∧ ∀ r, IsCost s inp y.tx r → r = y.co := by
  have hI := best_is (s := s) (inp := inp) hF
  obtain ⟨h1, h2⟩ := hI.mem.1 hy
  obtain ⟨m, h3, h4⟩ := h1
  refine ⟨(pair_facts hok hF hi (Nat.le_refl _) (pair_iff.2 h4)).2.2, fun r hr => ?_⟩
  rcases hr with ⟨rfl, h⟩ | ⟨_, h5, h6⟩
  · exact absurd ⟨m, h3, h4⟩ (h y.co)
  · have h7 := h6 y.co ⟨m, h3, h4⟩
    have h8 := h2 r h5
    omega
theorem best_orders {s : Sc} {inp : ByteArray} (hfl : ScOK s → SoundP s → FlatR s) {k n : Int} (hk : 1 ≤ k) (hkn : k ≤ n) (hn : n ≤ 50) {a b : List Rs} {e f : Int} (ha : (a, e) = bestR s inp k) (hb : (b, f) = bestR s inp n) : OrdF s inp k a b e f := by
  by_cases h : soundE s = 0 ∧ letB inp = true
  · obtain ⟨hso, hlet⟩ := h
    have hk1 : soundE s = 0 ∧ letB inp = true ∧ 1 ≤ k ∧ k ≤ 50 := ⟨hso, hlet, hk, by omega⟩
    have hn1 : soundE s = 0 ∧ letB inp = true ∧ 1 ≤ n ∧ n ≤ 50 := ⟨hso, hlet, by omega, hn⟩
    obtain ⟨hok, hsp⟩ := soundE_iff.1 hso
    have hF : FlatS s inp := pair_flat (hfl hok hsp) (bl inp)
    have hi : inp.size ≤ 40 := (letB_iff.1 hlet).1
    by_cases hbig : Big 2000 s inp
    · rw [bestR_big hk1 hbig] at ha
      rw [bestR_big hn1 hbig] at hb
      injection ha with ha he
      injection hb with hb hf
      subst ha he hb hf
      exact ⟨rfl, by simp; omega, Nat.le_refl _, rfl, fun _ => rfl, .nil, .nil, fun y hy => (by cases hy), fun y hy => (by cases hy), .inl (by decide), by simp⟩
    · by_cases hnil : bestL s inp = []
      · rw [bestR_none hk1 hbig hnil] at ha
        rw [bestR_none hn1 hbig hnil] at hb
        injection ha with ha he
        injection hb with hb hf
        subst ha he hb hf
        exact ⟨rfl, by simp; omega, Nat.le_refl _, rfl, fun _ => rfl, .nil, .nil, fun y hy => (by cases hy), fun y hy => (by cases hy), .inl (by decide), by simp⟩
      · rw [bestR_ok hk1 hbig hnil] at ha
        rw [bestR_ok hn1 hbig hnil] at hb
        injection ha with ha he
        injection hb with hb hf
        have hI := best_is (s := s) (inp := inp) hF
        have hle : k.toNat ≤ n.toNat := by omega
        have hpos : 0 < (bestL s inp).length := List.length_pos_iff.2 hnil
        have hal : a.length = min k.toNat (bestL s inp).length := by rw [ha, List.length_take]
        have hbl : b.length = min n.toNat (bestL s inp).length := by rw [hb, List.length_take]
        refine ⟨by rw [he, hf], by omega, by omega, ?_, fun h => by omega, ?_, ?_, fun y hy => ?_, fun y hy r hr => ?_, .inr (by omega), by omega⟩
        · rw [hal, hb, List.take_take, ha]
          rcases Nat.le_total k.toNat (bestL s inp).length with h1 | h1
          · rw [Nat.min_eq_left h1, Nat.min_eq_left hle]
          · rw [Nat.min_eq_right h1, List.take_of_length_le h1, List.take_of_length_le]
            omega
        · rw [hb]; exact hI.sorted.sublist (List.take_sublist _ _)
        · rw [hb]; exact hI.texts.sublist (List.take_sublist _ _)
        · rw [hb] at hy; exact (best_whole hok hF hi (List.mem_of_mem_take hy)).1
        · rw [hb] at hy; exact (best_whole hok hF hi (List.mem_of_mem_take hy)).2 r (hr.1 ⟨hso, hlet⟩)
  · rw [bestR_arg (fun h' => h ⟨h'.1, h'.2.1⟩)] at ha hb
    injection ha with ha he
    injection hb with hb hf
    subst ha he hb hf
    exact ⟨rfl, by simp; omega, Nat.le_refl _, rfl, fun _ => rfl, .nil, .nil, fun y hy => (by cases hy), fun y hy => (by cases hy), .inl (by decide), by simp⟩
theorem pair_at {p : Rs → Rs → Prop} {b : List Rs} (h : b.Pairwise p) {i j : Nat} {x y : Rs} (hij : i < j) (hx : b[i]? = some x) (hy : b[j]? = some y) : p x y := by
  obtain ⟨h1, rfl⟩ := List.getElem?_eq_some_iff.1 hx
  obtain ⟨h2, rfl⟩ := List.getElem?_eq_some_iff.1 hy
  exact List.pairwise_iff_getElem.1 h i j h1 h2 hij
theorem made_flat {m : Nat} {rs : List Ru} (hm : m ≤ 2) : ScOK ⟨(m : Int), 1, rs⟩ → SoundP ⟨(m : Int), 1, rs⟩ → FlatR ⟨(m : Int), 1, rs⟩ := fun h1 h2 =>
  flat_two h2 (by show (m : Int) ≤ 2; omega) (fun r hr => (h1.2.2.2.1 r hr).1)
end Go.Proofs.Ytkjfdjcagfkdhaa
