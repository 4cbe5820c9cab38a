/-
  OuMadeW, OuOrdP, OuLev, OuWalkI, joined. No conditions.
-/
import Derived.Test.YtkjfdjcagfkdhaaGreatP30
import Derived.Test.YtkjfdjcagfkdhaaGreatP28
import Derived.Test.YtkjfdjcagfkdhaaGreatP31
import Derived.Test.YtkjfdjcagfkdhaaGreatP07
import Derived.Test.YtkjfdjcagfkdhaaGreatP24
import Derived.Deep.DeepCutAuto
import Derived.Test.YtkjfdjcagfkdhaaGreatP23
import Derived.Test.YtkjfdjcagfkdhaaGreatP21
import Derived.Test.YtkjfdjcagfkdhaaGreatP02
import Derived.Test.YtkjfdjcagfkdhaaGreatP18
import Derived.Test.YtkjfdjcagfkdhaaGreatP05
import Derived.WalkSmall
/-
  The walk of layer 05: the schemes that the laws draw.
-/
namespace Go.Proofs.YtkjfdjcagfkdhaaGreat
open Go Go.RowKit

/-- A scheme that Base answers. -/
def IsBase (w : World) (e : Ending) (w' : World) : Prop := ∃ (m : Nat) (rs : List Ru) (g : Nat), e = .returned (.agg #[.int .i64 (m : Int), .int .u8 1, .slice (some ⟨g, 0, none⟩) rs.length rs.length]) ∧
  (1 ≤ m ∧ m ≤ 2) ∧ (3 ≤ rs.length ∧ rs.length ≤ 5) ∧ ScOK ⟨(m : Int), 1, rs⟩ ∧ SlR 5 RRu w' (some ⟨g, 0, none⟩) rs ∧ w.heap.size ≤ g ∧ Below w.heap.size w w'
theorem base_any (q : Int) (w : World) (h0 : 0 ≤ q ∧ q ≤ 255) : Calls Tryz.prog 19 #[.int .u8 q] w (IsBase w) := by
  have h6 : q % 6 = 0 ∨ q % 6 = 1 ∨ q % 6 = 2 ∨ q % 6 = 3 ∨ q % 6 = 4 ∨ q % 6 = 5 := by omega
  rcases h6 with h | h | h | h | h | h
  · refine (base0_any q w h h0).mono ?_
    rintro e w' ⟨g, rfl, h1, h2, h3⟩
    exact ⟨1, (baseS 0).rs, g, rfl, by decide, by decide, (base_ok 0).1, h1.sl, h2, h3⟩
  · refine (base1_any q w h h0).mono ?_
    rintro e w' ⟨g, rfl, h1, h2, h3⟩
    exact ⟨1, (baseS 1).rs, g, rfl, by decide, by decide, (base_ok 1).1, h1.sl, h2, h3⟩
  · refine (base2_any q w h h0).mono ?_
    rintro e w' ⟨g, rfl, h1, h2, h3⟩
    exact ⟨2, (baseS 2).rs, g, rfl, by decide, by decide, (base_ok 2).1, h1.sl, h2, h3⟩
  · refine (base3_any q w h h0).mono ?_
    rintro e w' ⟨g, rfl, h1, h2, h3⟩
    exact ⟨1, (baseS 3).rs, g, rfl, by decide, by decide, (base_ok 3).1, h1.sl, h2, h3⟩
  · refine (base4_any q w h h0).mono ?_
    rintro e w' ⟨g, rfl, h1, h2, h3⟩
    exact ⟨1, (baseS 4).rs, g, rfl, by decide, by decide, (base_ok 4).1, h1.sl, h2, h3⟩
  · refine (base5_any q w h h0).mono ?_
    rintro e w' ⟨g, rfl, h1, h2, h3⟩
    exact ⟨1, (baseS 5).rs, g, rfl, by decide, by decide, (base_ok 5).1, h1.sl, h2, h3⟩
/-- A scheme that Made answers. -/
def IsMade (w : World) (e : Ending) (w' : World) : Prop := ∃ (m : Nat) (rs : List Ru) (A : Option Addr) (c : Nat), e = .returned (.agg #[.int .i64 (m : Int), .int .u8 1, .slice A rs.length c]) ∧
  (1 ≤ m ∧ m ≤ 2) ∧ rs.length ≤ 9 ∧ ScOK ⟨(m : Int), 1, rs⟩ ∧ ScIn w' ⟨(m : Int), 1, rs⟩ A c ∧ Below w.heap.size w w'
theorem scIn_of {w : World} {m : Nat} {rs : List Ru} {A : Option Addr} {c : Nat} (hok : ScOK ⟨(m : Int), 1, rs⟩) (hs : SlR 5 RRu w A rs) (hc : rs.length ≤ c ∧ c ≤ maxLen) (hl : rs.length ≤ 10) : ScIn w ⟨(m : Int), 1, rs⟩ A c :=
  ⟨hs, by show rs.length ≤ 65536; omega, fun r hr => ⟨Nat.le_trans (hok.2.2.2.1 r hr).2.1.1 (by decide), Nat.le_trans (hok.2.2.2.1 r hr).2.2.1.1 (by decide)⟩, ⟨by show (0 : Int) ≤ 1; decide, by show (1 : Int) ≤ 255; decide⟩, hc⟩
set_option maxRecDepth 100000 in
set_option maxHeartbeats 8000000 in
theorem made_any5 (A : Option Addr) (xs : List Rw) (c : Nat) (qb qd : Int) (w : World) (hx : SlR 5 RRw w A xs) (hl0 : xs.length ≤ maxLen) (hqb : 0 ≤ qb ∧ qb ≤ 255) (hqd : 0 ≤ qd ∧ qd ≤ 255) :
    Calls Tryz.prog 7 #[.agg #[.int .u8 qb, .int .u8 qd, .slice A xs.length c]] w (IsMade w) := by
  have hl := hl0
  unfold maxLen at hl
  obtain ⟨i0, hinf, hz0, hz1, hz2⟩ := info_partsR rule_info
  obtain ⟨w2, hw2⟩ : ∃ w2, (w.alloc (.cells #[.int .u8 qb, .int .u8 qd, .slice A xs.length c] 24)).alloc (.cells #[.int .i64 0, .int .u8 0, .slice none 0 0] 29) = w2 := ⟨_, rfl⟩
  obtain ⟨b1, hb1e⟩ : ∃ b, w.heap.size = b := ⟨_, rfl⟩
  have hb2 : Below w.heap.size w w2 := by rw [← hw2]; exact nw _ (nw _ (Below.refl _ _))
  have hB1 : Blk w2 b1 24 #[.int .u8 qb, .int .u8 qd, .slice A xs.length c] := by rw [← hw2, ← hb1e]; exact (Blk.new _ _ _).alloc _
  have hB2 : Blk w2 (b1 + 1) 29 #[.int .i64 0, .int .u8 0, .slice none 0 0] := by rw [← hw2]; exact Blk.new_ (by simp; omega)
  obtain ⟨lo, hlo⟩ : ∃ x, w2.heap.size = x := ⟨_, rfl⟩
  have hwb1 : w.heap.size ≤ b1 + 1 := by omega
  have hlo1 : b1 + 1 < lo := by rw [← hlo]; exact hB2.lt
  have HW2 := Lib.hid hw2
  have HB1 := Lib.hid hB1
  have HB2 := Lib.hid hB2
  have HBB := Lib.hid hb2
  have HLO := Lib.hid hlo
  have HX := Lib.hid hx
  have HQB := Lib.hid hqb
  have x0 := hB1.cell 0
  have xl := hB1.lt
  simp at x0
  clear hw2 hb2 hB1 hB2 hlo hx hqb
  go_enter Tryz.func7, Tryz.ntmps7
  go_upto_region 1 with fail
  rw [HW2.out]
  try rw [hb1e]
  clear HW2
  go_upto_region 2 with (go_at_call 19; go_loud (refine (base_any qb _ HQB.out).mono ?_; rintro e w5 ⟨m, rs0, g, rfl, hm, hl35, hok0, hsl0, hg5, hb5⟩))
  obtain ⟨b3, hb3⟩ : ∃ x, w5.heap.size = x := ⟨_, rfl⟩
  generalize hw6 : w5.alloc (.cells _ 29) = w6
  have hB3 : Blk w6 b3 29 #[.int .i64 (m : Int), .int .u8 1, .slice (some ⟨g, 0, none⟩) rs0.length rs0.length] := by rw [← hw6]; exact Blk.new_ hb3.symm
  have hb6 : Below w2.heap.size w2 w6 := by rw [← hw6]; exact hb5.alloc hb5.size _
  have hsl6 : SlR 5 RRu w6 (some ⟨g, 0, none⟩) rs0 := by rw [← hw6]; exact hsl0.below keeps_ru (nw _ (Below.refl _ _))
  have hg3 : g < b3 := by
    obtain ⟨g', o', he, hlt, _⟩ := hsl0 (by intro h; rw [h] at hl35; simp at hl35)
    simp at he
    omega
  rw [HLO.out] at hg5
  have hlo3 : lo ≤ b3 := by omega
  rw [hb3]
  clear hw6 hb3 hb5 hsl0
  have hm1 := hm.1
  have hm2 := hm.2
  have HM := Lib.hid hm
  have HOK0 := Lib.hid hok0
  have HSL6 := Lib.hid hsl6
  have HB6 := Lib.hid hb6
  have HB3 := Lib.hid hB3
  have HB1 := Lib.hid (HB1.out.below hb6 HB1.out.lt)
  have HB2 := Lib.hid (HB2.out.below hb6 HB2.out.lt)
  have x1 := HB1.out.cell 1
  have x2 := HB1.out.cell 2
  have xl := HB1.out.lt
  have s2 := hB3.cell 2
  have sf2 := hB3.frozen 2
  have sl := hB3.lt
  simp at x1 x2 s2
  clear hm hok0 hsl6 hb6 hB3 x0
  go_cut [] (fun wx => ∃ (v : Value) (rs : List Ru), RowG wx lo b3 55 5 v rs.length (rs.flatMap encRu5) ∧ Hid (ScOK ⟨(m : Int), 1, rs⟩ ∧ rs.length ≤ 5) ∧ Blk wx b3 29 #[.int .i64 (m : Int), .int .u8 1, v] ∧ Below b3 w6 wx)
  case first =>
    have hd2 : qd % 2 = 0 ∨ qd % 2 = 1 := by omega
    have htm : qd.tmod 2 = qd % 2 := Int.tmod_eq_emod_of_nonneg hqd.1
    have hcl : ∀ j u, (rs0.flatMap encRu5)[j]? = some u → w6.cell? ⟨g, 0 + j, none⟩ = some u := fun j u hj => by have := slr_cells_ (enc := encRu5) HSL6.out (by decide) (fun _ _ _ h => h) j u hj; rw [Addr.add_lit] at this; exact this
    have HCL := Lib.hid hcl
    clear hcl
    rcases hd2 with hd | hd
    · rw [hd] at htm
      go_wp2_with fail
      go_meet
      case rel => exact ⟨.slice (some ⟨g, 0, none⟩) rs0.length rs0.length, rs0, RowG.set (.inr ⟨g, 0, rfl, ⟨hg5, hg3⟩, flatMap_len_ (s := 5) (enc := encRu5) (fun _ => rfl) rs0, HCL.out⟩) 2 _, ⟨HOK0.out, hl35.2⟩, HB3.out.set_ 2 _, (Below.refl _ _).setCell (p := ⟨b3, 2, none⟩) (Nat.le_refl _) _⟩
    · rw [hd] at htm
      have h1l : (1 : Int) ≤ (rs0.length : Int) := by omega
      have HRD : Hid (SlR 5 RRu w6 (some ⟨g, 5, none⟩) (rs0.drop 1)) := by
        intro hne
        obtain ⟨g', o', he, hlt, hc⟩ := HSL6.out (by intro h; rw [h] at hl35; simp at hl35)
        injection he with he
        injection he with he1 he2
        subst he1 he2
        refine ⟨g, 5, rfl, hlt, fun k x hk => ?_⟩
        rw [List.getElem?_drop] at hk
        obtain ⟨vs, h1, h2, h3⟩ := hc (1 + k) x hk
        refine ⟨vs, h1, h2, fun j v hj => ?_⟩
        have := h3 j v hj
        rw [show 0 + (1 + k) * 5 + j = 5 + k * 5 + j by omega] at this
        exact this
      have hdl : (rs0.drop 1).length = rs0.length - 1 := List.length_drop
      go_wp2_with fail
      go_meet
      case rel =>
        refine ⟨.slice (some ⟨g, 5, none⟩) (rs0.length - 1) (rs0.length - 1), rs0.drop 1, ?_, ⟨scOK_drop HOK0.out 1, by rw [hdl]; omega⟩, HB3.out.set_ 2 _, (Below.refl _ _).setCell (p := ⟨b3, 2, none⟩) (Nat.le_refl _) _⟩
        rw [hdl]
        refine RowG.set (.inr ⟨g, 5, rfl, ⟨hg5, hg3⟩, by rw [flatMap_len_ (s := 5) (fun _ => rfl) _, hdl], fun j u hj => ?_⟩) 2 _
        have := slr_cells_ (enc := encRu5) HRD.out (by decide) (fun _ _ _ h => h) j u hj
        rw [Addr.add_lit] at this
        exact this
  case rest =>
    obtain ⟨w7, rfl⟩ : ∃ W, W = wc := ⟨wc, rfl⟩
    obtain ⟨v0, rs1, hG, HOK, hB, hb7⟩ := hcut
    clear s2 sf2 sl x1 x2 xl HSL6 HB3 HOK0
    go_wp2_with fail
    go_loopw [4] (fun i wr => ∃ (k : Nat) (v : Value) (rs : List Ru), k ≤ xs.length ∧ k ≤ 4 ∧ i = .int .i64 k ∧ RowG wr lo b3 55 5 v rs.length (rs.flatMap encRu5) ∧ Hid (ScOK ⟨(m : Int), 1, rs⟩ ∧ rs.length ≤ 5 + k) ∧ Blk wr b3 29 #[.int .i64 (m : Int), .int .u8 1, v] ∧ Below b3 w6 wr) (fun i _ => 4 - (intOf i).toNat)
    case atStart => exact ⟨0, v0, rs1, by omega, by omega, rfl, hG, HOK, hB, hb7⟩
    case round =>
      clear hG HOK hB hb7 v0 rs1
      obtain ⟨k, v, rs, hk, hk4, rfl, hown, HOK, hB, hbr⟩ := hrel
      have hlen9 : rs.length ≤ 9 := by have := HOK.out.2; omega
      have hbl := hB.lt
      have hb1r := HB1.out.below hbr (show b1 < b3 by omega)
      have x2 := hb1r.cell 2
      have xl := hb1r.lt
      simp at x2
      have hbw : Below w.heap.size w wr := HBB.out.trans ((HB6.out.mono (by rw [HLO.out]; omega)).trans (hbr.mono (by omega)))
      by_cases hlt : k < xs.length
      · by_cases hlt4 : k < 4
        · obtain ⟨b, off, x, rfl, hbb, hxx, hxok, d0, d1, d2, d3, d4⟩ := (HX.out.below keeps_rw hbw).rw5 hlt
          have hbb2 : b < b1 := by obtain ⟨b', o', e, hb', _⟩ := HX.out (by rintro rfl; simp at hlt); simp only [Option.some.injEq, Addr.mk.injEq, and_true] at e; omega
          have hkl : (k : Int) < (xs.length : Int) := by omega
          have hk4' : (k : Int) < 4 := by omega
          have hvn1 : v.ownBlock ≠ some b1 := hown.ne (.inr (by omega)) hlo3
          have hvnb : v.ownBlock ≠ some b := hown.ne (.inr (by omega)) hlo3
          have hvne : v.ownBlock ≠ some b3 := hown.ne (.inl rfl) hlo3
          have hc0 := hB.cell 0
          have hc2 := hB.cell 2
          simp at hc0 hc2
          have HXX := Lib.hid hxok
          have HOW := Lib.hid hown
          have HB := Lib.hid hB
          have HBr := Lib.hid hbr
          have hb3le : b3 ≤ wr.heap.size := by omega
          clear hxx hxok hown hB hbr hb1r hbw
          go_wp2_with fail
          refine ordV_start (ButR v wr) (fun _ => True) [13] [(0, some false), (1, some false), (2, some false), (3, some false), (4, some false), (5, some false), (6, some false), (7, some false), (8, some false), (9, some true), (10, some true), (11, some true), (12, some false), (13, some true)] (by kernel_rfl) (by kernel_rfl) (by kernel_rfl) (fun _ _ _ _ _ h => h) trivial ?_
          have HD : Below wr.heap.size wr wr.drew := (Below.refl _ _).drew
          obtain ⟨Wd, hWd⟩ : ∃ Wd, wr.drew = Wd := ⟨_, rfl⟩
          rw [hWd] at HD ⊢
          clear hWd
          have HS0 := ButR.of_below (v := v) HD
          iterate 9 (refine ordV_takeS (v := ?_) rfl rfl HS0 ?_ ?_; rotate_left 1; (focus (intro W hW; have hcW := hW.cell; (go_simp <;> (try with_reducible rfl)))); simp only [Act.put, List.setIfInBounds_toArray, List.set_cons_zero, List.set_cons_succ])
          refine ordV_call rfl rfl (fun K hK => ?_)
          go_simp
          go_at_call 15
          refine (made1_any x.A x.B x.a x.b x.c x.d m x.f x.t x.co Wd (HXX.out.below HD).sa (HXX.out.below HD).sb HXX.out.la HXX.out.lb HXX.out.ba HXX.out.bb HXX.out.f HXX.out.t HXX.out.co HM.out).mono ?_
          rintro e W1 ⟨r, rfl, hr, hb1⟩
          have HD1 : Below wr.heap.size wr W1 := HD.trans (hb1.mono HD.size)
          have HS1 := ButR.of_below (v := v) HD1
          have HRR := Lib.hid hr
          clear hb1 hr
          refine hK.out _ _ trivial (fun _ _ => HS1) ?_
          clear hK K
          try simp only [Act.put, List.setIfInBounds_toArray, List.set_cons_zero, List.set_cons_succ]
          refine ordV_call rfl rfl (fun K hK => ?_)
          go_simp
          have HD2 := HD1.alloc HD1.size (.cells #[.int .i64 r.fr, .int .i64 r.to, .string r.inp, .string r.out, .int .i64 r.co] 55)
          have HS2 := ButR.of_below (v := v) HD2
          refine hK.out _ _ trivial (fun _ _ => HS2) ?_
          clear hK K
          try simp only [Act.put, List.setIfInBounds_toArray, List.set_cons_zero, List.set_cons_succ]
          refine ordV_call rfl rfl (fun K hK => ?_)
          refine wp_appG _ _ 27 rfl lo b3 55 i0 _ 5 56 Tryz.underlying27 hinf hz0 hz1 hz2 rfl (by decide) v _ _ rfl (HOW.out.below hb3le HD2) ⟨W1.heap.size, 0, none⟩ 1 [.int .i64 r.fr, .int .i64 r.to, .string r.inp, .string r.out, .int .i64 r.co] rfl rfl (news_blk (Blk.new_ (t := 55) (cs := #[.int .i64 r.fr, .int .i64 r.to, .string r.inp, .string r.out, .int .i64 r.co]) rfl)) (fun u hu => by simp at hu; rcases hu with rfl | rfl | rfl | rfl | rfl <;> rfl) (by omega) (by decide) (by have := HD2.size; omega) ?_
          intro v4 w4 hown4 hb4 ha4
          have HS3 := HS2.apps hb4.size ha4
          refine hK.out _ _ trivial (fun _ _ => HS3) ?_
          clear hK K
          have hown5 : w4.ownsRow (b3 + 1) 55 5 v4 (rs.length + 1) ((rs ++ [r]).flatMap encRu5) := by rw [List.flatMap_append]; exact hown4
          obtain ⟨A9, c9, rfl, hc9, hcm9, _⟩ := own_slr (R := RRu) hown5 (fun _ => rfl) (fun _ => rfl) (by simp)
          have hB4 := (HB.out.below HD2 HB.out.lt).apps ha4 hvne
          have s2 := hB4.cell 2
          have sf2 := hB4.frozen 2
          have sl := hB4.lt
          simp at s2
          try simp only [Act.put, List.setIfInBounds_toArray, List.set_cons_zero, List.set_cons_succ]
          iterate 1 (refine ordV_takeS (v := ?_) rfl rfl HS3 ?_ ?_; rotate_left 1; (focus (intro W hW; have hcW := hW.cell; (go_simp <;> (try with_reducible rfl)))); simp only [Act.put, List.setIfInBounds_toArray, List.set_cons_zero, List.set_cons_succ])
          refine ordV_call rfl rfl (fun K hK => ?_)
          go_simp
          refine hK.out _ _ trivial (fun _ h => by cases h) ?_
          clear hK K
          refine ordV_nil ?_
          have hbE := ((HBr.out.trans (HD2.mono (by omega))).trans (hb4.mono (by omega))).setCell (p := ⟨b3, 2, none⟩) (Nat.le_refl _) (.slice A9 (rs.length + 1) c9)
          have hBE := hB4.set_ 2 (.slice A9 (rs.length + 1) c9)
          have hOE := own_set hown5 (a := ⟨b3, 2, none⟩) (fun e => absurd (own_block_le hown5 _ e) (Nat.not_succ_le_self _)) (.slice A9 (rs.length + 1) c9)
          obtain ⟨W9, hW9⟩ : ∃ W, w4.setCell ⟨b3, 2, none⟩ (.slice A9 (rs.length + 1) c9) = W := ⟨_, rfl⟩
          rw [hW9] at hbE hBE hOE ⊢
          clear hW9
          have hE0 := hBE.cell 0
          have hE1 := hBE.cell 1
          have hE2 := hBE.cell 2
          have hEl := hBE.lt
          simp at hE0 hE1 hE2
          obtain ⟨A8, c8, he8, _, _, hsl9⟩ := own_slr (R := RRu) hOE (fun _ => rfl) (fun _ => rfl) (by simp)
          obtain ⟨rfl, rfl⟩ : A9 = A8 ∧ c9 = c8 := by injection he8 with h1 h2 h3; exact ⟨h1, h3⟩
          have hRT : Calls Tryz.prog 20 #[.agg #[.int .i64 (m : Int), .int .u8 1, .slice A9 (rs.length + 1) c9], .int .i64 (rs.length : Int)] W9 fun e w' => e = .returned (.bool (!decide (r ∈ rs))) ∧ Below W9.heap.size W9 w' := by
            have h := rright_any ⟨(m : Int), 1, rs ++ [r]⟩ A9 c9 rs.length r W9 ⟨hsl9, by show (rs ++ [r]).length ≤ 65536; simp; omega, fun x hx => by
              rcases List.mem_append.1 hx with hx | hx
              · exact ⟨Nat.le_trans (HOK.out.1.2.2.2.1 x hx).2.1.1 (by decide), Nat.le_trans (HOK.out.1.2.2.2.1 x hx).2.2.1.1 (by decide)⟩
              · rw [List.mem_singleton.1 hx]; exact ⟨Nat.le_trans HRR.out.2.1.1 (by decide), Nat.le_trans HRR.out.2.2.1.1 (by decide)⟩, ⟨by show (0 : Int) ≤ 1; decide, by show (1 : Int) ≤ 255; decide⟩, ⟨by show (rs ++ [r]).length ≤ c9; simpa using hc9, hcm9⟩⟩ ⟨by show (1 : Int) ≤ (m : Int); omega, by show (m : Int) ≤ 8; omega⟩ (by show (rs ++ [r])[rs.length]? = some r; simp)
            have e1 : (rs ++ [r]).take rs.length = rs := List.take_left
            have e2 : (rs ++ [r]).length = rs.length + 1 := by simp
            simp only [e1, e2, decide_eq_true HRR.out, Bool.and_true] at h
            exact h
          have hE0 := hBE.cell 0
          have hE1 := hBE.cell 1
          have hE2 := hBE.cell 2
          have hEl := hBE.lt
          simp at hE0 hE1 hE2
          have hwl : IntKind.i64.wrap (((rs.length : Int) + 1) - 1) = (rs.length : Int) := by rw [show ((rs.length : Int) + 1) - 1 = (rs.length : Int) by omega]; exact IntWalk.i64_in _ (by omega)
          have hwl2 : IntKind.i64.wrap (rs.length : Int) = (rs.length : Int) := IntWalk.i64_in _ (by omega)
          have HBE := Lib.hid hBE
          have HOE := Lib.hid hOE
          have HbE := Lib.hid hbE
          have hclen : (rs.length : Int) ≤ (c9 : Int) := by omega
          clear hBE hOE hbE he8 hsl9 hown5 hown4 hB4 s2 sf2 sl HS0 HS1 HS2 HS3 ha4 hb4 HD HD1 HD2
          by_cases hmem : r ∈ rs
          · rw [decide_eq_true hmem, Bool.not_true] at hRT
            have HRT := Lib.hid hRT
            clear hRT hmem
            go_wp2_with (go_at_call 20; go_loud (refine HRT.out.mono ?_; rintro e w10 ⟨rfl, hb10⟩; have hBF := HBE.out.below hb10 hEl; have f2 := hBF.cell 2; have ff2 := hBF.frozen 2; have fl := hBF.lt; simp at f2))
            go_roundw
            case rel =>
              have hCT := own_cut (w := w10) (base := b3 + 1) (e := 55) (s := 5) (n := rs.length) (m := 0) (A := A9) (c := c9) (xs := rs.flatMap encRu5) (ys := encRu5 r) (by have := own_below HOE.out hb10; rw [List.flatMap_append] at this; simpa using this) (flatMap_len_ (s := 5) (enc := encRu5) (fun _ => rfl) rs)
              exact ⟨k + 1, .slice A9 rs.length c9, rs, by omega, by omega, by go_num, .inl (own_set hCT (a := ⟨b3, 2, none⟩) (fun e => absurd (own_block_le hCT _ e) (Nat.not_succ_le_self _)) _), ⟨HOK.out.1, by have := HOK.out.2; omega⟩, by simpa using hBF.set_ 2 (.slice A9 rs.length c9), (HbE.out.trans (hb10.mono (by omega))).setCell (p := ⟨b3, 2, none⟩) (Nat.le_refl _) _⟩
            case measure => simp [intOf]; omega
          · rw [decide_eq_false hmem, Bool.not_false] at hRT
            have HRT := Lib.hid hRT
            have HMEM := Lib.hid hmem
            clear hRT hmem
            go_wp2_with (go_at_call 20; go_loud (refine HRT.out.mono ?_; rintro e w10 ⟨rfl, hb10⟩))
            go_roundw
            case rel => exact ⟨k + 1, .slice A9 (rs.length + 1) c9, rs ++ [r], by omega, by omega, by go_num, by have := own_below HOE.out hb10; simpa [RowG] using Or.inl this, ⟨scOK_snoc HOK.out.1 HRR.out HMEM.out (by show rs.length < 64; omega), by have := HOK.out.2; simp; omega⟩, by simpa using HBE.out.below hb10 hEl, HbE.out.trans (hb10.mono (by omega))⟩
            case measure => simp [intOf]; omega
        · have hkl : (k : Int) < (xs.length : Int) := by omega
          have hk4' : ¬ (k : Int) < 4 := by omega
          have hvn2 : v.ownBlock ≠ some (b1 + 1) := hown.ne (.inr (by omega)) hlo3
          have hw3 := ((hown.setN hvn2 0 (.int .i64 (m : Int))).setN hvn2 1 (.int .u8 1)).setN hvn2 2 v
          have hsz3 : b3 ≤ (((wr.setCell ⟨b1 + 1, 0, none⟩ (.int .i64 (m : Int))).setCell ⟨b1 + 1, 1, none⟩ (.int .u8 1)).setCell ⟨b1 + 1, 2, none⟩ v).heap.size := by simp; omega
          obtain ⟨A9, c9, rfl, hc9, hcm9, hsl⟩ := hw3.slr (R := RRu) (fun _ => rfl) (fun _ _ => rfl) (by unfold maxLen; omega) hsz3
          have hR2 := HB2.out.below hbr (show b1 + 1 < b3 by omega)
          have z0 := hR2.cell 0
          have z1 := hR2.cell 1
          have z2 := hR2.cell 2
          have zf0 := hR2.frozen 0
          have zf1 := hR2.frozen 1
          have zf2 := hR2.frozen 2
          have zl := hR2.lt
          have c0 := hB.cell 0
          have c1 := hB.cell 1
          have c2 := hB.cell 2
          simp at z0 z1 z2 c0 c1 c2
          have HR2 := Lib.hid hR2
          have HSLF := Lib.hid hsl
          have HBW := Lib.hid hbw
          clear hB hR2 hown hsl hbw hw3 hsz3 hbr hb1r
          go_wp2_with fail
          (try simp only [Exit.inBlock, Exit.then])
          refine ret_cell (t := 29) (cs := #[.int .i64 (m : Int), .int .u8 1, .slice A9 rs.length c9]) (((HR2.out.set_ 0 (.int .i64 (m : Int))).set_ 1 (.int .u8 1)).set_ 2 (.slice A9 rs.length c9)) rfl rfl Tryz.underlying29 rfl (by kernel_rfl) rfl ?_
          exact ⟨m, rs, A9, c9, rfl, HM.out, hlen9, HOK.out.1, scIn_of HOK.out.1 HSLF.out ⟨hc9, hcm9⟩ (by omega), ((HBW.out.setCell (p := ⟨b1 + 1, 0, none⟩) hwb1 _).setCell (p := ⟨b1 + 1, 1, none⟩) hwb1 _).setCell (p := ⟨b1 + 1, 2, none⟩) hwb1 _⟩
      · have hkl : ¬ (k : Int) < (xs.length : Int) := by omega
        have hvn2 : v.ownBlock ≠ some (b1 + 1) := hown.ne (.inr (by omega)) hlo3
        have hw3 := ((hown.setN hvn2 0 (.int .i64 (m : Int))).setN hvn2 1 (.int .u8 1)).setN hvn2 2 v
        have hsz3 : b3 ≤ (((wr.setCell ⟨b1 + 1, 0, none⟩ (.int .i64 (m : Int))).setCell ⟨b1 + 1, 1, none⟩ (.int .u8 1)).setCell ⟨b1 + 1, 2, none⟩ v).heap.size := by simp; omega
        obtain ⟨A9, c9, rfl, hc9, hcm9, hsl⟩ := hw3.slr (R := RRu) (fun _ => rfl) (fun _ _ => rfl) (by unfold maxLen; omega) hsz3
        have hR2 := HB2.out.below hbr (show b1 + 1 < b3 by omega)
        have z0 := hR2.cell 0
        have z1 := hR2.cell 1
        have z2 := hR2.cell 2
        have zf0 := hR2.frozen 0
        have zf1 := hR2.frozen 1
        have zf2 := hR2.frozen 2
        have zl := hR2.lt
        have c0 := hB.cell 0
        have c1 := hB.cell 1
        have c2 := hB.cell 2
        simp at z0 z1 z2 c0 c1 c2
        have HR2 := Lib.hid hR2
        have HSLF := Lib.hid hsl
        have HBW := Lib.hid hbw
        clear hB hR2 hown hsl hbw hw3 hsz3 hbr hb1r
        go_wp2_with fail
        (try simp only [Exit.inBlock, Exit.then])
        refine ret_cell (t := 29) (cs := #[.int .i64 (m : Int), .int .u8 1, .slice A9 rs.length c9]) (((HR2.out.set_ 0 (.int .i64 (m : Int))).set_ 1 (.int .u8 1)).set_ 2 (.slice A9 rs.length c9)) rfl rfl Tryz.underlying29 rfl (by kernel_rfl) rfl ?_
        exact ⟨m, rs, A9, c9, rfl, HM.out, hlen9, HOK.out.1, scIn_of HOK.out.1 HSLF.out ⟨hc9, hcm9⟩ (by omega), ((HBW.out.setCell (p := ⟨b1 + 1, 0, none⟩) hwb1 _).setCell (p := ⟨b1 + 1, 1, none⟩) hwb1 _).setCell (p := ⟨b1 + 1, 2, none⟩) hwb1 _⟩
end Go.Proofs.YtkjfdjcagfkdhaaGreat

/-
  What Best gives for two numbers, and what Cost gives for its texts. Plain laws. No conditions.
-/
namespace Go.Proofs.YtkjfdjcagfkdhaaGreat
open Go Go.RowKit

theorem best_whole {s : Sc} {inp : ByteArray} (hok : ScOK s) (hF : FlatS s inp) (hi : inp.size ≤ 40) {y : Rs} (hy : y ∈ bestL s inp) : y.tx.size ≤ 1000 ∧ ∀ r, IsCost s inp y.tx r → r = y.co := by
  have hI := best_is (s := s) (inp := inp) hF
  obtain ⟨h1, h2⟩ := hI.mem.1 hy
  obtain ⟨m, h3, h4⟩ := h1
  refine ⟨(pair_facts hok hF hi (Nat.le_refl _) (pair_iff.2 h4)).2.2, fun r hr => ?_⟩
  rcases hr with ⟨rfl, h⟩ | ⟨_, h5, h6⟩
  · exact absurd ⟨m, h3, h4⟩ (h y.co)
  · have h7 := h6 y.co ⟨m, h3, h4⟩
    have h8 := h2 r h5
    omega
theorem made_flat {m : Nat} {rs : List Ru} (hm : m ≤ 2) : ScOK ⟨(m : Int), 1, rs⟩ → SoundP ⟨(m : Int), 1, rs⟩ → FlatR ⟨(m : Int), 1, rs⟩ := fun h1 h2 =>
  flat_two h2 (by show (m : Int) ≤ 2; omega) (fun r hr => (h1.2.2.2.1 r hr).1)
end Go.Proofs.YtkjfdjcagfkdhaaGreat

/-
  Chains of rules by their length: a mode that is reached is reached by a short chain. Plain laws. No conditions.
-/
namespace Go.Proofs.YtkjfdjcagfkdhaaGreat
open List

/-- There is a chain of so many rules with a property from a mode to a mode. -/
inductive Ch (s : Sc) (p : Ru → Bool) (a : Int) : Nat → Int → Prop
  | zero : Ch s p a 0 a
  | succ {n : Nat} {b : Int} {r : Ru} : Ch s p a n b → r ∈ s.rs → p r = true → r.fr = b → Ch s p a (n + 1) r.to
theorem ch_range {s : Sc} {p : Ru → Bool} {a : Int} {N : Nat} (ha : 0 ≤ a ∧ a < (N : Int)) (hr : ∀ r ∈ s.rs, 0 ≤ r.to ∧ r.to < (N : Int)) {n : Nat} {x : Int} (h : Ch s p a n x) : 0 ≤ x ∧ x < (N : Int) := by
  cases h with
  | zero => exact ha
  | succ _ h2 _ _ => exact hr _ h2
noncomputable def UB (s : Sc) (p : Ru → Bool) (a : Int) (i : Nat) : Int → Bool := fun x => @decide (∃ n, n ≤ i ∧ Ch s p a n x) (Classical.propDecidable _)
theorem ub_iff {s : Sc} {p : Ru → Bool} {a : Int} {i : Nat} {x : Int} : UB s p a i x = true ↔ ∃ n, n ≤ i ∧ Ch s p a n x := by
  unfold UB
  exact @decide_eq_true_iff _ (Classical.propDecidable _)
theorem ub_mono {s : Sc} {p : Ru → Bool} {a : Int} {i j : Nat} (h : i ≤ j) {x : Int} (hx : UB s p a i x = true) : UB s p a j x = true := by
  obtain ⟨n, h1, h2⟩ := ub_iff.1 hx
  exact ub_iff.2 ⟨n, by omega, h2⟩
theorem ch_bound {s : Sc} {p : Ru → Bool} {a : Int} {N : Nat} (ha : 0 ≤ a ∧ a < (N : Int)) (hr : ∀ r ∈ s.rs, 0 ≤ r.to ∧ r.to < (N : Int)) {n : Nat} {x : Int} (h : Ch s p a n x) : ∃ m, m < N ∧ Ch s p a m x := by
  have key : ∀ i, (∀ n x, Ch s p a n x → UB s p a i x = true) ∨ i + 1 ≤ cntB N (UB s p a i) := by
    intro i
    induction i with
    | zero =>
      right
      have h0 : cntB N (fun _ => false) < cntB N (UB s p a 0) := cnt_lt (fun x hx => by cases hx) ha rfl (ub_iff.2 ⟨0, Nat.le_refl _, .zero⟩)
      omega
    | succ i ih =>
      rcases ih with ih | ih
      · exact .inl fun n x hx => ub_mono (Nat.le_succ i) (ih n x hx)
      · by_cases hc : ∃ x, UB s p a (i + 1) x = true ∧ UB s p a i x = false
        · obtain ⟨x, h1, h2⟩ := hc
          obtain ⟨n', _, h3⟩ := ub_iff.1 h1
          have := cnt_lt (n := N) (f := UB s p a i) (g := UB s p a (i + 1)) (fun y hy => ub_mono (Nat.le_succ i) hy) (ch_range ha hr h3) h2 h1
          right
          omega
        · left
          have hsub : ∀ x, UB s p a (i + 1) x = true → UB s p a i x = true := fun x hx => by
            cases hb : UB s p a i x with
            | true => rfl
            | false => exact absurd ⟨x, hx, hb⟩ hc
          intro n x hx
          refine ub_mono (Nat.le_succ i) ?_
          induction hx with
          | zero => exact ub_iff.2 ⟨0, by omega, .zero⟩
          | succ _ h2 h3 h4 ih2 =>
            obtain ⟨k, h5, h6⟩ := ub_iff.1 ih2
            exact hsub _ (ub_iff.2 ⟨k + 1, by omega, .succ h6 h2 h3 h4⟩)
  have hN : 0 < N := by omega
  have hx : UB s p a (N - 1) x = true := by
    rcases key (N - 1) with h1 | h1
    · exact h1 n x h
    · exact cnt_full (by omega) (ch_range ha hr h)
  obtain ⟨m, h1, h2⟩ := ub_iff.1 hx
  exact ⟨m, by omega, h2⟩
theorem rm_ch {s : Sc} {x : Int} : RM s x ↔ ∃ n, Ch s (fun _ => true) 0 n x := by
  constructor
  · intro h
    unfold RM at h
    induction h with
    | base h => exact ⟨0, h ▸ .zero⟩
    | step _ h2 ih =>
      obtain ⟨r, hr, rfl⟩ := mem_map.1 h2
      obtain ⟨n, h3⟩ := ih
      exact ⟨n + 1, .succ h3 hr rfl rfl⟩
  · rintro ⟨n, h⟩
    induction h with
    | zero => exact .base rfl
    | succ _ h2 _ h4 ih => exact rm_step (by rw [h4]; exact ih) h2
theorem mt_ch {s : Sc} {a x : Int} : Mt s a x ↔ ∃ n, Ch s Ru.mute a (n + 1) x := by
  constructor
  · intro h
    induction h with
    | one h1 h2 h3 => exact ⟨0, .succ .zero h1 h2 h3⟩
    | more _ h1 h2 h3 ih =>
      obtain ⟨n, h4⟩ := ih
      exact ⟨n + 1, .succ h4 h1 h2 h3⟩
  · rintro ⟨n, h⟩
    induction n generalizing x with
    | zero =>
      cases h with
      | succ h1 h2 h3 h4 =>
        cases h1
        exact .one h2 h3 h4
    | succ n ih =>
      cases h with
      | succ h1 h2 h3 h4 => exact .more (ih h1) h2 h3 h4
/-- A way round is found among the chains of at most as many rules as there are modes. -/
theorem mt_short {s : Sc} {a : Int} {N : Nat} (ha : 0 ≤ a ∧ a < (N : Int)) (hr : ∀ r ∈ s.rs, 0 ≤ r.to ∧ r.to < (N : Int)) : Mt s a a ↔ ∃ n, n < N ∧ Ch s Ru.mute a (n + 1) a := by
  constructor
  · intro h
    obtain ⟨n, h1⟩ := mt_ch.1 h
    have key : ∀ x, Ch s Ru.mute a (n + 1) x → ∃ m, m < N ∧ Ch s Ru.mute a (m + 1) x := fun x h1 => by
      cases h1 with
      | succ h2 h3 h4 h5 =>
        obtain ⟨m, h6, h7⟩ := ch_bound ha hr h2
        exact ⟨m, h6, .succ h7 h3 h4 h5⟩
    exact key a h1
  · rintro ⟨n, _, h⟩
    exact mt_ch.2 ⟨n, h⟩
/-- A mode that is reached and not live is found among the chains of 1 to as many rules as there are modes, where 0 is live. -/
theorem stuck_short {s : Sc} {N : Nat} (h0 : 0 < N) (hr : ∀ r ∈ s.rs, 0 ≤ r.to ∧ r.to < (N : Int)) (hl : LV s 0) : (∃ m, RM s m ∧ ¬ LV s m) ↔ ∃ n m, n < N ∧ Ch s (fun _ => true) 0 (n + 1) m ∧ ¬ LV s m := by
  constructor
  · rintro ⟨m, h1, h2⟩
    obtain ⟨n, h3⟩ := rm_ch.1 h1
    obtain ⟨k, h4, h5⟩ := ch_bound ⟨by omega, by omega⟩ hr h3
    rcases k with _ | k
    · cases h5
      exact absurd hl h2
    · exact ⟨k, m, by omega, h5, h2⟩
  · rintro ⟨n, m, _, h1, h2⟩
    exact ⟨m, rm_ch.2 ⟨_, h1⟩, h2⟩
end Go.Proofs.YtkjfdjcagfkdhaaGreat

/-
  The walks of layers 05 and 08: the reference's chains.
-/
namespace Go.Proofs.YtkjfdjcagfkdhaaGreat
open Go Go.RowKit

def IsBool (e : Ending) : Prop := ∃ v : Bool, e = .returned (.bool v)
set_option maxRecDepth 100000 in
set_option maxHeartbeats 8000000 in
theorem rbefore04_any (A B : Option Addr) (xs ys : List Int) (c d : Nat) (w : World) (hx : SlR 1 RInt w A xs) (hy : SlR 1 RInt w B ys) (hl : xs.length ≤ 65536) :
    Calls Tryz.prog 87 #[.slice A xs.length c, .slice B ys.length d] w fun e w' => IsBool e ∧ Below w.heap.size w w' := by
  go_enter Tryz.func87, Tryz.ntmps87
  go_wp2_with fail
  go_loopw [5] (fun i wr => ∃ k : Nat, k ≤ xs.length ∧ i = .int .i64 (k : Int) ∧ Below w.heap.size w wr) (fun i _ => xs.length - (intOf i).toNat)
  case atStart => exact ⟨0, by omega, rfl, Below.refl _ _⟩
  case round =>
    obtain ⟨wR, rfl⟩ : ∃ W, W = wr := ⟨wr, rfl⟩
    obtain ⟨k, hk, rfl, hbr⟩ := hrel
    have HBR := Lib.hid hbr
    clear hbr
    by_cases hlt : k < xs.length
    · have hki : (k : Int) < (xs.length : Int) := by omega
      have hkb : (k : Int) ≤ 65536 := by omega
      by_cases hlt2 : k < ys.length
      · have hki2 : (k : Int) < (ys.length : Int) := by omega
        obtain ⟨b, off, x, rfl, hbb, hxx, hc0⟩ := (hx.below keeps_int HBR.out).int hlt
        obtain ⟨b', off', y, rfl, hbb', hyy, hd0⟩ := (hy.below keeps_int HBR.out).int hlt2
        by_cases he : x = y
        · subst he
          go_upto_region 4 with fail
          go_quiet (fail)
          go_wp2_with fail
          go_roundw
          case rel => exact ⟨k + 1, by omega, by go_num, below_drewN HBR.out _⟩
          case measure => simp [intOf]; omega
        · go_upto_region 4 with fail
          go_quiet (fail)
          go_upto_region 5 with fail
          go_quiet (fail)
          go_wp2_with fail
          go_ret
          exact ⟨⟨_, rfl⟩, below_drewN (below_drewN HBR.out _) _⟩
      · have hki2 : ¬ (k : Int) < (ys.length : Int) := by omega
        go_wp2_with fail
        go_ret
        exact ⟨⟨_, rfl⟩, HBR.out⟩
    · have hki : ¬ (k : Int) < (xs.length : Int) := by omega
      go_wp2_with fail
      go_ret
      exact ⟨⟨_, rfl⟩, HBR.out⟩
set_option maxRecDepth 100000 in
set_option maxHeartbeats 8000000 in
theorem rdead_any (s : Sc) (A : Option Addr) (c k : Nat) (w : World) (hs : ScIn w s A c) (hok : ScOK s) (hk : k < s.rs.length) :
    Calls Tryz.prog 70 #[.agg #[.int .i64 s.n, .int .u8 s.acc, .slice A s.rs.length c], .int .i64 (k : Int)] w fun e w' => IsBool e ∧ Below w.heap.size w w' := by
  obtain ⟨w1, hw1⟩ : ∃ w1, w.alloc (.cells #[.int .i64 s.n, .int .u8 s.acc, .slice A s.rs.length c] 29) = w1 := ⟨_, rfl⟩
  have hb1 : Below w.heap.size w w1 := by rw [← hw1]; exact nw _ (Below.refl _ _)
  have hB : Blk w1 w.heap.size 29 #[.int .i64 s.n, .int .u8 s.acc, .slice A s.rs.length c] := by rw [← hw1]; exact Blk.new _ _ _
  have HW1 := Lib.hid hw1
  have HB1 := Lib.hid hb1
  have HCE : Hid (∀ W, Below w1.heap.size w1 W → W.cell? ⟨w.heap.size, 0, none⟩ = some (.int .i64 s.n) ∧ W.cell? ⟨w.heap.size, 1, none⟩ = some (.int .u8 s.acc) ∧ W.cell? ⟨w.heap.size, 2, none⟩ = some (.slice A s.rs.length c) ∧ w.heap.size < W.heap.size) := fun W hW => by
    have e1 := hB.below hW hB.lt
    exact ⟨by rw [e1.cell]; rfl, by rw [e1.cell]; rfl, by rw [e1.cell]; rfl, e1.lt⟩
  obtain ⟨b0, b1, b2, bl⟩ := HCE.out _ (Below.refl _ _)
  clear hw1 hb1 hB
  have HS := Lib.hid hs
  have hl := hs.len
  have hn := hok.1
  have HOK := Lib.hid hok
  obtain ⟨N, hN⟩ : ∃ N : Nat, s.n.toNat = N := ⟨_, rfl⟩
  have hNI : s.n = (N : Int) := by omega
  have HN := Lib.hid hNI
  have HRE : Hid (∀ (W : World), Below w1.heap.size w1 W → Calls Tryz.prog 73 #[.agg #[.int .i64 s.n, .int .u8 s.acc, .slice A s.rs.length c], .int .i64 0] W fun e w' => (∃ g, e = .returned (.slice (some ⟨g, 0, none⟩) N N) ∧ W.heap.size ≤ g ∧ BB w' g N (cloN s.edges (fun k => decide (k = 0)) N)) ∧ Below W.heap.size W w') := fun W hW => by
    have := rreached_any s A c 0 W (HS.out.below (bthen HB1.out hW)) HOK.out ⟨by omega, by omega⟩
    rwa [hN] at this
  have HLI : Hid (∀ (W : World), Below w1.heap.size w1 W → Calls Tryz.prog 52 #[.agg #[.int .i64 s.n, .int .u8 s.acc, .slice A s.rs.length c]] W (IsLvR s N W)) := fun W hW => by
    have := rlive_any s A c W (HS.out.below (bthen HB1.out hW)) HOK.out
    rwa [hN] at this
  obtain ⟨b, off, x, rfl, hbb, hxx, d0, d1, d2, d3, d4⟩ := ((hs.below HB1.out).sl).ru hk
  have hru := hok.2.2.2.1 x (List.mem_of_getElem? hxx)
  have hki : (k : Int) < (s.rs.length : Int) := by omega
  have hk0 : (0 : Int) ≤ (k : Int) := by omega
  have hf0 : 0 ≤ x.fr := by have := hru.1; omega
  have hf1 : x.fr < (N : Int) := by have := hru.1; omega
  have ht0 : 0 ≤ x.to := by have := hru.1; omega
  have ht1 : x.to < (N : Int) := by have := hru.1; omega
  have hfN : x.fr.toNat < N := by omega
  have htN : x.to.toNat < N := by omega
  clear hxx hru hs hok hNI hN
  have bb := Nat.lt_of_lt_of_le hbb (Nat.le_refl _)
  go_enter Tryz.func70, Tryz.ntmps70
  go_upto_region 1 with fail
  rw [HW1.out]
  cases hrr : cloN s.edges (fun k => decide (k = 0)) N x.fr with
  | true =>
    refine ordB_below (.quiet 0 (.quiet 2 (.quiet 3 (.quiet 4 (.quiet 5 (.quiet 6 (.quiet 7 (.only 1 (.quiet 8 (.only 9 (.quiet 10 (.quiet 11 (.quiet 12 (.quiet 14 (.quiet 15 (.quiet 16 (.quiet 17 (.quiet 18 (.quiet 19 (.only 13 (.quiet 20 (.only 21 (.quiet 22 (.quiet 23 (.quiet 24 .done))))))))))))))))))))))))) (by kernel_rfl) (by kernel_rfl) (by kernel_rfl) (fun _ _ _ _ _ h => h) ?_
    intro Wa hWa
    iterate 7 (first
      | (refine ordB_skip rfl rfl ?_; simp only [Act.put, List.setIfInBounds_toArray, List.set_cons_zero, List.set_cons_succ])
      | (refine ordB_take (v := ?_) rfl rfl ?_ ?_
         rotate_left 1
         focus (intro W hW; obtain ⟨hcW, hfW⟩ := bcell hW; (go_simp <;> with_reducible rfl))
         simp only [Act.put, List.setIfInBounds_toArray, List.set_cons_zero, List.set_cons_succ]))
    refine ordB_only (opB_call rfl rfl (fun K hK => ?_))
    go_simp
    go_at_call 73
    refine (HRE.out Wa hWa).mono ?_
    rintro e Wa_1 ⟨⟨g1, rfl, hg1, hB1⟩, hxa⟩
    refine hK.out _ _ (hWa.trans (hxa.mono hWa.size)) (fun hWa_1 => ?_)
    iterate 1 (first
      | (refine ordB_skip rfl rfl ?_; simp only [Act.put, List.setIfInBounds_toArray, List.set_cons_zero, List.set_cons_succ])
      | (refine ordB_take (v := ?_) rfl rfl ?_ ?_
         rotate_left 1
         focus (intro W hW; obtain ⟨hcW, hfW⟩ := bcell hW; (go_simp <;> with_reducible rfl))
         simp only [Act.put, List.setIfInBounds_toArray, List.set_cons_zero, List.set_cons_succ]))
    refine ordB_only (opB_call rfl rfl (fun K hK => ?_))
    have r0 := hB1.cell hfN
    rw [Int.toNat_of_nonneg hf0, hrr] at r0
    have rl := hB1.lt
    go_simp
    refine hK.out _ _ hWa_1 (fun hWa_1_2 => ?_)
    clear hK K
    obtain ⟨Wa_1_2, rfl⟩ : ∃ V, V = Wa_1 := ⟨_, rfl⟩
    clear r0 rl
    iterate 9 (first
      | (refine ordB_skip rfl rfl ?_; simp only [Act.put, List.setIfInBounds_toArray, List.set_cons_zero, List.set_cons_succ])
      | (refine ordB_take (v := ?_) rfl rfl ?_ ?_
         rotate_left 1
         focus (intro W hW; obtain ⟨hcW, hfW⟩ := bcell hW; (go_simp <;> with_reducible rfl))
         simp only [Act.put, List.setIfInBounds_toArray, List.set_cons_zero, List.set_cons_succ]))
    refine ordB_only (opB_call rfl rfl (fun K hK => ?_))
    go_simp
    go_at_call 52
    refine (HLI.out Wa_1_2 hWa_1_2).mono ?_
    rintro e Wa_1_2_3 ⟨⟨g2, f2, rfl, hg2, hB2, hf2⟩, hxb⟩
    refine hK.out _ _ (hWa_1_2.trans (hxb.mono hWa_1_2.size)) (fun hWa_1_2_3 => ?_)
    iterate 1 (first
      | (refine ordB_skip rfl rfl ?_; simp only [Act.put, List.setIfInBounds_toArray, List.set_cons_zero, List.set_cons_succ])
      | (refine ordB_take (v := ?_) rfl rfl ?_ ?_
         rotate_left 1
         focus (intro W hW; obtain ⟨hcW, hfW⟩ := bcell hW; (go_simp <;> with_reducible rfl))
         simp only [Act.put, List.setIfInBounds_toArray, List.set_cons_zero, List.set_cons_succ]))
    refine ordB_only (opB_call rfl rfl (fun K hK => ?_))
    have r0 := hB2.cell htN
    have rl := hB2.lt
    go_simp
    refine hK.out _ _ hWa_1_2_3 (fun hWa_1_2_3_4 => ?_)
    clear hK K
    obtain ⟨Wa_1_2_3_4, rfl⟩ : ∃ V, V = Wa_1_2_3 := ⟨_, rfl⟩
    clear r0 rl
    iterate 3 (first
      | (refine ordB_skip rfl rfl ?_; simp only [Act.put, List.setIfInBounds_toArray, List.set_cons_zero, List.set_cons_succ])
      | (refine ordB_take (v := ?_) rfl rfl ?_ ?_
         rotate_left 1
         focus (intro W hW; obtain ⟨hcW, hfW⟩ := bcell hW; (go_simp <;> with_reducible rfl))
         simp only [Act.put, List.setIfInBounds_toArray, List.set_cons_zero, List.set_cons_succ]))
    refine ordB_nil ?_
    have hbE := hWa_1_2_3_4
    clear hWa_1_2_3_4
    go_wp2_with fail
    go_ret
    exact ⟨⟨_, rfl⟩, bthen HB1.out hbE⟩
  | false =>
    refine ordB_below (.quiet 0 (.quiet 2 (.quiet 3 (.quiet 4 (.quiet 5 (.quiet 6 (.quiet 7 (.only 1 (.quiet 8 (.only 9 (.quiet 10 (.quiet 11 (.quiet 12 (.quiet 14 (.quiet 15 (.quiet 16 (.quiet 17 (.quiet 18 (.quiet 19 (.only 13 (.quiet 20 (.only 21 (.quiet 22 (.quiet 23 (.quiet 24 .done))))))))))))))))))))))))) (by kernel_rfl) (by kernel_rfl) (by kernel_rfl) (fun _ _ _ _ _ h => h) ?_
    intro Wa hWa
    iterate 7 (first
      | (refine ordB_skip rfl rfl ?_; simp only [Act.put, List.setIfInBounds_toArray, List.set_cons_zero, List.set_cons_succ])
      | (refine ordB_take (v := ?_) rfl rfl ?_ ?_
         rotate_left 1
         focus (intro W hW; obtain ⟨hcW, hfW⟩ := bcell hW; (go_simp <;> with_reducible rfl))
         simp only [Act.put, List.setIfInBounds_toArray, List.set_cons_zero, List.set_cons_succ]))
    refine ordB_only (opB_call rfl rfl (fun K hK => ?_))
    go_simp
    go_at_call 73
    refine (HRE.out Wa hWa).mono ?_
    rintro e Wa_1 ⟨⟨g1, rfl, hg1, hB1⟩, hxa⟩
    refine hK.out _ _ (hWa.trans (hxa.mono hWa.size)) (fun hWa_1 => ?_)
    iterate 1 (first
      | (refine ordB_skip rfl rfl ?_; simp only [Act.put, List.setIfInBounds_toArray, List.set_cons_zero, List.set_cons_succ])
      | (refine ordB_take (v := ?_) rfl rfl ?_ ?_
         rotate_left 1
         focus (intro W hW; obtain ⟨hcW, hfW⟩ := bcell hW; (go_simp <;> with_reducible rfl))
         simp only [Act.put, List.setIfInBounds_toArray, List.set_cons_zero, List.set_cons_succ]))
    refine ordB_only (opB_call rfl rfl (fun K hK => ?_))
    have r0 := hB1.cell hfN
    rw [Int.toNat_of_nonneg hf0, hrr] at r0
    have rl := hB1.lt
    go_simp
    refine hK.out _ _ hWa_1 (fun hWa_1_2 => ?_)
    clear hK K
    obtain ⟨Wa_1_2, rfl⟩ : ∃ V, V = Wa_1 := ⟨_, rfl⟩
    clear r0 rl
    iterate 9 (first
      | (refine ordB_skip rfl rfl ?_; simp only [Act.put, List.setIfInBounds_toArray, List.set_cons_zero, List.set_cons_succ])
      | (refine ordB_take (v := ?_) rfl rfl ?_ ?_
         rotate_left 1
         focus (intro W hW; obtain ⟨hcW, hfW⟩ := bcell hW; (go_simp <;> with_reducible rfl))
         simp only [Act.put, List.setIfInBounds_toArray, List.set_cons_zero, List.set_cons_succ]))
    refine ordB_only (opB_cskip rfl rfl hWa_1_2 ?_)
    simp only [Act.put, List.setIfInBounds_toArray, List.set_cons_zero, List.set_cons_succ]
    iterate 1 (first
      | (refine ordB_skip rfl rfl ?_; simp only [Act.put, List.setIfInBounds_toArray, List.set_cons_zero, List.set_cons_succ])
      | (refine ordB_take (v := ?_) rfl rfl ?_ ?_
         rotate_left 1
         focus (intro W hW; obtain ⟨hcW, hfW⟩ := bcell hW; (go_simp <;> with_reducible rfl))
         simp only [Act.put, List.setIfInBounds_toArray, List.set_cons_zero, List.set_cons_succ]))
    refine ordB_only (opB_cskip rfl rfl hWa_1_2 ?_)
    simp only [Act.put, List.setIfInBounds_toArray, List.set_cons_zero, List.set_cons_succ]
    iterate 3 (first
      | (refine ordB_skip rfl rfl ?_; simp only [Act.put, List.setIfInBounds_toArray, List.set_cons_zero, List.set_cons_succ])
      | (refine ordB_take (v := ?_) rfl rfl ?_ ?_
         rotate_left 1
         focus (intro W hW; obtain ⟨hcW, hfW⟩ := bcell hW; (go_simp <;> with_reducible rfl))
         simp only [Act.put, List.setIfInBounds_toArray, List.set_cons_zero, List.set_cons_succ]))
    refine ordB_nil ?_
    have hbE := hWa_1_2
    clear hWa_1_2
    go_wp2_with fail
    go_ret
    exact ⟨⟨_, rfl⟩, bthen HB1.out hbE⟩
end Go.Proofs.YtkjfdjcagfkdhaaGreat
