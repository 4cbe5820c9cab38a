/-
  OuMadeW, OuOrdP, OuStuck, joined. No conditions.
-/
import Derived.Test.YtfpnhgahkjglgaaGreatQ31
import Derived.Test.YtfpnhgahkjglgaaGreatQ19
import Derived.Test.YtfpnhgahkjglgaaGreatQ32
import Derived.Test.YtfpnhgahkjglgaaGreatQ08
import Derived.Test.YtfpnhgahkjglgaaGreatQ22
import Derived.Deep.DeepCutAuto
import Derived.Test.YtfpnhgahkjglgaaGreatQ28
import Derived.Test.YtfpnhgahkjglgaaGreatQ21
import Derived.Test.YtfpnhgahkjglgaaGreatQ25
import Derived.Test.YtfpnhgahkjglgaaGreatQ24
/-
  The walk of layer 05: the schemes that the laws draw.
-/
namespace Go.Proofs.YtfpnhgahkjglgaaGreat
open Go Go.RowKit

/-- A scheme that Base answers. -/
def IsBase (w : World) (e : Ending) (w' : World) : Prop := ∃ (m : Nat) (rs : List Ru) (g : Nat), e = .returned (.agg #[.int .i64 (m : Int), .int .u8 1, .slice (some ⟨g, 0, none⟩) rs.length rs.length]) ∧
  (1 ≤ m ∧ m ≤ 2) ∧ (3 ≤ rs.length ∧ rs.length ≤ 5) ∧ (ScOK ⟨(m : Int), 1, rs⟩ ∧ ∀ r ∈ rs, abcB r.inp = true) ∧ SlR 5 RRu w' (some ⟨g, 0, none⟩) rs ∧ w.heap.size ≤ g ∧ Below w.heap.size w w'
theorem base_abc (k : Nat) : ∀ r ∈ (baseS k).rs, abcB r.inp = true := by
  unfold baseS
  split <;> decide +kernel
theorem base_any (q : Int) (w : World) (h0 : 0 ≤ q ∧ q ≤ 255) : Calls Tryz.prog 23 #[.int .u8 q] w (IsBase w) := by
  have h6 : q % 6 = 0 ∨ q % 6 = 1 ∨ q % 6 = 2 ∨ q % 6 = 3 ∨ q % 6 = 4 ∨ q % 6 = 5 := by omega
  rcases h6 with h | h | h | h | h | h
  · refine (base0_any q w h h0).mono ?_
    rintro e w' ⟨g, rfl, h1, h2, h3⟩
    exact ⟨1, (baseS 0).rs, g, rfl, by decide, by decide, ⟨(base_ok 0).1, base_abc 0⟩, h1.sl, h2, h3⟩
  · refine (base1_any q w h h0).mono ?_
    rintro e w' ⟨g, rfl, h1, h2, h3⟩
    exact ⟨1, (baseS 1).rs, g, rfl, by decide, by decide, ⟨(base_ok 1).1, base_abc 1⟩, h1.sl, h2, h3⟩
  · refine (base2_any q w h h0).mono ?_
    rintro e w' ⟨g, rfl, h1, h2, h3⟩
    exact ⟨2, (baseS 2).rs, g, rfl, by decide, by decide, ⟨(base_ok 2).1, base_abc 2⟩, h1.sl, h2, h3⟩
  · refine (base3_any q w h h0).mono ?_
    rintro e w' ⟨g, rfl, h1, h2, h3⟩
    exact ⟨1, (baseS 3).rs, g, rfl, by decide, by decide, ⟨(base_ok 3).1, base_abc 3⟩, h1.sl, h2, h3⟩
  · refine (base4_any q w h h0).mono ?_
    rintro e w' ⟨g, rfl, h1, h2, h3⟩
    exact ⟨1, (baseS 4).rs, g, rfl, by decide, by decide, ⟨(base_ok 4).1, base_abc 4⟩, h1.sl, h2, h3⟩
  · refine (base5_any q w h h0).mono ?_
    rintro e w' ⟨g, rfl, h1, h2, h3⟩
    exact ⟨1, (baseS 5).rs, g, rfl, by decide, by decide, ⟨(base_ok 5).1, base_abc 5⟩, h1.sl, h2, h3⟩
/-- A scheme that Made answers. -/
def IsMade (w : World) (e : Ending) (w' : World) : Prop := ∃ (m : Nat) (rs : List Ru) (A : Option Addr) (c : Nat), e = .returned (.agg #[.int .i64 (m : Int), .int .u8 1, .slice A rs.length c]) ∧
  (1 ≤ m ∧ m ≤ 2) ∧ rs.length ≤ 9 ∧ ScOK ⟨(m : Int), 1, rs⟩ ∧ ScIn w' ⟨(m : Int), 1, rs⟩ A c ∧ Below w.heap.size w w'
/-- A scheme that Made answers, and its letters. -/
def IsMadeA (w : World) (e : Ending) (w' : World) : Prop := ∃ (m : Nat) (rs : List Ru) (A : Option Addr) (c : Nat), e = .returned (.agg #[.int .i64 (m : Int), .int .u8 1, .slice A rs.length c]) ∧
  (1 ≤ m ∧ m ≤ 2) ∧ rs.length ≤ 9 ∧ ScOK ⟨(m : Int), 1, rs⟩ ∧ (∀ r ∈ rs, abcB r.inp = true) ∧ ScIn w' ⟨(m : Int), 1, rs⟩ A c ∧ Below w.heap.size w w'
theorem IsMadeA.less {w w' : World} {e : Ending} (h : IsMadeA w e w') : IsMade w e w' := by
  obtain ⟨m, rs, A, c, h1, h2, h3, h4, _, h5, h6⟩ := h
  exact ⟨m, rs, A, c, h1, h2, h3, h4, h5, h6⟩
theorem scIn_of {w : World} {m : Nat} {rs : List Ru} {A : Option Addr} {c : Nat} (hok : ScOK ⟨(m : Int), 1, rs⟩) (hs : SlR 5 RRu w A rs) (hc : rs.length ≤ c ∧ c ≤ maxLen) (hl : rs.length ≤ 10) : ScIn w ⟨(m : Int), 1, rs⟩ A c :=
  ⟨hs, by show rs.length ≤ 65536; omega, fun r hr => ⟨Nat.le_trans (hok.2.2.2.1 r hr).2.1.1 (by decide), Nat.le_trans (hok.2.2.2.1 r hr).2.2.1.1 (by decide)⟩, ⟨by show (0 : Int) ≤ 1; decide, by show (1 : Int) ≤ 255; decide⟩, hc⟩
set_option maxRecDepth 100000 in
set_option maxHeartbeats 8000000 in
theorem made_any5A (A : Option Addr) (xs : List Rw) (c : Nat) (qb qd : Int) (w : World) (hx : SlR 5 RRw w A xs) (hl0 : xs.length ≤ maxLen) (hqb : 0 ≤ qb ∧ qb ≤ 255) (hqd : 0 ≤ qd ∧ qd ≤ 255) :
    Calls Tryz.prog 8 #[.agg #[.int .u8 qb, .int .u8 qd, .slice A xs.length c]] w (IsMadeA w) := by
  have hl := hl0
  unfold maxLen at hl
  obtain ⟨i0, hinf, hz0, hz1, hz2⟩ := info_partsR rule_info
  obtain ⟨w2, hw2⟩ : ∃ w2, (w.alloc (.cells #[.int .u8 qb, .int .u8 qd, .slice A xs.length c] 24)).alloc (.cells #[.int .i64 0, .int .u8 0, .slice none 0 0] 30) = w2 := ⟨_, rfl⟩
  obtain ⟨b1, hb1e⟩ : ∃ b, w.heap.size = b := ⟨_, rfl⟩
  have hb2 : Below w.heap.size w w2 := by rw [← hw2]; exact nw _ (nw _ (Below.refl _ _))
  have hB1 : Blk w2 b1 24 #[.int .u8 qb, .int .u8 qd, .slice A xs.length c] := by rw [← hw2, ← hb1e]; exact (Blk.new _ _ _).alloc _
  have hB2 : Blk w2 (b1 + 1) 30 #[.int .i64 0, .int .u8 0, .slice none 0 0] := by rw [← hw2]; exact Blk.new_ (by simp; omega)
  obtain ⟨lo, hlo⟩ : ∃ x, w2.heap.size = x := ⟨_, rfl⟩
  have hwb1 : w.heap.size ≤ b1 + 1 := by omega
  have hlo1 : b1 + 1 < lo := by rw [← hlo]; exact hB2.lt
  have HW2 := Lib.hid hw2
  have HB1 := Lib.hid hB1
  have HB2 := Lib.hid hB2
  have HBB := Lib.hid hb2
  have HLO := Lib.hid hlo
  have HX := Lib.hid hx
  have HQB := Lib.hid hqb
  have x0 := hB1.cell 0
  have xl := hB1.lt
  simp at x0
  clear hw2 hb2 hB1 hB2 hlo hx hqb
  go_enter Tryz.func8, Tryz.ntmps8
  go_upto_region 1 with fail
  rw [HW2.out]
  try rw [hb1e]
  clear HW2
  go_upto_region 2 with (go_at_call 23; go_loud (refine (base_any qb _ HQB.out).mono ?_; rintro e w5 ⟨m, rs0, g, rfl, hm, hl35, ⟨hok0, habc0⟩, hsl0, hg5, hb5⟩))
  obtain ⟨b3, hb3⟩ : ∃ x, w5.heap.size = x := ⟨_, rfl⟩
  generalize hw6 : w5.alloc (.cells _ 30) = w6
  have hB3 : Blk w6 b3 30 #[.int .i64 (m : Int), .int .u8 1, .slice (some ⟨g, 0, none⟩) rs0.length rs0.length] := by rw [← hw6]; exact Blk.new_ hb3.symm
  have hb6 : Below w2.heap.size w2 w6 := by rw [← hw6]; exact hb5.alloc hb5.size _
  have hsl6 : SlR 5 RRu w6 (some ⟨g, 0, none⟩) rs0 := by rw [← hw6]; exact hsl0.below keeps_ru (nw _ (Below.refl _ _))
  have hg3 : g < b3 := by
    obtain ⟨g', o', he, hlt, _⟩ := hsl0 (by intro h; rw [h] at hl35; simp at hl35)
    simp at he
    omega
  rw [HLO.out] at hg5
  have hlo3 : lo ≤ b3 := by omega
  rw [hb3]
  clear hw6 hb3 hb5 hsl0
  have hm1 := hm.1
  have hm2 := hm.2
  have HM := Lib.hid hm
  have HOK0 := Lib.hid hok0
  have HAB0 := Lib.hid habc0
  have HSL6 := Lib.hid hsl6
  have HB6 := Lib.hid hb6
  have HB3 := Lib.hid hB3
  have HB1 := Lib.hid (HB1.out.below hb6 HB1.out.lt)
  have HB2 := Lib.hid (HB2.out.below hb6 HB2.out.lt)
  have x1 := HB1.out.cell 1
  have x2 := HB1.out.cell 2
  have xl := HB1.out.lt
  have s2 := hB3.cell 2
  have sf2 := hB3.frozen 2
  have sl := hB3.lt
  simp at x1 x2 s2
  clear hm hok0 habc0 hsl6 hb6 hB3 x0
  go_cut [] (fun wx => ∃ (v : Value) (rs : List Ru), RowG wx lo b3 61 5 v rs.length (rs.flatMap encRu5) ∧ Hid (ScOK ⟨(m : Int), 1, rs⟩ ∧ rs.length ≤ 5 ∧ ∀ r ∈ rs, abcB r.inp = true) ∧ Blk wx b3 30 #[.int .i64 (m : Int), .int .u8 1, v] ∧ Below b3 w6 wx)
  case first =>
    have hd2 : qd % 2 = 0 ∨ qd % 2 = 1 := by omega
    have htm : qd.tmod 2 = qd % 2 := Int.tmod_eq_emod_of_nonneg hqd.1
    have hcl : ∀ j u, (rs0.flatMap encRu5)[j]? = some u → w6.cell? ⟨g, 0 + j, none⟩ = some u := fun j u hj => by have := slr_cells_ (enc := encRu5) HSL6.out (by decide) (fun _ _ _ h => h) j u hj; rw [Addr.add_lit] at this; exact this
    have HCL := Lib.hid hcl
    clear hcl
    rcases hd2 with hd | hd
    · rw [hd] at htm
      go_wp2_with fail
      go_meet
      case rel => exact ⟨.slice (some ⟨g, 0, none⟩) rs0.length rs0.length, rs0, RowG.set (.inr ⟨g, 0, rfl, ⟨hg5, hg3⟩, flatMap_len_ (s := 5) (enc := encRu5) (fun _ => rfl) rs0, HCL.out⟩) 2 _, ⟨HOK0.out, hl35.2, HAB0.out⟩, HB3.out.set_ 2 _, (Below.refl _ _).setCell (p := ⟨b3, 2, none⟩) (Nat.le_refl _) _⟩
    · rw [hd] at htm
      have h1l : (1 : Int) ≤ (rs0.length : Int) := by omega
      have HRD : Hid (SlR 5 RRu w6 (some ⟨g, 5, none⟩) (rs0.drop 1)) := by
        intro hne
        obtain ⟨g', o', he, hlt, hc⟩ := HSL6.out (by intro h; rw [h] at hl35; simp at hl35)
        injection he with he
        injection he with he1 he2
        subst he1 he2
        refine ⟨g, 5, rfl, hlt, fun k x hk => ?_⟩
        rw [List.getElem?_drop] at hk
        obtain ⟨vs, h1, h2, h3⟩ := hc (1 + k) x hk
        refine ⟨vs, h1, h2, fun j v hj => ?_⟩
        have := h3 j v hj
        rw [show 0 + (1 + k) * 5 + j = 5 + k * 5 + j by omega] at this
        exact this
      have hdl : (rs0.drop 1).length = rs0.length - 1 := List.length_drop
      go_wp2_with fail
      go_meet
      case rel =>
        refine ⟨.slice (some ⟨g, 5, none⟩) (rs0.length - 1) (rs0.length - 1), rs0.drop 1, ?_, ⟨scOK_drop HOK0.out 1, by rw [hdl]; omega, fun r hr => HAB0.out r (List.mem_of_mem_drop hr)⟩, HB3.out.set_ 2 _, (Below.refl _ _).setCell (p := ⟨b3, 2, none⟩) (Nat.le_refl _) _⟩
        rw [hdl]
        refine RowG.set (.inr ⟨g, 5, rfl, ⟨hg5, hg3⟩, by rw [flatMap_len_ (s := 5) (fun _ => rfl) _, hdl], fun j u hj => ?_⟩) 2 _
        have := slr_cells_ (enc := encRu5) HRD.out (by decide) (fun _ _ _ h => h) j u hj
        rw [Addr.add_lit] at this
        exact this
  case rest =>
    obtain ⟨w7, rfl⟩ : ∃ W, W = wc := ⟨wc, rfl⟩
    obtain ⟨v0, rs1, hG, HOK, hB, hb7⟩ := hcut
    clear s2 sf2 sl x1 x2 xl HSL6 HB3 HOK0 HAB0
    go_wp2_with fail
    go_loopw [4] (fun i wr => ∃ (k : Nat) (v : Value) (rs : List Ru), k ≤ xs.length ∧ k ≤ 4 ∧ i = .int .i64 k ∧ RowG wr lo b3 61 5 v rs.length (rs.flatMap encRu5) ∧ Hid (ScOK ⟨(m : Int), 1, rs⟩ ∧ rs.length ≤ 5 + k ∧ ∀ r ∈ rs, abcB r.inp = true) ∧ Blk wr b3 30 #[.int .i64 (m : Int), .int .u8 1, v] ∧ Below b3 w6 wr) (fun i _ => 4 - (intOf i).toNat)
    case atStart => exact ⟨0, v0, rs1, by omega, by omega, rfl, hG, HOK, hB, hb7⟩
    case round =>
      clear hG HOK hB hb7 v0 rs1
      obtain ⟨k, v, rs, hk, hk4, rfl, hown, HOK, hB, hbr⟩ := hrel
      have hlen9 : rs.length ≤ 9 := by have := HOK.out.2.1; omega
      have hbl := hB.lt
      have hb1r := HB1.out.below hbr (show b1 < b3 by omega)
      have x2 := hb1r.cell 2
      have xl := hb1r.lt
      simp at x2
      have hbw : Below w.heap.size w wr := HBB.out.trans ((HB6.out.mono (by rw [HLO.out]; omega)).trans (hbr.mono (by omega)))
      by_cases hlt : k < xs.length
      · by_cases hlt4 : k < 4
        · obtain ⟨b, off, x, rfl, hbb, hxx, hxok, d0, d1, d2, d3, d4⟩ := (HX.out.below keeps_rw hbw).rw5 hlt
          have hbb2 : b < b1 := by obtain ⟨b', o', e, hb', _⟩ := HX.out (by rintro rfl; simp at hlt); simp only [Option.some.injEq, Addr.mk.injEq, and_true] at e; omega
          have hkl : (k : Int) < (xs.length : Int) := by omega
          have hk4' : (k : Int) < 4 := by omega
          have hvn1 : v.ownBlock ≠ some b1 := hown.ne (.inr (by omega)) hlo3
          have hvnb : v.ownBlock ≠ some b := hown.ne (.inr (by omega)) hlo3
          have hvne : v.ownBlock ≠ some b3 := hown.ne (.inl rfl) hlo3
          have hc0 := hB.cell 0
          have hc2 := hB.cell 2
          simp at hc0 hc2
          have HXX := Lib.hid hxok
          have HOW := Lib.hid hown
          have HB := Lib.hid hB
          have HBr := Lib.hid hbr
          have hb3le : b3 ≤ wr.heap.size := by omega
          clear hxx hxok hown hB hbr hb1r hbw
          go_wp2_with fail
          refine ordV_start (ButR v wr) (fun _ => True) [13] [(0, some false), (1, some false), (2, some false), (3, some false), (4, some false), (5, some false), (6, some false), (7, some false), (8, some false), (9, some true), (10, some true), (11, some true), (12, some false), (13, some true)] (by kernel_rfl) (by kernel_rfl) (by kernel_rfl) (fun _ _ _ _ _ h => h) trivial ?_
          have HD : Below wr.heap.size wr wr.drew := (Below.refl _ _).drew
          obtain ⟨Wd, hWd⟩ : ∃ Wd, wr.drew = Wd := ⟨_, rfl⟩
          rw [hWd] at HD ⊢
          clear hWd
          have HS0 := ButR.of_below (v := v) HD
          iterate 9 (refine ordV_takeS (v := ?_) rfl rfl HS0 ?_ ?_; rotate_left 1; (focus (intro W hW; have hcW := hW.cell; (go_simp <;> (try with_reducible rfl)))); simp only [Act.put, List.setIfInBounds_toArray, List.set_cons_zero, List.set_cons_succ])
          refine ordV_call rfl rfl (fun K hK => ?_)
          go_simp
          go_at_call 24
          refine (made1_any x.A x.B x.a x.b x.c x.d m x.f x.t x.co Wd (HXX.out.below HD).sa (HXX.out.below HD).sb HXX.out.la HXX.out.lb HXX.out.ba HXX.out.bb HXX.out.f HXX.out.t HXX.out.co HM.out).mono ?_
          rintro e W1 ⟨r, rfl, hr, hab1, hb1⟩
          have HD1 : Below wr.heap.size wr W1 := HD.trans (hb1.mono HD.size)
          have HS1 := ButR.of_below (v := v) HD1
          have HRR := Lib.hid hr
          have HAB := Lib.hid hab1
          clear hb1 hr hab1
          refine hK.out _ _ trivial (fun _ _ => HS1) ?_
          clear hK K
          try simp only [Act.put, List.setIfInBounds_toArray, List.set_cons_zero, List.set_cons_succ]
          refine ordV_call rfl rfl (fun K hK => ?_)
          go_simp
          have HD2 := HD1.alloc HD1.size (.cells #[.int .i64 r.fr, .int .i64 r.to, .string r.inp, .string r.out, .int .i64 r.co] 61)
          have HS2 := ButR.of_below (v := v) HD2
          refine hK.out _ _ trivial (fun _ _ => HS2) ?_
          clear hK K
          try simp only [Act.put, List.setIfInBounds_toArray, List.set_cons_zero, List.set_cons_succ]
          refine ordV_call rfl rfl (fun K hK => ?_)
          refine wp_appG _ _ 28 rfl lo b3 61 i0 _ 5 56 Tryz.underlying28 hinf hz0 hz1 hz2 rfl (by decide) v _ _ rfl (HOW.out.below hb3le HD2) ⟨W1.heap.size, 0, none⟩ 1 [.int .i64 r.fr, .int .i64 r.to, .string r.inp, .string r.out, .int .i64 r.co] rfl rfl (news_blk (Blk.new_ (t := 61) (cs := #[.int .i64 r.fr, .int .i64 r.to, .string r.inp, .string r.out, .int .i64 r.co]) rfl)) (fun u hu => by simp at hu; rcases hu with rfl | rfl | rfl | rfl | rfl <;> rfl) (by omega) (by decide) (by have := HD2.size; omega) ?_
          intro v4 w4 hown4 hb4 ha4
          have HS3 := HS2.apps hb4.size ha4
          refine hK.out _ _ trivial (fun _ _ => HS3) ?_
          clear hK K
          have hown5 : w4.ownsRow (b3 + 1) 61 5 v4 (rs.length + 1) ((rs ++ [r]).flatMap encRu5) := by rw [List.flatMap_append]; exact hown4
          obtain ⟨A9, c9, rfl, hc9, hcm9, _⟩ := own_slr (R := RRu) hown5 (fun _ => rfl) (fun _ => rfl) (by simp)
          have hB4 := (HB.out.below HD2 HB.out.lt).apps ha4 hvne
          have s2 := hB4.cell 2
          have sf2 := hB4.frozen 2
          have sl := hB4.lt
          simp at s2
          try simp only [Act.put, List.setIfInBounds_toArray, List.set_cons_zero, List.set_cons_succ]
          iterate 1 (refine ordV_takeS (v := ?_) rfl rfl HS3 ?_ ?_; rotate_left 1; (focus (intro W hW; have hcW := hW.cell; (go_simp <;> (try with_reducible rfl)))); simp only [Act.put, List.setIfInBounds_toArray, List.set_cons_zero, List.set_cons_succ])
          refine ordV_call rfl rfl (fun K hK => ?_)
          go_simp
          refine hK.out _ _ trivial (fun _ h => by cases h) ?_
          clear hK K
          refine ordV_nil ?_
          have hbE := ((HBr.out.trans (HD2.mono (by omega))).trans (hb4.mono (by omega))).setCell (p := ⟨b3, 2, none⟩) (Nat.le_refl _) (.slice A9 (rs.length + 1) c9)
          have hBE := hB4.set_ 2 (.slice A9 (rs.length + 1) c9)
          have hOE := own_set hown5 (a := ⟨b3, 2, none⟩) (fun e => absurd (own_block_le hown5 _ e) (Nat.not_succ_le_self _)) (.slice A9 (rs.length + 1) c9)
          obtain ⟨W9, hW9⟩ : ∃ W, w4.setCell ⟨b3, 2, none⟩ (.slice A9 (rs.length + 1) c9) = W := ⟨_, rfl⟩
          rw [hW9] at hbE hBE hOE ⊢
          clear hW9
          have hE0 := hBE.cell 0
          have hE1 := hBE.cell 1
          have hE2 := hBE.cell 2
          have hEl := hBE.lt
          simp at hE0 hE1 hE2
          obtain ⟨A8, c8, he8, _, _, hsl9⟩ := own_slr (R := RRu) hOE (fun _ => rfl) (fun _ => rfl) (by simp)
          obtain ⟨rfl, rfl⟩ : A9 = A8 ∧ c9 = c8 := by injection he8 with h1 h2 h3; exact ⟨h1, h3⟩
          have hRT : Calls Tryz.prog 25 #[.agg #[.int .i64 (m : Int), .int .u8 1, .slice A9 (rs.length + 1) c9], .int .i64 (rs.length : Int)] W9 fun e w' => e = .returned (.bool (!decide (r ∈ rs))) ∧ Below W9.heap.size W9 w' := by
            have h := rright_any ⟨(m : Int), 1, rs ++ [r]⟩ A9 c9 rs.length r W9 ⟨hsl9, by show (rs ++ [r]).length ≤ 65536; simp; omega, fun x hx => by
              rcases List.mem_append.1 hx with hx | hx
              · exact ⟨Nat.le_trans (HOK.out.1.2.2.2.1 x hx).2.1.1 (by decide), Nat.le_trans (HOK.out.1.2.2.2.1 x hx).2.2.1.1 (by decide)⟩
              · rw [List.mem_singleton.1 hx]; exact ⟨Nat.le_trans HRR.out.2.1.1 (by decide), Nat.le_trans HRR.out.2.2.1.1 (by decide)⟩, ⟨by show (0 : Int) ≤ 1; decide, by show (1 : Int) ≤ 255; decide⟩, ⟨by show (rs ++ [r]).length ≤ c9; simpa using hc9, hcm9⟩⟩ ⟨by show (1 : Int) ≤ (m : Int); omega, by show (m : Int) ≤ 8; omega⟩ (by show (rs ++ [r])[rs.length]? = some r; simp)
            have e1 : (rs ++ [r]).take rs.length = rs := List.take_left
            have e2 : (rs ++ [r]).length = rs.length + 1 := by simp
            simp only [e1, e2, decide_eq_true HRR.out, Bool.and_true] at h
            exact h
          have hE0 := hBE.cell 0
          have hE1 := hBE.cell 1
          have hE2 := hBE.cell 2
          have hEl := hBE.lt
          simp at hE0 hE1 hE2
          have hwl : IntKind.i64.wrap (((rs.length : Int) + 1) - 1) = (rs.length : Int) := by rw [show ((rs.length : Int) + 1) - 1 = (rs.length : Int) by omega]; exact IntWalk.i64_in _ (by omega)
          have hwl2 : IntKind.i64.wrap (rs.length : Int) = (rs.length : Int) := IntWalk.i64_in _ (by omega)
          have HBE := Lib.hid hBE
          have HOE := Lib.hid hOE
          have HbE := Lib.hid hbE
          have hclen : (rs.length : Int) ≤ (c9 : Int) := by omega
          clear hBE hOE hbE he8 hsl9 hown5 hown4 hB4 s2 sf2 sl HS0 HS1 HS2 HS3 ha4 hb4 HD HD1 HD2
          by_cases hmem : r ∈ rs
          · rw [decide_eq_true hmem, Bool.not_true] at hRT
            have HRT := Lib.hid hRT
            clear hRT hmem
            go_wp2_with (go_at_call 25; go_loud (refine HRT.out.mono ?_; rintro e w10 ⟨rfl, hb10⟩; have hBF := HBE.out.below hb10 hEl; have f2 := hBF.cell 2; have ff2 := hBF.frozen 2; have fl := hBF.lt; simp at f2))
            go_roundw
            case rel =>
              have hCT := own_cut (w := w10) (base := b3 + 1) (e := 61) (s := 5) (n := rs.length) (m := 0) (A := A9) (c := c9) (xs := rs.flatMap encRu5) (ys := encRu5 r) (by have := own_below HOE.out hb10; rw [List.flatMap_append] at this; simpa using this) (flatMap_len_ (s := 5) (enc := encRu5) (fun _ => rfl) rs)
              exact ⟨k + 1, .slice A9 rs.length c9, rs, by omega, by omega, by go_num, .inl (own_set hCT (a := ⟨b3, 2, none⟩) (fun e => absurd (own_block_le hCT _ e) (Nat.not_succ_le_self _)) _), ⟨HOK.out.1, by have := HOK.out.2.1; omega, HOK.out.2.2⟩, by simpa using hBF.set_ 2 (.slice A9 rs.length c9), (HbE.out.trans (hb10.mono (by omega))).setCell (p := ⟨b3, 2, none⟩) (Nat.le_refl _) _⟩
            case measure => simp [intOf]; omega
          · rw [decide_eq_false hmem, Bool.not_false] at hRT
            have HRT := Lib.hid hRT
            have HMEM := Lib.hid hmem
            clear hRT hmem
            go_wp2_with (go_at_call 25; go_loud (refine HRT.out.mono ?_; rintro e w10 ⟨rfl, hb10⟩))
            go_roundw
            case rel => exact ⟨k + 1, .slice A9 (rs.length + 1) c9, rs ++ [r], by omega, by omega, by go_num, by have := own_below HOE.out hb10; simpa [RowG] using Or.inl this, ⟨scOK_snoc HOK.out.1 HRR.out HMEM.out (by show rs.length < 64; omega), by have := HOK.out.2.1; simp; omega, fun x hx => by
              rcases List.mem_append.1 hx with hx | hx
              · exact HOK.out.2.2 x hx
              · rw [List.mem_singleton.1 hx]; exact HAB.out⟩, by simpa using HBE.out.below hb10 hEl, HbE.out.trans (hb10.mono (by omega))⟩
            case measure => simp [intOf]; omega
        · have hkl : (k : Int) < (xs.length : Int) := by omega
          have hk4' : ¬ (k : Int) < 4 := by omega
          have hvn2 : v.ownBlock ≠ some (b1 + 1) := hown.ne (.inr (by omega)) hlo3
          have hw3 := ((hown.setN hvn2 0 (.int .i64 (m : Int))).setN hvn2 1 (.int .u8 1)).setN hvn2 2 v
          have hsz3 : b3 ≤ (((wr.setCell ⟨b1 + 1, 0, none⟩ (.int .i64 (m : Int))).setCell ⟨b1 + 1, 1, none⟩ (.int .u8 1)).setCell ⟨b1 + 1, 2, none⟩ v).heap.size := by simp; omega
          obtain ⟨A9, c9, rfl, hc9, hcm9, hsl⟩ := hw3.slr (R := RRu) (fun _ => rfl) (fun _ _ => rfl) (by unfold maxLen; omega) hsz3
          have hR2 := HB2.out.below hbr (show b1 + 1 < b3 by omega)
          have z0 := hR2.cell 0
          have z1 := hR2.cell 1
          have z2 := hR2.cell 2
          have zf0 := hR2.frozen 0
          have zf1 := hR2.frozen 1
          have zf2 := hR2.frozen 2
          have zl := hR2.lt
          have c0 := hB.cell 0
          have c1 := hB.cell 1
          have c2 := hB.cell 2
          simp at z0 z1 z2 c0 c1 c2
          have HR2 := Lib.hid hR2
          have HSLF := Lib.hid hsl
          have HBW := Lib.hid hbw
          clear hB hR2 hown hsl hbw hw3 hsz3 hbr hb1r
          go_wp2_with fail
          (try simp only [Exit.inBlock, Exit.then])
          refine ret_cell (t := 30) (cs := #[.int .i64 (m : Int), .int .u8 1, .slice A9 rs.length c9]) (((HR2.out.set_ 0 (.int .i64 (m : Int))).set_ 1 (.int .u8 1)).set_ 2 (.slice A9 rs.length c9)) rfl rfl Tryz.underlying30 rfl (by kernel_rfl) rfl ?_
          exact ⟨m, rs, A9, c9, rfl, HM.out, hlen9, HOK.out.1, HOK.out.2.2, scIn_of HOK.out.1 HSLF.out ⟨hc9, hcm9⟩ (by omega), ((HBW.out.setCell (p := ⟨b1 + 1, 0, none⟩) hwb1 _).setCell (p := ⟨b1 + 1, 1, none⟩) hwb1 _).setCell (p := ⟨b1 + 1, 2, none⟩) hwb1 _⟩
      · have hkl : ¬ (k : Int) < (xs.length : Int) := by omega
        have hvn2 : v.ownBlock ≠ some (b1 + 1) := hown.ne (.inr (by omega)) hlo3
        have hw3 := ((hown.setN hvn2 0 (.int .i64 (m : Int))).setN hvn2 1 (.int .u8 1)).setN hvn2 2 v
        have hsz3 : b3 ≤ (((wr.setCell ⟨b1 + 1, 0, none⟩ (.int .i64 (m : Int))).setCell ⟨b1 + 1, 1, none⟩ (.int .u8 1)).setCell ⟨b1 + 1, 2, none⟩ v).heap.size := by simp; omega
        obtain ⟨A9, c9, rfl, hc9, hcm9, hsl⟩ := hw3.slr (R := RRu) (fun _ => rfl) (fun _ _ => rfl) (by unfold maxLen; omega) hsz3
        have hR2 := HB2.out.below hbr (show b1 + 1 < b3 by omega)
        have z0 := hR2.cell 0
        have z1 := hR2.cell 1
        have z2 := hR2.cell 2
        have zf0 := hR2.frozen 0
        have zf1 := hR2.frozen 1
        have zf2 := hR2.frozen 2
        have zl := hR2.lt
        have c0 := hB.cell 0
        have c1 := hB.cell 1
        have c2 := hB.cell 2
        simp at z0 z1 z2 c0 c1 c2
        have HR2 := Lib.hid hR2
        have HSLF := Lib.hid hsl
        have HBW := Lib.hid hbw
        clear hB hR2 hown hsl hbw hw3 hsz3 hbr hb1r
        go_wp2_with fail
        (try simp only [Exit.inBlock, Exit.then])
        refine ret_cell (t := 30) (cs := #[.int .i64 (m : Int), .int .u8 1, .slice A9 rs.length c9]) (((HR2.out.set_ 0 (.int .i64 (m : Int))).set_ 1 (.int .u8 1)).set_ 2 (.slice A9 rs.length c9)) rfl rfl Tryz.underlying30 rfl (by kernel_rfl) rfl ?_
        exact ⟨m, rs, A9, c9, rfl, HM.out, hlen9, HOK.out.1, HOK.out.2.2, scIn_of HOK.out.1 HSLF.out ⟨hc9, hcm9⟩ (by omega), ((HBW.out.setCell (p := ⟨b1 + 1, 0, none⟩) hwb1 _).setCell (p := ⟨b1 + 1, 1, none⟩) hwb1 _).setCell (p := ⟨b1 + 1, 2, none⟩) hwb1 _⟩
theorem made_any5 (A : Option Addr) (xs : List Rw) (c : Nat) (qb qd : Int) (w : World) (hx : SlR 5 RRw w A xs) (hl0 : xs.length ≤ maxLen) (hqb : 0 ≤ qb ∧ qb ≤ 255) (hqd : 0 ≤ qd ∧ qd ≤ 255) :
    Calls Tryz.prog 8 #[.agg #[.int .u8 qb, .int .u8 qd, .slice A xs.length c]] w (IsMade w) := (made_any5A A xs c qb qd w hx hl0 hqb hqd).mono fun _ _ h => h.less
end Go.Proofs.YtfpnhgahkjglgaaGreat

/-
  What Best gives for two numbers, and what Cost gives for its texts. Plain laws. No conditions.
-/
namespace Go.Proofs.YtfpnhgahkjglgaaGreat
open Go Go.RowKit

theorem made_flat {m : Nat} {rs : List Ru} (hm : m ≤ 2) : ScOK ⟨(m : Int), 1, rs⟩ → SoundP ⟨(m : Int), 1, rs⟩ → FlatR ⟨(m : Int), 1, rs⟩ := fun h1 h2 =>
  flat_two h2 (by show (m : Int) ≤ 2; omega) (fun r hr => (h1.2.2.2.1 r hr).1)
end Go.Proofs.YtfpnhgahkjglgaaGreat

/-
  The walks of layers 05 and 08: the reference's chain to a mode that is not live.
-/
namespace Go.Proofs.YtfpnhgahkjglgaaGreat
open Go Go.RowKit

theorem WkIn.is_ {W : World} {g n : Nat} {f : Int → Bool} {ch : List Chn} (h : WkIn W g f ch n) (b : Bool) (k : Nat) (hk : k < 8) (h0 : n = 0) (hall : ∀ x ∈ ch, x.L = []) (hb : b = true → True) : WkIn (W.setCell ⟨g, k, none⟩ (.bool b)) g (fun x => if x = (k : Int) then b else f x) ch 0 := by
  have e : (wkC f ch).set k (.bool b) = wkC (fun x => if x = (k : Int) then b else f x) ch := by
    refine List.ext_getElem? fun j => ?_
    rw [List.getElem?_set]
    by_cases e : k = j
    · subst e
      rw [if_pos rfl, wkC_is hk, if_pos (by unfold wkC; simp; omega)]
      simp
    · rw [if_neg e]
      by_cases hj : j < 8
      · rw [wkC_is hj, wkC_is hj]
        have : ¬ (j : Int) = (k : Int) := by omega
        simp [this]
      · obtain ⟨i, rfl⟩ : ∃ i, j = 8 + i := ⟨j - 8, by omega⟩
        rw [wkC_l, wkC_l]
  have h1 : Blk (W.setCell ⟨g, k, none⟩ (.bool b)) g 203 (wkC (fun x => if x = (k : Int) then b else f x) ch).toArray := by
    have := h.blk.set_ k (.bool b)
    rw [← e]
    simpa using this
  refine ⟨h1, h.len, fun j y hy => ?_⟩
  have hnil := hall y (List.mem_of_getElem? hy)
  obtain ⟨h3, _, _⟩ := h.ok j y hy
  rw [hnil]
  refine ⟨⟨SlT.nil, by have := h3.2.1; simp, h3.2.2⟩, Nat.le_refl _, fun _ => rfl⟩
/-- A row of modes' chains stored whole. -/
theorem WkIn.row {W : World} {g n m : Nat} {f f' : Int → Bool} {ch ch' : List Chn} (h : WkIn W g f ch m) (hl : ch'.length = 8)
    (hok : ∀ (k : Nat) (x : Chn), ch'[k]? = some x → (SlT W x.A x.L ∧ x.L.length ≤ x.c ∧ x.c ≤ maxLen) ∧ x.L.length ≤ n ∧ (f' (k : Int) = true → x.L.length = n)) : WkIn (W.setRow g (wkC f' ch').toArray) g f' ch' n :=
  ⟨setRow_heap _ _ _ _ _ _ h.blk, hl, fun k x hx => ⟨⟨(hok k x hx).1.1.row_ h.blk (by decide) _, (hok k x hx).1.2⟩, (hok k x hx).2⟩⟩
theorem stepB_chP {s : Sc} {p : Ru → Bool} {f : Int → Bool} {a : Int} {n : Nat} {G : Prop} (hf : ∀ x, f x = true ↔ G ∧ Ch s p a n x) (x : Int) : stepB s p f s.rs.length x = true ↔ G ∧ Ch s p a (n + 1) x := by
  rw [stepB_iff _ (Nat.le_refl _), List.take_length]
  constructor
  · rintro ⟨r, h1, h2, h3, rfl⟩
    have h4 := (hf _).1 h2
    exact ⟨h4.1, .succ h4.2 h1 h3 rfl⟩
  · rintro ⟨hG, h⟩
    cases h with
    | succ h1 h2 h3 h4 => exact ⟨_, h2, by rw [h4]; exact (hf _).2 ⟨hG, h1⟩, h3, rfl⟩
/-- What a chain's search gives: how long the chain is tells whether there is one. -/
def IsCh (p : Prop) (w : World) (e : Ending) (w' : World) : Prop := (∃ C l c, e = .returned (.slice C l c) ∧ (0 < l ↔ p)) ∧ Below w.heap.size w w'
/-- What is put, and what is not. -/
def IsPutB (p r : Prop) (v : Value) : Prop := ∃ bb : Bool, v = .bool bb ∧ (bb = true → p) ∧ (bb = false → r)
theorem IsPutB.yes {p r : Prop} (h : p) : IsPutB p r (.bool true) := ⟨true, rfl, fun _ => h, fun h => (by cases h)⟩
theorem IsPutB.no {p r : Prop} (h : r) : IsPutB p r (.bool false) := ⟨false, rfl, fun h => (by cases h), fun _ => h⟩
theorem IsPutB.any {p r : Prop} {b : Bool} (h : p) (h2 : r) : IsPutB p r (.bool b) := ⟨b, rfl, fun _ => h, fun _ => h2⟩
/-- The best chain so far: none, or one of a length. -/
def BestC (n : Nat) (l : Nat) (P : Nat → Prop) (k : Nat) : Prop := (l = 0 ∧ ∀ x, x < k → ¬ P x) ∨ (l = n ∧ ∃ x, x < k ∧ P x)
theorem BestC.put {n k : Nat} {P : Nat → Prop} (hp : P k) : BestC n n P (k + 1) := .inr ⟨rfl, k, by omega, hp⟩
theorem BestC.keep {n l k : Nat} {P : Nat → Prop} (h : BestC n l P k) (h2 : ¬ P k ∨ 0 < l) : BestC n l P (k + 1) := by
  rcases h with ⟨h0, ha⟩ | ⟨h0, x, hx, hp⟩
  · refine .inl ⟨h0, fun x hx => ?_⟩
    by_cases e : x = k
    · subst e
      exact h2.resolve_right (by omega)
    · exact ha x (by omega)
  · exact .inr ⟨h0, x, by omega, hp⟩
theorem ask_true : askP false = fun _ => true := by funext r; rfl
theorem ch_start {s : Sc} {p : Ru → Bool} {a x : Int} : (if x = a then true else false) = true ↔ Ch s p a 0 x := by
  constructor
  · intro h
    split at h
    · rename_i e; subst e; exact .zero
    · cases h
  · intro h
    cases h
    rw [if_pos rfl]
set_option maxRecDepth 100000 in
set_option maxHeartbeats 16000000 in
theorem rstuck_any (s : Sc) (A : Option Addr) (c : Nat) (w : World) (hs : ScIn w s A c) (hok : ScOK s) :
    Calls Tryz.prog 103 #[.agg #[.int .i64 s.n, .int .u8 s.acc, .slice A s.rs.length c]] w (IsCh (LV s 0 ∧ ∃ m, RM s m ∧ ¬ LV s m) w) := by
  obtain ⟨w1, hw1⟩ : ∃ w1, w.alloc (.cells #[.int .i64 s.n, .int .u8 s.acc, .slice A s.rs.length c] 30) = w1 := ⟨_, rfl⟩
  have hb1 : Below w.heap.size w w1 := by rw [← hw1]; exact nw _ (Below.refl _ _)
  have hB : Blk w1 w.heap.size 30 #[.int .i64 s.n, .int .u8 s.acc, .slice A s.rs.length c] := by rw [← hw1]; exact Blk.new _ _ _
  have HW1 := Lib.hid hw1
  have HB1 := Lib.hid hb1
  have HCE : Hid (∀ W, Below w1.heap.size w1 W → W.cell? ⟨w.heap.size, 0, none⟩ = some (.int .i64 s.n) ∧ W.cell? ⟨w.heap.size, 1, none⟩ = some (.int .u8 s.acc) ∧ W.cell? ⟨w.heap.size, 2, none⟩ = some (.slice A s.rs.length c) ∧ w.heap.size < W.heap.size) := fun W hW => by
    have e1 := hB.below hW hB.lt
    exact ⟨by rw [e1.cell]; rfl, by rw [e1.cell]; rfl, by rw [e1.cell]; rfl, e1.lt⟩
  obtain ⟨b0, b1, b2, bl⟩ := HCE.out _ (Below.refl _ _)
  clear hw1 hb1 hB
  have HLI : Hid (Calls Tryz.prog 76 #[.agg #[.int .i64 s.n, .int .u8 s.acc, .slice A s.rs.length c]] w1 (IsLvR s s.n.toNat w1)) := rlive_any s A c w1 (hs.below HB1.out) hok
  have hn := hok.1
  obtain ⟨N, hN⟩ : ∃ N : Nat, s.n = (N : Int) := ⟨s.n.toNat, by omega⟩
  have hNN : s.n.toNat = N := by omega
  have hN8 : 1 ≤ N ∧ N ≤ 8 := by omega
  rw [hNN] at HLI
  have HS := Lib.hid hs
  have HOK := Lib.hid hok
  have hto : ∀ r ∈ s.rs, 0 ≤ r.to ∧ r.to < (N : Int) := fun r hr => by have := (hok.2.2.2.1 r hr).1.2; omega
  have HTO := Lib.hid hto
  have HNN := Lib.hid hN
  have hnN : (0 : Int) < s.n := by omega
  clear hs hok hn hNN hto hN
  go_enter Tryz.func103, Tryz.ntmps103
  go_upto_region 1 with fail
  rw [HW1.out]
  go_upto_region 2 with (go_at_call 76; go_loud (refine HLI.out.mono ?_; rintro e w2 ⟨⟨gl, fl, rfl, hgl, hbl, hfl⟩, hb2⟩; obtain ⟨b0, b1, b2, bl⟩ := HCE.out _ hb2))
  have hl0 : w2.cell? ⟨gl, 0, none⟩ = some (.bool (fl 0)) := hbl.cell (k := 0) (by omega)
  have hll := hbl.lt
  have hN0 : (0 : Int) < (N : Int) := by omega
  have HFL := Lib.hid hfl
  have HBL := Lib.hid hbl
  have HB2 := Lib.hid hb2
  clear hfl hbl hb2
  cases hz : fl 0 with
  | false =>
    have hno : ¬ LV s 0 := fun h => by have := (HFL.out 0 (by omega)).2 h; rw [show ((0 : Nat) : Int) = 0 from rfl, hz] at this; cases this
    have hz' : fl ((0 : Nat) : Int) = false := hz
    have HNO := Lib.hid hno
    clear hno
    go_wp2_with fail
    go_ret
    exact ⟨⟨none, 0, 0, rfl, fun h => absurd h (by omega), fun h => absurd h.1 HNO.out⟩, HB1.out.trans (HB2.out.mono HB1.out.size)⟩
  | true =>
    have hlv : LV s 0 := (HFL.out 0 (by omega)).1 hz
    have HLV := Lib.hid hlv
    clear hlv
    go_upto_region 5 with fail
    obtain ⟨g4, hg4⟩ : ∃ x, w2.heap.size = x := ⟨_, rfl⟩
    obtain ⟨w3, hw3⟩ : ∃ W, w2.alloc (.cells #[.bool false, .bool false, .bool false, .bool false, .bool false, .bool false, .bool false, .bool false, .slice none 0 0, .slice none 0 0, .slice none 0 0, .slice none 0 0, .slice none 0 0, .slice none 0 0, .slice none 0 0, .slice none 0 0] 203) = W := ⟨_, rfl⟩
    have hk3 : WkIn w3 g4 (fun _ => false) (List.replicate 8 ⟨none, [], 0⟩) 0 := by rw [← hw3, ← hg4]; exact WkIn.new _ _
    have hb3 : Below g4 w2 w3 := by rw [← hw3, ← hg4]; exact nw _ (Below.refl _ _)
    rw [hg4, hw3]
    have hs0 : w3.cell? ⟨g4, 0, none⟩ = some (.bool false) := hk3.is (k := 0) (by decide)
    have hsf := hk3.frozen 0
    have hsl := hk3.lt
    have hk4 := hk3.is_ true 0 (by decide) rfl (fun x hx => by rw [(List.mem_replicate.1 hx).2]) (fun _ => trivial)
    have hb4 := hb3.setCell (p := ⟨g4, 0, none⟩) (Nat.le_refl _) (.bool true)
    have HK4 := Lib.hid hk4
    have HB4 := Lib.hid hb4
    have HG4 : Hid (w2.heap.size = g4 ∧ w1.heap.size ≤ g4) := ⟨hg4, by rw [← hg4]; exact HB2.out.size⟩
    clear hw3 hk3 hb3 hk4 hb4 hg4 b0 b1 b2 bl hl0 hll
    go_upto_region 6 with fail
    obtain ⟨w4, hw4⟩ : ∃ W, w3.setCell ⟨g4, 0, none⟩ (.bool true) = W := ⟨_, rfl⟩
    rw [hw4] at HK4 HB4 ⊢
    clear hw4 hs0 hsf hsl
    have HBG : Hid (∀ W, Below g4 w2 W → Below w1.heap.size w1 W) := fun W h => HB2.out.trans (h.mono HG4.out.2)
    go_wp2_with fail
    go_loopw [5] (fun iv wr => ∃ (q : Nat) (f : Int → Bool) (ch : List Chn), q ≤ N ∧ iv = .int .i64 (q : Int) ∧ Hid (WkIn wr g4 f ch q) ∧ Hid (∀ x, f x = true ↔ Ch s (askP false) 0 q x) ∧ Hid (∀ n' m, n' < q → Ch s (askP false) 0 (n' + 1) m → LV s m) ∧ Below g4 w2 wr) (fun iv _ => N - (intOf iv).toNat)
    case atStart => exact ⟨0, _, _, Nat.zero_le _, rfl, HK4.out, fun x => ch_start, fun n' m h => absurd h (by omega), HB4.out⟩
    case round =>
      obtain ⟨wR, rfl⟩ : ∃ W, W = wr := ⟨wr, rfl⟩
      obtain ⟨q, f, ch, hq, rfl, HV, HF, HNO, hbr⟩ := hrel
      have HBR := Lib.hid hbr
      clear hbr
      obtain ⟨b0, b1, b2, bl⟩ := HCE.out _ (HBG.out _ HBR.out)
      by_cases hlt : q < N
      · have hqn : (q : Int) < s.n := by rw [HNN.out]; omega
        have hgl4 := HV.out.lt
        have HNX : Hid (Calls Tryz.prog 117 #[.agg #[.int .i64 s.n, .int .u8 s.acc, .slice A s.rs.length c], .agg (wkC f ch).toArray, .bool false] wR (IsWk s false f q wR)) := rnext_any s A c f ch false q wR (HS.out.below (bthen HB1.out (HBG.out _ HBR.out))) HOK.out HV.out.len (by omega) HV.out.ok
        obtain ⟨f', hf'⟩ : ∃ z, stepB s (askP false) f s.rs.length = z := ⟨_, rfl⟩
        have HF' : Hid (∀ x, f' x = true ↔ Ch s (askP false) 0 (q + 1) x) := by
          show ∀ x, _
          intro x
          rw [← hf']
          exact stepB_ch HF.out x
        have HSF := Lib.hid hf'
        have HSZ : Hid ((Tryz.prog.info? 203).map (·.size) = some (wkC f ch).toArray.size) := by
          show _ = _
          rw [walk_info, List.size_toArray, wkC_len HV.out.len]
        clear hf'
        go_upto_region 10 with (first
          | (refine wpList_load_row rfl 203 _ rfl g4 rfl 203 (wkC f ch).toArray (0, 0) _ HV.out.blk Tryz.underlying203 rfl HSZ.out ?_)
          | (go_at_call 117; go_loud (refine HNX.out.mono ?_; rintro e X1 ⟨⟨ch', rfl, hl', hok'⟩, hb1X⟩; rw [HSF.out] at hok' ⊢; have HSZ' : Hid ((Tryz.prog.info? 203).map (·.size) = some (wkC f' ch').toArray.size) := (by show _ = _; rw [walk_info, List.size_toArray, wkC_len hl']); have HVX := Lib.hid (HV.out.below hb1X); have HOLD : Hid ((wkC f ch).toArray.size = (wkC f' ch').toArray.size) := (by show _ = _; rw [List.size_toArray, List.size_toArray, wkC_len hl', wkC_len HV.out.len]); have HL' := Lib.hid hl'; have HOK' := Lib.hid hok'; have HB1X := Lib.hid hb1X; clear hl' hok' hb1X))
          | (refine wpList_store_row rfl 203 _ _ rfl g4 (wkC f' ch').toArray rfl rfl 203 _ HVX.out.blk HSZ'.out HOLD.out wkC_one ?_))
        obtain ⟨X2, hX2⟩ : ∃ W, X1.setRow g4 (wkC f' ch').toArray = W := ⟨_, rfl⟩
        have HV2 : Hid (WkIn X2 g4 f' ch' (q + 1)) := by show WkIn _ _ _ _ _; rw [← hX2]; exact HVX.out.row HL'.out HOK'.out
        have HB22 : Hid (Below g4 w2 X2) := by show Below _ _ _; rw [← hX2]; exact below_setRow (HBR.out.trans (HB1X.out.mono (Nat.le_of_lt HV.out.lt))) (Nat.le_refl _) _
        rw [hX2]
        clear hX2 HOK' HB1X HVX HOLD HSZ HSZ' HNX b0 b1 b2 bl hgl4
        go_upto_region 11 with fail
        obtain ⟨g6, hg6⟩ : ∃ x, X2.heap.size = x := ⟨_, rfl⟩
        obtain ⟨X3, hX3⟩ : ∃ W, X2.alloc (.cells #[] 3) = W := ⟨_, rfl⟩
        have hb23 : Below X2.heap.size X2 X3 := by rw [← hX3]; exact nw _ (Below.refl _ _)
        rw [hg6, hX3]
        have HV3 := Lib.hid (HV2.out.below hb23)
        have HB23 : Hid (Below g4 w2 X3) := HB22.out.trans (hb23.mono (Nat.le_of_lt HV2.out.lt))
        have HBL3 := Lib.hid (HBL.out.below ((HB23.out.mono (Nat.le_of_eq HG4.out.1))))
        clear hX3 hg6 hb23 HV2 HB22
        go_wp2_with fail
        go_loopw [6, 7] (fun bv mv wr => ∃ (p : Nat) (C : Option Addr) (L : List Int) (cc : Nat), p ≤ N ∧ mv = .int .i64 (p : Int) ∧ bv = .slice C L.length cc ∧ Hid (SlT wr C L) ∧ Hid (BestC (q + 1) L.length (fun x => f' (x : Int) = true ∧ ¬ LV s (x : Int)) p) ∧ L.length ≤ 9 ∧ Below X3.heap.size X3 wr) (fun _ mv _ => N - (intOf mv).toNat)
        case atStart => exact ⟨0, some ⟨g6, 0, none⟩, [], 0, Nat.zero_le _, rfl, rfl, SlT.nil, .inl ⟨rfl, fun x h => absurd h (by omega)⟩, by simp, Below.refl _ _⟩
        case round =>
          obtain ⟨wQ, rfl⟩ : ∃ W, W = wr := ⟨wr, rfl⟩
          obtain ⟨p, C, L, cc, hp, rfl, rfl, HC, HBC, hL9, hbq⟩ := hrel
          have HBQ := Lib.hid hbq
          have hgq : g4 ≤ X3.heap.size := Nat.le_of_lt HV3.out.lt
          have HB2Q : Hid (Below g4 w2 wQ) := HB23.out.trans (hbq.mono hgq)
          clear hbq
          obtain ⟨b0, b1, b2, bl⟩ := HCE.out _ (HBG.out _ HB2Q.out)
          by_cases hlp : p < N
          · have hpn : (p : Int) < s.n := by rw [HNN.out]; omega
            have hpN : (p : Int) < (N : Int) := by omega
            have hp8 : (p : Int) < 8 := by omega
            have hp0 : (0 : Int) ≤ (p : Int) := by omega
            have hp88 : p < 8 := by omega
            have HVQ := Lib.hid (HV3.out.below HBQ.out)
            obtain ⟨x, hx⟩ := HVQ.out.get hp88
            have r0 := HVQ.out.is hp88
            have r8 := HVQ.out.l hx
            have rl := HVQ.out.lt
            have l0 := (HBL3.out.below HBQ.out).cell hlp
            have ll := (HBL3.out.below HBQ.out).lt
            obtain ⟨⟨hxs, hxc, hxm⟩, hxn, hxe⟩ := HVQ.out.ok p x hx
            have HXE := Lib.hid hxe
            have HXS := Lib.hid hxs
            have HFLP := Lib.hid (HFL.out p hlp)
            have HBF : Hid (Calls Tryz.prog 118 #[.slice x.A x.L.length x.c, .slice C L.length cc] wQ fun e w' => IsBool e ∧ Below wQ.heap.size wQ w') := rbefore04_any x.A C x.L L x.c cc wQ hxs.slr HC.out.slr (by omega)
            clear hx hxs hxe
            go_upto_region 14 with fail
            go_cut [56] (fun s56 W => IsPutB (f' (p : Int) = true ∧ ¬ LV s (p : Int)) (¬ (f' (p : Int) = true ∧ ¬ LV s (p : Int)) ∨ 0 < L.length) s56 ∧ Below wQ.heap.size wQ W)
            case first =>
              cases hfp : f' (p : Int) with
              | false =>
                rw [hfp] at r0
                have HFP := Lib.hid hfp
                clear hfp
                go_wp2_with fail
                go_meet
                exact ⟨.no (.inl fun h => by rw [HFP.out] at h; cases h.1), Below.refl _ _⟩
              | true =>
                rw [hfp] at r0
                have HFP := Lib.hid hfp
                clear hfp
                cases hlv : fl (p : Int) with
                | true =>
                  rw [hlv] at l0
                  have HNL : Hid (LV s (p : Int)) := HFLP.out.1 hlv
                  clear hlv
                  go_wp2_with fail
                  go_meet
                  exact ⟨.no (.inl fun h => h.2 HNL.out), Below.refl _ _⟩
                | false =>
                  rw [hlv] at l0
                  have HNL : Hid (¬ LV s (p : Int)) := fun h => by have := HFLP.out.2 h; rw [hlv] at this; cases this
                  clear hlv
                  by_cases hz0 : L.length = 0
                  · have hzi : (L.length : Int) = 0 := by omega
                    go_wp2_with fail
                    go_meet
                    exact ⟨.yes ⟨HFP.out, HNL.out⟩, Below.refl _ _⟩
                  · have hzi : ¬ (L.length : Int) = 0 := by omega
                    go_wp2_with (go_at_call 118; go_loud (refine HBF.out.mono ?_; rintro e W7 ⟨⟨bv, rfl⟩, hb7⟩))
                    go_meet
                    exact ⟨.any ⟨HFP.out, HNL.out⟩ (.inr (by omega)), hb7⟩
            case rest =>
              obtain ⟨X7, rfl⟩ : ∃ W, W = wc := ⟨wc, rfl⟩
              obtain ⟨⟨bb, rfl, hyes, hno⟩, hb7⟩ := hcut
              have HY := Lib.hid hyes
              have HN := Lib.hid hno
              have HV7 := Lib.hid (HVQ.out.below hb7)
              have HB7 := Lib.hid (HBQ.out.trans (hb7.mono HBQ.out.size))
              have HX7 := Lib.hid (HXS.out.below hb7)
              have HC7 := Lib.hid (HC.out.below hb7)
              have r8 : X7.cell? ⟨g4, 8 + p, none⟩ = some (.slice x.A x.L.length x.c) := (hb7.cell (p := ⟨g4, _, none⟩) rl).trans r8
              have rl := HV7.out.lt
              clear hb7 hyes hno
              cases hbv : bb with
              | true =>
                have HP := Lib.hid (HY.out hbv)
                have HXL : Hid (x.L.length = q + 1) := HXE.out HP.out.1
                go_wp2_with fail
                go_roundw
                case rel => exact ⟨p + 1, x.A, x.L, x.c, by omega, by go_num, rfl, HX7.out, (by show BestC _ _ _ _; rw [HXL.out]; exact BestC.put HP.out), by have := HXL.out; omega, HB7.out⟩
                case measure => simp [intOf]; omega
              | false =>
                have HP := Lib.hid (HN.out hbv)
                go_wp2_with fail
                go_roundw
                case rel => exact ⟨p + 1, C, L, cc, by omega, by go_num, rfl, HC7.out, HBC.out.keep HP.out, hL9, HB7.out⟩
                case measure => simp [intOf]; omega
          · obtain rfl : p = N := by omega
            have hpn : ¬ (p : Int) < s.n := by rw [HNN.out]; omega
            by_cases hz0 : L.length = 0
            · have hzi : ¬ (0 : Int) < (L.length : Int) := by omega
              have HALL : Hid (∀ n' m, n' < q + 1 → Ch s (askP false) 0 (n' + 1) m → LV s m) := by
                show ∀ n' m, _
                intro n' m h1 h2
                by_cases e : n' = q
                · subst e
                  rcases HBC.out with ⟨_, ha⟩ | ⟨h0, _⟩
                  · have hm := ch_range (s := s) (N := p) ⟨by omega, by omega⟩ HTO.out h2
                    obtain ⟨k, rfl⟩ : ∃ k : Nat, m = (k : Int) := ⟨m.toNat, by omega⟩
                    exact Classical.byContradiction fun hl => ha k (by omega) ⟨(HF'.out _).2 h2, hl⟩
                  · omega
                · exact HNO.out n' m (by omega) h2
              go_wp2_with fail
              go_roundw
              case rel => exact ⟨q + 1, f', ch', by omega, by go_num, HV3.out.below HBQ.out, HF'.out, HALL.out, HB2Q.out⟩
              case measure => simp [intOf]; omega
            · have hzi : (0 : Int) < (L.length : Int) := by omega
              have HEX : Hid (∃ m, RM s m ∧ ¬ LV s m) := by
                rcases HBC.out with ⟨h0, _⟩ | ⟨_, x, _, h1, h2⟩
                · exact absurd h0 hz0
                · exact ⟨x, rm_ch.2 ⟨q + 1, by rw [← ask_true]; exact (HF'.out _).1 h1⟩, h2⟩
              go_wp2_with fail
              go_ret
              exact ⟨⟨C, L.length, cc, rfl, fun _ => ⟨HLV.out, HEX.out⟩, fun _ => by omega⟩, bthen HB1.out (HBG.out _ HB2Q.out)⟩
      · obtain rfl : q = N := by omega
        have hqn : ¬ (q : Int) < s.n := by rw [HNN.out]; omega
        go_wp2_with fail
        go_ret
        refine ⟨⟨none, 0, 0, rfl, fun h => absurd h (by omega), fun h => ?_⟩, bthen HB1.out (HBG.out _ HBR.out)⟩
        obtain ⟨n', m, h1, h2, h3⟩ := (stuck_short (by omega) HTO.out h.1).1 h.2
        exact absurd (HNO.out n' m h1 (by rw [ask_true]; exact h2)) h3
end Go.Proofs.YtfpnhgahkjglgaaGreat
