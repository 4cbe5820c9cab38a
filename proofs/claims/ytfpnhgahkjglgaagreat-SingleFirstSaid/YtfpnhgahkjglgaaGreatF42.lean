/-
  OuMadeW, Open, Open2, OuFrame, SiFrame, joined. No conditions.
-/
import Derived.Test.YtfpnhgahkjglgaaGreatF41
import Derived.Test.YtfpnhgahkjglgaaGreatF27
import Derived.Test.YtfpnhgahkjglgaaGreatF23
import Derived.Test.YtfpnhgahkjglgaaGreatF08
import Derived.Test.YtfpnhgahkjglgaaGreatF21
import Derived.Deep.DeepCutAuto
import Derived.Test.YtfpnhgahkjglgaaGreatRows
import Derived.Test.YtfpnhgahkjglgaaGreatF05
import Derived.ProofKit
import Derived.OpenShut
import Derived.ChangeSame
import Derived.Carry
import Derived.Deep.Slices
import Derived.Deep.Fields
import Derived.Lib.SmallJoins
set_option maxRecDepth 100000
namespace Go.Proofs.YtfpnhgahkjglgaaGreat
open Go Go.RowKit
def IsBase (w : World) (e : Ending) (w' : World) : Prop := ∃ (m : Nat) (rs : List Ru) (g : Nat), e = .returned (.agg #[.int .i64 (m : Int), .int .u8 1, .slice (some ⟨g, 0, none⟩) rs.length rs.length]) ∧
 (1 ≤ m ∧ m ≤ 2) ∧ (3 ≤ rs.length ∧ rs.length ≤ 5) ∧ (ScOK ⟨(m : Int), 1, rs⟩ ∧ ∀ r ∈ rs, abcB r.inp = true) ∧ SlR 5 RRu w' (some ⟨g, 0, none⟩) rs ∧ w.heap.size ≤ g ∧ Below w.heap.size w w'
theorem base_abc (k : Nat) : ∀ r ∈ (baseS k).rs, abcB r.inp = true := by
 unfold baseS
 split <;> decide +kernel
theorem base_any (q : Int) (w : World) (h0 : 0 ≤ q ∧ q ≤ 255) : Calls Tryz.prog 23 #[.int .u8 q] w (IsBase w) := by
 have h6 : q % 6 = 0 ∨ q % 6 = 1 ∨ q % 6 = 2 ∨ q % 6 = 3 ∨ q % 6 = 4 ∨ q % 6 = 5 := by omega
 rcases h6 with h | h | h | h | h | h
 ·refine (base0_any q w h h0).mono ?_
  rintro e w' ⟨g, rfl, h1, h2, h3⟩
  exact ⟨1, (baseS 0).rs, g, rfl, by decide, by decide, ⟨(base_ok 0).1, base_abc 0⟩, h1.sl, h2, h3⟩
 ·refine (base1_any q w h h0).mono ?_
  rintro e w' ⟨g, rfl, h1, h2, h3⟩
  exact ⟨1, (baseS 1).rs, g, rfl, by decide, by decide, ⟨(base_ok 1).1, base_abc 1⟩, h1.sl, h2, h3⟩
 ·refine (base2_any q w h h0).mono ?_
  rintro e w' ⟨g, rfl, h1, h2, h3⟩
  exact ⟨2, (baseS 2).rs, g, rfl, by decide, by decide, ⟨(base_ok 2).1, base_abc 2⟩, h1.sl, h2, h3⟩
 ·refine (base3_any q w h h0).mono ?_
  rintro e w' ⟨g, rfl, h1, h2, h3⟩
  exact ⟨1, (baseS 3).rs, g, rfl, by decide, by decide, ⟨(base_ok 3).1, base_abc 3⟩, h1.sl, h2, h3⟩
 ·refine (base4_any q w h h0).mono ?_
  rintro e w' ⟨g, rfl, h1, h2, h3⟩
  exact ⟨1, (baseS 4).rs, g, rfl, by decide, by decide, ⟨(base_ok 4).1, base_abc 4⟩, h1.sl, h2, h3⟩
 ·refine (base5_any q w h h0).mono ?_
  rintro e w' ⟨g, rfl, h1, h2, h3⟩
  exact ⟨1, (baseS 5).rs, g, rfl, by decide, by decide, ⟨(base_ok 5).1, base_abc 5⟩, h1.sl, h2, h3⟩
def IsMadeA (w : World) (e : Ending) (w' : World) : Prop := ∃ (m : Nat) (rs : List Ru) (A : Option Addr) (c : Nat), e = .returned (.agg #[.int .i64 (m : Int), .int .u8 1, .slice A rs.length c]) ∧
 (1 ≤ m ∧ m ≤ 2) ∧ rs.length ≤ 9 ∧ ScOK ⟨(m : Int), 1, rs⟩ ∧ (∀ r ∈ rs, abcB r.inp = true) ∧ ScIn w' ⟨(m : Int), 1, rs⟩ A c ∧ Below w.heap.size w w'
theorem scIn_of {w : World} {m : Nat} {rs : List Ru} {A : Option Addr} {c : Nat} (hok : ScOK ⟨(m : Int), 1, rs⟩) (hs : SlR 5 RRu w A rs) (hc : rs.length ≤ c ∧ c ≤ maxLen) (hl : rs.length ≤ 10) : ScIn w ⟨(m : Int), 1, rs⟩ A c :=
 ⟨hs, by show rs.length ≤ 65536; omega, fun r hr => ⟨Nat.le_trans (hok.2.2.2.1 r hr).2.1.1 (by decide), Nat.le_trans (hok.2.2.2.1 r hr).2.2.1.1 (by decide)⟩, ⟨by show (0 : Int) ≤ 1; decide, by show (1 : Int) ≤ 255; decide⟩, hc⟩
set_option maxHeartbeats 8000000 in
theorem made_any5A (A : Option Addr) (xs : List Rw) (c : Nat) (qb qd : Int) (w : World) (hx : SlR 5 RRw w A xs) (hl0 : xs.length ≤ maxLen) (hqb : 0 ≤ qb ∧ qb ≤ 255) (hqd : 0 ≤ qd ∧ qd ≤ 255) :
 Calls Tryz.prog 8 #[.agg #[.int .u8 qb, .int .u8 qd, .slice A xs.length c]] w (IsMadeA w) := by
 have hl := hl0
 unfold maxLen at hl
 obtain ⟨i0, hinf, hz0, hz1, hz2⟩ := info_partsR rule_info
 obtain ⟨w2, hw2⟩ : ∃ w2, (w.alloc (.cells #[.int .u8 qb, .int .u8 qd, .slice A xs.length c] 24)).alloc (.cells #[.int .i64 0, .int .u8 0, .slice none 0 0] 30) = w2 := ⟨_, rfl⟩
 obtain ⟨b1, hb1e⟩ : ∃ b, w.heap.size = b := ⟨_, rfl⟩
 have hb2 : Below w.heap.size w w2 := by rw [← hw2]; exact nw _ (nw _ (Below.refl _ _))
 have hB1 : Blk w2 b1 24 #[.int .u8 qb, .int .u8 qd, .slice A xs.length c] := by rw [← hw2, ← hb1e]; exact (Blk.new _ _ _).alloc _
 have hB2 : Blk w2 (b1 + 1) 30 #[.int .i64 0, .int .u8 0, .slice none 0 0] := by rw [← hw2]; exact Blk.new_ (by simp; omega)
 obtain ⟨lo, hlo⟩ : ∃ x, w2.heap.size = x := ⟨_, rfl⟩
 have hwb1 : w.heap.size ≤ b1 + 1 := by omega
 have hlo1 : b1 + 1 < lo := by rw [← hlo]; exact hB2.lt
 have HW2 := Lib.hid hw2
 have HB1 := Lib.hid hB1
 have HB2 := Lib.hid hB2
 have HBB := Lib.hid hb2
 have HLO := Lib.hid hlo
 have HX := Lib.hid hx
 have HQB := Lib.hid hqb
 have x0 := hB1.cell 0
 have xl := hB1.lt
 simp at x0
 clear hw2 hb2 hB1 hB2 hlo hx hqb
 go_enter Tryz.func8, Tryz.ntmps8
 go_upto_region 1 with fail
 rw [HW2.out]
 try rw [hb1e]
 clear HW2
 go_upto_region 2 with (go_at_call 23; go_loud (refine (base_any qb _ HQB.out).mono ?_; rintro e w5 ⟨m, rs0, g, rfl, hm, hl35, ⟨hok0, habc0⟩, hsl0, hg5, hb5⟩))
 obtain ⟨b3, hb3⟩ : ∃ x, w5.heap.size = x := ⟨_, rfl⟩
 generalize hw6 : w5.alloc (.cells _ 30) = w6
 have hB3 : Blk w6 b3 30 #[.int .i64 (m : Int), .int .u8 1, .slice (some ⟨g, 0, none⟩) rs0.length rs0.length] := by rw [← hw6]; exact Blk.new_ hb3.symm
 have hb6 : Below w2.heap.size w2 w6 := by rw [← hw6]; exact hb5.alloc hb5.size _
 have hsl6 : SlR 5 RRu w6 (some ⟨g, 0, none⟩) rs0 := by rw [← hw6]; exact hsl0.below keeps_ru (nw _ (Below.refl _ _))
 have hg3 : g < b3 := by
  obtain ⟨g', o', he, hlt, _⟩ := hsl0 (by intro h; rw [h] at hl35; simp at hl35)
  simp at he
  omega
 rw [HLO.out] at hg5
 have hlo3 : lo ≤ b3 := by omega
 rw [hb3]
 clear hw6 hb3 hb5 hsl0
 have hm1 := hm.1
 have hm2 := hm.2
 have HM := Lib.hid hm
 have HOK0 := Lib.hid hok0
 have HAB0 := Lib.hid habc0
 have HSL6 := Lib.hid hsl6
 have HB6 := Lib.hid hb6
 have HB3 := Lib.hid hB3
 have HB1 := Lib.hid (HB1.out.below hb6 HB1.out.lt)
 have HB2 := Lib.hid (HB2.out.below hb6 HB2.out.lt)
 have x1 := HB1.out.cell 1
 have x2 := HB1.out.cell 2
 have xl := HB1.out.lt
 have s2 := hB3.cell 2
 have sf2 := hB3.frozen 2
 have sl := hB3.lt
 simp at x1 x2 s2
 clear hm hok0 habc0 hsl6 hb6 hB3 x0
 go_cut [] (fun wx => ∃ (v : Value) (rs : List Ru), RowG wx lo b3 61 5 v rs.length (rs.flatMap encRu5) ∧ Hid (ScOK ⟨(m : Int), 1, rs⟩ ∧ rs.length ≤ 5 ∧ ∀ r ∈ rs, abcB r.inp = true) ∧ Blk wx b3 30 #[.int .i64 (m : Int), .int .u8 1, v] ∧ Below b3 w6 wx)
 case first =>
  have hd2 : qd % 2 = 0 ∨ qd % 2 = 1 := by omega
  have htm : qd.tmod 2 = qd % 2 := Int.tmod_eq_emod_of_nonneg hqd.1
  have hcl : ∀ j u, (rs0.flatMap encRu5)[j]? = some u → w6.cell? ⟨g, 0 + j, none⟩ = some u := fun j u hj => by have := slr_cells_ (enc := encRu5) HSL6.out (by decide) (fun _ _ _ h => h) j u hj; rw [Addr.add_lit] at this; exact this
  have HCL := Lib.hid hcl
  clear hcl
  rcases hd2 with hd | hd
  ·rw [hd] at htm
   go_wp2_with fail
   go_meet
   case rel => exact ⟨.slice (some ⟨g, 0, none⟩) rs0.length rs0.length, rs0, RowG.set (.inr ⟨g, 0, rfl, ⟨hg5, hg3⟩, flatMap_len_ (s := 5) (enc := encRu5) (fun _ => rfl) rs0, HCL.out⟩) 2 _, ⟨HOK0.out, hl35.2, HAB0.out⟩, HB3.out.set_ 2 _, (Below.refl _ _).setCell (p := ⟨b3, 2, none⟩) (Nat.le_refl _) _⟩
  ·rw [hd] at htm
   have h1l : (1 : Int) ≤ (rs0.length : Int) := by omega
   have HRD : Hid (SlR 5 RRu w6 (some ⟨g, 5, none⟩) (rs0.drop 1)) := by
    intro hne
    obtain ⟨g', o', he, hlt, hc⟩ := HSL6.out (by intro h; rw [h] at hl35; simp at hl35)
    injection he with he
    injection he with he1 he2
    subst he1 he2
    refine ⟨g, 5, rfl, hlt, fun k x hk => ?_⟩
    rw [List.getElem?_drop] at hk
    obtain ⟨vs, h1, h2, h3⟩ := hc (1 + k) x hk
    refine ⟨vs, h1, h2, fun j v hj => ?_⟩
    have := h3 j v hj
    rw [show 0 + (1 + k) * 5 + j = 5 + k * 5 + j by omega] at this
    exact this
   have hdl : (rs0.drop 1).length = rs0.length - 1 := List.length_drop
   go_wp2_with fail
   go_meet
   case rel =>
    refine ⟨.slice (some ⟨g, 5, none⟩) (rs0.length - 1) (rs0.length - 1), rs0.drop 1, ?_, ⟨scOK_drop HOK0.out 1, by rw [hdl]; omega, fun r hr => HAB0.out r (List.mem_of_mem_drop hr)⟩, HB3.out.set_ 2 _, (Below.refl _ _).setCell (p := ⟨b3, 2, none⟩) (Nat.le_refl _) _⟩
    rw [hdl]
    refine RowG.set (.inr ⟨g, 5, rfl, ⟨hg5, hg3⟩, by rw [flatMap_len_ (s := 5) (fun _ => rfl) _, hdl], fun j u hj => ?_⟩) 2 _
    have := slr_cells_ (enc := encRu5) HRD.out (by decide) (fun _ _ _ h => h) j u hj
    rw [Addr.add_lit] at this
    exact this
 case rest =>
  obtain ⟨w7, rfl⟩ : ∃ W, W = wc := ⟨wc, rfl⟩
  obtain ⟨v0, rs1, hG, HOK, hB, hb7⟩ := hcut
  clear s2 sf2 sl x1 x2 xl HSL6 HB3 HOK0 HAB0
  go_wp2_with fail
  go_loopw [4] (fun i wr => ∃ (k : Nat) (v : Value) (rs : List Ru), k ≤ xs.length ∧ k ≤ 4 ∧ i = .int .i64 k ∧ RowG wr lo b3 61 5 v rs.length (rs.flatMap encRu5) ∧ Hid (ScOK ⟨(m : Int), 1, rs⟩ ∧ rs.length ≤ 5 + k ∧ ∀ r ∈ rs, abcB r.inp = true) ∧ Blk wr b3 30 #[.int .i64 (m : Int), .int .u8 1, v] ∧ Below b3 w6 wr) (fun i _ => 4 - (intOf i).toNat)
  case atStart => exact ⟨0, v0, rs1, by omega, by omega, rfl, hG, HOK, hB, hb7⟩
  case round =>
   clear hG HOK hB hb7 v0 rs1
   obtain ⟨k, v, rs, hk, hk4, rfl, hown, HOK, hB, hbr⟩ := hrel
   have hlen9 : rs.length ≤ 9 := by have := HOK.out.2.1; omega
   have hbl := hB.lt
   have hb1r := HB1.out.below hbr (show b1 < b3 by omega)
   have x2 := hb1r.cell 2
   have xl := hb1r.lt
   simp at x2
   have hbw : Below w.heap.size w wr := HBB.out.trans ((HB6.out.mono (by rw [HLO.out]; omega)).trans (hbr.mono (by omega)))
   by_cases hlt : k < xs.length
   ·by_cases hlt4 : k < 4
    ·obtain ⟨b, off, x, rfl, hbb, hxx, hxok, d0, d1, d2, d3, d4⟩ := (HX.out.below keeps_rw hbw).rw5 hlt
     have hbb2 : b < b1 := by obtain ⟨b', o', e, hb', _⟩ := HX.out (by rintro rfl; simp at hlt); simp only [Option.some.injEq, Addr.mk.injEq, and_true] at e; omega
     have hkl : (k : Int) < (xs.length : Int) := by omega
     have hk4' : (k : Int) < 4 := by omega
     have hvn1 : v.ownBlock ≠ some b1 := hown.ne (.inr (by omega)) hlo3
     have hvnb : v.ownBlock ≠ some b := hown.ne (.inr (by omega)) hlo3
     have hvne : v.ownBlock ≠ some b3 := hown.ne (.inl rfl) hlo3
     have hc0 := hB.cell 0
     have hc2 := hB.cell 2
     simp at hc0 hc2
     have HXX := Lib.hid hxok
     have HOW := Lib.hid hown
     have HB := Lib.hid hB
     have HBr := Lib.hid hbr
     have hb3le : b3 ≤ wr.heap.size := by omega
     clear hxx hxok hown hB hbr hb1r hbw
     go_wp2_with fail
     refine ordV_start (ButR v wr) (fun _ => True) [13] [(0, some false), (1, some false), (2, some false), (3, some false), (4, some false), (5, some false), (6, some false), (7, some false), (8, some false), (9, some true), (10, some true), (11, some true), (12, some false), (13, some true)] (by kernel_rfl) (by kernel_rfl) (by kernel_rfl) (fun _ _ _ _ _ h => h) trivial ?_
     have HD : Below wr.heap.size wr wr.drew := (Below.refl _ _).drew
     obtain ⟨Wd, hWd⟩ : ∃ Wd, wr.drew = Wd := ⟨_, rfl⟩
     rw [hWd] at HD ⊢
     clear hWd
     have HS0 := ButR.of_below (v := v) HD
     iterate 9 (refine ordV_takeS (v := ?_) rfl rfl HS0 ?_ ?_; rotate_left 1; (focus (intro W hW; have hcW := hW.cell; (go_simp <;> (try with_reducible rfl)))); simp only [Act.put, zA, zB, zC])
     refine ordV_call rfl rfl (fun K hK => ?_)
     go_simp
     go_at_call 24
     refine (made1_any x.A x.B x.a x.b x.c x.d m x.f x.t x.co Wd (HXX.out.below HD).sa (HXX.out.below HD).sb HXX.out.la HXX.out.lb HXX.out.ba HXX.out.bb HXX.out.f HXX.out.t HXX.out.co HM.out).mono ?_
     rintro e W1 ⟨r, rfl, hr, hab1, hb1⟩
     have HD1 : Below wr.heap.size wr W1 := HD.trans (hb1.mono HD.size)
     have HS1 := ButR.of_below (v := v) HD1
     have HRR := Lib.hid hr
     have HAB := Lib.hid hab1
     clear hb1 hr hab1
     refine hK.out _ _ trivial (fun _ _ => HS1) ?_
     clear hK K
     try simp only [Act.put, zA, zB, zC]
     refine ordV_call rfl rfl (fun K hK => ?_)
     go_simp
     have HD2 := HD1.alloc HD1.size (.cells #[.int .i64 r.fr, .int .i64 r.to, .string r.inp, .string r.out, .int .i64 r.co] 61)
     have HS2 := ButR.of_below (v := v) HD2
     refine hK.out _ _ trivial (fun _ _ => HS2) ?_
     clear hK K
     try simp only [Act.put, zA, zB, zC]
     refine ordV_call rfl rfl (fun K hK => ?_)
     refine wp_appG _ _ 28 rfl lo b3 61 i0 _ 5 56 Tryz.underlying28 hinf hz0 hz1 hz2 rfl (by decide) v _ _ rfl (HOW.out.below hb3le HD2) ⟨W1.heap.size, 0, none⟩ 1 [.int .i64 r.fr, .int .i64 r.to, .string r.inp, .string r.out, .int .i64 r.co] rfl rfl (news_blk (Blk.new_ (t := 61) (cs := #[.int .i64 r.fr, .int .i64 r.to, .string r.inp, .string r.out, .int .i64 r.co]) rfl)) (fun u hu => by simp at hu; rcases hu with rfl | rfl | rfl | rfl | rfl <;> rfl) (by omega) (by decide) (by have := HD2.size; omega) ?_
     intro v4 w4 hown4 hb4 ha4
     have HS3 := HS2.apps hb4.size ha4
     refine hK.out _ _ trivial (fun _ _ => HS3) ?_
     clear hK K
     have hown5 : w4.ownsRow (b3 + 1) 61 5 v4 (rs.length + 1) ((rs ++ [r]).flatMap encRu5) := by rw [List.flatMap_append]; exact hown4
     obtain ⟨A9, c9, rfl, hc9, hcm9, _⟩ := own_slr (R := RRu) hown5 (fun _ => rfl) (fun _ => rfl) (by simp)
     have hB4 := (HB.out.below HD2 HB.out.lt).apps ha4 hvne
     have s2 := hB4.cell 2
     have sf2 := hB4.frozen 2
     have sl := hB4.lt
     simp at s2
     try simp only [Act.put, zA, zB, zC]
     iterate 1 (refine ordV_takeS (v := ?_) rfl rfl HS3 ?_ ?_; rotate_left 1; (focus (intro W hW; have hcW := hW.cell; (go_simp <;> (try with_reducible rfl)))); simp only [Act.put, zA, zB, zC])
     refine ordV_call rfl rfl (fun K hK => ?_)
     go_simp
     refine hK.out _ _ trivial (fun _ h => by cases h) ?_
     clear hK K
     refine ordV_nil ?_
     have hbE := ((HBr.out.trans (HD2.mono (by omega))).trans (hb4.mono (by omega))).setCell (p := ⟨b3, 2, none⟩) (Nat.le_refl _) (.slice A9 (rs.length + 1) c9)
     have hBE := hB4.set_ 2 (.slice A9 (rs.length + 1) c9)
     have hOE := own_set hown5 (a := ⟨b3, 2, none⟩) (fun e => absurd (own_block_le hown5 _ e) (Nat.not_succ_le_self _)) (.slice A9 (rs.length + 1) c9)
     obtain ⟨W9, hW9⟩ : ∃ W, w4.setCell ⟨b3, 2, none⟩ (.slice A9 (rs.length + 1) c9) = W := ⟨_, rfl⟩
     rw [hW9] at hbE hBE hOE ⊢
     clear hW9
     have hE0 := hBE.cell 0
     have hE1 := hBE.cell 1
     have hE2 := hBE.cell 2
     have hEl := hBE.lt
     simp at hE0 hE1 hE2
     obtain ⟨A8, c8, he8, _, _, hsl9⟩ := own_slr (R := RRu) hOE (fun _ => rfl) (fun _ => rfl) (by simp)
     obtain ⟨rfl, rfl⟩ : A9 = A8 ∧ c9 = c8 := by injection he8 with h1 h2 h3; exact ⟨h1, h3⟩
     have hRT : Calls Tryz.prog 25 #[.agg #[.int .i64 (m : Int), .int .u8 1, .slice A9 (rs.length + 1) c9], .int .i64 (rs.length : Int)] W9 fun e w' => e = .returned (.bool (!decide (r ∈ rs))) ∧ Below W9.heap.size W9 w' := by
      have h := rright_any ⟨(m : Int), 1, rs ++ [r]⟩ A9 c9 rs.length r W9 ⟨hsl9, by show (rs ++ [r]).length ≤ 65536; simp; omega, fun x hx => by
       rcases List.mem_append.1 hx with hx | hx
       ·exact ⟨Nat.le_trans (HOK.out.1.2.2.2.1 x hx).2.1.1 (by decide), Nat.le_trans (HOK.out.1.2.2.2.1 x hx).2.2.1.1 (by decide)⟩
       ·rw [List.mem_singleton.1 hx]; exact ⟨Nat.le_trans HRR.out.2.1.1 (by decide), Nat.le_trans HRR.out.2.2.1.1 (by decide)⟩, ⟨by show (0 : Int) ≤ 1; decide, by show (1 : Int) ≤ 255; decide⟩, ⟨by show (rs ++ [r]).length ≤ c9; simpa using hc9, hcm9⟩⟩ ⟨by show (1 : Int) ≤ (m : Int); omega, by show (m : Int) ≤ 8; omega⟩ (by show (rs ++ [r])[rs.length]? = some r; simp)
      have e1 : (rs ++ [r]).take rs.length = rs := List.take_left
      have e2 : (rs ++ [r]).length = rs.length + 1 := by simp
      simp only [e1, e2, decide_eq_true HRR.out, Bool.and_true] at h
      exact h
     have hE0 := hBE.cell 0
     have hE1 := hBE.cell 1
     have hE2 := hBE.cell 2
     have hEl := hBE.lt
     simp at hE0 hE1 hE2
     have hwl : IntKind.i64.wrap (((rs.length : Int) + 1) - 1) = (rs.length : Int) := by rw [show ((rs.length : Int) + 1) - 1 = (rs.length : Int) by omega]; exact IntWalk.i64_in _ (by omega)
     have hwl2 : IntKind.i64.wrap (rs.length : Int) = (rs.length : Int) := IntWalk.i64_in _ (by omega)
     have HBE := Lib.hid hBE
     have HOE := Lib.hid hOE
     have HbE := Lib.hid hbE
     have hclen : (rs.length : Int) ≤ (c9 : Int) := by omega
     clear hBE hOE hbE he8 hsl9 hown5 hown4 hB4 s2 sf2 sl HS0 HS1 HS2 HS3 ha4 hb4 HD HD1 HD2
     by_cases hmem : r ∈ rs
     ·rw [decide_eq_true hmem, Bool.not_true] at hRT
      have HRT := Lib.hid hRT
      clear hRT hmem
      go_wp2_with (go_at_call 25; go_loud (refine HRT.out.mono ?_; rintro e w10 ⟨rfl, hb10⟩; have hBF := HBE.out.below hb10 hEl; have f2 := hBF.cell 2; have ff2 := hBF.frozen 2; have fl := hBF.lt; simp at f2))
      go_roundw
      case rel =>
       have hCT := own_cut (w := w10) (base := b3 + 1) (e := 61) (s := 5) (n := rs.length) (m := 0) (A := A9) (c := c9) (xs := rs.flatMap encRu5) (ys := encRu5 r) (by have := own_below HOE.out hb10; rw [List.flatMap_append] at this; simpa using this) (flatMap_len_ (s := 5) (enc := encRu5) (fun _ => rfl) rs)
       exact ⟨k + 1, .slice A9 rs.length c9, rs, by omega, by omega, by go_num, .inl (own_set hCT (a := ⟨b3, 2, none⟩) (fun e => absurd (own_block_le hCT _ e) (Nat.not_succ_le_self _)) _), ⟨HOK.out.1, by have := HOK.out.2.1; omega, HOK.out.2.2⟩, by simpa using hBF.set_ 2 (.slice A9 rs.length c9), (HbE.out.trans (hb10.mono (by omega))).setCell (p := ⟨b3, 2, none⟩) (Nat.le_refl _) _⟩
      case measure => simp [intOf]; omega
     ·rw [decide_eq_false hmem, Bool.not_false] at hRT
      have HRT := Lib.hid hRT
      have HMEM := Lib.hid hmem
      clear hRT hmem
      go_wp2_with (go_at_call 25; go_loud (refine HRT.out.mono ?_; rintro e w10 ⟨rfl, hb10⟩))
      go_roundw
      case rel => exact ⟨k + 1, .slice A9 (rs.length + 1) c9, rs ++ [r], by omega, by omega, by go_num, by have := own_below HOE.out hb10; simpa [RowG] using Or.inl this, ⟨scOK_snoc HOK.out.1 HRR.out HMEM.out (by show rs.length < 64; omega), by have := HOK.out.2.1; simp; omega, fun x hx => by
       rcases List.mem_append.1 hx with hx | hx
       ·exact HOK.out.2.2 x hx
       ·rw [List.mem_singleton.1 hx]; exact HAB.out⟩, by simpa using HBE.out.below hb10 hEl, HbE.out.trans (hb10.mono (by omega))⟩
      case measure => simp [intOf]; omega
    ·have hkl : (k : Int) < (xs.length : Int) := by omega
     have hk4' : ¬ (k : Int) < 4 := by omega
     have hvn2 : v.ownBlock ≠ some (b1 + 1) := hown.ne (.inr (by omega)) hlo3
     have hw3 := ((hown.setN hvn2 0 (.int .i64 (m : Int))).setN hvn2 1 (.int .u8 1)).setN hvn2 2 v
     have hsz3 : b3 ≤ (((wr.setCell ⟨b1 + 1, 0, none⟩ (.int .i64 (m : Int))).setCell ⟨b1 + 1, 1, none⟩ (.int .u8 1)).setCell ⟨b1 + 1, 2, none⟩ v).heap.size := by simp; omega
     obtain ⟨A9, c9, rfl, hc9, hcm9, hsl⟩ := hw3.slr (R := RRu) (fun _ => rfl) (fun _ _ => rfl) (by unfold maxLen; omega) hsz3
     have hR2 := HB2.out.below hbr (show b1 + 1 < b3 by omega)
     have z0 := hR2.cell 0
     have z1 := hR2.cell 1
     have z2 := hR2.cell 2
     have zf0 := hR2.frozen 0
     have zf1 := hR2.frozen 1
     have zf2 := hR2.frozen 2
     have zl := hR2.lt
     have c0 := hB.cell 0
     have c1 := hB.cell 1
     have c2 := hB.cell 2
     simp at z0 z1 z2 c0 c1 c2
     have HR2 := Lib.hid hR2
     have HSLF := Lib.hid hsl
     have HBW := Lib.hid hbw
     clear hB hR2 hown hsl hbw hw3 hsz3 hbr hb1r
     go_wp2_with fail
     (try simp only [Exit.inBlock, Exit.then])
     refine ret_cell (t := 30) (cs := #[.int .i64 (m : Int), .int .u8 1, .slice A9 rs.length c9]) (((HR2.out.set_ 0 (.int .i64 (m : Int))).set_ 1 (.int .u8 1)).set_ 2 (.slice A9 rs.length c9)) rfl rfl Tryz.underlying30 rfl (by kernel_rfl) rfl ?_
     exact ⟨m, rs, A9, c9, rfl, HM.out, hlen9, HOK.out.1, HOK.out.2.2, scIn_of HOK.out.1 HSLF.out ⟨hc9, hcm9⟩ (by omega), ((HBW.out.setCell (p := ⟨b1 + 1, 0, none⟩) hwb1 _).setCell (p := ⟨b1 + 1, 1, none⟩) hwb1 _).setCell (p := ⟨b1 + 1, 2, none⟩) hwb1 _⟩
   ·have hkl : ¬ (k : Int) < (xs.length : Int) := by omega
    have hvn2 : v.ownBlock ≠ some (b1 + 1) := hown.ne (.inr (by omega)) hlo3
    have hw3 := ((hown.setN hvn2 0 (.int .i64 (m : Int))).setN hvn2 1 (.int .u8 1)).setN hvn2 2 v
    have hsz3 : b3 ≤ (((wr.setCell ⟨b1 + 1, 0, none⟩ (.int .i64 (m : Int))).setCell ⟨b1 + 1, 1, none⟩ (.int .u8 1)).setCell ⟨b1 + 1, 2, none⟩ v).heap.size := by simp; omega
    obtain ⟨A9, c9, rfl, hc9, hcm9, hsl⟩ := hw3.slr (R := RRu) (fun _ => rfl) (fun _ _ => rfl) (by unfold maxLen; omega) hsz3
    have hR2 := HB2.out.below hbr (show b1 + 1 < b3 by omega)
    have z0 := hR2.cell 0
    have z1 := hR2.cell 1
    have z2 := hR2.cell 2
    have zf0 := hR2.frozen 0
    have zf1 := hR2.frozen 1
    have zf2 := hR2.frozen 2
    have zl := hR2.lt
    have c0 := hB.cell 0
    have c1 := hB.cell 1
    have c2 := hB.cell 2
    simp at z0 z1 z2 c0 c1 c2
    have HR2 := Lib.hid hR2
    have HSLF := Lib.hid hsl
    have HBW := Lib.hid hbw
    clear hB hR2 hown hsl hbw hw3 hsz3 hbr hb1r
    go_wp2_with fail
    (try simp only [Exit.inBlock, Exit.then])
    refine ret_cell (t := 30) (cs := #[.int .i64 (m : Int), .int .u8 1, .slice A9 rs.length c9]) (((HR2.out.set_ 0 (.int .i64 (m : Int))).set_ 1 (.int .u8 1)).set_ 2 (.slice A9 rs.length c9)) rfl rfl Tryz.underlying30 rfl (by kernel_rfl) rfl ?_
    exact ⟨m, rs, A9, c9, rfl, HM.out, hlen9, HOK.out.1, HOK.out.2.2, scIn_of HOK.out.1 HSLF.out ⟨hc9, hcm9⟩ (by omega), ((HBW.out.setCell (p := ⟨b1 + 1, 0, none⟩) hwb1 _).setCell (p := ⟨b1 + 1, 1, none⟩) hwb1 _).setCell (p := ⟨b1 + 1, 2, none⟩) hwb1 _⟩
end Go.Proofs.YtfpnhgahkjglgaaGreat
namespace Go.Proofs.YtfpnhgahkjglgaaGreat
open Go Go.RowKit Go.ChangeShapes Go.WideShapes
theorem Tryz.own : ownKnob Tryz.prog.godebug = none := by kernel_rfl
theorem Tryz.laidOut : laidOutB Tryz.prog = true := by kernel_rfl
section
variable {H : Type} {enc : TypeId × Value → H} {P : Program} {w : World} {base : Nat} {spare : Nat → Bool} {held : Bool}
theorem list_choose {α : Type} {p : Nat → α → Prop} : ∀ (n : Nat), (∀ i, i < n → ∃ x, p i x) → ∃ xs : List α, xs.length = n ∧ ∀ i x, xs[i]? = some x → p i x
 | 0, _ => ⟨[], rfl, fun i x h => by simp at h⟩
 | n + 1, h => by
  obtain ⟨xs, hl, hp⟩ := list_choose n (fun i hi => h i (by omega))
  obtain ⟨x, hx⟩ := h n (by omega)
  refine ⟨xs ++ [x], by simp [hl], fun i y hy => ?_⟩
  rcases Nat.lt_or_ge i n with hi | hi
  ·rw [List.getElem?_append_left (by omega)] at hy; exact hp i y hy
  ·obtain ⟨hlt, _⟩ := List.getElem?_eq_some_iff.1 hy
   have : i = n := by simp [hl] at hlt; omega
   subst this
   rw [List.getElem?_append_right (by omega), hl] at hy
   simp at hy
   subst hy
   exact hx
theorem open_slr {α : Type} {R : World → α → List Value → Prop} {t e : TypeId} {s fuel : Nat} {cs : List Value} {X : DataW H × List MemPlace} (ht : P.underlying t = some (.slice e)) (hc : P.cellsOf e = s) (hs : 0 < s)
 (hel : ∀ (n : Nat) (cs : List Value) (y : DataW H × List MemPlace), DataW.trod enc P w base spare held n e cs = some y → cs.length = s → ∃ x : α, R w x cs)
 (h : DataW.trod enc P w base spare held fuel t cs = some X) : ∃ (A : Option Addr) (len cap : Nat) (xs : List α), cs = [.slice A len cap] ∧ xs.length = len ∧ len ≤ cap ∧ cap ≤ maxLen ∧ SlR s R w A xs := by
 rcases Go.Deep.open_slice ht h with ⟨rfl, _⟩ | ⟨a, len, cap, m, n, D, Pl, rfl, hb, hl, hm, hmm, _, hx⟩
 ·exact ⟨none, 0, 0, [], rfl, rfl, Nat.le_refl _, Nat.zero_le _, SlR.nil⟩
 ·have hlm : len ≤ m := by rw [hmm]; split <;> omega
  subst hc
  obtain ⟨xs, hxl, hxs⟩ := list_choose (p := fun i x => ∃ cs', w.cells? base (a.add (i * P.cellsOf e)) (P.cellsOf e) = some cs' ∧ R w x cs') len (fun i hi => by
   obtain ⟨cs', h1, h2⟩ := hx i (by omega)
   obtain ⟨x, hx⟩ := hel _ _ _ h2 (World.cells?_some h1).2.1
   exact ⟨x, cs', h1, hx⟩)
  refine ⟨some a, len, cap, xs, rfl, hxl, hl, hm, fun hne => ?_⟩
  have hcell : ∀ i x, xs[i]? = some x → ∃ vs, R w x vs ∧ vs.length = P.cellsOf e ∧ ∀ j v, vs[j]? = some v → w.cell? (a.add (i * P.cellsOf e + j)) = some v := fun i x hi => by
   obtain ⟨cs', h1, h2⟩ := hxs i x hi
   obtain ⟨_, hcl, hat⟩ := World.cells?_some h1
   refine ⟨cs', h2, hcl, fun j v hj => ?_⟩
   obtain ⟨hjl, _⟩ := List.getElem?_eq_some_iff.1 hj
   have := hat j (by omega)
   rw [Go.Deep.add_add] at this
   rw [this]; exact hj
  obtain ⟨x0, hx0⟩ : ∃ x, xs[0]? = some x := ⟨xs[0]'(List.length_pos_iff.2 hne), List.getElem?_eq_getElem _⟩
  obtain ⟨vs, _, hvl, hv⟩ := hcell 0 x0 hx0
  obtain ⟨v0, hv0⟩ : ∃ v, vs[0]? = some v := ⟨vs[0]'(by omega), List.getElem?_eq_getElem _⟩
  have h0 := hv 0 v0 hv0
  simp only [Nat.zero_mul, Nat.zero_add] at h0
  have ha0 : a.add 0 = a := by unfold Addr.add; simp
  rw [ha0] at h0
  rcases a with ⟨b, o, sp⟩
  cases sp with
  | some _ =>
   unfold World.cell? at h0
   dsimp only at h0
   split at h0 <;> simp at h0
  | none =>
   refine ⟨b, o, rfl, ?_, fun k x hk => ?_⟩
   ·rcases Nat.lt_or_ge b w.heap.size with h | h
    ·exact h
    ·unfold World.cell? at h0; dsimp only at h0; rw [Array.getElem?_eq_none h] at h0; cases h0
   ·obtain ⟨vs, h1, h2, h3⟩ := hcell k x hk
    refine ⟨vs, h1, h2, fun j v hj => ?_⟩
    have := h3 j v hj
    have e : (Addr.mk b o none).add (k * P.cellsOf e + j) = ⟨b, o + k * P.cellsOf e + j, none⟩ := by unfold Addr.add; split <;> simp_all [Nat.add_assoc]
    rw [e] at this
    exact this
theorem post_of_below {f : Func} {s : ChangeSpec} {apart fresh handsOn again : Bool} {W W' : World} {args : Array Value} {v : Value} {ds gs : List (DataW H)} {before pa pv : List MemPlace}
 (hW : DataW.Whole enc P f.params.toList s.vars apart W args.toList ds gs before)
 (hres : ∀ (b : Nat) (sp : Nat → Bool) (hd : Bool), DataW.TrodAll enc P W' b sp hd f.resultTypes.toList (v.resultList f.resultTypes.size) (s.fn H (ds ++ gs)).results [])
 (hargs : ∀ sp : Nat → Bool, (∀ p ∈ before, sp p.block = true) → DataW.TrodAll enc P W' 0 sp true f.params.toList args.toList (s.fn H (ds ++ gs)).args pa)
 (hvars : ∀ sp : Nat → Bool, (∀ p ∈ before, sp p.block = true) → DataW.TrodVars enc P W' sp s.vars (s.fn H (ds ++ gs)).vars pv)
 (hps : before = pa ++ pv) (hb : Below W.heap.size W W')
 (hok : ∀ (j : Nat) (t : TypeId) (r : Value), f.resultTypes[j]? = some t → (v.resultList f.resultTypes.size)[j]? = some r → Value.okWide P W' .any 0 t r) :
 s.post enc P f apart fresh handsOn again W args v W' := by
 have hlt : ∀ p ∈ before, p.block < W.heap.size := fun p hp => hW.lt p hp
 have hold : ∀ p ∈ before, (fun b => decide (b < W.heap.size)) p.block = true := fun p hp => by simpa using hlt p hp
 refine ⟨ds, gs, before, [], pa, pv, hW, hres _ _ _, hargs _ hold, hvars _ hold, World.keptBut_mono (fun p hp => ⟨hp, ?_⟩) (hb.frame (· ∈ before)), fun _ => ?_⟩
 ·rw [hps, List.mem_append] at hp
  exact Or.inr hp
 ·obtain ⟨_, _, _, _, _, hz, hn⟩ := hW
  refine ⟨hok, _, _, ([] ++ pa) ++ pv, ⟨[] ++ pa, pv, trodAll_append (hargs _ (fun _ _ => rfl)) (hres _ _ _), hvars _ (fun _ _ => rfl), rfl, ?_, ?_⟩, ?_⟩
  ·intro b off hp
   have hin : MemPlace.cell b off ∈ before := by rw [hps]; simpa using hp
   rw [hb.frozen (hlt _ hin)]
   exact hz b off hin
  ·intro ha
   have := hn ha
   rw [hps] at this
   simpa using this
  ·intro p hp _
   rw [hps]
   simpa using hp
theorem below_trod {t : TypeId} {W W' : World} {v : Value} {d : DataW H} {ps : List MemPlace} {sp : Nat → Bool} (hr : Tryz.prog.readableRec t = true) (hrow : t < Tryz.prog.types.size) (h : DataW.Trod enc Tryz.prog W 0 (fun _ => true) true t v d ps)
 (hb : Below W.heap.size W W') (hlt : ∀ x ∈ ps, x.block < W.heap.size) (hsp : ∀ x ∈ ps, sp x.block = true) : DataW.Trod enc Tryz.prog W' 0 sp true t v d ps :=
 WideElems.Trod_stays Tryz.laidOut hr hrow h (fun x hx => hb.same (hlt x hx)) hsp
end
theorem wf_u8 {n : Int} (h : (Lit.int .u8 n).wf = true) : 0 ≤ n ∧ n ≤ 255 := by
 simp [Lit.wf, IntKind.min, IntKind.max, IntKind.signed, IntKind.bits] at h
 omega
theorem slr_map {α β : Type} {s : Nat} {R : World → α → List Value → Prop} {w : World} {A : Option Addr} {f : β → α} {xs : List β} (h : SlR s (fun w x vs => R w (f x) vs) w A xs) : SlR s R w A (xs.map f) := fun hne => by
 obtain ⟨b, off, hA, hb, hc⟩ := h (by rintro rfl; simp at hne)
 refine ⟨b, off, hA, hb, fun k x hx => ?_⟩
 rw [List.getElem?_map] at hx
 cases hk : xs[k]? with
 | none => rw [hk] at hx; cases hx
 | some y =>
  rw [hk] at hx
  obtain ⟨vs, h1, h2, h3⟩ := hc k y hk
  exact ⟨vs, by rw [show x = f y from (Option.some.inj hx).symm]; exact h1, h2, h3⟩
theorem list5_ {α : Type} : ∀ (l : List α), l.length = 5 → ∃ a b c d e, l = [a, b, c, d, e]
 | [a, b, c, d, e], _ => ⟨a, b, c, d, e, rfl⟩
section
variable {H : Type} {enc : TypeId × Value → H} {P : Program} {w : World} {base : Nat} {spare : Nat → Bool} {held : Bool}
theorem trod_struct5 {t : TypeId} {f0 f1 f2 f3 f4 : Field} {fuel : Nat} {cs : List Value} {x : DataW H × List MemPlace} (ht : P.underlying t = some (.struct #[f0, f1, f2, f3, f4])) (h : DataW.trod enc P w base spare held fuel t cs = some x) :
 ∃ y0 y1 y2 y3 y4 n, cs.length = P.cellsOf t ∧ DataW.trod enc P w base spare held n f0.type ((cs.drop f0.offset).take (P.cellsOf f0.type)) = some y0 ∧
  DataW.trod enc P w base spare held n f1.type ((cs.drop f1.offset).take (P.cellsOf f1.type)) = some y1 ∧ DataW.trod enc P w base spare held n f2.type ((cs.drop f2.offset).take (P.cellsOf f2.type)) = some y2 ∧
  DataW.trod enc P w base spare held n f3.type ((cs.drop f3.offset).take (P.cellsOf f3.type)) = some y3 ∧ DataW.trod enc P w base spare held n f4.type ((cs.drop f4.offset).take (P.cellsOf f4.type)) = some y4 := by
 obtain ⟨xs, n, _, rfl, hl, hlen, hf⟩ := DataW.trod_struct ht h
 match xs, hlen with
 | [y0, y1, y2, y3, y4], _ => exact ⟨y0, y1, y2, y3, y4, n, hl, by simpa using hf 0 f0 rfl, by simpa using hf 1 f1 rfl, by simpa using hf 2 f2 rfl, by simpa using hf 3 f3 rfl, by simpa using hf 4 f4 rfl⟩
end
section
variable {H : Type} {enc : TypeId × Value → H} {w : World} {base : Nat} {spare : Nat → Bool} {held : Bool}
theorem open_u8s {fuel : Nat} {cs : List Value} {X : DataW H × List MemPlace} (h : DataW.trod enc Tryz.prog w base spare held fuel 25 cs = some X) :
 ∃ (A : Option Addr) (l : List Int) (c : Nat), cs = [.slice A l.length c] ∧ l.length ≤ c ∧ c ≤ maxLen ∧ SlR 1 RU8 w A l ∧ ∀ x ∈ l, 0 ≤ x ∧ x ≤ 255 := by
 obtain ⟨A, len, cap, xs, he, rfl, hlc, hcm, hs⟩ := open_slr (α := {x : Int // 0 ≤ x ∧ x ≤ 255}) (R := fun w x vs => RU8 w x.1 vs) Tryz.underlying25 (s := 1) (by kernel_rfl) (by decide) (fun n cs y hh _ => by
  obtain ⟨m, rfl, _, hw⟩ := DataW.trod_int Tryz.underlying5 hh
  exact ⟨⟨m, wf_u8 hw⟩, rfl⟩) h
 refine ⟨A, xs.map (·.1), cap, by rw [List.length_map]; exact he, by rw [List.length_map]; exact hlc, hcm, slr_map hs, fun q hq => ?_⟩
 obtain ⟨y, _, rfl⟩ := List.mem_map.1 hq
 exact y.2
theorem open_rawrule {fuel : Nat} {cs : List Value} {X : DataW H × List MemPlace} (h : DataW.trod enc Tryz.prog w base spare held fuel 70 cs = some X) (hl : cs.length = 5) : ∃ x : Rw, RRw w x cs := by
 obtain ⟨z0, z1, z2, z3, z4, m, _, q0, q1, q2, q3, q4⟩ := trod_struct5 Tryz.underlying70 h
 obtain ⟨a, b, c, d, e, rfl⟩ := list5_ cs hl
 have hc1 : Tryz.prog.cellsOf 25 = 1 := by kernel_rfl
 have hc2 : Tryz.prog.cellsOf 5 = 1 := by kernel_rfl
 dsimp only at q0 q1 q2 q3 q4
 rw [hc1] at q0 q1
 rw [hc2] at q2 q3 q4
 obtain ⟨A, la, ca, e0, l0, m0, s0, b0⟩ := open_u8s q0
 obtain ⟨B, lb, cb, e1, l1, m1, s1, b1⟩ := open_u8s q1
 obtain ⟨n2, f2, _, w2⟩ := DataW.trod_int Tryz.underlying5 q2
 obtain ⟨n3, f3, _, w3⟩ := DataW.trod_int Tryz.underlying5 q3
 obtain ⟨n4, f4, _, w4⟩ := DataW.trod_int Tryz.underlying5 q4
 simp at e0 e1 f2 f3 f4
 subst e0 e1 f2 f3 f4
 exact ⟨⟨la, lb, A, B, ca, cb, n2, n3, n4⟩, rfl, s0, s1, Nat.le_trans l0 m0, Nat.le_trans l1 m1, b0, b1, wf_u8 w2, wf_u8 w3, wf_u8 w4⟩
theorem open_raw5 {r : Reach} {b0 : Nat} {v : Value} {d : DataW H} {p : List MemPlace} (hv : Value.okWide Tryz.prog w r b0 24 v) (h : DataW.Trod enc Tryz.prog w base spare held 24 v d p) :
 ∃ (qb qd : Int) (A : Option Addr) (l : List Rw) (c : Nat), v = .agg #[.int .u8 qb, .int .u8 qd, .slice A l.length c] ∧ (0 ≤ qb ∧ qb ≤ 255) ∧ (0 ≤ qd ∧ qd ≤ 255) ∧ l.length ≤ maxLen ∧ SlR 5 RRw w A l := by
 obtain ⟨v0, v1, v2, y0, y1, y2, n, rfl, _, _, h0, h1, h2⟩ := Go.Joins.open_agg3 Tryz.underlying24 (by kernel_rfl) (by kernel_rfl) hv h
 obtain ⟨qb, e0, _, w0⟩ := DataW.trod_int Tryz.underlying5 h0
 obtain ⟨qd, e1, _, w1⟩ := DataW.trod_int Tryz.underlying5 h1
 obtain ⟨A, len, c, us, e3, rfl, k3, m3, s3⟩ := open_slr (α := Rw) (R := RRw) Tryz.underlying22 (s := 5) (by kernel_rfl) (by decide) (fun n cs y hh hcl => open_rawrule hh hcl) h2
 simp only [List.cons.injEq, and_true] at e0 e1 e3
 subst e0 e1 e3
 exact ⟨qb, qd, A, us, c, rfl, wf_u8 w0, wf_u8 w1, by omega, s3⟩
end
end Go.Proofs.YtfpnhgahkjglgaaGreat
