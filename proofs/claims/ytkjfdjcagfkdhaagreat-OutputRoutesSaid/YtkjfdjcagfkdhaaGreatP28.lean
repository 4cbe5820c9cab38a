/-
  OuLawC, OuLawD, Open, Open2, OuRow, OuFrame, OuLawE, joined. No conditions.
-/
import Derived.Test.YtkjfdjcagfkdhaaGreatP27
import Derived.Test.YtkjfdjcagfkdhaaGreatRows
import Derived.Test.YtkjfdjcagfkdhaaGreatP04
import Derived.ProofKit
import Derived.OpenShut
import Derived.ChangeSame
import Derived.Carry
import Derived.Deep.Slices
import Derived.Deep.Fields
import Derived.Lib.SmallJoins
import Derived.Test.YtkjfdjcagfkdhaaGreatP15
import Derived.ArgAppend
/-
  The walks of layer 05: the scheme of the examples, and what is found in it.
-/
namespace Go.Proofs.YtkjfdjcagfkdhaaGreat
open Go Go.RowKit

def encRu5 (r : Ru) : List Value := [.int .i64 r.fr, .int .i64 r.to, .string r.inp, .string r.out, .int .i64 r.co]
theorem samp_in {W : World} {g : Nat} (h : Blk W g 55 (sampS.rs.flatMap encRu5).toArray) : ScIn W sampS (some ⟨g, 0, none⟩) 4 where
  sl := slr_blkR h (fun _ => rfl) (fun _ => rfl)
  len := by decide
  txt r hr := ⟨Nat.le_trans (samp_ok.2.2.2.1 r hr).2.1.1 (by decide), Nat.le_trans (samp_ok.2.2.2.1 r hr).2.2.1.1 (by decide)⟩
  acc := by decide
  cap := by decide
set_option maxRecDepth 100000 in
set_option maxHeartbeats 4000000 in
theorem sample_any (w : World) : Calls Tryz.prog 17 #[] w fun e w' => ∃ g, e = .returned (.agg #[.int .i64 1, .int .u8 1, .slice (some ⟨g, 0, none⟩) 4 4]) ∧ ScIn w' sampS (some ⟨g, 0, none⟩) 4 ∧ Below w.heap.size w w' := by
  go_enter Tryz.func17, Tryz.ntmps17
  go_upto_region 1 with fail
  go_wp2_with fail
  generalize hW : ((w.alloc (.cells #[.int .i64 1, .int .u8 1, .slice (some ⟨w.heap.size + 1, 0, none⟩) 4 4] 29)).alloc (.cells _ 55)) = W
  have hb : Below w.heap.size w W := by rw [← hW]; exact nw _ (nw _ (Below.refl _ _))
  have hS : Blk W w.heap.size 29 #[.int .i64 1, .int .u8 1, .slice (some ⟨w.heap.size + 1, 0, none⟩) 4 4] := by rw [← hW]; exact (Blk.new _ _ _).alloc _
  have hR : Blk W (w.heap.size + 1) 55 (sampS.rs.flatMap encRu5).toArray := by rw [← hW]; exact Blk.new_ (by simp)
  clear hW
  have q0 := hS.cell 0
  have q1 := hS.cell 1
  have q2 := hS.cell 2
  simp at q0 q1 q2
  refine bodyPost_ret (v := .agg #[.int .i64 1, .int .u8 1, .slice (some ⟨w.heap.size + 1, 0, none⟩) 4 4]) (by simp [results, Tryz.results17, go_sem, q0, q1, q2]; done) rfl ?_
  exact ⟨_, rfl, samp_in hR, hb⟩
set_option maxRecDepth 100000 in
set_option maxHeartbeats 4000000 in
theorem finds_any (inp : ByteArray) (k : Int) (xs ys : List Rs) (B : Option Addr) (d : Nat) (w : World) (hin : inp.size ≤ maxLen) (hk0 : 0 ≤ k) (hk1 : k ≤ 1000) (hb : bestR sampS inp k = (xs, 0)) (hy : SlR 2 RRs w B ys) (hyl : ys.length ≤ 65536) (hxl : xs.length ≤ 65536) :
    Calls Tryz.prog 18 #[.string inp, .int .i64 k, .slice B ys.length d] w fun e w' => e = .returned (.bool (decide (xs = ys))) ∧ Below w.heap.size w w' := by
  have HSA := Lib.hid (sample_any w)
  have HBE : Hid (∀ (W : World) (g : Nat), ScIn W sampS (some ⟨g, 0, none⟩) 4 → Calls Tryz.prog 11 #[.agg #[.int .i64 1, .int .u8 1, .slice (some ⟨g, 0, none⟩) 4 4], .string inp, .int .i64 k] W fun e w' => ∃ (A : Option Addr) (c : Nat), e = .returned (.tuple #[.slice A xs.length c, .int .i64 0]) ∧ SlR 2 RRs w' A xs ∧ Below W.heap.size W w') := fun W g hW =>
    (best05_any sampS (some ⟨g, 0, none⟩) 4 inp k W hW (fun _ _ => samp_flat) hin hk0 hk1).mono fun e w' ⟨x2, er, A, c, h1, h2, h3, h4, h5⟩ => by
      rw [hb] at h2
      injection h2 with h6 h7
      subst h6 h7
      exact ⟨A, c, h1, h4, h5⟩
  have HY := Lib.hid hy
  clear hy hb
  go_enter Tryz.func18, Tryz.ntmps18
  go_wp2_with (first | (go_at_call 17; go_loud (refine HSA.out.mono ?_; rintro e w1 ⟨g, rfl, hsc, hb1⟩)) | (go_at_call 11; go_loud (refine (HBE.out _ _ hsc).mono ?_; rintro e w2 ⟨A, c, rfl, hx2, hb2⟩)) | (go_at_call 45; go_loud (refine (same5_any A B xs ys c d _ hx2 ((HY.out.below keeps_rs hb1).below keeps_rs hb2) hxl hyl).mono ?_; rintro e w3 ⟨rfl, hb3⟩)))
  go_ret
  exact ⟨rfl, (hb1.trans (hb2.mono hb1.size)).trans (hb3.mono (by have := hb1.size; have := hb2.size; omega))⟩
end Go.Proofs.YtkjfdjcagfkdhaaGreat

/-
  The walk of layer 05: the examples hold.
-/
namespace Go.Proofs.YtkjfdjcagfkdhaaGreat
open Go Go.RowKit

theorem find_lit {inp : ByteArray} {k : Int} {xs : List Rs} {cs : Array Value} {n : Nat} (hb : bestR sampS inp k = (xs, 0)) (hin : inp.size ≤ maxLen) (hk : 0 ≤ k ∧ k ≤ 1000) (hc : cs = (xs.flatMap encRs).toArray) (hn : xs.length = n) (hl : xs.length ≤ 65536) (W : World) :
    Calls Tryz.prog 18 #[.string inp, .int .i64 k, .slice (some ⟨W.heap.size, 0, none⟩) n n] (W.alloc (.cells cs 47)) fun e w' => e = .returned (.bool true) ∧ Below W.heap.size W w' := by
  subst hn
  have hB : Blk (W.alloc (.cells cs 47)) W.heap.size 47 (xs.flatMap encRs).toArray := by rw [hc]; exact Blk.new _ _ _
  refine (finds_any inp k xs xs (some ⟨W.heap.size, 0, none⟩) xs.length _ hin hk.1 hk.2 hb (slr_blkR hB (fun _ => rfl) (fun _ => rfl)) hl hl).mono ?_
  rintro e w' ⟨rfl, hb2⟩
  exact ⟨by rw [decide_eq_true rfl], (nw (.cells cs 47) (Below.refl W.heap.size W)).trans (hb2.mono (by simp))⟩
theorem best_lit {s : Sc} {A : Option Addr} {c : Nat} {inp : ByteArray} {k : Int} {er : Int} (hf : ScOK s → SoundP s → FlatR s) (hb : bestR s inp k = ([], er)) (hin : inp.size ≤ maxLen) (hk : 0 ≤ k ∧ k ≤ 1000) (W : World) (hs : ScIn W s A c) :
    Calls Tryz.prog 11 #[.agg #[.int .i64 s.n, .int .u8 s.acc, .slice A s.rs.length c], .string inp, .int .i64 k] W fun e w' => (∃ B d, e = .returned (.tuple #[.slice B 0 d, .int .i64 er])) ∧ Below W.heap.size W w' :=
  (best05_any s A c inp k W hs hf hin hk.1 hk.2).mono fun e w' ⟨x2, e2, B, d, h1, h2, h3, h4, h5⟩ => by
    rw [hb] at h2
    injection h2 with h6 h7
    subst h6 h7
    exact ⟨⟨B, d, h1⟩, h5⟩
theorem zero_in (W : World) : ScIn W zeroS none 0 where
  sl := SlR.nil
  len := by decide
  txt r hr := nomatch hr
  acc := by decide
  cap := by decide
set_option maxRecDepth 100000 in
set_option maxHeartbeats 8000000 in
theorem sanity5_any (w : World) : Calls Tryz.prog 6 #[] w fun e w' => e = .returned (.bool true) ∧ Below w.heap.size w w' := by
  have HSA := Lib.hid (sample_any w)
  go_enter Tryz.func6, Tryz.ntmps6
  go_upto_region 2 with (go_at_call 17; go_loud (refine HSA.out.mono ?_; rintro e w1 ⟨g, rfl, hsc, hb1⟩))
  obtain ⟨w2, hw2⟩ : ∃ W, w1.alloc (.cells #[.int .i64 1, .int .u8 1, .slice (some ⟨g, 0, none⟩) 4 4] 29) = W := ⟨_, rfl⟩
  obtain ⟨gS, hgS⟩ : ∃ g, w1.heap.size = g := ⟨_, rfl⟩
  have hb2 : Below w1.heap.size w1 w2 := by rw [← hw2]; exact nw _ (Below.refl _ _)
  have hbs : Blk w2 gS 29 #[.int .i64 1, .int .u8 1, .slice (some ⟨g, 0, none⟩) 4 4] := by rw [← hw2, ← hgS]; exact Blk.new _ _ _
  have HB2 : Hid (Below w.heap.size w w2) := bthen hb1 hb2
  have HSC := Lib.hid (hsc.below hb2)
  have HCC : Hid (∀ W, Below w2.heap.size w2 W → W.cell? ⟨gS, 0, none⟩ = some (.int .i64 1) ∧ W.cell? ⟨gS, 1, none⟩ = some (.int .u8 1) ∧ W.cell? ⟨gS, 2, none⟩ = some (.slice (some ⟨g, 0, none⟩) 4 4) ∧ gS < W.heap.size) := fun W hW => by
    have e1 := hbs.below hW hbs.lt
    exact ⟨by rw [e1.cell]; rfl, by rw [e1.cell]; rfl, by rw [e1.cell]; rfl, e1.lt⟩
  rw [hw2, hgS]
  clear hw2 hgS hb2 hbs hb1 hsc
  have HBE : Hid (∀ (W : World) (inp : ByteArray) (k er : Int), Below w2.heap.size w2 W → bestR sampS inp k = ([], er) → inp.size ≤ maxLen → 0 ≤ k ∧ k ≤ 1000 → Calls Tryz.prog 11 #[.agg #[.int .i64 1, .int .u8 1, .slice (some ⟨g, 0, none⟩) 4 4], .string inp, .int .i64 k] W fun e w' => (∃ B d, e = .returned (.tuple #[.slice B 0 d, .int .i64 er])) ∧ Below W.heap.size W w') :=
    fun W inp k er hW hb hin hk => best_lit (fun _ _ => samp_flat) hb hin hk W (HSC.out.below hW)
  have HBZ : Hid (∀ W : World, Calls Tryz.prog 11 #[.agg #[.int .i64 0, .int .u8 0, .slice none 0 0], .string ⟨#[97]⟩, .int .i64 5] W fun e w' => (∃ B d, e = .returned (.tuple #[.slice B 0 d, .int .i64 1])) ∧ Below W.heap.size W w') :=
    fun W => best_lit (s := zeroS) (fun h _ => absurd h (by decide)) samp_eh (by decide) (by decide) W (zero_in W)
  obtain ⟨b0, b1, b2, bl_⟩ := HCC.out w2 (Below.refl _ _)
  go_upto_region 3 with (go_at_call 11; go_loud (refine (HBE.out _ _ _ _ (Below.refl _ _) samp_e (by decide) (by decide)).mono ?_; rintro e w3 ⟨⟨B1, d1, rfl⟩, hb3⟩))
  have HB3 := Lib.hid hb3
  clear hb3 b0 b1 b2 bl_
  obtain ⟨b0, b1, b2, bl_⟩ := HCC.out w3 HB3.out
  go_upto_region 4 with (go_at_call 11; go_loud (refine (HBE.out _ _ _ _ HB3.out samp_ef (by decide) (by decide)).mono ?_; rintro e w4 ⟨⟨B2, d2, rfl⟩, hb4⟩))
  have HB4 := Lib.hid (bthen HB3.out hb4)
  clear hb4 b0 b1 b2 bl_
  obtain ⟨b0, b1, b2, bl_⟩ := HCC.out w4 HB4.out
  go_upto_region 5 with (go_at_call 11; go_loud (refine (HBE.out _ _ _ _ HB4.out samp_eg (by decide) (by decide)).mono ?_; rintro e w5 ⟨⟨B3, d3, rfl⟩, hb5⟩))
  have HB5 := Lib.hid (bthen HB4.out hb5)
  clear hb5 b0 b1 b2 bl_
  go_upto_region 6 with (go_at_call 11; go_loud (refine (HBZ.out _).mono ?_; rintro e w6 ⟨⟨B4, d4, rfl⟩, hb6⟩))
  have HB6 := Lib.hid (bthen HB5.out hb6)
  clear hb6
  have HF1 : Hid (∀ W : World, Calls Tryz.prog 18 #[.string ⟨#[97]⟩, .int .i64 5, .slice (some ⟨W.heap.size, 0, none⟩) 2 2] (W.alloc (.cells #[.string ⟨#[97]⟩, .int .i64 0, .string ⟨#[65]⟩, .int .i64 1] 47)) fun e w' => e = .returned (.bool true) ∧ Below W.heap.size W w') := fun W => find_lit (n := 2) samp_f1 (by decide) (by decide) (by rfl) rfl (by decide) W
  have HF2 : Hid (∀ W : World, Calls Tryz.prog 18 #[.string ⟨#[97, 97]⟩, .int .i64 3, .slice (some ⟨W.heap.size, 0, none⟩) 3 3] (W.alloc (.cells #[.string ⟨#[97, 97]⟩, .int .i64 0, .string ⟨#[65, 97]⟩, .int .i64 1, .string ⟨#[66]⟩, .int .i64 1] 47)) fun e w' => e = .returned (.bool true) ∧ Below W.heap.size W w') := fun W => find_lit (n := 3) samp_f2 (by decide) (by decide) (by rfl) rfl (by decide) W
  have HF3 : Hid (∀ W : World, Calls Tryz.prog 18 #[.string ⟨#[98, 97]⟩, .int .i64 1, .slice (some ⟨W.heap.size, 0, none⟩) 1 1] (W.alloc (.cells #[.string ⟨#[97]⟩, .int .i64 5] 47)) fun e w' => e = .returned (.bool true) ∧ Below W.heap.size W w') := fun W => find_lit (n := 1) samp_f3 (by decide) (by decide) (by rfl) rfl (by decide) W
  have HF4 : Hid (∀ W : World, Calls Tryz.prog 18 #[.string ⟨#[]⟩, .int .i64 9, .slice (some ⟨W.heap.size, 0, none⟩) 1 1] (W.alloc (.cells #[.string ⟨#[]⟩, .int .i64 0] 47)) fun e w' => e = .returned (.bool true) ∧ Below W.heap.size W w') := fun W => find_lit (n := 1) samp_f4 (by decide) (by decide) (by rfl) rfl (by decide) W
  go_upto_region 7 with (first | (go_at_call 18; with_reducible refine (HF1.out _).mono ?_; rintro e w7 ⟨rfl, hf1⟩) | (go_at_call 18; with_reducible refine (HF2.out _).mono ?_; rintro e w8 ⟨rfl, hf2⟩) | (go_at_call 18; with_reducible refine (HF3.out _).mono ?_; rintro e w9 ⟨rfl, hf3⟩) | (go_at_call 18; with_reducible refine (HF4.out _).mono ?_; rintro e w10 ⟨rfl, hf4⟩))
  have HB10 := Lib.hid (bthen (bthen (bthen (bthen HB6.out hf1) hf2) hf3) hf4)
  clear hf1 hf2 hf3 hf4
  go_upto_region 8 with fail
  obtain ⟨b0, b1, b2, bl_⟩ := HCC.out w10 HB10.out
  have HC1 : Hid (∀ W : World, Below w2.heap.size w2 W → Calls Tryz.prog 10 #[.agg #[.int .i64 1, .int .u8 1, .slice (some ⟨g, 0, none⟩) 4 4], .string ⟨#[97, 97]⟩, .string ⟨#[97, 65]⟩] W fun e w' => e = .returned (.int .i64 1) ∧ Below W.heap.size W w') := fun W hW => (cost05_any sampS (some ⟨g, 0, none⟩) 4 ⟨#[97, 97]⟩ ⟨#[97, 65]⟩ W (HSC.out.below hW) (fun _ _ => samp_flat) (by decide) (by decide)).mono fun e w' ⟨⟨r, h1, h2⟩, h3⟩ => ⟨by rw [h1, samp_c1 h2], h3⟩
  have HC2 : Hid (∀ W : World, Below w2.heap.size w2 W → Calls Tryz.prog 10 #[.agg #[.int .i64 1, .int .u8 1, .slice (some ⟨g, 0, none⟩) 4 4], .string ⟨#[97]⟩, .string ⟨#[98]⟩] W fun e w' => e = .returned (.int .i64 (-1)) ∧ Below W.heap.size W w') := fun W hW => (cost05_any sampS (some ⟨g, 0, none⟩) 4 ⟨#[97]⟩ ⟨#[98]⟩ W (HSC.out.below hW) (fun _ _ => samp_flat) (by decide) (by decide)).mono fun e w' ⟨⟨r, h1, h2⟩, h3⟩ => ⟨by rw [h1, samp_c2 h2], h3⟩
  have HC3 : Hid (∀ W : World, Below w2.heap.size w2 W → Calls Tryz.prog 10 #[.agg #[.int .i64 1, .int .u8 1, .slice (some ⟨g, 0, none⟩) 4 4], .string ⟨#[65]⟩, .string ⟨#[65]⟩] W fun e w' => e = .returned (.int .i64 (-1)) ∧ Below W.heap.size W w') := fun W hW => (cost05_any sampS (some ⟨g, 0, none⟩) 4 ⟨#[65]⟩ ⟨#[65]⟩ W (HSC.out.below hW) (fun _ _ => samp_flat) (by decide) (by decide)).mono fun e w' ⟨⟨r, h1, h2⟩, h3⟩ => ⟨by rw [h1, samp_c3 h2], h3⟩
  have HC4 : Hid (∀ W : World, Below w2.heap.size w2 W → Calls Tryz.prog 16 #[.agg #[.int .i64 1, .int .u8 1, .slice (some ⟨g, 0, none⟩) 4 4], .string ⟨#[97, 98]⟩] W fun e w' => e = .returned (.bool true) ∧ Below W.heap.size W w') := fun W hW => (goes05_any sampS (some ⟨g, 0, none⟩) 4 ⟨#[97, 98]⟩ W (HSC.out.below hW) (fun _ _ => samp_flat) (by decide)).mono fun e w' ⟨⟨r, h1, h2⟩, h3⟩ => ⟨by rw [h1, samp_g1 h2], h3⟩
  have HC5 : Hid (∀ W : World, Below w2.heap.size w2 W → Calls Tryz.prog 16 #[.agg #[.int .i64 1, .int .u8 1, .slice (some ⟨g, 0, none⟩) 4 4], .string ⟨#[97, 99]⟩] W fun e w' => e = .returned (.bool false) ∧ Below W.heap.size W w') := fun W hW => (goes05_any sampS (some ⟨g, 0, none⟩) 4 ⟨#[97, 99]⟩ W (HSC.out.below hW) (fun _ _ => samp_flat) (by decide)).mono fun e w' ⟨⟨r, h1, h2⟩, h3⟩ => ⟨by rw [h1, samp_g2 h2], h3⟩
  go_wp2_with (first | (go_at_call 10; with_reducible refine (HC1.out _ HB10.out).mono ?_; rintro e w11 ⟨rfl, hc1⟩; obtain ⟨q00, q01, q02, q0l⟩ := HCC.out _ (bthen HB10.out hc1)) | (go_at_call 10; with_reducible refine (HC2.out _ (bthen HB10.out hc1)).mono ?_; rintro e w12 ⟨rfl, hc2⟩; obtain ⟨q10, q11, q12, q1l⟩ := HCC.out _ (bthen (bthen HB10.out hc1) hc2)) | (go_at_call 10; with_reducible refine (HC3.out _ (bthen (bthen HB10.out hc1) hc2)).mono ?_; rintro e w13 ⟨rfl, hc3⟩; obtain ⟨q20, q21, q22, q2l⟩ := HCC.out _ (bthen (bthen (bthen HB10.out hc1) hc2) hc3)) | (go_at_call 16; with_reducible refine (HC4.out _ (bthen (bthen (bthen HB10.out hc1) hc2) hc3)).mono ?_; rintro e w14 ⟨rfl, hc4⟩; obtain ⟨q30, q31, q32, q3l⟩ := HCC.out _ (bthen (bthen (bthen (bthen HB10.out hc1) hc2) hc3) hc4)) | (go_at_call 16; with_reducible refine (HC5.out _ (bthen (bthen (bthen (bthen HB10.out hc1) hc2) hc3) hc4)).mono ?_; rintro e w15 ⟨rfl, hc5⟩; obtain ⟨q40, q41, q42, q4l⟩ := HCC.out _ (bthen (bthen (bthen (bthen (bthen HB10.out hc1) hc2) hc3) hc4) hc5)))
  go_ret
  exact ⟨rfl, bthen HB2.out (bthen (bthen (bthen (bthen (bthen HB10.out hc1) hc2) hc3) hc4) hc5)⟩
end Go.Proofs.YtkjfdjcagfkdhaaGreat

/-
  Arguments opened: a slice reads as a list of things, whatever memory it lies in; the row's last step where old memory is left alone.
-/
namespace Go.Proofs.YtkjfdjcagfkdhaaGreat
open Go Go.RowKit Go.ChangeShapes Go.WideShapes

theorem Tryz.own : ownKnob Tryz.prog.godebug = none := by kernel_rfl
theorem Tryz.laidOut : laidOutB Tryz.prog = true := by kernel_rfl

section
variable {H : Type} {enc : TypeId × Value → H} {P : Program} {w : World} {base : Nat} {spare : Nat → Bool} {held : Bool}
theorem list_choose {α : Type} {p : Nat → α → Prop} : ∀ (n : Nat), (∀ i, i < n → ∃ x, p i x) → ∃ xs : List α, xs.length = n ∧ ∀ i x, xs[i]? = some x → p i x
  | 0, _ => ⟨[], rfl, fun i x h => by simp at h⟩
  | n + 1, h => by
    obtain ⟨xs, hl, hp⟩ := list_choose n (fun i hi => h i (by omega))
    obtain ⟨x, hx⟩ := h n (by omega)
    refine ⟨xs ++ [x], by simp [hl], fun i y hy => ?_⟩
    rcases Nat.lt_or_ge i n with hi | hi
    · rw [List.getElem?_append_left (by omega)] at hy; exact hp i y hy
    · obtain ⟨hlt, _⟩ := List.getElem?_eq_some_iff.1 hy
      have : i = n := by simp [hl] at hlt; omega
      subst this
      rw [List.getElem?_append_right (by omega), hl] at hy
      simp at hy
      subst hy
      exact hx
/-- A slice that an argument holds reads as a list. -/
theorem open_slr {α : Type} {R : World → α → List Value → Prop} {t e : TypeId} {s fuel : Nat} {cs : List Value} {X : DataW H × List MemPlace} (ht : P.underlying t = some (.slice e)) (hc : P.cellsOf e = s) (hs : 0 < s)
    (hel : ∀ (n : Nat) (cs : List Value) (y : DataW H × List MemPlace), DataW.trod enc P w base spare held n e cs = some y → cs.length = s → ∃ x : α, R w x cs)
    (h : DataW.trod enc P w base spare held fuel t cs = some X) : ∃ (A : Option Addr) (len cap : Nat) (xs : List α), cs = [.slice A len cap] ∧ xs.length = len ∧ len ≤ cap ∧ cap ≤ maxLen ∧ SlR s R w A xs := by
  rcases Go.Deep.open_slice ht h with ⟨rfl, _⟩ | ⟨a, len, cap, m, n, D, Pl, rfl, hb, hl, hm, hmm, _, hx⟩
  · exact ⟨none, 0, 0, [], rfl, rfl, Nat.le_refl _, Nat.zero_le _, SlR.nil⟩
  · have hlm : len ≤ m := by rw [hmm]; split <;> omega
    subst hc
    obtain ⟨xs, hxl, hxs⟩ := list_choose (p := fun i x => ∃ cs', w.cells? base (a.add (i * P.cellsOf e)) (P.cellsOf e) = some cs' ∧ R w x cs') len (fun i hi => by
      obtain ⟨cs', h1, h2⟩ := hx i (by omega)
      obtain ⟨x, hx⟩ := hel _ _ _ h2 (World.cells?_some h1).2.1
      exact ⟨x, cs', h1, hx⟩)
    refine ⟨some a, len, cap, xs, rfl, hxl, hl, hm, fun hne => ?_⟩
    have hcell : ∀ i x, xs[i]? = some x → ∃ vs, R w x vs ∧ vs.length = P.cellsOf e ∧ ∀ j v, vs[j]? = some v → w.cell? (a.add (i * P.cellsOf e + j)) = some v := fun i x hi => by
      obtain ⟨cs', h1, h2⟩ := hxs i x hi
      obtain ⟨_, hcl, hat⟩ := World.cells?_some h1
      refine ⟨cs', h2, hcl, fun j v hj => ?_⟩
      obtain ⟨hjl, _⟩ := List.getElem?_eq_some_iff.1 hj
      have := hat j (by omega)
      rw [Go.Deep.add_add] at this
      rw [this]; exact hj
    obtain ⟨x0, hx0⟩ : ∃ x, xs[0]? = some x := ⟨xs[0]'(List.length_pos_iff.2 hne), List.getElem?_eq_getElem _⟩
    obtain ⟨vs, _, hvl, hv⟩ := hcell 0 x0 hx0
    obtain ⟨v0, hv0⟩ : ∃ v, vs[0]? = some v := ⟨vs[0]'(by omega), List.getElem?_eq_getElem _⟩
    have h0 := hv 0 v0 hv0
    simp only [Nat.zero_mul, Nat.zero_add] at h0
    have ha0 : a.add 0 = a := by unfold Addr.add; simp
    rw [ha0] at h0
    rcases a with ⟨b, o, sp⟩
    cases sp with
    | some _ =>
      unfold World.cell? at h0
      dsimp only at h0
      split at h0 <;> simp at h0
    | none =>
      refine ⟨b, o, rfl, ?_, fun k x hk => ?_⟩
      · rcases Nat.lt_or_ge b w.heap.size with h | h
        · exact h
        · unfold World.cell? at h0; dsimp only at h0; rw [Array.getElem?_eq_none h] at h0; cases h0
      · obtain ⟨vs, h1, h2, h3⟩ := hcell k x hk
        refine ⟨vs, h1, h2, fun j v hj => ?_⟩
        have := h3 j v hj
        have e : (Addr.mk b o none).add (k * P.cellsOf e + j) = ⟨b, o + k * P.cellsOf e + j, none⟩ := by unfold Addr.add; split <;> simp_all [Nat.add_assoc]
        rw [e] at this
        exact this
/-- The row's last step: the call left old memory alone. -/
theorem post_of_below {f : Func} {s : ChangeSpec} {apart fresh handsOn again : Bool} {W W' : World} {args : Array Value} {v : Value} {ds gs : List (DataW H)} {before pa pv : List MemPlace}
    (hW : DataW.Whole enc P f.params.toList s.vars apart W args.toList ds gs before)
    (hres : ∀ (b : Nat) (sp : Nat → Bool) (hd : Bool), DataW.TrodAll enc P W' b sp hd f.resultTypes.toList (v.resultList f.resultTypes.size) (s.fn H (ds ++ gs)).results [])
    (hargs : ∀ sp : Nat → Bool, (∀ p ∈ before, sp p.block = true) → DataW.TrodAll enc P W' 0 sp true f.params.toList args.toList (s.fn H (ds ++ gs)).args pa)
    (hvars : ∀ sp : Nat → Bool, (∀ p ∈ before, sp p.block = true) → DataW.TrodVars enc P W' sp s.vars (s.fn H (ds ++ gs)).vars pv)
    (hps : before = pa ++ pv) (hb : Below W.heap.size W W')
    (hok : ∀ (j : Nat) (t : TypeId) (r : Value), f.resultTypes[j]? = some t → (v.resultList f.resultTypes.size)[j]? = some r → Value.okWide P W' .any 0 t r) :
    s.post enc P f apart fresh handsOn again W args v W' := by
  have hlt : ∀ p ∈ before, p.block < W.heap.size := fun p hp => hW.lt p hp
  have hold : ∀ p ∈ before, (fun b => decide (b < W.heap.size)) p.block = true := fun p hp => by simpa using hlt p hp
  refine ⟨ds, gs, before, [], pa, pv, hW, hres _ _ _, hargs _ hold, hvars _ hold, World.keptBut_mono (fun p hp => ⟨hp, ?_⟩) (hb.frame (· ∈ before)), fun _ => ?_⟩
  · rw [hps, List.mem_append] at hp
    exact Or.inr hp
  · obtain ⟨_, _, _, _, _, hz, hn⟩ := hW
    refine ⟨hok, _, _, ([] ++ pa) ++ pv, ⟨[] ++ pa, pv, trodAll_append (hargs _ (fun _ _ => rfl)) (hres _ _ _), hvars _ (fun _ _ => rfl), rfl, ?_, ?_⟩, ?_⟩
    · intro b off hp
      have hin : MemPlace.cell b off ∈ before := by rw [hps]; simpa using hp
      rw [hb.frozen (hlt _ hin)]
      exact hz b off hin
    · intro ha
      have := hn ha
      rw [hps] at this
      simpa using this
    · intro p hp _
      rw [hps]
      simpa using hp
theorem below_trod {t : TypeId} {W W' : World} {v : Value} {d : DataW H} {ps : List MemPlace} {sp : Nat → Bool} (hr : Tryz.prog.readableRec t = true) (hrow : t < Tryz.prog.types.size) (h : DataW.Trod enc Tryz.prog W 0 (fun _ => true) true t v d ps)
    (hb : Below W.heap.size W W') (hlt : ∀ x ∈ ps, x.block < W.heap.size) (hsp : ∀ x ∈ ps, sp x.block = true) : DataW.Trod enc Tryz.prog W' 0 sp true t v d ps :=
  WideElems.Trod_stays Tryz.laidOut hr hrow h (fun x hx => hb.same (hlt x hx)) hsp
end
end Go.Proofs.YtkjfdjcagfkdhaaGreat

/-
  Arguments opened: arrays by their numbers.
-/
namespace Go.Proofs.YtkjfdjcagfkdhaaGreat
open Go Go.RowKit Go.ChangeShapes Go.WideShapes

section
variable {H : Type} {enc : TypeId × Value → H} {P : Program} {w : World} {base : Nat} {spare : Nat → Bool} {held : Bool}
end
end Go.Proofs.YtkjfdjcagfkdhaaGreat

/-
  Rows that a call may append to, its own or without room; rules' bytes as they come in. No conditions.
-/
namespace Go.Proofs.YtkjfdjcagfkdhaaGreat
open Go Go.RowKit

/-- A rule's bytes as they come in. -/
structure Rw where
  a : List Int
  b : List Int
  A : Option Addr
  B : Option Addr
  c : Nat
  d : Nat
  f : Int
  t : Int
  co : Int
def encRw (x : Rw) : List Value := [.slice x.A x.a.length x.c, .slice x.B x.b.length x.d, .int .u8 x.f, .int .u8 x.t, .int .u8 x.co]
structure RwOK (w : World) (x : Rw) : Prop where
  sa : SlR 1 RU8 w x.A x.a
  sb : SlR 1 RU8 w x.B x.b
  la : x.a.length ≤ maxLen
  lb : x.b.length ≤ maxLen
  ba : ∀ y ∈ x.a, 0 ≤ y ∧ y ≤ 255
  bb : ∀ y ∈ x.b, 0 ≤ y ∧ y ≤ 255
  f : 0 ≤ x.f ∧ x.f ≤ 255
  t : 0 ≤ x.t ∧ x.t ≤ 255
  co : 0 ≤ x.co ∧ x.co ≤ 255
def RRw (w : World) (x : Rw) (vs : List Value) : Prop := vs = encRw x ∧ RwOK w x
theorem RwOK.below {w w' : World} {x : Rw} (h : RwOK w x) (hb : Below w.heap.size w w') : RwOK w' x := ⟨h.sa.below keeps_u8 hb, h.sb.below keeps_u8 hb, h.la, h.lb, h.ba, h.bb, h.f, h.t, h.co⟩
theorem keeps_rw : Keeps RRw := fun _ _ _ _ hb h => ⟨h.1, h.2.below hb⟩
theorem SlR.rw5 {w : World} {A : Option Addr} {k : Nat} {xs : List Rw} (h : SlR 5 RRw w A xs) (hk : k < xs.length) : ∃ b off x, A = some ⟨b, off, none⟩ ∧ b < w.heap.size ∧ xs[k]? = some x ∧ RwOK w x ∧
    w.cell? ⟨b, off + k * 5, none⟩ = some (.slice x.A x.a.length x.c) ∧ w.cell? ⟨b, off + k * 5 + 1, none⟩ = some (.slice x.B x.b.length x.d) ∧ w.cell? ⟨b, off + k * 5 + 2, none⟩ = some (.int .u8 x.f) ∧ w.cell? ⟨b, off + k * 5 + 3, none⟩ = some (.int .u8 x.t) ∧ w.cell? ⟨b, off + k * 5 + 4, none⟩ = some (.int .u8 x.co) := by
  obtain ⟨b, off, x, vs, hA, hlt, hx, ⟨hr, hr2⟩, _, hv⟩ := h.at_ hk
  exact ⟨b, off, x, hA, hlt, hx, hr2, hv 0 _ (by rw [hr]; rfl), hv 1 _ (by rw [hr]; rfl), hv 2 _ (by rw [hr]; rfl), hv 3 _ (by rw [hr]; rfl), hv 4 _ (by rw [hr]; rfl)⟩

/-- A row that may be appended to: the call's own behind block hi, or one without room in the blocks lo to hi. -/
def RowG (w : World) (lo hi : Nat) (e : TypeId) (s : Nat) (v : Value) (n : Nat) (xs : List Value) : Prop :=
  w.ownsRow (hi + 1) e s v n xs ∨ ∃ g off, v = .slice (some ⟨g, off, none⟩) n n ∧ (lo ≤ g ∧ g < hi) ∧ xs.length = n * s ∧ ∀ j u, xs[j]? = some u → w.cell? ⟨g, off + j, none⟩ = some u
section
variable {w w' : World} {lo hi : Nat} {e : TypeId} {s n : Nat} {v : Value} {xs : List Value}
theorem RowG.ne (h : RowG w lo hi e s v n xs) {b : Nat} (hb : b = hi ∨ b < lo) (hl : lo ≤ hi) : v.ownBlock ≠ some b := fun e => by
  rcases h with h | ⟨g, off, rfl, hg, _⟩
  · have := own_block_le h _ e; omega
  · simp [Value.ownBlock] at e; omega
theorem RowG.below (h : RowG w lo hi e s v n xs) (hh : hi ≤ w.heap.size) (hb : Below w.heap.size w w') : RowG w' lo hi e s v n xs := by
  rcases h with h | ⟨g, off, rfl, hg, hl, hc⟩
  · exact .inl (own_below h hb)
  · exact .inr ⟨g, off, rfl, hg, hl, fun j u hj => (hb.cell (p := ⟨g, _, none⟩) (Nat.lt_of_lt_of_le hg.2 hh)).trans (hc j u hj)⟩
theorem RowG.setN (h : RowG w lo hi e s v n xs) {b : Nat} (hb : v.ownBlock ≠ some b) (o : Nat) (u : Value) : RowG (w.setCell ⟨b, o, none⟩ u) lo hi e s v n xs := by
  rcases h with h | ⟨g, off, rfl, hg, hl, hc⟩
  · exact .inl (own_set h (a := ⟨b, o, none⟩) hb u)
  · refine .inr ⟨g, off, rfl, hg, hl, fun j x hj => ?_⟩
    rw [World.cell?_of_block (Below.heap_setCell w ⟨b, o, none⟩ u g (fun e => hb (by simp [Value.ownBlock]; exact e)))]
    exact hc j x hj
theorem RowG.set (h : RowG w lo hi e s v n xs) (o : Nat) (u : Value) : RowG (w.setCell ⟨hi, o, none⟩ u) lo hi e s v n xs := by
  rcases h with h | ⟨g, off, rfl, hg, hl, hc⟩
  · exact .inl (own_set h (a := ⟨hi, o, none⟩) (fun e => absurd (own_block_le h _ e) (Nat.not_succ_le_self _)) u)
  · refine .inr ⟨g, off, rfl, hg, hl, fun j x hj => ?_⟩
    rw [World.cell?_of_block (Below.heap_setCell w ⟨hi, o, none⟩ u g (by simp; omega))]
    exact hc j x hj
end
theorem info_partsR {t : TypeId} {z : Value} {s b : Nat} (h : (Tryz.prog.info? t).map (fun i => (i.zero, i.size, i.bytes)) = some (some z, s, b)) : ∃ i, Tryz.prog.info? t = some i ∧ i.zero = some z ∧ i.size = s ∧ i.bytes = b := by
  cases hi : Tryz.prog.info? t with
  | none => rw [hi] at h; cases h
  | some i =>
    rw [hi] at h
    simp at h
    exact ⟨i, rfl, h.1, h.2.1, h.2.2⟩
theorem rule_info : (Tryz.prog.info? 55).map (fun i => (i.zero, i.size, i.bytes)) = some (some (.agg #[.int .i64 0, .int .i64 0, .string ⟨#[]⟩, .string ⟨#[]⟩, .int .i64 0]), 5, 56) := by kernel_rfl
theorem news_blk {w : World} {g : Nat} {t : TypeId} {cs : Array Value} (h : Blk w g t cs) : ∀ j u, cs.toList[j]? = some u → w.cell? ((⟨g, 0, none⟩ : Addr).add j) = some u := fun j u hu => by
  rw [Addr.add_lit, Nat.zero_add, h.cell]
  simpa using hu
theorem getG {α : Type} {s : Nat} {enc : α → List Value} (hl : ∀ x, (enc x).length = s) : ∀ (l : List α) (k : Nat) (x : α), l[k]? = some x → ∀ j u, (enc x)[j]? = some u → (l.flatMap enc)[k * s + j]? = some u := by
  intro l
  induction l with
  | nil => intro k x h; simp at h
  | cons y l ih =>
    intro k x hx j u hu
    rw [List.flatMap_cons]
    cases k with
    | zero =>
      simp at hx
      subst hx
      rw [List.getElem?_append_left (by have := (List.getElem?_eq_some_iff.1 hu).1; omega)]
      simpa using hu
    | succ k =>
      rw [List.getElem?_cons_succ] at hx
      rw [List.getElem?_append_right (by rw [hl, Nat.add_mul]; omega), hl, show (k + 1) * s + j - s = k * s + j by rw [Nat.add_mul]; omega]
      exact ih k x hx j u hu
theorem RowG.slr {α : Type} {enc : α → List Value} {R : World → α → List Value → Prop} {w : World} {lo hi : Nat} {e : TypeId} {s : Nat} {v : Value} {ks : List α} (h : RowG w lo hi e s v ks.length (ks.flatMap enc)) (hl : ∀ x, (enc x).length = s) (hR : ∀ w x, R w x (enc x)) (hm : ks.length ≤ maxLen) (hh : hi ≤ w.heap.size) :
    ∃ A c, v = .slice A ks.length c ∧ ks.length ≤ c ∧ c ≤ maxLen ∧ SlR s R w A ks := by
  rcases h with h | ⟨g, off, rfl, hg, _, hc⟩
  · exact own_slr h hl (hR w) rfl
  · exact ⟨some ⟨g, off, none⟩, ks.length, rfl, Nat.le_refl _, hm, fun _ => ⟨g, off, rfl, by omega, fun k x hx => ⟨enc x, hR w x, hl x, fun j u hj => by have := hc (k * s + j) u (getG hl ks k x hx j u hj); rw [← Nat.add_assoc] at this; exact this⟩⟩⟩
/-- A row's beginning. -/
theorem own_cut {w : World} {base : Nat} {e : TypeId} {s n m : Nat} {A : Option Addr} {c : Nat} {xs ys : List Value} (h : w.ownsRow base e s (.slice A (n + (m + 1)) c) (n + (m + 1)) (xs ++ ys)) (hx : xs.length = n * s) : w.ownsRow base e s (.slice A n c) n xs := by
  obtain ⟨_, h2⟩ := h
  rcases h2 with ⟨_, h0⟩ | ⟨g, cap, cur, hv, hg, hh, hnc, hcm, hcs, htk⟩
  · omega
  · injection hv with h1 h2 h3
    subst h1 h3
    refine ⟨hx, .inr ⟨g, c, cur, rfl, hg, hh, by omega, hcm, hcs, ?_⟩⟩
    have h4 : (xs ++ ys).take (n * s) = xs := by rw [← hx]; exact List.take_left
    rw [← h4, ← htk, List.take_take, Nat.min_eq_left (Nat.mul_le_mul_right _ (by omega))]
/-- Every old block but the own row's is as it was. -/
structure ButR (v : Value) (w w' : World) : Prop where
  size : w.heap.size ≤ w'.heap.size
  block : ∀ b, b < w.heap.size → v.ownBlock ≠ some b → w'.heap[b]? = w.heap[b]?
theorem ButR.of_below {v : Value} {w w' : World} (h : Below w.heap.size w w') : ButR v w w' := ⟨h.size, fun b hb _ => h.block b hb⟩
theorem ButR.cell {v : Value} {w w' : World} (h : ButR v w w') : ∀ b o, b < w.heap.size → v.ownBlock ≠ some b → w'.cell? ⟨b, o, none⟩ = w.cell? ⟨b, o, none⟩ := fun b _ hb hv => World.cell?_of_block (h.block b hb hv)
theorem ButR.apps {v v' : Value} {w w1 w2 : World} (h : ButR v w w1) (hs : w1.heap.size ≤ w2.heap.size) (ha : Apps w1 w2 v v') : ButR v w w2 :=
  ⟨Nat.le_trans h.size hs, fun b hb hv => (ha.keep b (Nat.lt_of_lt_of_le hb h.size) hv).trans (h.block b hb hv)⟩
section
variable {P : Program}
/-- 'append(out, x)', onto a row of the call's own or one without room. -/
theorem wp_appG {o : Oper} {a : Act} {K : Act → World → Prop} {Q : Exit → Act → World → Prop} {w : World} (s x : Operand) (t : TypeId)
    (ho : o.op = .call { callee := .builtin .append, args := #[s, x], argTypes := #[t, t] })
    (lo hi : Nat) (e : TypeId) (i : TypeInfo) (z : Value) (size bytes : Nat) (ht : P.underlying t = some (.slice e)) (hi' : P.info? e = some i) (hz : i.zero = some z)
    (hsize : i.size = size) (hby : i.bytes = bytes) (hzs : z.cells.size = size) (hsz : 0 < size)
    (v : Value) (n : Nat) (xs : List Value) (hs : a.eval s = v) (hown : RowG w lo hi e size v n xs)
    (ad : Addr) (c : Nat) (news : List Value) (hx : a.eval x = .slice (some ad) 1 c) (hl : news.length = size) (hnews : ∀ j u, news[j]? = some u → w.cell? (ad.add j) = some u) (h1 : ∀ u ∈ news, u.oneCell' = true)
    (hn : n + 1 ≤ 1000000) (hbb : bytes ≤ 1000) (hbase : hi + 1 ≤ w.heap.size)
    (h : ∀ v' w', w'.ownsRow (hi + 1) e size v' (n + 1) (xs ++ news) → Below (hi + 1) w w' → Apps w w' v v' → K (a.put o.dst v') w') : o.wp P a w K Q := by
  have hb1 : (n + 1) * bytes ≤ 1000000 * 1000 := Nat.mul_le_mul hn hbb
  have key : ∃ v' w', (Builtin.append_ #[t, t] o.type #[v, .slice (some ad) 1 c]).run P w = .ok v' w' ∧ w'.ownsRow (hi + 1) e size v' (n + 1) (xs ++ news) ∧ Below (hi + 1) w w' ∧ Apps w w' v v' := by
    rcases hown with hown | ⟨g, off, rfl, hg, hxl, hc⟩
    · obtain ⟨v', w', hrun, h2, h3, _, h5⟩ := run_append_own_at (P := P) w (hi + 1) t o.type e i z size bytes ht hi' hz hsize hby hzs hsz v n xs hown ad 1 c news (by rw [hl, Nat.one_mul]) hnews h1 (by unfold maxLen; omega) (by omega) hbase
      refine ⟨v', w', hrun, h2, (Below.refl _ _).grown h3 hbase (own_block_le hown), ⟨fun k hk hne => h3.block k hk (fun e => hne e.symm), ?_⟩⟩
      rcases h5 with h5 | h5
      · exact .inl h5
      · exact .inr ⟨_, h5, Nat.le_refl _⟩
    · obtain ⟨v', w', hrun, h2, h3⟩ := run_append_arg_grows (P := P) w t o.type e i z size bytes ht hi' hz hsize hby hzs hsz ⟨g, off, none⟩ n n xs hxl (fun j u hj => by rw [Addr.add_lit]; exact hc j u hj) ad 1 c news (by rw [hl, Nat.one_mul]) hnews (by omega) (by unfold maxLen; omega) (by omega)
      refine ⟨v', w', hrun, own_base h2 hbase, (Below.refl _ _).grown h3 hbase (fun k hk => by cases hk), ⟨fun k hk _ => h3.block k hk (fun e => by cases e), ?_⟩⟩
      rcases h2.2 with ⟨_, h0⟩ | ⟨g', _, _, hv, hg', _⟩
      · omega
      · exact .inr ⟨g', by rw [hv]; rfl, hg'⟩
  obtain ⟨v', w', hrun, h2, h3, h5⟩ := key
  unfold Oper.wp execOp
  simp only [ho, resolve, invoke, builtin, Sem.run_bind, Sem.run_pure, Result.andThen_ok, List.map_toArray, List.map_cons, List.map_nil, hs, hx, hrun]
  exact h v' w' h2 h3 h5
end
end Go.Proofs.YtkjfdjcagfkdhaaGreat

/-
  The statements of layers 05 and 08: their arguments opened.
-/
namespace Go.Proofs.YtkjfdjcagfkdhaaGreat
open Go Go.RowKit Go.ChangeShapes Go.WideShapes

theorem wf_u8 {n : Int} (h : (Lit.int .u8 n).wf = true) : 0 ≤ n ∧ n ≤ 255 := by
  simp [Lit.wf, IntKind.min, IntKind.max, IntKind.signed, IntKind.bits] at h
  omega
theorem slr_map {α β : Type} {s : Nat} {R : World → α → List Value → Prop} {w : World} {A : Option Addr} {f : β → α} {xs : List β} (h : SlR s (fun w x vs => R w (f x) vs) w A xs) : SlR s R w A (xs.map f) := fun hne => by
  obtain ⟨b, off, hA, hb, hc⟩ := h (by rintro rfl; simp at hne)
  refine ⟨b, off, hA, hb, fun k x hx => ?_⟩
  rw [List.getElem?_map] at hx
  cases hk : xs[k]? with
  | none => rw [hk] at hx; cases hx
  | some y =>
    rw [hk] at hx
    obtain ⟨vs, h1, h2, h3⟩ := hc k y hk
    exact ⟨vs, by rw [show x = f y from (Option.some.inj hx).symm]; exact h1, h2, h3⟩
theorem list5_ {α : Type} : ∀ (l : List α), l.length = 5 → ∃ a b c d e, l = [a, b, c, d, e]
  | [a, b, c, d, e], _ => ⟨a, b, c, d, e, rfl⟩
section
variable {H : Type} {enc : TypeId × Value → H} {P : Program} {w : World} {base : Nat} {spare : Nat → Bool} {held : Bool}
theorem trod_struct5 {t : TypeId} {f0 f1 f2 f3 f4 : Field} {fuel : Nat} {cs : List Value} {x : DataW H × List MemPlace} (ht : P.underlying t = some (.struct #[f0, f1, f2, f3, f4])) (h : DataW.trod enc P w base spare held fuel t cs = some x) :
    ∃ y0 y1 y2 y3 y4 n, cs.length = P.cellsOf t ∧ DataW.trod enc P w base spare held n f0.type ((cs.drop f0.offset).take (P.cellsOf f0.type)) = some y0 ∧
      DataW.trod enc P w base spare held n f1.type ((cs.drop f1.offset).take (P.cellsOf f1.type)) = some y1 ∧ DataW.trod enc P w base spare held n f2.type ((cs.drop f2.offset).take (P.cellsOf f2.type)) = some y2 ∧
      DataW.trod enc P w base spare held n f3.type ((cs.drop f3.offset).take (P.cellsOf f3.type)) = some y3 ∧ DataW.trod enc P w base spare held n f4.type ((cs.drop f4.offset).take (P.cellsOf f4.type)) = some y4 := by
  obtain ⟨xs, n, _, rfl, hl, hlen, hf⟩ := DataW.trod_struct ht h
  match xs, hlen with
  | [y0, y1, y2, y3, y4], _ => exact ⟨y0, y1, y2, y3, y4, n, hl, by simpa using hf 0 f0 rfl, by simpa using hf 1 f1 rfl, by simpa using hf 2 f2 rfl, by simpa using hf 3 f3 rfl, by simpa using hf 4 f4 rfl⟩
end
section
variable {H : Type} {enc : TypeId × Value → H} {w : World} {base : Nat} {spare : Nat → Bool} {held : Bool}
set_option maxRecDepth 100000 in
theorem open_u8s {fuel : Nat} {cs : List Value} {X : DataW H × List MemPlace} (h : DataW.trod enc Tryz.prog w base spare held fuel 25 cs = some X) :
    ∃ (A : Option Addr) (l : List Int) (c : Nat), cs = [.slice A l.length c] ∧ l.length ≤ c ∧ c ≤ maxLen ∧ SlR 1 RU8 w A l ∧ ∀ x ∈ l, 0 ≤ x ∧ x ≤ 255 := by
  obtain ⟨A, len, cap, xs, he, rfl, hlc, hcm, hs⟩ := open_slr (α := {x : Int // 0 ≤ x ∧ x ≤ 255}) (R := fun w x vs => RU8 w x.1 vs) Tryz.underlying25 (s := 1) (by kernel_rfl) (by decide) (fun n cs y hh _ => by
    obtain ⟨m, rfl, _, hw⟩ := DataW.trod_int Tryz.underlying5 hh
    exact ⟨⟨m, wf_u8 hw⟩, rfl⟩) h
  refine ⟨A, xs.map (·.1), cap, by rw [List.length_map]; exact he, by rw [List.length_map]; exact hlc, hcm, slr_map hs, fun q hq => ?_⟩
  obtain ⟨y, _, rfl⟩ := List.mem_map.1 hq
  exact y.2
set_option maxRecDepth 100000 in
/-- A slice of bytes. -/
theorem open_bytes_ {r : Reach} {b0 : Nat} {v : Value} {d : DataW H} {p : List MemPlace} (hv : Value.okWide Tryz.prog w r b0 25 v) (h : DataW.Trod enc Tryz.prog w base spare held 25 v d p) :
    ∃ (A : Option Addr) (l : List Int) (c : Nat), v = .slice A l.length c ∧ l.length ≤ c ∧ c ≤ maxLen ∧ SlR 1 RU8 w A l ∧ ∀ x ∈ l, 0 ≤ x ∧ x ≤ 255 := by
  obtain ⟨A0, len0, cap0, rfl⟩ := okWide_slice (P := Tryz.prog) (w := w) (r := r) (base := b0) Tryz.underlying25 hv
  obtain ⟨fuel, hf⟩ := h
  obtain ⟨A, l, c, he, h2⟩ := open_u8s hf
  exact ⟨A, l, c, by simpa [Value.cells] using he, h2⟩
set_option maxRecDepth 100000 in
/-- A rule's bytes. -/
theorem open_rawrule {fuel : Nat} {cs : List Value} {X : DataW H × List MemPlace} (h : DataW.trod enc Tryz.prog w base spare held fuel 52 cs = some X) (hl : cs.length = 5) : ∃ x : Rw, RRw w x cs := by
  obtain ⟨z0, z1, z2, z3, z4, m, _, q0, q1, q2, q3, q4⟩ := trod_struct5 Tryz.underlying52 h
  obtain ⟨a, b, c, d, e, rfl⟩ := list5_ cs hl
  have hc1 : Tryz.prog.cellsOf 25 = 1 := by kernel_rfl
  have hc2 : Tryz.prog.cellsOf 5 = 1 := by kernel_rfl
  dsimp only at q0 q1 q2 q3 q4
  rw [hc1] at q0 q1
  rw [hc2] at q2 q3 q4
  obtain ⟨A, la, ca, e0, l0, m0, s0, b0⟩ := open_u8s q0
  obtain ⟨B, lb, cb, e1, l1, m1, s1, b1⟩ := open_u8s q1
  obtain ⟨n2, f2, _, w2⟩ := DataW.trod_int Tryz.underlying5 q2
  obtain ⟨n3, f3, _, w3⟩ := DataW.trod_int Tryz.underlying5 q3
  obtain ⟨n4, f4, _, w4⟩ := DataW.trod_int Tryz.underlying5 q4
  simp at e0 e1 f2 f3 f4
  subst e0 e1 f2 f3 f4
  exact ⟨⟨la, lb, A, B, ca, cb, n2, n3, n4⟩, rfl, s0, s1, Nat.le_trans l0 m0, Nat.le_trans l1 m1, b0, b1, wf_u8 w2, wf_u8 w3, wf_u8 w4⟩
set_option maxRecDepth 100000 in
/-- The description of a scheme. -/
theorem open_raw5 {r : Reach} {b0 : Nat} {v : Value} {d : DataW H} {p : List MemPlace} (hv : Value.okWide Tryz.prog w r b0 24 v) (h : DataW.Trod enc Tryz.prog w base spare held 24 v d p) :
    ∃ (qb qd : Int) (A : Option Addr) (l : List Rw) (c : Nat), v = .agg #[.int .u8 qb, .int .u8 qd, .slice A l.length c] ∧ (0 ≤ qb ∧ qb ≤ 255) ∧ (0 ≤ qd ∧ qd ≤ 255) ∧ l.length ≤ maxLen ∧ SlR 5 RRw w A l := by
  obtain ⟨v0, v1, v2, y0, y1, y2, n, rfl, _, _, h0, h1, h2⟩ := Go.Joins.open_agg3 Tryz.underlying24 (by kernel_rfl) (by kernel_rfl) hv h
  obtain ⟨qb, e0, _, w0⟩ := DataW.trod_int Tryz.underlying5 h0
  obtain ⟨qd, e1, _, w1⟩ := DataW.trod_int Tryz.underlying5 h1
  obtain ⟨A, len, c, us, e3, rfl, k3, m3, s3⟩ := open_slr (α := Rw) (R := RRw) Tryz.underlying22 (s := 5) (by kernel_rfl) (by decide) (fun n cs y hh hcl => open_rawrule hh hcl) h2
  simp only [List.cons.injEq, and_true] at e0 e1 e3
  subst e0 e1 e3
  exact ⟨qb, qd, A, us, c, rfl, wf_u8 w0, wf_u8 w1, by omega, s3⟩
set_option maxRecDepth 100000 in
/-- A rule's bytes by value. -/
theorem open_rule5 {r : Reach} {b0 : Nat} {v : Value} {d : DataW H} {p : List MemPlace} (hv : Value.okWide Tryz.prog w r b0 52 v) (h : DataW.Trod enc Tryz.prog w base spare held 52 v d p) :
    ∃ x : Rw, v = .agg #[.slice x.A x.a.length x.c, .slice x.B x.b.length x.d, .int .u8 x.f, .int .u8 x.t, .int .u8 x.co] ∧ RwOK w x := by
  obtain ⟨cs, rfl, hsz⟩ := okWide_struct Tryz.underlying52 hv
  have hC : Tryz.prog.cellsOf 52 = 5 := by kernel_rfl
  obtain ⟨fuel, hf⟩ := h
  obtain ⟨x, hx, hok⟩ := open_rawrule hf (by show cs.toList.length = 5; rw [Array.length_toList, hsz, hC])
  refine ⟨x, ?_, hok⟩
  have e : cs.toList = encRw x := hx
  have e2 : cs = (encRw x).toArray := by rw [← e]
  rw [e2]
  rfl
end
end Go.Proofs.YtkjfdjcagfkdhaaGreat

/-
  The walks of layer 05: a rule between two modes; an input out of bytes.
-/
namespace Go.Proofs.YtkjfdjcagfkdhaaGreat
open Go Go.RowKit

set_option maxRecDepth 100000 in
set_option maxHeartbeats 4000000 in
theorem simple_any (a b : Int) (i o : ByteArray) (w : World) : Calls Tryz.prog 46 #[.agg #[.int .i64 a, .int .i64 b], .string i, .string o] w fun e w' => e = .returned (.agg #[.int .i64 a, .int .i64 b, .string i, .string o, .int .i64 (i.size : Int)]) ∧ Below w.heap.size w w' := by
  obtain ⟨w1, hw1⟩ : ∃ w1, w.alloc (.cells #[.int .i64 a, .int .i64 b] 107) = w1 := ⟨_, rfl⟩
  obtain ⟨g, hg⟩ : ∃ g, w.heap.size = g := ⟨_, rfl⟩
  have hb1 : Below w.heap.size w w1 := by rw [← hw1]; exact nw _ (Below.refl _ _)
  have hB : Blk w1 g 107 #[.int .i64 a, .int .i64 b] := by rw [← hw1, ← hg]; exact Blk.new _ _ _
  obtain ⟨w2, hw2⟩ : ∃ w2, w1.alloc (.cells #[.int .i64 0, .int .i64 0, .string ⟨#[]⟩, .string ⟨#[]⟩, .int .i64 0] 55) = w2 := ⟨_, rfl⟩
  have hb2 : Below w.heap.size w w2 := by rw [← hw2, ← hw1]; exact nw _ (nw _ (Below.refl _ _))
  have hC : Blk w2 (g + 1) 55 #[.int .i64 0, .int .i64 0, .string ⟨#[]⟩, .string ⟨#[]⟩, .int .i64 0] := by rw [← hw2]; exact Blk.new_ (by rw [← hw1, ← hg]; simp)
  have hB2 : Blk w2 g 107 #[.int .i64 a, .int .i64 b] := by rw [← hw2]; exact hB.alloc _
  have hgw : w.heap.size ≤ g + 1 := by omega
  have HW1 := Lib.hid hw1
  have HW2 := Lib.hid hw2
  have HG := Lib.hid hg
  have c0 := hB2.cell 0
  have c1 := hB2.cell 1
  have cl := hB2.lt
  have d0 := hC.cell 0
  have d1 := hC.cell 1
  have d2 := hC.cell 2
  have d3 := hC.cell 3
  have d4 := hC.cell 4
  have dl := hC.lt
  have f0 := hC.frozen 0
  have f1 := hC.frozen 1
  have f2 := hC.frozen 2
  have f3 := hC.frozen 3
  have f4 := hC.frozen 4
  simp at c0 c1 d0 d1 d2 d3 d4
  have HE := Lib.hid (((((hC.set_ 0 (.int .i64 a)).set_ 1 (.int .i64 b)).set_ 2 (.string i)).set_ 3 (.string o)).set_ 4 (.int .i64 (i.size : Int)))
  have HBE := Lib.hid (((((hb2.setCell (p := ⟨g + 1, 0, none⟩) hgw (.int .i64 a)).setCell (p := ⟨g + 1, 1, none⟩) hgw (.int .i64 b)).setCell (p := ⟨g + 1, 2, none⟩) hgw (.string i)).setCell (p := ⟨g + 1, 3, none⟩) hgw (.string o)).setCell (p := ⟨g + 1, 4, none⟩) hgw (.int .i64 (i.size : Int)))
  clear hw1 hg hb1 hB hw2 hB2 hC hb2
  go_enter Tryz.func46, Tryz.ntmps46
  go_upto_region 1 with fail
  rw [HW1.out, HG.out, HW2.out]
  go_wp2_with fail
  obtain ⟨W, hW⟩ : ∃ W, (((((w2.setCell ⟨g + 1, 0, none⟩ (.int .i64 a)).setCell ⟨g + 1, 1, none⟩ (.int .i64 b)).setCell ⟨g + 1, 2, none⟩ (.string i)).setCell ⟨g + 1, 3, none⟩ (.string o)).setCell ⟨g + 1, 4, none⟩ (.int .i64 (i.size : Int))) = W := ⟨_, rfl⟩
  have hE := HE.out
  have hbE := HBE.out
  rw [hW] at hE hbE ⊢
  clear hW HE HBE
  have q0 := hE.cell 0
  have q1 := hE.cell 1
  have q2 := hE.cell 2
  have q3 := hE.cell 3
  have q4 := hE.cell 4
  simp at q0 q1 q2 q3 q4
  refine bodyPost_ret (v := .agg #[.int .i64 a, .int .i64 b, .string i, .string o, .int .i64 (i.size : Int)]) (by simp [results, Tryz.results46, go_sem, q0, q1, q2, q3, q4]; done) rfl ?_
  exact ⟨rfl, hbE⟩
end Go.Proofs.YtkjfdjcagfkdhaaGreat
