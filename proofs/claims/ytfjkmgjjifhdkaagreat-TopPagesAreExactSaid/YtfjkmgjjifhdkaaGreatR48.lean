/-
  TpSan, CxCnt, CxWalkS, CxWalkN, CxWalkO, joined. No conditions.
-/
import Derived.Test.YtfjkmgjjifhdkaaGreatR46
import Derived.Test.YtfjkmgjjifhdkaaGreatR47
import Derived.Test.YtfjkmgjjifhdkaaGreatR05
import Derived.Test.YtfjkmgjjifhdkaaGreatR20
import Derived.Test.YtfjkmgjjifhdkaaGreatR09
import Derived.Test.YtfjkmgjjifhdkaaGreatR43
import Derived.Test.YtfjkmgjjifhdkaaGreatR35
import Derived.Test.YtfjkmgjjifhdkaaGreatR03
import Derived.Test.YtfjkmgjjifhdkaaGreatR02
import Derived.Test.YtfjkmgjjifhdkaaGreatR41
import Derived.Deep.DeepCutAuto
/-
  The fixed examples of the laws on pages in context.
-/
namespace Go.Proofs.YtfjkmgjjifhdkaaGreat
open Go Go.RowKit

def t20x : La := ⟨1, [⟨0, 1, 0, 3⟩]⟩
def t20m : Mo := ⟨[ByteArray.mk #[97]], [0], [], 5⟩
def t20g : Gr := ⟨2, [⟨0, 1, 0, 8⟩]⟩
def t20p : Pn := ⟨0, 1, 4⟩
theorem t20_ok : MoOK t20m := by decide +kernel
theorem t20_bu : buM t20x t20m 0 = ⟨t20g, lastL t20x 0, 0⟩ := by
  unfold buM
  rw [if_pos t20_ok, if_pos (by decide +kernel), show grL t20x t20m 0 = t20g by decide +kernel]
theorem t20_g : GrOK t20g := grB_iff.1 (by decide +kernel)
theorem t20_w : nW t20g 0 ≤ 1000000 := by decide +kernel
theorem t20_l : pgL t20g 5 = [⟨[0], 8⟩] := by decide +kernel
theorem t20_pot : potL t20g = [8, 0] := by decide +kernel
theorem t20_wh : pgWh t20g 5 = true := by decide +kernel
theorem t20_pin : (pinL t20x [t20p]).es = [] := by decide +kernel
theorem t20_cost : wcost t20m 0 = 0 := by decide +kernel
/-- The lattice and the model of the examples, in memory. -/
structure T20 (bE bX bS bC bM : Nat) (W : World) : Prop where
  bx : Blk W bX 27 #[.int .i64 1, .slice (some ⟨bE, 0, none⟩) 1 1]
  bm : Blk W bM 56 #[.slice (some ⟨bS, 0, none⟩) 1 1, .slice (some ⟨bC, 0, none⟩) 1 1, .slice none 0 0, .int .i64 5]
  x : SlR 4 REd W (some ⟨bE, 0, none⟩) t20x.es
  r : MoR W t20m (some ⟨bS, 0, none⟩) (some ⟨bC, 0, none⟩) none
section
variable {bE bX bS bC bM : Nat} {W W' : World}
theorem T20.mono (h : T20 bE bX bS bC bM W) (hb : Below W.heap.size W W') : T20 bE bX bS bC bM W' := ⟨h.bx.below hb h.bx.lt, h.bm.below hb h.bm.lt, h.x.below keeps_ed hb, h.r.below hb⟩
theorem T20.cells (h : T20 bE bX bS bC bM W) : (W.cell? ⟨bX, 0, none⟩ = some (.int .i64 1) ∧ W.cell? ⟨bX, 1, none⟩ = some (.slice (some ⟨bE, 0, none⟩) 1 1)) ∧
    (W.cell? ⟨bM, 0, none⟩ = some (.slice (some ⟨bS, 0, none⟩) 1 1) ∧ W.cell? ⟨bM, 1, none⟩ = some (.slice (some ⟨bC, 0, none⟩) 1 1) ∧ W.cell? ⟨bM, 2, none⟩ = some (.slice none 0 0) ∧ W.cell? ⟨bM, 3, none⟩ = some (.int .i64 5)) ∧ bX < W.heap.size ∧ bM < W.heap.size :=
  ⟨⟨by rw [h.bx.cell]; rfl, by rw [h.bx.cell]; rfl⟩, ⟨by rw [h.bm.cell]; rfl, by rw [h.bm.cell]; rfl, by rw [h.bm.cell]; rfl, by rw [h.bm.cell]; rfl⟩, h.bx.lt, h.bm.lt⟩
end
theorem t20_start (w : World) : T20 w.heap.size (w.heap.size + 1) (w.heap.size + 1 + 1) (w.heap.size + 1 + 1 + 1) (w.heap.size + 1 + 1 + 1 + 1) (((((w.alloc (.cells #[.int .i64 0, .int .i64 1, .int .i64 0, .int .i64 3] 44)).alloc (.cells #[.int .i64 1, .slice (some ⟨w.heap.size, 0, none⟩) 1 1] 27)).alloc (.cells #[.string (ByteArray.mk #[97])] 9)).alloc (.cells #[.int .i64 0] 3)).alloc (.cells #[.slice (some ⟨w.heap.size + 1 + 1, 0, none⟩) 1 1, .slice (some ⟨w.heap.size + 1 + 1 + 1, 0, none⟩) 1 1, .slice none 0 0, .int .i64 5] 56)) ∧ Below w.heap.size w (((((w.alloc (.cells #[.int .i64 0, .int .i64 1, .int .i64 0, .int .i64 3] 44)).alloc (.cells #[.int .i64 1, .slice (some ⟨w.heap.size, 0, none⟩) 1 1] 27)).alloc (.cells #[.string (ByteArray.mk #[97])] 9)).alloc (.cells #[.int .i64 0] 3)).alloc (.cells #[.slice (some ⟨w.heap.size + 1 + 1, 0, none⟩) 1 1, .slice (some ⟨w.heap.size + 1 + 1 + 1, 0, none⟩) 1 1, .slice none 0 0, .int .i64 5] 56)) := by
  obtain ⟨w1, h1⟩ : ∃ V, w.alloc (.cells #[.int .i64 0, .int .i64 1, .int .i64 0, .int .i64 3] 44) = V := ⟨_, rfl⟩
  have b1 : Below w.heap.size w w1 := by rw [← h1]; exact nw _ (Below.refl _ _)
  have s1 : w1.heap.size = w.heap.size + 1 := by rw [← h1]; simp
  have k1 : Blk w1 w.heap.size 44 #[.int .i64 0, .int .i64 1, .int .i64 0, .int .i64 3] := by rw [← h1]; exact Blk.new _ _ _
  rw [h1]
  obtain ⟨w2, h2⟩ : ∃ V, w1.alloc (.cells #[.int .i64 1, .slice (some ⟨w.heap.size, 0, none⟩) 1 1] 27) = V := ⟨_, rfl⟩
  have b2 : Below w1.heap.size w1 w2 := by rw [← h2]; exact nw _ (Below.refl _ _)
  have s2 : w2.heap.size = w.heap.size + 1 + 1 := by rw [← h2]; simp; omega
  have k2 : Blk w2 (w.heap.size + 1) 27 #[.int .i64 1, .slice (some ⟨w.heap.size, 0, none⟩) 1 1] := by rw [← h2, ← s1]; exact Blk.new _ _ _
  rw [h2]
  obtain ⟨w3, h3⟩ : ∃ V, w2.alloc (.cells #[.string (ByteArray.mk #[97])] 9) = V := ⟨_, rfl⟩
  have b3 : Below w2.heap.size w2 w3 := by rw [← h3]; exact nw _ (Below.refl _ _)
  have s3 : w3.heap.size = w.heap.size + 1 + 1 + 1 := by rw [← h3]; simp; omega
  have k3 : Blk w3 (w.heap.size + 1 + 1) 9 #[.string (ByteArray.mk #[97])] := by rw [← h3, ← s2]; exact Blk.new _ _ _
  rw [h3]
  obtain ⟨w4, h4⟩ : ∃ V, w3.alloc (.cells #[.int .i64 0] 3) = V := ⟨_, rfl⟩
  have b4 : Below w3.heap.size w3 w4 := by rw [← h4]; exact nw _ (Below.refl _ _)
  have s4 : w4.heap.size = w.heap.size + 1 + 1 + 1 + 1 := by rw [← h4]; simp; omega
  have k4 : Blk w4 (w.heap.size + 1 + 1 + 1) 3 #[.int .i64 0] := by rw [← h4, ← s3]; exact Blk.new _ _ _
  rw [h4]
  obtain ⟨w5, h5⟩ : ∃ V, w4.alloc (.cells #[.slice (some ⟨w.heap.size + 1 + 1, 0, none⟩) 1 1, .slice (some ⟨w.heap.size + 1 + 1 + 1, 0, none⟩) 1 1, .slice none 0 0, .int .i64 5] 56) = V := ⟨_, rfl⟩
  have b5 : Below w4.heap.size w4 w5 := by rw [← h5]; exact nw _ (Below.refl _ _)
  have k5 : Blk w5 (w.heap.size + 1 + 1 + 1 + 1) 56 #[.slice (some ⟨w.heap.size + 1 + 1, 0, none⟩) 1 1, .slice (some ⟨w.heap.size + 1 + 1 + 1, 0, none⟩) 1 1, .slice none 0 0, .int .i64 5] := by rw [← h5, ← s4]; exact Blk.new _ _ _
  rw [h5]
  have b25 := bthen (bthen (bthen b2 b3) b4) b5
  have b35 := bthen (bthen b3 b4) b5
  have k1 := k1.below b25 k1.lt
  have k2 := k2.below b35 k2.lt
  have k3 := k3.below (bthen b4 b5) k3.lt
  have k4 := k4.below b5 k4.lt
  have e1 := slr_of_blk (s := 4) (R := REd) (enc := encEd) (xs := t20x.es) k1 (fun _ => rfl) (fun _ => rfl) (by decide)
  have e2 := slr_of_blk (s := 1) (R := RStr) (enc := fun x => [Value.string x]) (xs := t20m.ws) k3 (fun _ => rfl) (fun _ => rfl) (by decide)
  have e3 := slr_of_blk (s := 1) (R := RInt) (enc := fun x => [Value.int .i64 x]) (xs := t20m.cs) k4 (fun _ => rfl) (fun _ => rfl) (by decide)
  exact ⟨⟨k2, k5, e1, ⟨e2, e3, SlR.nil, by decide, by decide, by decide, by decide, by simp [t20m, Within]⟩⟩, bthen b1 b25⟩

theorem bool_inf : (Tryz.prog.info? 4).map (fun i => (i.zero, i.size, i.bytes)) = some (some (.bool false), 1, 1) := by kernel_rfl
set_option maxRecDepth 100000 in
set_option maxHeartbeats 8000000 in
theorem t20_reach (bE : Nat) (w : World) (hx : SlR 4 REd w (some ⟨bE, 0, none⟩) t20x.es) :
    Calls Tryz.prog 25 #[.agg #[.int .i64 1, .slice (some ⟨bE, 0, none⟩) 1 1]] w fun r w' => r = .returned (.bool true) ∧ Below w.heap.size w w' := by
  obtain ⟨i0, hi, hz0, hz1, hz2⟩ := info_parts bool_inf
  obtain ⟨w1, hw1⟩ : ∃ w1, w.alloc (.cells #[.int .i64 1, .slice (some ⟨bE, 0, none⟩) 1 1] 27) = w1 := ⟨_, rfl⟩
  have hb1 : Below w.heap.size w w1 := by rw [← hw1]; exact nw _ (Below.refl _ _)
  have hL : Blk w1 w.heap.size 27 #[.int .i64 1, .slice (some ⟨bE, 0, none⟩) 1 1] := by rw [← hw1]; exact Blk.new _ _ _
  have HW1 := Lib.hid hw1
  have HX : Hid (∀ W, Below w.heap.size w W → SlR 4 REd W (some ⟨bE, 0, none⟩) t20x.es) := fun W hW => hx.below keeps_ed hW
  have l0 := hL.cell 0
  have l1 := hL.cell 1
  have ll := hL.lt
  simp at l0 l1
  clear hw1 hx
  go_enter Tryz.func25, Tryz.ntmps25
  go_upto_region 1 with fail
  rw [HW1.out]
  go_upto_region 2 with (at_make; go_loud (refine wpList_mk _ rfl _ _ 138 rfl 4 i0 (.bool false) (.bool false) Tryz.underlying138 hi hz0 hz1 (by omega) rfl 2 rfl rfl (by omega) ?_))
  obtain ⟨g, hg⟩ : ∃ g, w1.heap.size = g := ⟨_, rfl⟩
  obtain ⟨w2, hw2⟩ : ∃ V, w1.alloc (.cells #[.bool false, .bool false] 4) = V := ⟨_, rfl⟩
  have hb2 : Below w1.heap.size w1 w2 := by rw [← hw2]; exact nw _ (Below.refl _ _)
  have hG : Blk w2 g 4 #[.bool false, .bool false] := by rw [← hw2]; exact Blk.new_ hg.symm
  have hL2 := hL.below hb2 hL.lt
  rw [hw2, hg]
  have hgl : w.heap.size < g := by rw [← hg]; exact hL.lt
  have g0 := hG.cell 0
  have gf := hG.frozen 0
  have gl := hG.lt
  simp at g0
  clear hw2 l0 l1 ll
  have HG := Lib.hid hG
  have HB2 := Lib.hid (bthen hb1 hb2)
  have HL2 := Lib.hid hL2
  clear hL hG hL2
  go_upto_region 3 with fail
  obtain ⟨w3, hw3⟩ : ∃ V, w2.setCell ⟨g, 0, none⟩ (.bool true) = V := ⟨_, rfl⟩
  have hG3 : Blk w3 g 4 #[.bool true, .bool false] := by rw [← hw3]; have := HG.out.set_ 0 (.bool true); simpa using this
  have hb3 : Below g w2 w3 := by rw [← hw3]; exact (Below.refl _ _).setCell (p := ⟨g, 0, none⟩) (Nat.le_refl _) _
  rw [hw3]
  clear hw3 g0 gf gl
  have HL3 := Lib.hid (HL2.out.below hb3 hgl)
  have HB3 := Lib.hid (HB2.out.trans (hb3.mono (by omega)))
  clear hb3 hb1 hb2 HB2 HL2 HG
  go_wp2_with fail
  go_loopw [4] (fun i wr => ∃ (k : Nat) (v : Bool), k ≤ 1 ∧ i = .int .i64 k ∧ (k = 0 ∨ v = true) ∧ Blk wr g 4 #[.bool true, .bool v] ∧ Below g w3 wr) (fun i _ => 1 - (intOf i).toNat)
  case atStart => exact ⟨0, false, by omega, rfl, .inl rfl, hG3, Below.refl _ _⟩
  case round =>
    obtain ⟨k, v, hk, rfl, hv, hG, hbr⟩ := hrel
    have hL := HL3.out.below hbr hgl
    have l0 := hL.cell 0
    have l1 := hL.cell 1
    have ll := hL.lt
    simp at l0 l1
    by_cases h0 : k = 0
    · subst h0
      obtain ⟨b, off, e, hA, hbb, hee, d0, d1, d2, d3⟩ := (HX.out wr (HB3.out.trans (hbr.mono (by omega)))).ed (k := 0) (by decide)
      obtain rfl : e = ⟨0, 1, 0, 3⟩ := by have : some (⟨0, 1, 0, 3⟩ : Ed) = some e := hee; exact (Option.some.inj this).symm
      injection hA with hA
      injection hA with e1 e2
      subst e1 e2
      rw [Nat.zero_mul, Nat.add_zero] at d0 d1 d2 d3
      clear hee hv
      go_upto_region 7 with fail
      obtain ⟨W4, hW4⟩ : ∃ V, wr.alloc (.cells #[.int .i64 0, .int .i64 1, .int .i64 0, .int .i64 3] 44) = V := ⟨_, rfl⟩
      have hb4 : Below wr.heap.size wr W4 := by rw [← hW4]; exact nw _ (Below.refl _ _)
      have hE4 : Blk W4 wr.heap.size 44 #[.int .i64 0, .int .i64 1, .int .i64 0, .int .i64 3] := by rw [← hW4]; exact Blk.new _ _ _
      have hG4 := hG.below hb4 hG.lt
      have hsg := hG.lt
      have hgb : g ≠ wr.heap.size := by omega
      have hbr4 := hbr.trans (hb4.mono (by omega))
      rw [hW4]
      obtain ⟨bX, hbX⟩ : ∃ b, wr.heap.size = b := ⟨_, rfl⟩
      rw [hbX] at hE4 hgb ⊢
      clear hW4 hbX hb4 d0 d1 d2 d3 hbb l0 l1 ll hL
      have e0 := hE4.cell 0
      have e1 := hE4.cell 1
      have el := hE4.lt
      have g0 := hG4.cell 0
      have g1 := hG4.cell 1
      have gl := hG4.lt
      have gf1 := hG4.frozen 1
      simp at e0 e1 g0 g1
      have HG4 := Lib.hid hG4
      have HR4 := Lib.hid hbr4
      clear hE4 hG4 hbr4 hG hbr
      cases v with
      | false =>
        refine ordT_below [16] [(0, false), (1, false), (2, false), (3, false), (4, false), (5, false), (6, false), (7, false), (8, false), (9, false), (10, false), (11, false), (12, false), (13, false), (14, false), (15, false), (16, true)] (by kernel_rfl) (by kernel_rfl) (by kernel_rfl) (fun _ _ _ _ _ h => h) ?_
        intro W0 hS0
        repeat (first
          | (refine ordT_skip rfl rfl (by assumption) ?_; simp only [Act.put, List.setIfInBounds_toArray, List.set_cons_zero, List.set_cons_succ])
          | (refine ordT_cskip rfl rfl (by assumption) ?_; simp only [Act.put, List.setIfInBounds_toArray, List.set_cons_zero, List.set_cons_succ])
          | (refine ordT_take (v := ?_) rfl rfl (by assumption) ?_ ?_
             rotate_left 1
             focus (intro W hW; obtain ⟨hcW, hfW⟩ := bcell hW; (go_simp <;> with_reducible rfl))
             simp only [Act.put, List.setIfInBounds_toArray, List.set_cons_zero, List.set_cons_succ])
          | (refine ordT_call rfl rfl (fun K hK => ?_)
             obtain ⟨hcS, hfS⟩ := bcell hS0
             go_simp
             first
               | (refine hK.out _ _ (fun h => by cases h) ?_)))
        refine ordT_nil ?_
        have hGn := (HG4.out.below hS0 HG4.out.lt).set_ 1 (.bool true)
        have HGN : Hid (Blk (W0.setCell ⟨g, 1, none⟩ (.bool true)) g 4 #[.bool true, .bool true]) := by show Blk _ _ _ _; simpa using hGn
        have HBE := Lib.hid ((HR4.out.trans (hS0.mono (Nat.le_of_lt HG4.out.lt))).setCell (p := ⟨g, 1, none⟩) (Nat.le_refl _) (.bool true))
        clear hGn
        go_wp2_with fail
        go_roundw
        case rel => exact ⟨0 + 1, true, by omega, by go_num, .inr rfl, HGN.out, HBE.out⟩
        case measure => simp [intOf]
      | true =>
        refine ordT_below [16] [(0, false), (1, false), (2, false), (3, false), (4, false), (5, false), (6, false), (7, false), (8, false), (9, false), (10, false), (11, false), (12, false), (13, false), (14, false), (15, false), (16, true)] (by kernel_rfl) (by kernel_rfl) (by kernel_rfl) (fun _ _ _ _ _ h => h) ?_
        intro W0 hS0
        repeat (first
          | (refine ordT_skip rfl rfl (by assumption) ?_; simp only [Act.put, List.setIfInBounds_toArray, List.set_cons_zero, List.set_cons_succ])
          | (refine ordT_cskip rfl rfl (by assumption) ?_; simp only [Act.put, List.setIfInBounds_toArray, List.set_cons_zero, List.set_cons_succ])
          | (refine ordT_take (v := ?_) rfl rfl (by assumption) ?_ ?_
             rotate_left 1
             focus (intro W hW; obtain ⟨hcW, hfW⟩ := bcell hW; (go_simp <;> with_reducible rfl))
             simp only [Act.put, List.setIfInBounds_toArray, List.set_cons_zero, List.set_cons_succ])
          | (refine ordT_call rfl rfl (fun K hK => ?_)
             obtain ⟨hcS, hfS⟩ := bcell hS0
             go_simp
             first
               | (refine hK.out _ _ (fun h => by cases h) ?_)))
        refine ordT_nil ?_
        have hGn := (HG4.out.below hS0 HG4.out.lt).set_ 1 (.bool true)
        have HGN : Hid (Blk (W0.setCell ⟨g, 1, none⟩ (.bool true)) g 4 #[.bool true, .bool true]) := by show Blk _ _ _ _; simpa using hGn
        have HBE := Lib.hid ((HR4.out.trans (hS0.mono (Nat.le_of_lt HG4.out.lt))).setCell (p := ⟨g, 1, none⟩) (Nat.le_refl _) (.bool true))
        clear hGn
        go_wp2_with fail
        go_roundw
        case rel => exact ⟨0 + 1, true, by omega, by go_num, .inr rfl, HGN.out, HBE.out⟩
        case measure => simp [intOf]
    · obtain rfl : k = 1 := by omega
      have hv1 : v = true := by rcases hv with h | h; · omega
                                · exact h
      subst hv1
      have g0 := hG.cell 0
      have g1 := hG.cell 1
      have gl := hG.lt
      simp at g0 g1
      have HBE := Lib.hid (HB3.out.trans (hbr.mono (by omega)))
      clear hG hbr hL hv h0
      go_wp2_with fail
      go_ret
      exact ⟨rfl, HBE.out⟩
section
variable {bE bX bS bC bM : Nat} {W : World}
theorem t20_build (h : T20 bE bX bS bC bM W) : Calls Tryz.prog 13 #[.agg #[.int .i64 1, .slice (some ⟨bE, 0, none⟩) 1 1], .agg #[.slice (some ⟨bS, 0, none⟩) 1 1, .slice (some ⟨bC, 0, none⟩) 1 1, .slice none 0 0, .int .i64 5], .int .i64 0] W fun e w' => ∃ (LA LB : Option Addr) (cA lB cB : Nat), e = .returned (.tuple #[.agg #[.int .i64 2, .slice LA 1 cA], .slice LB lB cB, .int .i64 0]) ∧ SlR 4 RLk w' LA t20g.ls ∧ Below W.heap.size W w' := by
  have := build_any t20x (some ⟨bE, 0, none⟩) 1 t20m _ _ _ 1 1 0 0 W h.x (by decide) h.r (by decide) (by decide)
  rw [t20_bu] at this
  refine this.mono ?_
  rintro e w' ⟨LA, LB, cA, cB, rfl, h1, _, _, h4, _, _⟩
  exact ⟨LA, LB, cA, _, cB, rfl, h1, h4⟩
end
theorem t20_make (A : Option Addr) (c : Nat) (W : World) (hx : SlR 4 RLk W A t20g.ls) : Calls Tryz.prog 14 #[.agg #[.int .i64 2, .slice A 1 c], .int .i64 5, .int .i64 100] W fun e w' => ∃ B d C f, e = .returned (.tuple #[.agg #[.slice B 1 d, .bool true], .slice C 2 f, .int .i64 0]) ∧ PgIn w' B d (pgL t20g 5) ∧ SlR 1 RInt w' C (potL t20g) ∧ Below W.heap.size W w' := by
  have := lmake_any A c t20g 5 100 5 W hx t20_g ⟨by decide, t20_w⟩ (by decide) (by decide) (by decide +kernel)
  rw [t20_wh] at this
  refine this.mono ?_
  rintro e w' ⟨B, d, C, f, rfl, h1, h2, h3⟩
  exact ⟨B, d, C, f, by rw [t20_l, t20_pot]; rfl, h1, h2, h3⟩
theorem t20_check (A B C : Option Addr) (c d f : Nat) (W : World) (hx : SlR 4 RLk W A t20g.ls) (hp : PgIn W B d (pgL t20g 5)) (hh : SlR 1 RInt W C (potL t20g)) : Calls Tryz.prog 15 #[.agg #[.int .i64 2, .slice A 1 c], .slice C 2 f, .agg #[.slice B 1 d, .bool true]] W fun e w' => e = .returned (.tuple #[.int .i64 1, .int .i64 0]) ∧ Below W.heap.size W w' := by
  have := lcheck_any A c t20g C f B d 5 W hx t20_g ⟨by decide, t20_w⟩ hh hp
  rw [t20_wh, t20_l, show (potL t20g).length = 2 by rw [t20_pot]; rfl] at this
  rw [show ((min 5 (allG t20g).length : Nat) : Int) = 1 by decide +kernel] at this
  exact this
set_option maxRecDepth 100000 in
set_option maxHeartbeats 16000000 in
theorem sanity20t_any (w : World) : Calls Tryz.prog 6 #[] w fun e w' => e = .returned (.bool true) ∧ Below w.heap.size w w' := by
  obtain ⟨hS, hbw⟩ := t20_start w
  obtain ⟨W1, hW1⟩ : ∃ V, (((((w.alloc (.cells #[.int .i64 0, .int .i64 1, .int .i64 0, .int .i64 3] 44)).alloc (.cells #[.int .i64 1, .slice (some ⟨w.heap.size, 0, none⟩) 1 1] 27)).alloc (.cells #[.string (ByteArray.mk #[97])] 9)).alloc (.cells #[.int .i64 0] 3)).alloc (.cells #[.slice (some ⟨w.heap.size + 1 + 1, 0, none⟩) 1 1, .slice (some ⟨w.heap.size + 1 + 1 + 1, 0, none⟩) 1 1, .slice none 0 0, .int .i64 5] 56)) = V := ⟨_, rfl⟩
  rw [hW1] at hS hbw
  have HW1 := Lib.hid hW1
  clear hW1
  go_enter Tryz.func6, Tryz.ntmps6
  go_upto_region 3 with fail
  rw [HW1.out]
  clear HW1
  generalize w.heap.size + 1 + 1 + 1 + 1 = bM at *
  generalize w.heap.size + 1 + 1 + 1 = bC at *
  generalize w.heap.size + 1 + 1 = bS at *
  generalize w.heap.size + 1 = bX at *
  obtain ⟨bE, hbE⟩ : ∃ b, w.heap.size = b := ⟨_, rfl⟩
  rw [hbE] at hS ⊢
  have HBW := Lib.hid hbw
  have HS := Lib.hid hS
  obtain ⟨⟨x0, x1⟩, ⟨m0, m1, m2, m3⟩, xl, ml⟩ := hS.cells
  clear hS hbw hbE
  go_upto_region 4 with (go_at_call 13; go_loud (refine (t20_build HS.out).mono ?_; rintro e w2 ⟨LA, LB, cA, lB, cB, rfl, hg, hb2⟩))
  obtain ⟨W4, hW4⟩ : ∃ V, w2.alloc (.cells #[.int .i64 2, .slice LA 1 cA] 38) = V := ⟨_, rfl⟩
  have hb4 : Below w2.heap.size w2 W4 := by rw [← hW4]; exact nw _ (Below.refl _ _)
  have hG : Blk W4 w2.heap.size 38 #[.int .i64 2, .slice LA 1 cA] := by rw [← hW4]; exact Blk.new _ _ _
  have hg4 := hg.below keeps_lk hb4
  have hb14 := bthen hb2 hb4
  rw [hW4]
  obtain ⟨bG, hbG⟩ : ∃ b, w2.heap.size = b := ⟨_, rfl⟩
  rw [hbG] at hG ⊢
  have HMK := Lib.hid (t20_make LA cA W4 hg4)
  have g0 := hG.cell 0
  have g1 := hG.cell 1
  have gl := hG.lt
  simp at g0 g1
  have HG := Lib.hid hG
  have HGS := Lib.hid hg4
  have HB4 := Lib.hid hb14
  clear hW4 hbG hG hg hg4 hb2 hb4 hb14 x0 x1 m0 m1 m2 m3 xl ml
  go_upto_region 5 with (go_at_call 14; go_loud (refine HMK.out.mono ?_; rintro e w5 ⟨B, d, C, f, rfl, hp, hh, hb5⟩))
  obtain ⟨W6, hW6⟩ : ∃ V, w5.alloc (.cells #[.slice B 1 d, .bool true] 61) = V := ⟨_, rfl⟩
  have hb6 : Below w5.heap.size w5 W6 := by rw [← hW6]; exact nw _ (Below.refl _ _)
  have hP : Blk W6 w5.heap.size 61 #[.slice B 1 d, .bool true] := by rw [← hW6]; exact Blk.new _ _ _
  have hb46 := bthen hb5 hb6
  have hG6 := HG.out.below hb46 HG.out.lt
  have HCK := Lib.hid (t20_check LA B C cA d f W6 (HGS.out.below keeps_lk hb46) (hp.mono hb6) (hh.below keeps_int hb6))
  have HPS := Lib.hid (hp.mono hb6)
  rw [hW6]
  obtain ⟨bP, hbP⟩ : ∃ b, w5.heap.size = b := ⟨_, rfl⟩
  rw [hbP] at hP ⊢
  clear g0 g1 gl
  have g0 := hG6.cell 0
  have g1 := hG6.cell 1
  have gl := hG6.lt
  have p0 := hP.cell 0
  have p1 := hP.cell 1
  have pl := hP.lt
  simp at g0 g1 p0 p1
  have HP := Lib.hid hP
  have HB6 := Lib.hid (bthen HB4.out hb46)
  clear hW6 hbP hP hG6 hp hh hb5 hb6 hb46
  go_upto_region 6 with (go_at_call 15; go_loud (refine HCK.out.mono ?_; rintro e w7 ⟨rfl, hb7⟩))
  have HB7 := Lib.hid (bthen HB6.out hb7)
  have HS7 := Lib.hid (HS.out.mono HB7.out)
  have HP7 := Lib.hid (HP.out.below hb7 HP.out.lt)
  have HPS7 := Lib.hid (HPS.out.mono hb7)
  have HRS : Hid (Calls Tryz.prog 9 #[.agg #[.int .i64 1, .slice (some ⟨bE, 0, none⟩) 1 1], .slice (some ⟨w7.heap.size, 0, none⟩) 1 1] (w7.alloc (.cells #[.int .i64 0, .int .i64 1, .int .i64 4] 46)) fun e w' => ∃ B c, e = .returned (.agg #[.int .i64 1, .slice B 0 c]) ∧ Below w7.heap.size w7 w') := by
    have hs : SlR 3 RPn (w7.alloc (.cells #[.int .i64 0, .int .i64 1, .int .i64 4] 46)) (some ⟨w7.heap.size, 0, none⟩) [t20p] := slr_blk (enc := encPn) (Blk.new _ _ _) (fun _ => rfl) (fun _ => rfl)
    have hb := nw (.cells #[.int .i64 0, .int .i64 1, .int .i64 4] 46) (Below.refl w7.heap.size w7)
    have := restrict_any t20x (some ⟨bE, 0, none⟩) 1 [t20p] _ 1 _ (HS7.out.x.below keeps_ed hb) (by decide) hs (by decide)
    refine this.mono ?_
    rintro e w' ⟨B, c, rfl, _, _, h4⟩
    exact ⟨B, c, by rw [t20_pin]; rfl, bthen hb h4⟩
  clear g0 g1 gl p0 p1 pl hb7
  obtain ⟨⟨x0, x1⟩, ⟨m0, m1, m2, m3⟩, xl, ml⟩ := HS7.out.cells
  go_upto_region 7 with (go_at_call 9; go_loud (refine HRS.out.mono ?_; rintro e w9 ⟨Br, cr, rfl, hb9⟩))
  obtain ⟨WA, hWA⟩ : ∃ V, w9.alloc (.cells #[.int .i64 1, .slice Br 0 cr] 27) = V := ⟨_, rfl⟩
  have hbA : Below w9.heap.size w9 WA := by rw [← hWA]; exact nw _ (Below.refl _ _)
  have hY : Blk WA w9.heap.size 27 #[.int .i64 1, .slice Br 0 cr] := by rw [← hWA]; exact Blk.new _ _ _
  have hb7A := bthen hb9 hbA
  have hPA := HP7.out.below hb7A HP7.out.lt
  have HSA := Lib.hid (HS7.out.mono hb7A)
  have HWD : Hid (Calls Tryz.prog 24 #[.agg #[.slice (some ⟨bS, 0, none⟩) 1 1, .slice (some ⟨bC, 0, none⟩) 1 1, .slice none 0 0, .int .i64 5], .int .i64 0] WA fun e w' => e = .returned (.int .i64 0) ∧ Below WA.heap.size WA w') := by
    have := wcost_any t20m _ _ _ 1 1 0 0 WA HSA.out.r (by decide +kernel) (by decide)
    rw [t20_cost] at this
    exact this
  have HRC : Hid (∀ W, Below WA.heap.size WA W → Calls Tryz.prog 25 #[.agg #[.int .i64 1, .slice (some ⟨bE, 0, none⟩) 1 1]] W fun r w' => r = .returned (.bool true) ∧ Below W.heap.size W w') := fun W hW => t20_reach bE W (HSA.out.mono hW).x
  have HCX : Hid (∀ W, Below WA.heap.size WA W → (W.cell? ⟨bX, 0, none⟩ = some (.int .i64 1) ∧ W.cell? ⟨bX, 1, none⟩ = some (.slice (some ⟨bE, 0, none⟩) 1 1)) ∧ bX < W.heap.size) := fun W hW => by
    have h := (HSA.out.mono hW).cells
    exact ⟨h.1, h.2.2.1⟩
  have hcan := (HPS7.out.mono hb7A).s
  rw [t20_l] at hcan
  obtain ⟨cb, co, cc, AC, cC, hB, hcb, hcc, c0, c1, _⟩ := hcan.can (k := 0) (by decide)
  obtain rfl : cc = ⟨[0], 8⟩ := by have : some (⟨[0], 8⟩ : Can) = some cc := hcc; exact (Option.some.inj this).symm
  subst hB
  rw [Nat.zero_mul, Nat.add_zero] at c1
  rw [hWA]
  obtain ⟨bY, hbY⟩ : ∃ b, w9.heap.size = b := ⟨_, rfl⟩
  rw [hbY] at hY ⊢
  clear x0 x1 m0 m1 m2 m3 xl ml
  obtain ⟨⟨x0, x1⟩, ⟨m0, m1, m2, m3⟩, xl, ml⟩ := HSA.out.cells
  have y0 := hY.cell 0
  have y1 := hY.cell 1
  have yl := hY.lt
  have p0 := hPA.cell 0
  have p1 := hPA.cell 1
  have pl := hPA.lt
  simp at y0 y1 p0 p1
  have HBA := Lib.hid (bthen HB7.out hb7A)
  clear hWA hbY hY hPA hcan hcc c0 hb9 hbA hb7A
  go_wp2_with (first
    | (go_at_call 24; go_loud (refine HWD.out.mono ?_; rintro e wB ⟨rfl, hbB⟩; clear x0 x1 m0 m1 m2 m3 xl ml y0 y1 yl p0 p1 pl c1 hcb; obtain ⟨⟨x0, x1⟩, xl⟩ := HCX.out _ hbB))
    | (go_at_call 25; go_loud (refine (HRC.out _ hbB).mono ?_; rintro e wC ⟨rfl, hbC⟩)))
  go_ret
  exact ⟨rfl, bthen HBW.out (bthen HBA.out (bthen hbB hbC))⟩
end Go.Proofs.YtfjkmgjjifhdkaaGreat

/-
  The plain law of layer 20: how many ways there are through a lattice. No program in sight; no conditions.
-/
namespace Go.Proofs.YtfjkmgjjifhdkaaGreat
open List

/-- The number of ways from the place v to the place n by edges of the list. -/
def waysE (n : Int) : List Ed → Int → Int
  | [], v => if v = n then 1 else 0
  | e :: es, v => waysE n es v + if e.fr = v then waysE n es e.to else 0
theorem waysE_none {n u : Int} {e : Ed} {es : List Ed} (h : e.fr ≠ u) : waysE n (e :: es) u = waysE n es u := by
  show waysE n es u + (if e.fr = u then waysE n es e.to else 0) = _
  rw [if_neg h]; omega
def SortF (es : List Ed) : Prop := es.Pairwise (fun a b => a.fr ≤ b.fr) ∧ ∀ e ∈ es, e.fr < e.to
theorem waysE_step {n : Int} : ∀ {es : List Ed}, SortF es → ∀ v, waysE n es v = (if v = n then 1 else 0) + ((es.filter (fun e => decide (e.fr = v))).map (fun e => waysE n es e.to)).sum
  | [], _, v => by simp [waysE]
  | e :: es, h, v => by
    have hs : SortF es := ⟨(pairwise_cons.1 h.1).2, fun a ha => h.2 a (mem_cons_of_mem _ ha)⟩
    have ih := waysE_step (n := n) hs v
    have hm : ∀ a ∈ e :: es, waysE n (e :: es) a.to = waysE n es a.to := fun a ha => waysE_none (by
      have h1 := h.2 a ha
      rcases mem_cons.1 ha with rfl | ha
      · omega
      · have := (pairwise_cons.1 h.1).1 a ha; omega)
    have e1 : (((e :: es).filter (fun e => decide (e.fr = v))).map (fun a => waysE n (e :: es) a.to)) = (((e :: es).filter (fun e => decide (e.fr = v))).map (fun a => waysE n es a.to)) := map_congr_left fun a ha => hm a (mem_filter.1 ha).1
    rw [e1]
    show waysE n es v + (if e.fr = v then waysE n es e.to else 0) = _
    rw [ih, filter_cons]
    by_cases hv : e.fr = v
    · simp [hv]; omega
    · simp [hv]
theorem incE_sort : ∀ {es : List Ed}, incE es = true → es.Pairwise (fun a b => a.fr ≤ b.fr)
  | [], _ => Pairwise.nil
  | a :: l, h => by
    obtain ⟨h1, h2⟩ := incE_cons.1 h
    have ih := incE_sort h2
    refine pairwise_cons.2 ⟨fun b hb => ?_, ih⟩
    cases l with
    | nil => cases hb
    | cons y l =>
      have h3 := lessE_iff.1 (h1 y rfl)
      rcases mem_cons.1 hb with rfl | hb
      · omega
      · have := (pairwise_cons.1 ih).1 b hb; omega
theorem la_sort {x : La} (h : LaOK x) : SortF x.es := ⟨incE_sort h.2.2.2, fun e he => (h.2.2.1 e he).1.2.1⟩
theorem frTo_map (es : List Ed) (v : Int) : ∀ k, k ≤ es.length → (frTo es v k).map (fun i : Nat => es.getD i ⟨0, 0, 0, 0⟩) = (es.take k).filter (fun e => decide (e.fr = v))
  | 0, _ => by simp [frTo]
  | k + 1, hk => by
    have hl : es[k]? = some es[k] := List.getElem?_eq_getElem (by omega)
    rw [frTo_succ hl, take_snoc_of hl, filter_append, ← frTo_map es v k (by omega)]
    have hd : es[k]?.getD ⟨0, 0, 0, 0⟩ = es[k] := by rw [hl]; rfl
    split
    · rename_i h
      rw [map_append]
      simp [h]
      exact hd
    · rename_i h
      simp [h]
theorem sum_cast (L : List Nat) : ((L.sum : Nat) : Int) = (L.map (fun i : Nat => (i : Int))).sum := by
  induction L with
  | nil => rfl
  | cons a L ih => simp [ih]
/-- As many ways from a node as from its place. -/
theorem nW_ways {x : La} {m : Mo} {prev : Int} (hg : GrOK (grL x m prev)) (hf : LaOK x) : ∀ (d v : Nat) (p : Int × Int), v + d = (nodesL x prev).length → (nodesL x prev)[v]? = some p → (nW (grL x m prev) (v : Int) : Int) = waysE x.n x.es p.1 := by
  intro d
  induction d using Nat.strongRecOn with
  | _ d ih =>
    intro v p hd hv
    obtain ⟨hlt, _⟩ := List.getElem?_eq_some_iff.1 hv
    have hgn : (grL x m prev).n = ((nodesL x prev).length : Int) := rfl
    by_cases hlast : p.1 = x.n
    · have hvl := (node_place hf hv).1 hlast
      rw [← hgn] at hvl
      rw [hvl, nW_last hg, hlast, waysE_step (la_sort hf), if_pos rfl]
      have : x.es.filter (fun e => decide (e.fr = x.n)) = [] := filter_eq_nil_iff.2 fun e he => by
        have := (hf.2.2.1 e he).1
        simp; omega
      rw [this]; rfl
    · have hne : (v : Int) < (grL x m prev).n - 1 := by
        have : ¬ (v : Int) = ((nodesL x prev).length : Int) - 1 := fun h => hlast ((node_place hf hv).2 h)
        rw [hgn]; omega
      rw [nW_step hg (by omega) hne, waysE_step (la_sort hf), if_neg hlast, Int.zero_add, sum_cast, map_map]
      have e1 : (lvs (grL x m prev) (v : Int)).map ((fun i : Nat => (i : Int)) ∘ fun i => nW (grL x m prev) (lkAt (grL x m prev) i).to) = ((lvs (grL x m prev) (v : Int)).map (lkAt (grL x m prev))).map (fun l => (nW (grL x m prev) l.to : Int)) := by
        rw [map_map]; rfl
      rw [e1, lvs_node hv, map_map]
      have e2 : x.es.filter (fun e => decide (e.fr = p.1)) = (frE x p.1).map (fun i : Nat => x.es.getD i ⟨0, 0, 0, 0⟩) := by
        have := frTo_map x.es p.1 x.es.length (Nat.le_refl _)
        rw [take_length] at this
        exact this.symm
      rw [e2, map_map]
      congr 1
      refine map_congr_left fun k hk => ?_
      obtain ⟨e, he, hfr⟩ := frE_mem.1 hk
      obtain ⟨q, hq, hq1, _⟩ := arr_node hf prev (mem_of_getElem? he)
      show (nW (grL x m prev) (cx_mkLk x m prev v p.2 k).to : Int) = waysE x.n x.es (x.es.getD k ⟨0, 0, 0, 0⟩).to
      rw [cx_mkLk_at he, getD_eq_getElem?_getD, he]
      show (nW (grL x m prev) (ixL (nodesL x prev) (arrL x.n e) : Int) : Int) = waysE x.n x.es e.to
      rw [← hq1]
      have hgt := node_lt hf hv hq (by rw [hq1, ← hfr]; exact (hf.2.2.1 e (mem_of_getElem? he)).1.2.1)
      obtain ⟨hql, _⟩ := List.getElem?_eq_some_iff.1 hq
      exact ih ((nodesL x prev).length - ixL (nodesL x prev) (arrL x.n e)) (by omega) _ q (by omega) hq
theorem nW_first {x : La} {m : Mo} {prev : Int} (hg : GrOK (grL x m prev)) (hf : LaOK x) : (nW (grL x m prev) 0 : Int) = waysE x.n x.es 0 :=
  nW_ways hg hf (nodesL x prev).length 0 (0, prev) (by omega) (node_first x prev)

/-! How the reference counts. -/
def cntStep (L : List Int) (e : Ed) : List Int := L.set e.to.toNat (L.getD e.to.toNat 0 + L.getD e.fr.toNat 0)
def cntL (x : La) (k : Nat) : List Int := (x.es.take k).foldl cntStep ((List.replicate (x.n.toNat + 1) 0).set 0 1)
def cntM (x : La) : Int := (cntL x x.es.length).getD x.n.toNat 0
theorem cntStep_len (L : List Int) (e : Ed) : (cntStep L e).length = L.length := length_set
theorem cntL_succ {x : La} {k : Nat} {e : Ed} (h : x.es[k]? = some e) : cntL x (k + 1) = cntStep (cntL x k) e := by
  unfold cntL
  rw [take_snoc_of h, foldl_append]
  rfl
theorem getD_set (L : List Int) (i j : Nat) (a : Int) : (L.set i a).getD j 0 = if i = j ∧ j < L.length then a else L.getD j 0 := by
  rw [getD_eq_getElem?_getD, getD_eq_getElem?_getD, getElem?_set]
  by_cases h : i = j
  · subst h
    by_cases h2 : i < L.length
    · simp [h2]
    · simp [h2]
  · simp [h]
theorem cntL_bd (x : La) : ∀ (k : Nat), k ≤ x.es.length → ∀ j, 0 ≤ (cntL x k).getD j 0 ∧ (cntL x k).getD j 0 ≤ 2 ^ k
  | 0, _, j => by
    show 0 ≤ ((List.replicate (x.n.toNat + 1) 0).set 0 1).getD j 0 ∧ _
    rw [show cntL x 0 = (List.replicate (x.n.toNat + 1) 0).set 0 1 from rfl, getD_set]
    have : (List.replicate (x.n.toNat + 1) (0 : Int)).getD j 0 = 0 := by
      rw [getD_eq_getElem?_getD, getElem?_replicate]; split <;> rfl
    rw [this]
    split <;> simp
  | k + 1, hk, j => by
    have hl : x.es[k]? = some x.es[k] := List.getElem?_eq_getElem (by omega)
    have ih := cntL_bd x k (by omega)
    rw [cntL_succ hl]
    unfold cntStep
    rw [getD_set]
    have h1 := ih j
    have h2 := ih x.es[k].to.toNat
    have h3 := ih x.es[k].fr.toNat
    have h4 : (2 : Int) ^ (k + 1) = 2 * 2 ^ k := by rw [Int.pow_succ]; omega
    rw [h4]
    split
    · omega
    · omega
/-- The sum of the products. -/
def dotL : List Int → (Nat → Int) → Int
  | [], _ => 0
  | a :: A, f => a * f 0 + dotL A fun i => f (i + 1)
theorem dotL_add : ∀ (A : List Int) (f g : Nat → Int), dotL A (fun i => f i + g i) = dotL A f + dotL A g
  | [], _, _ => rfl
  | a :: A, f, g => by
    show a * (f 0 + g 0) + dotL A (fun i => f (i + 1) + g (i + 1)) = _
    rw [dotL_add A, Int.mul_add]
    show _ = a * f 0 + dotL A (fun i => f (i + 1)) + (a * g 0 + dotL A fun i => g (i + 1))
    omega
theorem dotL_zero : ∀ (A : List Int), dotL A (fun _ => 0) = 0
  | [] => rfl
  | a :: A => by show a * 0 + dotL A (fun _ => 0) = 0; rw [dotL_zero A]; omega
theorem dotL_one : ∀ (A : List Int) (j : Nat) (c : Int), dotL A (fun i => if i = j then c else 0) = A.getD j 0 * c
  | [], _, _ => by simp [dotL]
  | a :: A, 0, c => by
    show a * c + dotL A (fun i => if i + 1 = 0 then c else 0) = _
    have : (fun i : Nat => if i + 1 = 0 then c else 0) = fun _ => 0 := by funext i; rw [if_neg (by omega)]
    rw [this, dotL_zero]; simp
  | a :: A, j + 1, c => by
    show a * (if 0 = j + 1 then c else 0) + dotL A (fun i => if i + 1 = j + 1 then c else 0) = _
    rw [if_neg (by omega)]
    have : (fun i : Nat => if i + 1 = j + 1 then c else 0) = fun i => if i = j then c else 0 := by funext i; simp
    rw [this, dotL_one A j c]; simp
theorem dotL_set : ∀ (A : List Int) (j : Nat) (c : Int) (f : Nat → Int), j < A.length → dotL (A.set j (A.getD j 0 + c)) f = dotL A f + c * f j
  | [], _, _, _, h => by simp at h
  | a :: A, 0, c, f, _ => by
    show (a + c) * f 0 + dotL A (fun i => f (i + 1)) = a * f 0 + dotL A (fun i => f (i + 1)) + c * f 0
    rw [Int.add_mul]; omega
  | a :: A, j + 1, c, f, h => by
    have := dotL_set A j c (fun i => f (i + 1)) (by simp at h; omega)
    show a * f 0 + dotL (A.set j ((a :: A).getD (j + 1) 0 + c)) (fun i => f (i + 1)) = a * f 0 + dotL A (fun i => f (i + 1)) + c * f (j + 1)
    rw [show (a :: A).getD (j + 1) 0 = A.getD j 0 by simp, this]; omega
theorem cnt_fold {N : Nat} : ∀ (es : List Ed) (A : List Int), A.length = N + 1 → (∀ e ∈ es, 0 ≤ e.fr ∧ e.fr < e.to ∧ e.to ≤ (N : Int)) → (es.foldl cntStep A).getD N 0 = dotL A (fun v => waysE (N : Int) es (v : Int))
  | [], A, hA, _ => by
    have : (fun v : Nat => waysE (N : Int) [] (v : Int)) = fun v => if v = N then 1 else 0 := by
      funext v
      show (if (v : Int) = (N : Int) then (1 : Int) else 0) = _
      by_cases h : v = N
      · subst h; simp
      · rw [if_neg (by omega), if_neg h]
    rw [this, dotL_one]; simp
  | e :: es, A, hA, h => by
    have he := h e mem_cons_self
    rw [foldl_cons, cnt_fold es (cntStep A e) (by rw [cntStep_len, hA]) (fun a ha => h a (mem_cons_of_mem _ ha))]
    unfold cntStep
    rw [dotL_set _ _ _ _ (by omega)]
    have e1 : (fun v : Nat => waysE (N : Int) (e :: es) (v : Int)) = fun v : Nat => waysE (N : Int) es (v : Int) + (if v = e.fr.toNat then waysE (N : Int) es e.to else 0) := by
      funext v
      show waysE (N : Int) es (v : Int) + (if e.fr = (v : Int) then waysE (N : Int) es e.to else 0) = _
      by_cases h2 : v = e.fr.toNat
      · rw [if_pos (by omega), if_pos h2]
      · rw [if_neg (by omega), if_neg h2]
    rw [e1, dotL_add, dotL_one]
    show _ + A.getD e.fr.toNat 0 * waysE (N : Int) es (e.to.toNat : Int) = _
    rw [Int.toNat_of_nonneg (by omega)]
theorem cntM_ways {x : La} (h : LaOK x) : cntM x = waysE x.n x.es 0 := by
  obtain ⟨N, hN⟩ : ∃ N : Nat, x.n = (N : Int) := ⟨x.n.toNat, by have := h.1.1; omega⟩
  unfold cntM cntL
  rw [take_length, hN, Int.toNat_natCast, cnt_fold x.es _ (by simp) (fun e he => by have := (h.2.2.1 e he).1; omega)]
  have : (List.replicate (N + 1) (0 : Int)).set 0 1 = 1 :: List.replicate N 0 := by simp [List.replicate_succ]
  rw [this]
  show 1 * waysE (N : Int) x.es ((0 : Nat) : Int) + dotL (List.replicate N 0) _ = _
  have hz : ∀ (n : Nat) (f : Nat → Int), dotL (List.replicate n 0) f = 0 := fun n => by
    induction n with
    | zero => intro f; rfl
    | succ n ih => intro f; rw [List.replicate_succ]; show 0 * f 0 + dotL (List.replicate n 0) _ = 0; rw [ih]; omega
  rw [hz]
  simp
end Go.Proofs.YtfjkmgjjifhdkaaGreat

/-
  The walks of layer 20: the number of ways through a lattice, as the reference counts them.
-/
namespace Go.Proofs.YtfjkmgjjifhdkaaGreat
open Go Go.RowKit

end Go.Proofs.YtfjkmgjjifhdkaaGreat

/-
  The walks of layer 20: words of a candidate.
-/
namespace Go.Proofs.YtfjkmgjjifhdkaaGreat
open Go Go.RowKit

/-- 'make([]T, 0, n)' of elements of one cell: a row of the call's own. -/
theorem wpList_mk0 {P : Program} (w : World) {ops : Array Oper} {rest : List Oper} {o : Oper} {a : Act} {Q : Exit → Act → World → Prop}
    (hg : o.guard = none) (l c : Operand) (t : TypeId) (hop : o.op = Op.makeSlice t l c)
    (e : TypeId) (i : TypeInfo) (z : Value) (h1 : P.underlying t = some (.slice e)) (h2 : P.info? e = some i) (h3 : i.zero = some z) (h4 : i.size = 1) (h5 : i.bytes ≤ 1000)
    (n : Nat) (hl : a.eval l = .int .i64 0) (hc : a.eval c = .int .i64 (n : Int)) (hn : n ≤ 1000000)
    (hK : ∀ w', w'.ownsRow w.heap.size e 1 (.slice (some ⟨w.heap.size, 0, none⟩) 0 n) 0 [] → Below w.heap.size w w' → wpList P ops Q rest (a.put o.dst (.slice (some ⟨w.heap.size, 0, none⟩) 0 n)) w') :
    wpList P ops Q (o :: rest) a w := by
  refine wpList_plain hg fun K hK' => ?_
  have hb : i.bytes * n ≤ 281474976710656 := by
    have h : i.bytes * n ≤ 1000 * 1000000 := Nat.mul_le_mul h5 hn
    omega
  obtain ⟨w', hr, hO, hg'⟩ := run_make_own (P := P) w w.heap.size t e i z 1 h1 h2 h3 h4 .i64 .i64 n hb (by unfold maxLen; omega) (Nat.le_refl _)
  have hB : Below w.heap.size w w' := (Below.refl _ _).grown hg' (Nat.le_refl _) (fun k hk => by cases hk)
  unfold Oper.wp
  simp [execOp, hop, hl, hc, hr, Result.andThen]
  exact hK' _ _ (hK _ hO hB)

/-- The word of a link. -/
def wdAt (es : List Ed) (g : List Lk) (i : Int) : Int :=
  match g[i.toNat]? with
  | some l => match es[l.lb.toNat]? with
    | some e => e.wd
    | none => 0
  | none => 0
/-- The links lie in the graph, and the labels in the lattice. -/
def LkIn (es : List Ed) (g : List Lk) (i : Int) : Prop := ∃ (p : Nat) (l : Lk) (q : Nat) (e : Ed), i = (p : Int) ∧ g[p]? = some l ∧ l.lb = (q : Int) ∧ es[q]? = some e
def GivesIs (xs : List Int) (w : World) (r : Ending) (w' : World) : Prop := ∃ (B : Option Addr) (c : Nat), r = .returned (.slice B xs.length c) ∧ SlR 1 RInt w' B xs ∧ (xs.length ≤ c ∧ c ≤ maxLen) ∧ Below w.heap.size w w'
set_option maxRecDepth 100000 in
set_option maxHeartbeats 16000000 in
theorem cxwords_any (x : La) (A : Option Addr) (c : Nat) (gn : Int) (AG : Option Addr) (g : List Lk) (cG : Nat) (AC : Option Addr) (cl : List Int) (cC : Nat) (cost : Int) (w : World)
    (hx : SlR 4 REd w A x.es) (hg : SlR 4 RLk w AG g) (hc : SlR 1 RInt w AC cl) (hcl : cl.length ≤ 1000) (hI : ∀ i ∈ cl, LkIn x.es g i) :
    Calls Tryz.prog 18 #[.agg #[.int .i64 x.n, .slice A x.es.length c], .agg #[.int .i64 gn, .slice AG g.length cG], .agg #[.slice AC cl.length cC, .int .i64 cost]] w (GivesIs (cl.map (wdAt x.es g)) w) := by
  obtain ⟨j0, hj, hy0, hy1, hy2⟩ := info_parts bint_inf
  obtain ⟨w3, hw3⟩ : ∃ W, ((w.alloc (.cells #[.int .i64 x.n, .slice A x.es.length c] 27)).alloc (.cells #[.int .i64 gn, .slice AG g.length cG] 38)).alloc (.cells #[.slice AC cl.length cC, .int .i64 cost] 42) = W := ⟨_, rfl⟩
  have hb3 : Below w.heap.size w w3 := by rw [← hw3]; exact nw _ (nw _ (nw _ (Below.refl _ _)))
  have hLB : Blk w3 w.heap.size 27 #[.int .i64 x.n, .slice A x.es.length c] := by rw [← hw3]; exact ((Blk.new _ _ _).alloc _).alloc _
  have hGB : Blk w3 (w.heap.size + 1) 38 #[.int .i64 gn, .slice AG g.length cG] := by rw [← hw3]; exact (Blk.new_ (by simp)).alloc _
  have hCB : Blk w3 (w.heap.size + 2) 42 #[.slice AC cl.length cC, .int .i64 cost] := by rw [← hw3]; exact Blk.new_ (by simp)
  have HW3 := Lib.hid hw3
  have HBW := Lib.hid hb3
  have HCE : Hid (∀ W, Below w3.heap.size w3 W → W.cell? ⟨w.heap.size, 1, none⟩ = some (.slice A x.es.length c) ∧ W.cell? ⟨w.heap.size + 1, 1, none⟩ = some (.slice AG g.length cG) ∧ W.cell? ⟨w.heap.size + 2, 0, none⟩ = some (.slice AC cl.length cC) ∧ w.heap.size + 2 < W.heap.size) := fun W hW => by
    have e1 := hLB.below hW hLB.lt
    have e2 := hGB.below hW hGB.lt
    have e3 := hCB.below hW hCB.lt
    exact ⟨by rw [e1.cell]; rfl, by rw [e2.cell]; rfl, by rw [e3.cell]; rfl, e3.lt⟩
  have HXX : Hid (∀ W, Below w3.heap.size w3 W → SlR 4 REd W A x.es ∧ SlR 4 RLk W AG g ∧ SlR 1 RInt W AC cl) := fun W hW => by
    have h := HBW.out.trans (hW.mono HBW.out.size)
    exact ⟨hx.below keeps_ed h, hg.below keeps_lk h, hc.below keeps_int h⟩
  have HI := Lib.hid hI
  clear hw3 hb3 hLB hGB hCB hx hg hc hI
  go_enter Tryz.func18, Tryz.ntmps18
  go_upto_region 1 with fail
  rw [HW3.out]
  obtain ⟨l0, g0, q0, ll⟩ := HCE.out _ (Below.refl _ _)
  obtain ⟨b1, hb1⟩ : ∃ b, w3.heap.size = b := ⟨_, rfl⟩
  go_upto_region 2 with (at_make; refine wpList_mk0 _ rfl _ _ 40 rfl 3 j0 (.int .i64 0) Tryz.underlying40 hj hy0 hy1 (by omega) cl.length rfl rfl (by omega) ?_; intro w4 hO4 hB4)
  rw [hb1] at hO4 hB4
  have HB4 := Lib.hid hB4
  have HO4 := Lib.hid hO4
  rw [hb1] at HCE HXX
  have HBE := Lib.hid hb1
  clear l0 g0 q0 ll hO4 hB4 hb1
  obtain ⟨l0, g0, q0, ll⟩ := HCE.out _ HB4.out
  go_wp2_with fail
  clear l0 g0 q0 ll
  go_loopw [7, 18] (fun v i wr => ∃ (j : Nat) (V : Value), V = v ∧ i = .int .i64 j ∧ j ≤ cl.length ∧ Hid (wr.ownsRow b1 3 1 V j (((cl.take j).map (wdAt x.es g)).map (Value.int .i64))) ∧ Below b1 w3 wr) (fun _ i _ => cl.length - (intOf i).toNat)
  case atStart => exact ⟨0, _, rfl, rfl, by omega, HO4, HB4.out⟩
  case round =>
    obtain ⟨W0, rfl⟩ : ∃ V, V = wr := ⟨wr, rfl⟩
    obtain ⟨j, V, rfl, rfl, hj5, HOV, hbr⟩ := hrel
    have HBR := Lib.hid hbr
    have hbs : b1 ≤ W0.heap.size := by have := HBE.out; have := hbr.size; omega
    clear hbr
    by_cases hlt : j < cl.length
    · obtain ⟨⟨l0, g0, q0, ll⟩, hs1, hs2, hs3⟩ := And.intro (HCE.out _ HBR.out) (HXX.out _ HBR.out)
      obtain ⟨bC, oC, iv, hAC, hbC, hiv, dC⟩ := hs3.int hlt
      subst hAC
      obtain ⟨p, lk, q, e, hip, hlk, hlq, hee⟩ := HI.out iv (List.mem_of_getElem? hiv)
      subst hip
      have HWS : Hid ((cl.take (j + 1)).map (wdAt x.es g) = (cl.take j).map (wdAt x.es g) ++ [e.wd]) := by
        show _ = _
        rw [List.take_add_one, hiv]
        simp [wdAt, hlk, hlq, hee]
      have hpl := (List.getElem?_eq_some_iff.1 hlk).1
      have hql := (List.getElem?_eq_some_iff.1 hee).1
      obtain ⟨bG, oG, lk', hAG, hbG, hlk', g1, g2, g3, g4⟩ := hs2.lk hpl
      rw [hlk] at hlk'
      obtain rfl := Option.some.inj hlk'
      subst hAG
      rw [hlq] at g3
      obtain ⟨bE, oE, e', hAE, hbE, hee', f0, f1, f2, f3⟩ := hs1.ed hql
      rw [hee] at hee'
      obtain rfl := Option.some.inj hee'
      subst hAE
      obtain ⟨ef, et, ew, ec⟩ := e
      simp only at f0 f1 f2 f3 HWS
      have hpI : (p : Int) < (g.length : Int) := by omega
      have hqI : (q : Int) < (x.es.length : Int) := by omega
      have hp0 : ¬ (p : Int) < 0 := by omega
      have hq0 : ¬ (q : Int) < 0 := by omega
      have hp1 : ¬ (p : Int) ≥ (g.length : Int) := by omega
      have hq1 : ¬ (q : Int) ≥ (x.es.length : Int) := by omega
      have hjm : j ≤ 1000000 := by omega
      have hjI : (j : Int) < (cl.length : Int) := by omega
      have hj0 : (0 : Int) ≤ (j : Int) := by omega
      clear hiv hlk hlq hee hs1 hs2 hs3 g1 g2 g4 f0 f1 f3
      go_wp2_with (first | (at_builtin; refine wpList_app1 rfl _ _ 40 rfl (b1) 3 j0 _ 1 8 Tryz.underlying40 hj hy0 hy1 hy2 rfl (by decide) _ _ _ rfl W0 [.int .i64 ew] rfl HOV.out _ rfl (by simp) rfl (by simp [Value.oneCell']) hjm (by decide) hbs ?_; intro v5 w5 hown5 hb5 ha5))
      go_roundw
      case rel => exact ⟨j + 1, _, rfl, by go_num, by omega, (by show w5.ownsRow _ _ _ _ _ _; rw [HWS.out, List.map_append]; exact hown5), HBR.out.trans hb5⟩
      case measure => simp [intOf]; omega
    · obtain rfl : j = cl.length := by omega
      obtain ⟨AV, cV, hV, hcV, hcmV, hsV⟩ := own_ints (xs := cl.map (wdAt x.es g)) (by have := HOV.out; rwa [List.take_length] at this) (by simp)
      subst hV
      have HE := Lib.hid (And.intro hcV hcmV)
      have HSV := Lib.hid hsV
      clear hcV hcmV hsV
      go_wp2_with fail
      go_ret
      exact ⟨AV, cV, by simp, HSV.out, by simpa using HE.out, HBW.out.trans (HBR.out.mono (by have := HBE.out; have := HBW.out.size; omega))⟩
end Go.Proofs.YtfjkmgjjifhdkaaGreat

/-
  The walks of layer 20: the labels of a candidate.
-/
namespace Go.Proofs.YtfjkmgjjifhdkaaGreat
open Go Go.RowKit

/-- The label of a link. -/
def lbAt (g : List Lk) (i : Int) : Int :=
  match g[i.toNat]? with
  | some l => l.lb
  | none => 0
end Go.Proofs.YtfjkmgjjifhdkaaGreat
