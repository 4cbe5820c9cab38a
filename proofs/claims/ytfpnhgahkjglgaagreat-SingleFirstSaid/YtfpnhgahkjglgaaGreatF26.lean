/-
  OuFind, OuWalk5, OuSndP, OuPl, joined. No conditions.
-/
import Derived.Test.YtfpnhgahkjglgaaGreatF25
import Derived.Test.YtfpnhgahkjglgaaGreatF21
import Derived.Deep.CutBlock
import Derived.Test.YtfpnhgahkjglgaaGreatF06
import Derived.Test.YtfpnhgahkjglgaaGreatF23
import Derived.Test.YtfpnhgahkjglgaaGreatF22
import Derived.Test.YtfpnhgahkjglgaaGreatF14
import Derived.Laws.OwnMore
set_option maxRecDepth 100000
namespace Go.Proofs.YtfpnhgahkjglgaaGreat
open Go Go.RowKit
theorem own_form {w : World} {base n s : Nat} {e : TypeId} {v : Value} {xs : List Value} (h : w.ownsRow base e s v n xs) : ∃ A c, v = .slice A n c := by
 rcases h.2 with ⟨rfl, rfl⟩ | ⟨g, cap, cur, rfl, _⟩
 ·exact ⟨none, 0, rfl⟩
 ·exact ⟨_, _, rfl⟩
def IsBoolV (v : Value) : Prop := ∃ b : Bool, v = .bool b
def IsFind (s : Sc) (w : World) (e : Ending) (w' : World) : Prop :=
 (∃ D ld cd C lc cc E le ce, e = .returned (.agg #[.slice D ld cd, .slice C lc cc, .slice E le ce]) ∧ (0 < lc ↔ (LV s 0 ∧ ∃ m, RM s m ∧ ¬ LV s m)) ∧ (0 < le ↔ ∃ x, RoundP s x)) ∧ Below w.heap.size w w'
set_option maxHeartbeats 16000000 in
theorem rfind_any (s : Sc) (A : Option Addr) (c : Nat) (w : World) (hs : ScIn w s A c) (hok : ScOK s) : Calls Tryz.prog 75 #[.agg #[.int .i64 s.n, .int .u8 s.acc, .slice A s.rs.length c]] w (IsFind s w) := by
 obtain ⟨i0, hinf, hz0, hz1, hz2⟩ := info_parts cloneI_info
 obtain ⟨w1, hw1⟩ : ∃ w1, w.alloc (.cells #[.int .i64 s.n, .int .u8 s.acc, .slice A s.rs.length c] 30) = w1 := ⟨_, rfl⟩
 have hb1 : Below w.heap.size w w1 := by rw [← hw1]; exact nw _ (Below.refl _ _)
 have hB : Blk w1 w.heap.size 30 #[.int .i64 s.n, .int .u8 s.acc, .slice A s.rs.length c] := by rw [← hw1]; exact Blk.new _ _ _
 have HW1 := Lib.hid hw1
 have HB1 := Lib.hid hb1
 have HCE : Hid (∀ W, Below w1.heap.size w1 W → W.cell? ⟨w.heap.size, 0, none⟩ = some (.int .i64 s.n) ∧ W.cell? ⟨w.heap.size, 1, none⟩ = some (.int .u8 s.acc) ∧ W.cell? ⟨w.heap.size, 2, none⟩ = some (.slice A s.rs.length c) ∧ w.heap.size < W.heap.size) := fun W hW => by
  have e1 := hB.below hW hB.lt
  exact ⟨by rw [e1.cell]; rfl, by rw [e1.cell]; rfl, by rw [e1.cell]; rfl, e1.lt⟩
 obtain ⟨b0, b1, b2, bl⟩ := HCE.out _ (Below.refl _ _)
 clear hw1 hb1 hB
 have HVA : Hid (∀ W, Below w1.heap.size w1 W → Calls Tryz.prog 35 #[.agg #[.int .i64 s.n, .int .u8 s.acc, .slice A s.rs.length c]] W fun e w' => e = .returned (.bool true) ∧ Below W.heap.size W w') := fun W hW => by
  have h := rvalid_any s A c W (hs.below (HB1.out.trans (hW.mono HB1.out.size)))
  rw [decide_eq_true hok] at h
  exact h
 have HDE : Hid (∀ (k : Nat) (W : World), k < s.rs.length → Below w1.heap.size w1 W → Calls Tryz.prog 102 #[.agg #[.int .i64 s.n, .int .u8 s.acc, .slice A s.rs.length c], .int .i64 (k : Int)] W fun e w' => IsBool e ∧ Below W.heap.size W w') := fun k W hk hW => rdead_any s A c k W (hs.below (HB1.out.trans (hW.mono HB1.out.size))) hok hk
 have HST : Hid (∀ W, Below w1.heap.size w1 W → Calls Tryz.prog 103 #[.agg #[.int .i64 s.n, .int .u8 s.acc, .slice A s.rs.length c]] W (IsCh (LV s 0 ∧ ∃ m, RM s m ∧ ¬ LV s m) W)) := fun W hW => rstuck_any s A c W (hs.below (HB1.out.trans (hW.mono HB1.out.size))) hok
 have HEN : Hid (∀ W, Below w1.heap.size w1 W → Calls Tryz.prog 104 #[.agg #[.int .i64 s.n, .int .u8 s.acc, .slice A s.rs.length c]] W (IsCh (∃ x, RoundP s x) W)) := fun W hW => rendless_any s A c W (hs.below (HB1.out.trans (hW.mono HB1.out.size))) hok
 have hl := hs.len
 have hl64 := hok.2.1
 clear hs hok
 go_enter Tryz.func75, Tryz.ntmps75
 go_upto_region 1 with fail
 rw [HW1.out]
 obtain ⟨g2, hg2e⟩ : ∃ x, w.heap.size + 1 = x := ⟨_, rfl⟩
 have hg2 : w1.heap.size = g2 := by rw [← hg2e, ← HW1.out]; simp
 obtain ⟨w2, hw2⟩ : ∃ W, w1.alloc (.cells #[.slice none 0 0, .slice none 0 0, .slice none 0 0] 156) = W := ⟨_, rfl⟩
 have hB2 : Blk w2 g2 156 #[.slice none 0 0, .slice none 0 0, .slice none 0 0] := by rw [← hw2]; exact Blk.new_ hg2.symm
 have hb2 : Below w1.heap.size w1 w2 := by rw [← hw2]; exact nw _ (Below.refl _ _)
 have hs2 : w2.heap.size = w1.heap.size + 1 := by rw [← hw2]; simp
 rw [hw2]
 try rw [hg2]
 try rw [hg2e]
 clear hw2
 go_upto_region 2 with fail
 obtain ⟨g3, hg3⟩ : ∃ x, g2 + 1 = x := ⟨_, rfl⟩
 obtain ⟨w3, hw3⟩ : ∃ W, w2.alloc (.cells #[.slice none 0 0, .slice none 0 0, .slice none 0 0] 156) = W := ⟨_, rfl⟩
 have hB3 : Blk w3 g3 156 #[.slice none 0 0, .slice none 0 0, .slice none 0 0] := by rw [← hw3]; exact Blk.new_ (by omega)
 have hb3 : Below w2.heap.size w2 w3 := by rw [← hw3]; exact nw _ (Below.refl _ _)
 have hs3 : w3.heap.size = g3 + 1 := by rw [← hw3]; simp; omega
 rw [hw3]
 have e23 : w2.heap.size = g3 := by omega
 try rw [e23]
 try rw [hg3]
 have HB2 : Hid (∀ W, Below g3 w3 W → Blk W g2 156 #[.slice none 0 0, .slice none 0 0, .slice none 0 0]) := fun W h => (hB2.below hb3 hB2.lt).below h (by omega)
 have HB13 : Hid (∀ W, Below g3 w3 W → Below w1.heap.size w1 W) := fun W h => (hb2.trans (hb3.mono hb2.size)).trans (h.mono (by omega))
 have HG : Hid (g2 < g3 ∧ w1.heap.size ≤ g2 ∧ w.heap.size ≤ g2) := ⟨by omega, by omega, by have := HB1.out.size; omega⟩
 have HB3 := Lib.hid hB3
 have hle3 : g3 + 1 ≤ w3.heap.size := by omega
 clear hw3 hb2 hb3 hs2 hs3 hg2 hg2e hg3 hB2 hB3 b0 b1 b2 bl e23
 obtain ⟨b0, b1, b2, bl⟩ := HCE.out _ (HB13.out _ (Below.refl _ _))
 go_upto_region 6 with (go_at_call 35; go_loud (refine (HVA.out _ (HB13.out _ (Below.refl _ _))).mono ?_; rintro e w4 ⟨rfl, hb4⟩))
 have HB4 : Hid (Below g3 w3 w4) := hb4.mono (by omega)
 have hle4 : g3 + 1 ≤ w4.heap.size := by have := hb4.size; omega
 have HB34 := Lib.hid (HB3.out.below hb4 HB3.out.lt)
 clear hb4 b0 b1 b2 bl
 go_loopw [5] (fun iv wr => ∃ (k : Nat) (D : Option Addr) (ld cd : Nat) (ys : List Value), k ≤ s.rs.length ∧ ld ≤ k ∧ iv = .int .i64 (k : Int) ∧ wr.ownsRow (g3 + 1) 3 1 (.slice D ld cd) ld ys ∧ Blk wr g3 156 #[.slice D ld cd, .slice none 0 0, .slice none 0 0] ∧ Below g3 w3 wr ∧ g3 + 1 ≤ wr.heap.size) (fun iv _ => s.rs.length - (intOf iv).toNat)
 case atStart => exact ⟨0, none, 0, 0, [], Nat.zero_le _, Nat.le_refl _, rfl, own_nil _ _ _ _, HB34.out, HB4.out, hle4⟩
 case round =>
  obtain ⟨wR, rfl⟩ : ∃ W, W = wr := ⟨wr, rfl⟩
  obtain ⟨k, D, ld, cd, ys, hk, hld, rfl, hown, hB, hbr, hsz⟩ := hrel
  have HBR := Lib.hid hbr
  have HOW := Lib.hid hown
  have HBB := Lib.hid hB
  obtain ⟨b0, b1, b2, bl⟩ := HCE.out _ (HB13.out _ hbr)
  have h0 := hB.cell 0
  have h1 := hB.cell 1
  have h2 := hB.cell 2
  have hl3 := hB.lt
  simp at h0 h1 h2
  clear hbr hown hB
  by_cases hlt : k < s.rs.length
  ·have hki : (k : Int) < (s.rs.length : Int) := by omega
   have HD := Lib.hid (HDE.out k wR hlt (HB13.out _ HBR.out))
   go_upto_region 8 with fail
   go_cut [21] (fun s21 W => IsBoolV s21 ∧ Below wR.heap.size wR W)
   case first =>
    go_wp2_with (go_at_call 102; go_loud (refine HD.out.mono ?_; rintro e W7 ⟨⟨bv, rfl⟩, hb7⟩))
    go_meet
    exact ⟨⟨bv, rfl⟩, hb7⟩
   case rest =>
    obtain ⟨X7, rfl⟩ : ∃ W, W = wc := ⟨wc, rfl⟩
    obtain ⟨⟨bb, rfl⟩, hb7⟩ := hcut
    have HOW7 := Lib.hid (own_below HOW.out hb7)
    have HB7 := Lib.hid (HBB.out.below hb7 HBB.out.lt)
    have HBR7 : Hid (Below g3 w3 X7) := HBR.out.trans (hb7.mono (by omega))
    have hsz7 : g3 + 1 ≤ X7.heap.size := by have := hb7.size; omega
    have h0 := HB7.out.cell 0
    have h1 := HB7.out.cell 1
    have h2 := HB7.out.cell 2
    have hl3 := HB7.out.lt
    simp at h0 h1 h2
    clear hb7
    cases hbv : bb with
    | false =>
     go_wp2_with fail
     go_roundw
     case rel => exact ⟨k + 1, D, ld, cd, ys, by omega, by omega, by go_num, HOW7.out, HB7.out, HBR7.out, hsz7⟩
     case measure => simp [intOf]; omega
    | true =>
     have hvne : (Value.slice D ld cd).ownBlock ≠ some g3 := fun e => absurd (own_block_le HOW7.out _ e) (Nat.not_succ_le_self _)
     go_wp2_with (at_builtin; go_loud (refine wpList_appS5 (enc := fun x => [Value.int .i64 x]) (R := RInt) rfl _ _ 99 rfl (g3 + 1) 3 i0 _ 1 8 Tryz.underlying99 hinf hz0 hz1 hz2 rfl (by decide) (.slice D ld cd) _ _ rfl (HOW7.out.alloc _) (some ⟨X7.heap.size, 0, none⟩) 1 [(k : Int)] rfl (slr_blkR (enc := fun x => [Value.int .i64 x]) (Blk.new_ rfl) (fun _ => rfl) (fun _ => rfl)) (fun _ _ _ h => h) (fun _ => rfl) ints_one (by simp; omega) (by decide) (by simp; omega) ?_; intro v6 X6 hown6 hb6 ha6; obtain ⟨D6, cd6, rfl⟩ := own_form hown6; have hB6 := (HB7.out.alloc (.cells #[.int .i64 (k : Int)] 3)).apps ha6 hvne; have HB6 := Lib.hid hB6; have HOW6 := Lib.hid hown6; have HBX6 : Hid (Below g3 w3 X6) := (HBR7.out.alloc (by omega) (.cells #[.int .i64 (k : Int)] 3)).trans (hb6.mono (by omega)); have hsz6 : g3 + 1 ≤ X6.heap.size := (by have := hb6.size; simp at this; omega); have h0 := hB6.cell 0; have hf0 := hB6.frozen 0; have hl3 := hB6.lt; simp at h0; clear hB6 hown6 hb6 ha6))
     go_roundw
     case rel => exact ⟨k + 1, D6, ld + 1, cd6, _, by omega, by omega, by go_num, own_set HOW6.out (a := ⟨g3, 0, none⟩) (fun e => absurd (own_block_le HOW6.out _ e) (Nat.not_succ_le_self _)) _, by simpa using HB6.out.set_ 0 (.slice D6 (ld + 1) cd6), HBX6.out.setCell (p := ⟨g3, 0, none⟩) (Nat.le_refl _) _, by simpa using hsz6⟩
     case measure => simp [intOf]; omega
  ·have hki : ¬ (k : Int) < (s.rs.length : Int) := by omega
   have hf1 := HBB.out.frozen 1
   go_upto_region 11 with (go_at_call 103; go_loud (refine (HST.out _ (HB13.out _ HBR.out)).mono ?_; rintro e W7 ⟨⟨C, lc, cc, rfl, hlc⟩, hb7⟩; have HB7 := Lib.hid (HBB.out.below hb7 HBB.out.lt); have HBR7 : Hid (Below g3 w3 W7) := HBR.out.trans (hb7.mono (by omega)); have h1 := HB7.out.cell 1; have hf1 := HB7.out.frozen 1; have hl3 := HB7.out.lt; simp at h1; have HLC := Lib.hid hlc; clear hb7 hlc))
   have hB8 := HB7.out.set_ 1 (.slice C lc cc)
   have hB8r := HBR7.out.setCell (p := ⟨g3, 1, none⟩) (Nat.le_refl _) (.slice C lc cc)
   obtain ⟨W8, hW8⟩ : ∃ W, W7.setCell ⟨g3, 1, none⟩ (.slice C lc cc) = W := ⟨_, rfl⟩
   rw [hW8] at hB8 hB8r ⊢
   have HB8 := Lib.hid hB8
   have HBR8 := Lib.hid hB8r
   have hsz8 : g3 + 1 ≤ W8.heap.size := hB8.lt
   clear hW8 hB8 hB8r b0 b1 b2 bl h0 h1 h2 hl3 hf1
   obtain ⟨b0, b1, b2, bl⟩ := HCE.out _ (HB13.out _ HBR8.out)
   go_upto_region 12 with (go_at_call 104; go_loud (refine (HEN.out _ (HB13.out _ HBR8.out)).mono ?_; rintro e W9 ⟨⟨E, le, ce, rfl, hle⟩, hb9⟩; have HB9 := Lib.hid (HB8.out.below hb9 HB8.out.lt); have HBR9 : Hid (Below g3 w3 W9) := HBR8.out.trans (hb9.mono (by omega)); have h2 := HB9.out.cell 2; have hf2 := HB9.out.frozen 2; have hl3 := HB9.out.lt; simp at h2; have HLE := Lib.hid hle; clear hb9 hle))
   have hBA := HB9.out.set_ 2 (.slice E le ce)
   have hBAr := HBR9.out.setCell (p := ⟨g3, 2, none⟩) (Nat.le_refl _) (.slice E le ce)
   obtain ⟨WA, hWA⟩ : ∃ W, W9.setCell ⟨g3, 2, none⟩ (.slice E le ce) = W := ⟨_, rfl⟩
   rw [hWA] at hBA hBAr ⊢
   have HBA : Hid (Blk WA g3 156 #[.slice D ld cd, .slice C lc cc, .slice E le ce]) := by show Blk _ _ _ _; simpa using hBA
   have HBAR := Lib.hid hBAr
   clear hWA hBA hBAr b0 b1 b2 bl h2 hl3 hf2
   have HR := Lib.hid (HB2.out _ HBAR.out)
   have h0 := HBA.out.cell 0
   have h1 := HBA.out.cell 1
   have h2 := HBA.out.cell 2
   have hl3 := HBA.out.lt
   have z0 := HR.out.cell 0
   have z1 := HR.out.cell 1
   have z2 := HR.out.cell 2
   have zf0 := HR.out.frozen 0
   have zf1 := HR.out.frozen 1
   have zf2 := HR.out.frozen 2
   have zl := HR.out.lt
   simp at h0 h1 h2 z0 z1 z2
   go_wp2_with fail
   (try simp only [Exit.inBlock, Exit.then])
   refine ret_cell (t := 156) (cs := #[.slice D ld cd, .slice C lc cc, .slice E le ce]) (((HR.out.set_ 0 (.slice D ld cd)).set_ 1 (.slice C lc cc)).set_ 2 (.slice E le ce)) rfl rfl Tryz.underlying156 rfl (by kernel_rfl) rfl ?_
   have hwg : w.heap.size ≤ g2 := HG.out.2.2
   exact ⟨⟨D, ld, cd, C, lc, cc, E, le, ce, rfl, HLC.out, HLE.out⟩, (((bthen HB1.out (HB13.out _ HBAR.out)).setCell (p := ⟨g2, 0, none⟩) hwg _).setCell (p := ⟨g2, 1, none⟩) hwg _).setCell (p := ⟨g2, 2, none⟩) hwg _⟩
theorem soundE_20 {s : Sc} (h : ¬ ScOK s) : soundE s = 20 := if_pos h
theorem soundE_50 {s : Sc} (h : ScOK s) (h2 : ¬ LV s 0) : soundE s = 50 := (if_neg (fun x => x h)).trans (if_pos h2)
theorem soundE_40 {s : Sc} (h : ScOK s) (h2 : LV s 0) (h3 : ∃ m, RM s m ∧ ¬ LV s m) : soundE s = 40 := (if_neg (fun x => x h)).trans ((if_neg (fun x => x h2)).trans (if_pos h3))
theorem soundE_41 {s : Sc} (h : ScOK s) (h2 : LV s 0) (h3 : ¬ ∃ m, RM s m ∧ ¬ LV s m) (h4 : HasEnd s s.n) : soundE s = 41 := (if_neg (fun x => x h)).trans ((if_neg (fun x => x h2)).trans ((if_neg h3).trans (if_pos h4)))
theorem soundE_0 {s : Sc} (h : ScOK s) (h2 : LV s 0) (h3 : ¬ ∃ m, RM s m ∧ ¬ LV s m) (h4 : ¬ HasEnd s s.n) : soundE s = 0 := (if_neg (fun x => x h)).trans ((if_neg (fun x => x h2)).trans ((if_neg h3).trans (if_neg h4)))
theorem hasEnd_round {s : Sc} (h : ScOK s) : HasEnd s s.n ↔ ∃ x, RoundP s x :=
 ⟨fun ⟨m, _, h1, h2, h3⟩ => ⟨m, ⟨h1, h2⟩, h3⟩, fun ⟨m, ⟨h1, h2⟩, h3⟩ => ⟨m, rm_range h h1, h1, h2, h3⟩⟩
set_option maxHeartbeats 16000000 in
theorem rsound04_any (s : Sc) (A : Option Addr) (c : Nat) (w : World) (hs : ScIn w s A c) : Calls Tryz.prog 36 #[.agg #[.int .i64 s.n, .int .u8 s.acc, .slice A s.rs.length c]] w fun e w' => e = .returned (.int .i64 (soundE s)) ∧ Below w.heap.size w w' := by
 obtain ⟨w1, hw1⟩ : ∃ w1, w.alloc (.cells #[.int .i64 s.n, .int .u8 s.acc, .slice A s.rs.length c] 30) = w1 := ⟨_, rfl⟩
 have hb1 : Below w.heap.size w w1 := by rw [← hw1]; exact nw _ (Below.refl _ _)
 have hB : Blk w1 w.heap.size 30 #[.int .i64 s.n, .int .u8 s.acc, .slice A s.rs.length c] := by rw [← hw1]; exact Blk.new _ _ _
 have HW1 := Lib.hid hw1
 have HB1 := Lib.hid hb1
 have HCE : Hid (∀ W, Below w1.heap.size w1 W → W.cell? ⟨w.heap.size, 0, none⟩ = some (.int .i64 s.n) ∧ W.cell? ⟨w.heap.size, 1, none⟩ = some (.int .u8 s.acc) ∧ W.cell? ⟨w.heap.size, 2, none⟩ = some (.slice A s.rs.length c) ∧ w.heap.size < W.heap.size) := fun W hW => by
  have e1 := hB.below hW hB.lt
  exact ⟨by rw [e1.cell]; rfl, by rw [e1.cell]; rfl, by rw [e1.cell]; rfl, e1.lt⟩
 obtain ⟨b0, b1, b2, bl⟩ := HCE.out _ (Below.refl _ _)
 clear hw1 hb1 hB
 by_cases hok : ScOK s
 ·have HVA : Hid (Calls Tryz.prog 35 #[.agg #[.int .i64 s.n, .int .u8 s.acc, .slice A s.rs.length c]] w1 fun e w' => e = .returned (.bool true) ∧ Below w1.heap.size w1 w') := by
   have h := rvalid_any s A c w1 (hs.below HB1.out)
   rw [decide_eq_true hok] at h
   exact h
  have HFI : Hid (∀ W, Below w1.heap.size w1 W → Calls Tryz.prog 75 #[.agg #[.int .i64 s.n, .int .u8 s.acc, .slice A s.rs.length c]] W (IsFind s W)) := fun W hW => rfind_any s A c W (hs.below (HB1.out.trans (hW.mono HB1.out.size))) hok
  have hn := hok.1
  obtain ⟨N, hN⟩ : ∃ N : Nat, s.n = (N : Int) := ⟨s.n.toNat, by omega⟩
  have hNN : s.n.toNat = N := by omega
  have hN8 : 1 ≤ N ∧ N ≤ 8 := by omega
  have HLI : Hid (∀ W, Below w1.heap.size w1 W → Calls Tryz.prog 76 #[.agg #[.int .i64 s.n, .int .u8 s.acc, .slice A s.rs.length c]] W (IsLvR s N W)) := fun W hW => by
   have h := rlive_any s A c W (hs.below (HB1.out.trans (hW.mono HB1.out.size))) hok
   rw [hNN] at h
   exact h
  have hN0 : (0 : Int) < (N : Int) := by omega
  have HOK := Lib.hid hok
  clear hs hok hn hNN hN
  go_enter Tryz.func36, Tryz.ntmps36
  go_upto_region 1 with fail
  rw [HW1.out]
  go_upto_region 4 with (go_at_call 35; go_loud (refine HVA.out.mono ?_; rintro e w2 ⟨rfl, hb2⟩; obtain ⟨b0, b1, b2, bl⟩ := HCE.out _ hb2))
  go_upto_region 5 with (go_at_call 75; go_loud (refine (HFI.out _ hb2).mono ?_; rintro e w3 ⟨⟨D, ld, cd, C, lc, cc, E, le, ce, rfl, hlc, hle⟩, hb3⟩))
  obtain ⟨g4, hg4⟩ : ∃ x, w3.heap.size = x := ⟨_, rfl⟩
  obtain ⟨w4, hw4⟩ : ∃ W, w3.alloc (.cells #[.slice D ld cd, .slice C lc cc, .slice E le ce] 156) = W := ⟨_, rfl⟩
  have hB4 : Blk w4 g4 156 #[.slice D ld cd, .slice C lc cc, .slice E le ce] := by rw [← hw4]; exact Blk.new_ hg4.symm
  have hb14 : Below w1.heap.size w1 w4 := by rw [← hw4]; exact (hb2.trans (hb3.mono hb2.size)).alloc (by have := hb2.size; have := hb3.size; omega) _
  rw [hg4, hw4]
  have HB4 := Lib.hid hB4
  have HB14 := Lib.hid hb14
  have HLC := Lib.hid hlc
  have HLE := Lib.hid hle
  clear hw4 hg4 hB4 hb14 hlc hle hb2 hb3 b0 b1 b2 bl
  obtain ⟨b0, b1, b2, bl⟩ := HCE.out _ HB14.out
  have HLV5 := Lib.hid (HLI.out _ HB14.out)
  go_cut [15] (fun s15 W => IsPutB (¬ LV s 0) (LV s 0) s15 ∧ Below w4.heap.size w4 W)
  case first =>
   go_wp2_with (go_at_call 76; go_loud (refine HLV5.out.mono ?_; rintro e w5 ⟨⟨gl, fl, rfl, hgl, hbl, hfl⟩, hb5⟩; have l0 : w5.cell? ⟨gl, 0, none⟩ = some (.bool (fl 0)) := hbl.cell (k := 0) (by omega); have ll := hbl.lt; have HFL0 := Lib.hid (hfl 0 (by omega)); have HB5 := Lib.hid hb5; clear hbl hfl hb5))
   go_meet
   refine ⟨⟨!fl 0, rfl, fun h => ?_, fun h => ?_⟩, HB5.out⟩
   ·intro hl
    have h1 : fl 0 = true := HFL0.out.2 hl
    rw [h1] at h
    cases h
   ·have h1 : fl 0 = true := by simpa using h
    exact HFL0.out.1 h1
  case rest =>
   obtain ⟨w5, rfl⟩ : ∃ W, W = wc := ⟨wc, rfl⟩
   obtain ⟨⟨bb, rfl, hyes, hno⟩, hb5⟩ := hcut
   have HB45 := Lib.hid (HB4.out.below hb5 HB4.out.lt)
   have HBW : Hid (Below w.heap.size w w5) := bthen HB1.out (HB14.out.trans (hb5.mono HB14.out.size))
   have HY := Lib.hid hyes
   have HN := Lib.hid hno
   have h1 := HB45.out.cell 1
   have h2 := HB45.out.cell 2
   have hl4 := HB45.out.lt
   simp at h1 h2
   clear hb5 hyes hno b0 b1 b2 bl
   cases hbv : bb with
   | true =>
    have HE : Hid (soundE s = 50) := soundE_50 HOK.out (HY.out hbv)
    go_wp2_with fail
    go_ret
    exact ⟨by rw [HE.out]; rfl, HBW.out⟩
   | false =>
    have HLV := Lib.hid (HN.out hbv)
    by_cases hc0 : 0 < lc
    ·have hci : (0 : Int) < (lc : Int) := by omega
     have HE : Hid (soundE s = 40) := soundE_40 HOK.out HLV.out (HLC.out.1 hc0).2
     go_wp2_with fail
     go_ret
     exact ⟨by rw [HE.out]; rfl, HBW.out⟩
    ·have hci : ¬ (0 : Int) < (lc : Int) := by omega
     have HNS : Hid (¬ ∃ m, RM s m ∧ ¬ LV s m) := fun h => hc0 (HLC.out.2 ⟨HLV.out, h⟩)
     by_cases he0 : 0 < le
     ·have hei : (0 : Int) < (le : Int) := by omega
      have HE : Hid (soundE s = 41) := soundE_41 HOK.out HLV.out HNS.out ((hasEnd_round HOK.out).2 (HLE.out.1 he0))
      go_wp2_with fail
      go_ret
      exact ⟨by rw [HE.out]; rfl, HBW.out⟩
     ·have hei : ¬ (0 : Int) < (le : Int) := by omega
      have HE : Hid (soundE s = 0) := soundE_0 HOK.out HLV.out HNS.out (fun h => he0 (HLE.out.2 ((hasEnd_round HOK.out).1 h)))
      go_wp2_with fail
      go_ret
      exact ⟨by rw [HE.out]; rfl, HBW.out⟩
 ·have HVA : Hid (Calls Tryz.prog 35 #[.agg #[.int .i64 s.n, .int .u8 s.acc, .slice A s.rs.length c]] w1 fun e w' => e = .returned (.bool false) ∧ Below w1.heap.size w1 w') := by
   have h := rvalid_any s A c w1 (hs.below HB1.out)
   rw [decide_eq_false hok] at h
   exact h
  have HE : Hid (soundE s = 20) := soundE_20 hok
  clear hs hok
  go_enter Tryz.func36, Tryz.ntmps36
  go_upto_region 1 with fail
  rw [HW1.out]
  go_wp2_with (go_at_call 35; go_loud (refine HVA.out.mono ?_; rintro e w2 ⟨rfl, hb2⟩))
  go_ret
  exact ⟨by rw [HE.out]; rfl, HB1.out.trans (hb2.mono HB1.out.size)⟩
def IsSnd (s : Sc) (e : Ending) : Prop := ∃ b : Bool, e = .returned (.bool b) ∧ (b = true ↔ soundE s = 0)
set_option maxHeartbeats 16000000 in
theorem rsound5_any (s : Sc) (A : Option Addr) (c : Nat) (w : World) (hs : ScIn w s A c) : Calls Tryz.prog 16 #[.agg #[.int .i64 s.n, .int .u8 s.acc, .slice A s.rs.length c]] w fun e w' => IsSnd s e ∧ Below w.heap.size w w' := by
 obtain ⟨w1, hw1⟩ : ∃ w1, w.alloc (.cells #[.int .i64 s.n, .int .u8 s.acc, .slice A s.rs.length c] 30) = w1 := ⟨_, rfl⟩
 have hb1 : Below w.heap.size w w1 := by rw [← hw1]; exact nw _ (Below.refl _ _)
 have hB : Blk w1 w.heap.size 30 #[.int .i64 s.n, .int .u8 s.acc, .slice A s.rs.length c] := by rw [← hw1]; exact Blk.new _ _ _
 have HW1 := Lib.hid hw1
 have HB1 := Lib.hid hb1
 have HCE : Hid (∀ W, Below w1.heap.size w1 W → W.cell? ⟨w.heap.size, 0, none⟩ = some (.int .i64 s.n) ∧ W.cell? ⟨w.heap.size, 1, none⟩ = some (.int .u8 s.acc) ∧ W.cell? ⟨w.heap.size, 2, none⟩ = some (.slice A s.rs.length c) ∧ w.heap.size < W.heap.size) := fun W hW => by
  have e1 := hB.below hW hB.lt
  exact ⟨by rw [e1.cell]; rfl, by rw [e1.cell]; rfl, by rw [e1.cell]; rfl, e1.lt⟩
 obtain ⟨b0, b1, b2, bl⟩ := HCE.out _ (Below.refl _ _)
 clear hw1 hb1 hB
 have HSO : Hid (∀ W, Below w1.heap.size w1 W → Calls Tryz.prog 36 #[.agg #[.int .i64 s.n, .int .u8 s.acc, .slice A s.rs.length c]] W fun e w' => e = .returned (.int .i64 (soundE s)) ∧ Below W.heap.size W w') := fun W hW => rsound04_any s A c W (hs.below (HB1.out.trans (hW.mono HB1.out.size)))
 by_cases hok : ScOK s
 ·have HVA : Hid (Calls Tryz.prog 35 #[.agg #[.int .i64 s.n, .int .u8 s.acc, .slice A s.rs.length c]] w1 fun e w' => e = .returned (.bool true) ∧ Below w1.heap.size w1 w') := by
   have h := rvalid_any s A c w1 (hs.below HB1.out)
   rw [decide_eq_true hok] at h
   exact h
  obtain ⟨z, hz⟩ : ∃ z, soundE s = z := ⟨_, rfl⟩
  rw [hz] at HSO
  have HZ := Lib.hid hz
  clear hs hok hz
  go_enter Tryz.func16, Tryz.ntmps16
  go_upto_region 1 with fail
  rw [HW1.out]
  go_wp2_with (first
   | (go_at_call 36; go_loud (refine (HSO.out _ hb2).mono ?_; rintro e w3 ⟨rfl, hb3⟩))
   | (go_at_call 35; go_loud (refine HVA.out.mono ?_; rintro e w2 ⟨rfl, hb2⟩; obtain ⟨b0, b1, b2, bl⟩ := HCE.out _ hb2)))
  go_ret
  exact ⟨⟨z == 0, rfl, by rw [HZ.out]; simp⟩, HB1.out.trans ((hb2.trans (hb3.mono hb2.size)).mono HB1.out.size)⟩
 ·have HVA : Hid (Calls Tryz.prog 35 #[.agg #[.int .i64 s.n, .int .u8 s.acc, .slice A s.rs.length c]] w1 fun e w' => e = .returned (.bool false) ∧ Below w1.heap.size w1 w') := by
   have h := rvalid_any s A c w1 (hs.below HB1.out)
   rw [decide_eq_false hok] at h
   exact h
  have HE : Hid (soundE s = 20) := soundE_20 hok
  clear hs hok HSO
  go_enter Tryz.func16, Tryz.ntmps16
  go_upto_region 1 with fail
  rw [HW1.out]
  go_wp2_with (go_at_call 35; go_loud (refine HVA.out.mono ?_; rintro e w2 ⟨rfl, hb2⟩))
  go_ret
  exact ⟨⟨false, rfl, fun h => (by cases h), fun h => by rw [HE.out] at h; cases h⟩, HB1.out.trans (hb2.mono HB1.out.size)⟩
theorem IsSnd.parts {s : Sc} {e : Ending} (h : IsSnd s e) : (e = .returned (.bool true) ∧ soundE s = 0) ∨ (e = .returned (.bool false) ∧ ¬ soundE s = 0) := by
 obtain ⟨b, h1, h2⟩ := h
 cases b with
 | true => exact .inl ⟨h1, h2.1 rfl⟩
 | false => exact .inr ⟨h1, fun h => by have := h2.2 h; cases this⟩
structure Pq where
 m : Int
 o : ByteArray
 c : Int
 deriving DecidableEq
def encPq (p : Pq) : List Value := [.int .i64 p.m, .string p.o, .int .i64 p.c]
def RPq (_ : World) (p : Pq) (vs : List Value) : Prop := vs = encPq p
structure PRow where
 A : Option Addr
 c : Nat
 ps : List Pq
def PRow.val (r : PRow) : Value := .slice r.A r.ps.length r.c
structure PlcI (w : World) (gp gL cL : Nat) (s : Sc) (A : Option Addr) (c : Nat) (inp : ByteArray) (rows : List PRow) (big : Bool) : Prop where
 hp : Blk w gp 82 #[.int .i64 s.n, .int .u8 s.acc, .slice A s.rs.length c, .string inp, .slice (some ⟨gL, 0, none⟩) rows.length cL, .bool big]
 hL : w.ownsRow (gp + 1) 148 1 (.slice (some ⟨gL, 0, none⟩) rows.length cL) rows.length (rows.map PRow.val)
 own : ∀ (i : Nat) (r : PRow), rows[i]? = some r → w.ownsRow (gp + 1) 151 3 r.val r.ps.length (r.ps.flatMap encPq)
 apart : ∀ (i j : Nat) (a b : PRow), i ≠ j → rows[i]? = some a → rows[j]? = some b → ∀ g, a.val.ownBlock = some g → b.val.ownBlock ≠ some g
theorem flat_setPq : ∀ (l : List Pq) (k : Nat) (p : Pq) (c' : Int), l[k]? = some p → (l.flatMap encPq).set (k * 3 + 2) (.int .i64 c') = (l.set k ⟨p.m, p.o, c'⟩).flatMap encPq
 | [], k, p, c', h => by simp at h
 | q :: l, 0, p, c', h => by
  simp at h
  subst h
  simp [encPq]
 | q :: l, k + 1, p, c', h => by
  have ih := flat_setPq l k p c' (by simpa using h)
  have e : (k + 1) * 3 + 2 = (k * 3 + 2) + 3 := by omega
  rw [List.flatMap_cons, List.set_cons_succ, List.flatMap_cons, ← ih, e]
  simp [encPq, List.set_append]
section
variable {w w' : World} {gp gL cL c : Nat} {s : Sc} {A : Option Addr} {inp : ByteArray} {rows : List PRow} {big : Bool}
theorem PlcI.below (h : PlcI w gp gL cL s A c inp rows big) (hb : Below w.heap.size w w') : PlcI w' gp gL cL s A c inp rows big :=
 ⟨h.hp.below hb h.hp.lt, own_below h.hL hb, fun i r hr => own_below (h.own i r hr) hb, h.apart⟩
theorem PlcI.gl (h : PlcI w gp gL cL s A c inp rows big) : gp < gL ∧ gL < w.heap.size := by
 have h1 := h.hL.lt gL rfl
 omega
theorem PlcI.row (h : PlcI w gp gL cL s A c inp rows big) {i : Nat} {r : PRow} (hi : rows[i]? = some r) : w.cell? ⟨gL, i, none⟩ = some r.val ∧ w.frozen? ⟨gL, i, none⟩ = false ∧ rows.length ≤ cL := by
 have hlt : i < rows.length := (List.getElem?_eq_some_iff.1 hi).1
 refine ⟨?_, h.hL.frozenAt i, ?_⟩
 ·rw [h.hL.cellAt i (by omega), List.getElem?_map, hi]
  rfl
 ·rcases h.hL.2 with ⟨he, _⟩ | ⟨g, cap, cur, he, _, _, hn, _⟩
  ·cases he
  ·injection he with _ _ e3
   omega
theorem PlcI.slr (h : PlcI w gp gL cL s A c inp rows big) {i : Nat} {r : PRow} (hi : rows[i]? = some r) : SlR 3 RPq w r.A r.ps ∧ r.ps.length ≤ r.c ∧ r.c ≤ maxLen := by
 obtain ⟨B, cap, he, h1, h2, h3⟩ := own_slr (R := RPq) (h.own i r hi) (fun _ => rfl) (fun _ => rfl) rfl
 unfold PRow.val at he
 injection he with e1 e2 e3
 subst e1 e3
 exact ⟨h3, h1, h2⟩
theorem PlcI.form (h : PlcI w gp gL cL s A c inp rows big) {i : Nat} {r : PRow} (hi : rows[i]? = some r) (hn : 0 < r.ps.length) : ∃ g, r.A = some ⟨g, 0, none⟩ ∧ gp < g ∧ g < w.heap.size ∧ g ≠ gL ∧ r.val.ownBlock = some g := by
 have ho := h.own i r hi
 rcases ho.2 with ⟨_, h0⟩ | ⟨g, cap, cur, hv, hg, hh, _⟩
 ·omega
 ·have hv' := hv
  unfold PRow.val at hv
  injection hv with e1 e2 e3
  have hb : r.val.ownBlock = some g := by rw [hv']; rfl
  refine ⟨g, e1, by omega, (ho.lt g hb).2, fun e => ?_, hb⟩
  exact own_ne ho h.hL (by decide) g hb (by rw [e]; rfl)
theorem SlR.pq {B : Option Addr} {g : Nat} {xs : List Pq} (h : SlR 3 RPq w B xs) (hB : B = some ⟨g, 0, none⟩) {k : Nat} {p : Pq} (hk : xs[k]? = some p) :
 w.cell? ⟨g, k * 3, none⟩ = some (.int .i64 p.m) ∧ w.cell? ⟨g, k * 3 + 1, none⟩ = some (.string p.o) ∧ w.cell? ⟨g, k * 3 + 2, none⟩ = some (.int .i64 p.c) := by
 obtain ⟨b, off, hA, _, hc⟩ := h (fun e => by subst e; simp at hk)
 rw [hB] at hA
 injection hA with hA
 injection hA with e1 e2
 subst e1 e2
 obtain ⟨vs, rfl, _, hv⟩ := hc k p hk
 have h0 := hv 0 _ rfl
 have h1 := hv 1 _ rfl
 have h2 := hv 2 _ rfl
 simp only [Nat.zero_add, Nat.add_zero] at h0 h1 h2
 exact ⟨h0, h1, h2⟩
theorem PlcI.big_ (h : PlcI w gp gL cL s A c inp rows big) : PlcI (w.setCell ⟨gp, 5, none⟩ (.bool true)) gp gL cL s A c inp rows true where
 hp := by have := h.hp.set_ 5 (.bool true); simpa using this
 hL := own_set h.hL (a := ⟨gp, 5, none⟩) (fun e => absurd (own_block_le h.hL _ e) (Nat.not_succ_le_self _)) _
 own i r hr := own_set (h.own i r hr) (a := ⟨gp, 5, none⟩) (fun e => absurd (own_block_le (h.own i r hr) _ e) (Nat.not_succ_le_self _)) _
 apart := h.apart
theorem get_set_row {i j : Nat} {r x y : PRow} (hi : rows[i]? = some r) (hj : (rows.set i x)[j]? = some y) : (i = j ∧ y = x) ∨ (i ≠ j ∧ rows[j]? = some y) := by
 by_cases e : i = j
 ·subst e
  rw [List.getElem?_set_self (List.getElem?_eq_some_iff.1 hi).1] at hj
  exact .inl ⟨rfl, (Option.some.inj hj).symm⟩
 ·rw [List.getElem?_set_ne e] at hj
  exact .inr ⟨e, hj⟩
theorem map_set_val {i : Nat} {r x : PRow} (hi : rows[i]? = some r) (hv : x.val = r.val) : (rows.set i x).map PRow.val = rows.map PRow.val := by
 rw [List.map_set, hv]
 refine List.ext_getElem? fun j => ?_
 by_cases e : i = j
 ·subst e
  rw [List.getElem?_set_self (by rw [List.length_map]; exact (List.getElem?_eq_some_iff.1 hi).1), List.getElem?_map, hi]
  rfl
 ·rw [List.getElem?_set_ne e]
theorem PlcI.cost (h : PlcI w gp gL cL s A c inp rows big) {i k g : Nat} {r : PRow} {p : Pq} (hi : rows[i]? = some r) (hk : r.ps[k]? = some p) (hA : r.A = some ⟨g, 0, none⟩) (c' : Int) :
 PlcI (w.setCell ⟨g, k * 3 + 2, none⟩ (.int .i64 c')) gp gL cL s A c inp (rows.set i ⟨r.A, r.c, r.ps.set k ⟨p.m, p.o, c'⟩⟩) big := by
 have hg : r.val.ownBlock = some g := by unfold PRow.val; rw [hA]; rfl
 have hgp : gp + 1 ≤ g := own_block_le (h.own i r hi) g hg
 have hgl : (Value.slice (some ⟨gL, 0, none⟩) rows.length cL).ownBlock ≠ some g := own_ne (h.own i r hi) h.hL (by decide) g hg
 have hval : (⟨r.A, r.c, r.ps.set k ⟨p.m, p.o, c'⟩⟩ : PRow).val = r.val := by unfold PRow.val; rw [List.length_set]
 have hlen : (rows.set i ⟨r.A, r.c, r.ps.set k ⟨p.m, p.o, c'⟩⟩).length = rows.length := List.length_set
 refine ⟨?_, ?_, fun j y hy => ?_, fun j j' a b hne ha hb q hq => ?_⟩
 ·rw [hlen]; exact h.hp.far (p := ⟨g, k * 3 + 2, none⟩) (by simp; omega) _
 ·rw [hlen, map_set_val hi hval]; exact own_set h.hL (a := ⟨g, k * 3 + 2, none⟩) hgl _
 ·rcases get_set_row hi hy with ⟨_, rfl⟩ | ⟨hne, hy⟩
  ·rw [hval]
   have ho := h.own i r hi
   have hv : r.val = .slice (some ⟨g, 0, none⟩) r.ps.length r.c := by unfold PRow.val; rw [hA]
   rw [hv] at ho ⊢
   have := ho.stored (k * 3 + 2) (.int .i64 c')
   rw [flat_setPq r.ps k p c' hk] at this
   simpa using this.1
  ·exact own_set (h.own j y hy) (a := ⟨g, k * 3 + 2, none⟩) (h.apart i j r y hne hi hy g hg) _
 ·rcases get_set_row hi ha with ⟨e1, rfl⟩ | ⟨h1, ha⟩
  ·rcases get_set_row hi hb with ⟨e2, rfl⟩ | ⟨h2, hb⟩
   ·omega
   ·rw [hval] at hq; exact h.apart i j' r b h2 hi hb q hq
  ·rcases get_set_row hi hb with ⟨e2, rfl⟩ | ⟨h2, hb⟩
   ·rw [hval]; exact h.apart j i a r (fun e => h1 e.symm) ha hi q hq
   ·exact h.apart j j' a b hne ha hb q hq
theorem PlcI.app (h : PlcI w gp gL cL s A c inp rows big) {i : Nat} {r : PRow} (hi : rows[i]? = some r) {A' : Option Addr} {c' : Nat} {x : Pq} (hown : w'.ownsRow (gp + 1) 151 3 (.slice A' (r.ps.length + 1) c') (r.ps.length + 1) ((r.ps ++ [x]).flatMap encPq)) (ha : Apps w w' r.val (.slice A' (r.ps.length + 1) c')) :
 PlcI (w'.setCell ⟨gL, i, none⟩ (.slice A' (r.ps.length + 1) c')) gp gL cL s A c inp (rows.set i ⟨A', c', r.ps ++ [x]⟩) big := by
 have ho := h.own i r hi
 have hval : (⟨A', c', r.ps ++ [x]⟩ : PRow).val = .slice A' (r.ps.length + 1) c' := by unfold PRow.val; simp
 have hlen : (rows.set i ⟨A', c', r.ps ++ [x]⟩).length = rows.length := List.length_set
 have hgp : r.val.ownBlock ≠ some gp := fun e => absurd (own_block_le ho _ e) (Nat.not_succ_le_self _)
 have hL' : w'.ownsRow (gp + 1) 148 1 (.slice (some ⟨gL, 0, none⟩) rows.length cL) rows.length (rows.map PRow.val) := own_apps h.hL ho (by decide) ha
 have hgl := h.gl
 have hfar : ∀ (j : Nat) (y : PRow), i ≠ j → rows[j]? = some y → w'.ownsRow (gp + 1) 151 3 y.val y.ps.length (y.ps.flatMap encPq) := fun j y hne hy =>
  own_keep (h.own j y hy) fun g hg hlt => ha.keep g hlt fun e => h.apart i j r y hne hi hy g e hg
 have hnew : ∀ (j : Nat) (y : PRow), i ≠ j → rows[j]? = some y → ∀ g, y.val.ownBlock = some g → (Value.slice A' (r.ps.length + 1) c').ownBlock ≠ some g := fun j y hne hy g hg e => by
  rcases ha.at_ with h1 | ⟨k, h1, h2⟩
  ·exact h.apart i j r y hne hi hy g (by rw [← h1]; exact e) hg
  ·rw [h1] at e
   injection e with e
   have := ((h.own j y hy).lt g hg).2
   omega
 have hset : ∀ {v : Value} {n : Nat} {xs : List Value}, w'.ownsRow (gp + 1) 151 3 v n xs → (w'.setCell ⟨gL, i, none⟩ (.slice A' (r.ps.length + 1) c')).ownsRow (gp + 1) 151 3 v n xs := fun hx =>
  own_set hx (a := ⟨gL, i, none⟩) (fun e => own_ne hx hL' (by decide) gL e rfl) _
 refine ⟨?_, ?_, fun j y hy => ?_, fun j j' a b hne ha' hb q hq => ?_⟩
 ·rw [hlen]; exact (h.hp.apps ha hgp).far (p := ⟨gL, i, none⟩) (by simp; omega) _
 ·rw [hlen, List.map_set, hval]; exact (hL'.stored i _).1
 ·rcases get_set_row hi hy with ⟨_, rfl⟩ | ⟨hne, hy⟩
  ·rw [hval]
   have : (⟨A', c', r.ps ++ [x]⟩ : PRow).ps.length = r.ps.length + 1 := by simp
   rw [this]
   exact hset hown
  ·exact hset (hfar j y hne hy)
 ·rcases get_set_row hi ha' with ⟨e1, rfl⟩ | ⟨h1, ha'⟩
  ·rcases get_set_row hi hb with ⟨e2, rfl⟩ | ⟨h2, hb⟩
   ·omega
   ·rw [hval] at hq; exact fun e => hnew j' b h2 hb q e hq
  ·rcases get_set_row hi hb with ⟨e2, rfl⟩ | ⟨h2, hb⟩
   ·rw [hval]; exact hnew j a h1 ha' q hq
   ·exact h.apart j j' a b hne ha' hb q hq
end
end Go.Proofs.YtfpnhgahkjglgaaGreat
