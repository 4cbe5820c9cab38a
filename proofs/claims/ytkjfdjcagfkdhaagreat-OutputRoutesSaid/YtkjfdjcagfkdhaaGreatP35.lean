/-
  The walks of layers 05 and 08: the reference's report, and whether a scheme is sound.
-/
import Derived.Test.YtkjfdjcagfkdhaaGreatP34
namespace Go.Proofs.YtkjfdjcagfkdhaaGreat
open Go Go.RowKit

theorem own_form {w : World} {base n s : Nat} {e : TypeId} {v : Value} {xs : List Value} (h : w.ownsRow base e s v n xs) : ∃ A c, v = .slice A n c := by
  rcases h.2 with ⟨rfl, rfl⟩ | ⟨g, cap, cur, rfl, _⟩
  · exact ⟨none, 0, rfl⟩
  · exact ⟨_, _, rfl⟩
def IsBoolV (v : Value) : Prop := ∃ b : Bool, v = .bool b
def IsFind (s : Sc) (w : World) (e : Ending) (w' : World) : Prop :=
  (∃ D ld cd C lc cc E le ce, e = .returned (.agg #[.slice D ld cd, .slice C lc cc, .slice E le ce]) ∧ (0 < lc ↔ (LV s 0 ∧ ∃ m, RM s m ∧ ¬ LV s m)) ∧ (0 < le ↔ ∃ x, RoundP s x)) ∧ Below w.heap.size w w'
set_option maxRecDepth 100000 in
set_option maxHeartbeats 16000000 in
theorem rfind_any (s : Sc) (A : Option Addr) (c : Nat) (w : World) (hs : ScIn w s A c) (hok : ScOK s) : Calls Tryz.prog 51 #[.agg #[.int .i64 s.n, .int .u8 s.acc, .slice A s.rs.length c]] w (IsFind s w) := by
  obtain ⟨i0, hinf, hz0, hz1, hz2⟩ := info_parts cloneI_info
  obtain ⟨w1, hw1⟩ : ∃ w1, w.alloc (.cells #[.int .i64 s.n, .int .u8 s.acc, .slice A s.rs.length c] 29) = w1 := ⟨_, rfl⟩
  have hb1 : Below w.heap.size w w1 := by rw [← hw1]; exact nw _ (Below.refl _ _)
  have hB : Blk w1 w.heap.size 29 #[.int .i64 s.n, .int .u8 s.acc, .slice A s.rs.length c] := by rw [← hw1]; exact Blk.new _ _ _
  have HW1 := Lib.hid hw1
  have HB1 := Lib.hid hb1
  have HCE : Hid (∀ W, Below w1.heap.size w1 W → W.cell? ⟨w.heap.size, 0, none⟩ = some (.int .i64 s.n) ∧ W.cell? ⟨w.heap.size, 1, none⟩ = some (.int .u8 s.acc) ∧ W.cell? ⟨w.heap.size, 2, none⟩ = some (.slice A s.rs.length c) ∧ w.heap.size < W.heap.size) := fun W hW => by
    have e1 := hB.below hW hB.lt
    exact ⟨by rw [e1.cell]; rfl, by rw [e1.cell]; rfl, by rw [e1.cell]; rfl, e1.lt⟩
  obtain ⟨b0, b1, b2, bl⟩ := HCE.out _ (Below.refl _ _)
  clear hw1 hb1 hB
  have HVA : Hid (∀ W, Below w1.heap.size w1 W → Calls Tryz.prog 21 #[.agg #[.int .i64 s.n, .int .u8 s.acc, .slice A s.rs.length c]] W fun e w' => e = .returned (.bool true) ∧ Below W.heap.size W w') := fun W hW => by
    have h := rvalid_any s A c W (hs.below (HB1.out.trans (hW.mono HB1.out.size)))
    rw [decide_eq_true hok] at h
    exact h
  have HDE : Hid (∀ (k : Nat) (W : World), k < s.rs.length → Below w1.heap.size w1 W → Calls Tryz.prog 70 #[.agg #[.int .i64 s.n, .int .u8 s.acc, .slice A s.rs.length c], .int .i64 (k : Int)] W fun e w' => IsBool e ∧ Below W.heap.size W w') := fun k W hk hW => rdead_any s A c k W (hs.below (HB1.out.trans (hW.mono HB1.out.size))) hok hk
  have HST : Hid (∀ W, Below w1.heap.size w1 W → Calls Tryz.prog 71 #[.agg #[.int .i64 s.n, .int .u8 s.acc, .slice A s.rs.length c]] W (IsCh (LV s 0 ∧ ∃ m, RM s m ∧ ¬ LV s m) W)) := fun W hW => rstuck_any s A c W (hs.below (HB1.out.trans (hW.mono HB1.out.size))) hok
  have HEN : Hid (∀ W, Below w1.heap.size w1 W → Calls Tryz.prog 72 #[.agg #[.int .i64 s.n, .int .u8 s.acc, .slice A s.rs.length c]] W (IsCh (∃ x, RoundP s x) W)) := fun W hW => rendless_any s A c W (hs.below (HB1.out.trans (hW.mono HB1.out.size))) hok
  have hl := hs.len
  have hl64 := hok.2.1
  clear hs hok
  go_enter Tryz.func51, Tryz.ntmps51
  go_upto_region 1 with fail
  rw [HW1.out]
  obtain ⟨g2, hg2e⟩ : ∃ x, w.heap.size + 1 = x := ⟨_, rfl⟩
  have hg2 : w1.heap.size = g2 := by rw [← hg2e, ← HW1.out]; simp
  obtain ⟨w2, hw2⟩ : ∃ W, w1.alloc (.cells #[.slice none 0 0, .slice none 0 0, .slice none 0 0] 113) = W := ⟨_, rfl⟩
  have hB2 : Blk w2 g2 113 #[.slice none 0 0, .slice none 0 0, .slice none 0 0] := by rw [← hw2]; exact Blk.new_ hg2.symm
  have hb2 : Below w1.heap.size w1 w2 := by rw [← hw2]; exact nw _ (Below.refl _ _)
  have hs2 : w2.heap.size = w1.heap.size + 1 := by rw [← hw2]; simp
  rw [hw2]
  try rw [hg2]
  try rw [hg2e]
  clear hw2
  go_upto_region 2 with fail
  obtain ⟨g3, hg3⟩ : ∃ x, g2 + 1 = x := ⟨_, rfl⟩
  obtain ⟨w3, hw3⟩ : ∃ W, w2.alloc (.cells #[.slice none 0 0, .slice none 0 0, .slice none 0 0] 113) = W := ⟨_, rfl⟩
  have hB3 : Blk w3 g3 113 #[.slice none 0 0, .slice none 0 0, .slice none 0 0] := by rw [← hw3]; exact Blk.new_ (by omega)
  have hb3 : Below w2.heap.size w2 w3 := by rw [← hw3]; exact nw _ (Below.refl _ _)
  have hs3 : w3.heap.size = g3 + 1 := by rw [← hw3]; simp; omega
  rw [hw3]
  have e23 : w2.heap.size = g3 := by omega
  try rw [e23]
  try rw [hg3]
  have HB2 : Hid (∀ W, Below g3 w3 W → Blk W g2 113 #[.slice none 0 0, .slice none 0 0, .slice none 0 0]) := fun W h => (hB2.below hb3 hB2.lt).below h (by omega)
  have HB13 : Hid (∀ W, Below g3 w3 W → Below w1.heap.size w1 W) := fun W h => (hb2.trans (hb3.mono hb2.size)).trans (h.mono (by omega))
  have HG : Hid (g2 < g3 ∧ w1.heap.size ≤ g2 ∧ w.heap.size ≤ g2) := ⟨by omega, by omega, by have := HB1.out.size; omega⟩
  have HB3 := Lib.hid hB3
  have hle3 : g3 + 1 ≤ w3.heap.size := by omega
  clear hw3 hb2 hb3 hs2 hs3 hg2 hg2e hg3 hB2 hB3 b0 b1 b2 bl e23
  obtain ⟨b0, b1, b2, bl⟩ := HCE.out _ (HB13.out _ (Below.refl _ _))
  go_upto_region 6 with (go_at_call 21; go_loud (refine (HVA.out _ (HB13.out _ (Below.refl _ _))).mono ?_; rintro e w4 ⟨rfl, hb4⟩))
  have HB4 : Hid (Below g3 w3 w4) := hb4.mono (by omega)
  have hle4 : g3 + 1 ≤ w4.heap.size := by have := hb4.size; omega
  have HB34 := Lib.hid (HB3.out.below hb4 HB3.out.lt)
  clear hb4 b0 b1 b2 bl
  go_loopw [5] (fun iv wr => ∃ (k : Nat) (D : Option Addr) (ld cd : Nat) (ys : List Value), k ≤ s.rs.length ∧ ld ≤ k ∧ iv = .int .i64 (k : Int) ∧ wr.ownsRow (g3 + 1) 3 1 (.slice D ld cd) ld ys ∧ Blk wr g3 113 #[.slice D ld cd, .slice none 0 0, .slice none 0 0] ∧ Below g3 w3 wr ∧ g3 + 1 ≤ wr.heap.size) (fun iv _ => s.rs.length - (intOf iv).toNat)
  case atStart => exact ⟨0, none, 0, 0, [], Nat.zero_le _, Nat.le_refl _, rfl, own_nil _ _ _ _, HB34.out, HB4.out, hle4⟩
  case round =>
    obtain ⟨wR, rfl⟩ : ∃ W, W = wr := ⟨wr, rfl⟩
    obtain ⟨k, D, ld, cd, ys, hk, hld, rfl, hown, hB, hbr, hsz⟩ := hrel
    have HBR := Lib.hid hbr
    have HOW := Lib.hid hown
    have HBB := Lib.hid hB
    obtain ⟨b0, b1, b2, bl⟩ := HCE.out _ (HB13.out _ hbr)
    have h0 := hB.cell 0
    have h1 := hB.cell 1
    have h2 := hB.cell 2
    have hl3 := hB.lt
    simp at h0 h1 h2
    clear hbr hown hB
    by_cases hlt : k < s.rs.length
    · have hki : (k : Int) < (s.rs.length : Int) := by omega
      have HD := Lib.hid (HDE.out k wR hlt (HB13.out _ HBR.out))
      go_upto_region 8 with fail
      go_cut [21] (fun s21 W => IsBoolV s21 ∧ Below wR.heap.size wR W)
      case first =>
        go_wp2_with (go_at_call 70; go_loud (refine HD.out.mono ?_; rintro e W7 ⟨⟨bv, rfl⟩, hb7⟩))
        go_meet
        exact ⟨⟨bv, rfl⟩, hb7⟩
      case rest =>
        obtain ⟨X7, rfl⟩ : ∃ W, W = wc := ⟨wc, rfl⟩
        obtain ⟨⟨bb, rfl⟩, hb7⟩ := hcut
        have HOW7 := Lib.hid (own_below HOW.out hb7)
        have HB7 := Lib.hid (HBB.out.below hb7 HBB.out.lt)
        have HBR7 : Hid (Below g3 w3 X7) := HBR.out.trans (hb7.mono (by omega))
        have hsz7 : g3 + 1 ≤ X7.heap.size := by have := hb7.size; omega
        have h0 := HB7.out.cell 0
        have h1 := HB7.out.cell 1
        have h2 := HB7.out.cell 2
        have hl3 := HB7.out.lt
        simp at h0 h1 h2
        clear hb7
        cases hbv : bb with
        | false =>
          go_wp2_with fail
          go_roundw
          case rel => exact ⟨k + 1, D, ld, cd, ys, by omega, by omega, by go_num, HOW7.out, HB7.out, HBR7.out, hsz7⟩
          case measure => simp [intOf]; omega
        | true =>
          have hvne : (Value.slice D ld cd).ownBlock ≠ some g3 := fun e => absurd (own_block_le HOW7.out _ e) (Nat.not_succ_le_self _)
          go_wp2_with (at_builtin; go_loud (refine wpList_appS5 (enc := fun x => [Value.int .i64 x]) (R := RInt) rfl _ _ 64 rfl (g3 + 1) 3 i0 _ 1 8 Tryz.underlying64 hinf hz0 hz1 hz2 rfl (by decide) (.slice D ld cd) _ _ rfl (HOW7.out.alloc _) (some ⟨X7.heap.size, 0, none⟩) 1 [(k : Int)] rfl (slr_blkR (enc := fun x => [Value.int .i64 x]) (Blk.new_ rfl) (fun _ => rfl) (fun _ => rfl)) (fun _ _ _ h => h) (fun _ => rfl) ints_one (by simp; omega) (by decide) (by simp; omega) ?_; intro v6 X6 hown6 hb6 ha6; obtain ⟨D6, cd6, rfl⟩ := own_form hown6; have hB6 := (HB7.out.alloc (.cells #[.int .i64 (k : Int)] 3)).apps ha6 hvne; have HB6 := Lib.hid hB6; have HOW6 := Lib.hid hown6; have HBX6 : Hid (Below g3 w3 X6) := (HBR7.out.alloc (by omega) (.cells #[.int .i64 (k : Int)] 3)).trans (hb6.mono (by omega)); have hsz6 : g3 + 1 ≤ X6.heap.size := (by have := hb6.size; simp at this; omega); have h0 := hB6.cell 0; have hf0 := hB6.frozen 0; have hl3 := hB6.lt; simp at h0; clear hB6 hown6 hb6 ha6))
          go_roundw
          case rel => exact ⟨k + 1, D6, ld + 1, cd6, _, by omega, by omega, by go_num, own_set HOW6.out (a := ⟨g3, 0, none⟩) (fun e => absurd (own_block_le HOW6.out _ e) (Nat.not_succ_le_self _)) _, by simpa using HB6.out.set_ 0 (.slice D6 (ld + 1) cd6), HBX6.out.setCell (p := ⟨g3, 0, none⟩) (Nat.le_refl _) _, by simpa using hsz6⟩
          case measure => simp [intOf]; omega
    · have hki : ¬ (k : Int) < (s.rs.length : Int) := by omega
      have hf1 := HBB.out.frozen 1
      go_upto_region 11 with (go_at_call 71; go_loud (refine (HST.out _ (HB13.out _ HBR.out)).mono ?_; rintro e W7 ⟨⟨C, lc, cc, rfl, hlc⟩, hb7⟩; have HB7 := Lib.hid (HBB.out.below hb7 HBB.out.lt); have HBR7 : Hid (Below g3 w3 W7) := HBR.out.trans (hb7.mono (by omega)); have h1 := HB7.out.cell 1; have hf1 := HB7.out.frozen 1; have hl3 := HB7.out.lt; simp at h1; have HLC := Lib.hid hlc; clear hb7 hlc))
      have hB8 := HB7.out.set_ 1 (.slice C lc cc)
      have hB8r := HBR7.out.setCell (p := ⟨g3, 1, none⟩) (Nat.le_refl _) (.slice C lc cc)
      obtain ⟨W8, hW8⟩ : ∃ W, W7.setCell ⟨g3, 1, none⟩ (.slice C lc cc) = W := ⟨_, rfl⟩
      rw [hW8] at hB8 hB8r ⊢
      have HB8 := Lib.hid hB8
      have HBR8 := Lib.hid hB8r
      have hsz8 : g3 + 1 ≤ W8.heap.size := hB8.lt
      clear hW8 hB8 hB8r b0 b1 b2 bl h0 h1 h2 hl3 hf1
      obtain ⟨b0, b1, b2, bl⟩ := HCE.out _ (HB13.out _ HBR8.out)
      go_upto_region 12 with (go_at_call 72; go_loud (refine (HEN.out _ (HB13.out _ HBR8.out)).mono ?_; rintro e W9 ⟨⟨E, le, ce, rfl, hle⟩, hb9⟩; have HB9 := Lib.hid (HB8.out.below hb9 HB8.out.lt); have HBR9 : Hid (Below g3 w3 W9) := HBR8.out.trans (hb9.mono (by omega)); have h2 := HB9.out.cell 2; have hf2 := HB9.out.frozen 2; have hl3 := HB9.out.lt; simp at h2; have HLE := Lib.hid hle; clear hb9 hle))
      have hBA := HB9.out.set_ 2 (.slice E le ce)
      have hBAr := HBR9.out.setCell (p := ⟨g3, 2, none⟩) (Nat.le_refl _) (.slice E le ce)
      obtain ⟨WA, hWA⟩ : ∃ W, W9.setCell ⟨g3, 2, none⟩ (.slice E le ce) = W := ⟨_, rfl⟩
      rw [hWA] at hBA hBAr ⊢
      have HBA : Hid (Blk WA g3 113 #[.slice D ld cd, .slice C lc cc, .slice E le ce]) := by show Blk _ _ _ _; simpa using hBA
      have HBAR := Lib.hid hBAr
      clear hWA hBA hBAr b0 b1 b2 bl h2 hl3 hf2
      have HR := Lib.hid (HB2.out _ HBAR.out)
      have h0 := HBA.out.cell 0
      have h1 := HBA.out.cell 1
      have h2 := HBA.out.cell 2
      have hl3 := HBA.out.lt
      have z0 := HR.out.cell 0
      have z1 := HR.out.cell 1
      have z2 := HR.out.cell 2
      have zf0 := HR.out.frozen 0
      have zf1 := HR.out.frozen 1
      have zf2 := HR.out.frozen 2
      have zl := HR.out.lt
      simp at h0 h1 h2 z0 z1 z2
      go_wp2_with fail
      (try simp only [Exit.inBlock, Exit.then])
      refine ret_cell (t := 113) (cs := #[.slice D ld cd, .slice C lc cc, .slice E le ce]) (((HR.out.set_ 0 (.slice D ld cd)).set_ 1 (.slice C lc cc)).set_ 2 (.slice E le ce)) rfl rfl Tryz.underlying113 rfl (by kernel_rfl) rfl ?_
      have hwg : w.heap.size ≤ g2 := HG.out.2.2
      exact ⟨⟨D, ld, cd, C, lc, cc, E, le, ce, rfl, HLC.out, HLE.out⟩, (((bthen HB1.out (HB13.out _ HBAR.out)).setCell (p := ⟨g2, 0, none⟩) hwg _).setCell (p := ⟨g2, 1, none⟩) hwg _).setCell (p := ⟨g2, 2, none⟩) hwg _⟩
theorem soundE_20 {s : Sc} (h : ¬ ScOK s) : soundE s = 20 := if_pos h
theorem soundE_50 {s : Sc} (h : ScOK s) (h2 : ¬ LV s 0) : soundE s = 50 := (if_neg (fun x => x h)).trans (if_pos h2)
theorem soundE_40 {s : Sc} (h : ScOK s) (h2 : LV s 0) (h3 : ∃ m, RM s m ∧ ¬ LV s m) : soundE s = 40 := (if_neg (fun x => x h)).trans ((if_neg (fun x => x h2)).trans (if_pos h3))
theorem soundE_41 {s : Sc} (h : ScOK s) (h2 : LV s 0) (h3 : ¬ ∃ m, RM s m ∧ ¬ LV s m) (h4 : HasEnd s s.n) : soundE s = 41 := (if_neg (fun x => x h)).trans ((if_neg (fun x => x h2)).trans ((if_neg h3).trans (if_pos h4)))
theorem soundE_0 {s : Sc} (h : ScOK s) (h2 : LV s 0) (h3 : ¬ ∃ m, RM s m ∧ ¬ LV s m) (h4 : ¬ HasEnd s s.n) : soundE s = 0 := (if_neg (fun x => x h)).trans ((if_neg (fun x => x h2)).trans ((if_neg h3).trans (if_neg h4)))
theorem hasEnd_round {s : Sc} (h : ScOK s) : HasEnd s s.n ↔ ∃ x, RoundP s x :=
  ⟨fun ⟨m, _, h1, h2, h3⟩ => ⟨m, ⟨h1, h2⟩, h3⟩, fun ⟨m, ⟨h1, h2⟩, h3⟩ => ⟨m, rm_range h h1, h1, h2, h3⟩⟩
set_option maxRecDepth 100000 in
set_option maxHeartbeats 16000000 in
theorem rsound04_any (s : Sc) (A : Option Addr) (c : Nat) (w : World) (hs : ScIn w s A c) : Calls Tryz.prog 22 #[.agg #[.int .i64 s.n, .int .u8 s.acc, .slice A s.rs.length c]] w fun e w' => e = .returned (.int .i64 (soundE s)) ∧ Below w.heap.size w w' := by
  obtain ⟨w1, hw1⟩ : ∃ w1, w.alloc (.cells #[.int .i64 s.n, .int .u8 s.acc, .slice A s.rs.length c] 29) = w1 := ⟨_, rfl⟩
  have hb1 : Below w.heap.size w w1 := by rw [← hw1]; exact nw _ (Below.refl _ _)
  have hB : Blk w1 w.heap.size 29 #[.int .i64 s.n, .int .u8 s.acc, .slice A s.rs.length c] := by rw [← hw1]; exact Blk.new _ _ _
  have HW1 := Lib.hid hw1
  have HB1 := Lib.hid hb1
  have HCE : Hid (∀ W, Below w1.heap.size w1 W → W.cell? ⟨w.heap.size, 0, none⟩ = some (.int .i64 s.n) ∧ W.cell? ⟨w.heap.size, 1, none⟩ = some (.int .u8 s.acc) ∧ W.cell? ⟨w.heap.size, 2, none⟩ = some (.slice A s.rs.length c) ∧ w.heap.size < W.heap.size) := fun W hW => by
    have e1 := hB.below hW hB.lt
    exact ⟨by rw [e1.cell]; rfl, by rw [e1.cell]; rfl, by rw [e1.cell]; rfl, e1.lt⟩
  obtain ⟨b0, b1, b2, bl⟩ := HCE.out _ (Below.refl _ _)
  clear hw1 hb1 hB
  by_cases hok : ScOK s
  · have HVA : Hid (Calls Tryz.prog 21 #[.agg #[.int .i64 s.n, .int .u8 s.acc, .slice A s.rs.length c]] w1 fun e w' => e = .returned (.bool true) ∧ Below w1.heap.size w1 w') := by
      have h := rvalid_any s A c w1 (hs.below HB1.out)
      rw [decide_eq_true hok] at h
      exact h
    have HFI : Hid (∀ W, Below w1.heap.size w1 W → Calls Tryz.prog 51 #[.agg #[.int .i64 s.n, .int .u8 s.acc, .slice A s.rs.length c]] W (IsFind s W)) := fun W hW => rfind_any s A c W (hs.below (HB1.out.trans (hW.mono HB1.out.size))) hok
    have hn := hok.1
    obtain ⟨N, hN⟩ : ∃ N : Nat, s.n = (N : Int) := ⟨s.n.toNat, by omega⟩
    have hNN : s.n.toNat = N := by omega
    have hN8 : 1 ≤ N ∧ N ≤ 8 := by omega
    have HLI : Hid (∀ W, Below w1.heap.size w1 W → Calls Tryz.prog 52 #[.agg #[.int .i64 s.n, .int .u8 s.acc, .slice A s.rs.length c]] W (IsLvR s N W)) := fun W hW => by
      have h := rlive_any s A c W (hs.below (HB1.out.trans (hW.mono HB1.out.size))) hok
      rw [hNN] at h
      exact h
    have hN0 : (0 : Int) < (N : Int) := by omega
    have HOK := Lib.hid hok
    clear hs hok hn hNN hN
    go_enter Tryz.func22, Tryz.ntmps22
    go_upto_region 1 with fail
    rw [HW1.out]
    go_upto_region 4 with (go_at_call 21; go_loud (refine HVA.out.mono ?_; rintro e w2 ⟨rfl, hb2⟩; obtain ⟨b0, b1, b2, bl⟩ := HCE.out _ hb2))
    go_upto_region 5 with (go_at_call 51; go_loud (refine (HFI.out _ hb2).mono ?_; rintro e w3 ⟨⟨D, ld, cd, C, lc, cc, E, le, ce, rfl, hlc, hle⟩, hb3⟩))
    obtain ⟨g4, hg4⟩ : ∃ x, w3.heap.size = x := ⟨_, rfl⟩
    obtain ⟨w4, hw4⟩ : ∃ W, w3.alloc (.cells #[.slice D ld cd, .slice C lc cc, .slice E le ce] 113) = W := ⟨_, rfl⟩
    have hB4 : Blk w4 g4 113 #[.slice D ld cd, .slice C lc cc, .slice E le ce] := by rw [← hw4]; exact Blk.new_ hg4.symm
    have hb14 : Below w1.heap.size w1 w4 := by rw [← hw4]; exact (hb2.trans (hb3.mono hb2.size)).alloc (by have := hb2.size; have := hb3.size; omega) _
    rw [hg4, hw4]
    have HB4 := Lib.hid hB4
    have HB14 := Lib.hid hb14
    have HLC := Lib.hid hlc
    have HLE := Lib.hid hle
    clear hw4 hg4 hB4 hb14 hlc hle hb2 hb3 b0 b1 b2 bl
    obtain ⟨b0, b1, b2, bl⟩ := HCE.out _ HB14.out
    have HLV5 := Lib.hid (HLI.out _ HB14.out)
    go_cut [15] (fun s15 W => IsPutB (¬ LV s 0) (LV s 0) s15 ∧ Below w4.heap.size w4 W)
    case first =>
      go_wp2_with (go_at_call 52; go_loud (refine HLV5.out.mono ?_; rintro e w5 ⟨⟨gl, fl, rfl, hgl, hbl, hfl⟩, hb5⟩; have l0 : w5.cell? ⟨gl, 0, none⟩ = some (.bool (fl 0)) := hbl.cell (k := 0) (by omega); have ll := hbl.lt; have HFL0 := Lib.hid (hfl 0 (by omega)); have HB5 := Lib.hid hb5; clear hbl hfl hb5))
      go_meet
      refine ⟨⟨!fl 0, rfl, fun h => ?_, fun h => ?_⟩, HB5.out⟩
      · intro hl
        have h1 : fl 0 = true := HFL0.out.2 hl
        rw [h1] at h
        cases h
      · have h1 : fl 0 = true := by simpa using h
        exact HFL0.out.1 h1
    case rest =>
      obtain ⟨w5, rfl⟩ : ∃ W, W = wc := ⟨wc, rfl⟩
      obtain ⟨⟨bb, rfl, hyes, hno⟩, hb5⟩ := hcut
      have HB45 := Lib.hid (HB4.out.below hb5 HB4.out.lt)
      have HBW : Hid (Below w.heap.size w w5) := bthen HB1.out (HB14.out.trans (hb5.mono HB14.out.size))
      have HY := Lib.hid hyes
      have HN := Lib.hid hno
      have h1 := HB45.out.cell 1
      have h2 := HB45.out.cell 2
      have hl4 := HB45.out.lt
      simp at h1 h2
      clear hb5 hyes hno b0 b1 b2 bl
      cases hbv : bb with
      | true =>
        have HE : Hid (soundE s = 50) := soundE_50 HOK.out (HY.out hbv)
        go_wp2_with fail
        go_ret
        exact ⟨by rw [HE.out]; rfl, HBW.out⟩
      | false =>
        have HLV := Lib.hid (HN.out hbv)
        by_cases hc0 : 0 < lc
        · have hci : (0 : Int) < (lc : Int) := by omega
          have HE : Hid (soundE s = 40) := soundE_40 HOK.out HLV.out (HLC.out.1 hc0).2
          go_wp2_with fail
          go_ret
          exact ⟨by rw [HE.out]; rfl, HBW.out⟩
        · have hci : ¬ (0 : Int) < (lc : Int) := by omega
          have HNS : Hid (¬ ∃ m, RM s m ∧ ¬ LV s m) := fun h => hc0 (HLC.out.2 ⟨HLV.out, h⟩)
          by_cases he0 : 0 < le
          · have hei : (0 : Int) < (le : Int) := by omega
            have HE : Hid (soundE s = 41) := soundE_41 HOK.out HLV.out HNS.out ((hasEnd_round HOK.out).2 (HLE.out.1 he0))
            go_wp2_with fail
            go_ret
            exact ⟨by rw [HE.out]; rfl, HBW.out⟩
          · have hei : ¬ (0 : Int) < (le : Int) := by omega
            have HE : Hid (soundE s = 0) := soundE_0 HOK.out HLV.out HNS.out (fun h => he0 (HLE.out.2 ((hasEnd_round HOK.out).1 h)))
            go_wp2_with fail
            go_ret
            exact ⟨by rw [HE.out]; rfl, HBW.out⟩
  · have HVA : Hid (Calls Tryz.prog 21 #[.agg #[.int .i64 s.n, .int .u8 s.acc, .slice A s.rs.length c]] w1 fun e w' => e = .returned (.bool false) ∧ Below w1.heap.size w1 w') := by
      have h := rvalid_any s A c w1 (hs.below HB1.out)
      rw [decide_eq_false hok] at h
      exact h
    have HE : Hid (soundE s = 20) := soundE_20 hok
    clear hs hok
    go_enter Tryz.func22, Tryz.ntmps22
    go_upto_region 1 with fail
    rw [HW1.out]
    go_wp2_with (go_at_call 21; go_loud (refine HVA.out.mono ?_; rintro e w2 ⟨rfl, hb2⟩))
    go_ret
    exact ⟨by rw [HE.out]; rfl, HB1.out.trans (hb2.mono HB1.out.size)⟩
/-- What R5.Sound says. -/
def IsSnd (s : Sc) (e : Ending) : Prop := ∃ b : Bool, e = .returned (.bool b) ∧ (b = true ↔ soundE s = 0)
set_option maxRecDepth 100000 in
set_option maxHeartbeats 16000000 in
theorem rsound5_any (s : Sc) (A : Option Addr) (c : Nat) (w : World) (hs : ScIn w s A c) : Calls Tryz.prog 8 #[.agg #[.int .i64 s.n, .int .u8 s.acc, .slice A s.rs.length c]] w fun e w' => IsSnd s e ∧ Below w.heap.size w w' := by
  obtain ⟨w1, hw1⟩ : ∃ w1, w.alloc (.cells #[.int .i64 s.n, .int .u8 s.acc, .slice A s.rs.length c] 29) = w1 := ⟨_, rfl⟩
  have hb1 : Below w.heap.size w w1 := by rw [← hw1]; exact nw _ (Below.refl _ _)
  have hB : Blk w1 w.heap.size 29 #[.int .i64 s.n, .int .u8 s.acc, .slice A s.rs.length c] := by rw [← hw1]; exact Blk.new _ _ _
  have HW1 := Lib.hid hw1
  have HB1 := Lib.hid hb1
  have HCE : Hid (∀ W, Below w1.heap.size w1 W → W.cell? ⟨w.heap.size, 0, none⟩ = some (.int .i64 s.n) ∧ W.cell? ⟨w.heap.size, 1, none⟩ = some (.int .u8 s.acc) ∧ W.cell? ⟨w.heap.size, 2, none⟩ = some (.slice A s.rs.length c) ∧ w.heap.size < W.heap.size) := fun W hW => by
    have e1 := hB.below hW hB.lt
    exact ⟨by rw [e1.cell]; rfl, by rw [e1.cell]; rfl, by rw [e1.cell]; rfl, e1.lt⟩
  obtain ⟨b0, b1, b2, bl⟩ := HCE.out _ (Below.refl _ _)
  clear hw1 hb1 hB
  have HSO : Hid (∀ W, Below w1.heap.size w1 W → Calls Tryz.prog 22 #[.agg #[.int .i64 s.n, .int .u8 s.acc, .slice A s.rs.length c]] W fun e w' => e = .returned (.int .i64 (soundE s)) ∧ Below W.heap.size W w') := fun W hW => rsound04_any s A c W (hs.below (HB1.out.trans (hW.mono HB1.out.size)))
  by_cases hok : ScOK s
  · have HVA : Hid (Calls Tryz.prog 21 #[.agg #[.int .i64 s.n, .int .u8 s.acc, .slice A s.rs.length c]] w1 fun e w' => e = .returned (.bool true) ∧ Below w1.heap.size w1 w') := by
      have h := rvalid_any s A c w1 (hs.below HB1.out)
      rw [decide_eq_true hok] at h
      exact h
    obtain ⟨z, hz⟩ : ∃ z, soundE s = z := ⟨_, rfl⟩
    rw [hz] at HSO
    have HZ := Lib.hid hz
    clear hs hok hz
    go_enter Tryz.func8, Tryz.ntmps8
    go_upto_region 1 with fail
    rw [HW1.out]
    go_wp2_with (first
      | (go_at_call 22; go_loud (refine (HSO.out _ hb2).mono ?_; rintro e w3 ⟨rfl, hb3⟩))
      | (go_at_call 21; go_loud (refine HVA.out.mono ?_; rintro e w2 ⟨rfl, hb2⟩; obtain ⟨b0, b1, b2, bl⟩ := HCE.out _ hb2)))
    go_ret
    exact ⟨⟨z == 0, rfl, by rw [HZ.out]; simp⟩, HB1.out.trans ((hb2.trans (hb3.mono hb2.size)).mono HB1.out.size)⟩
  · have HVA : Hid (Calls Tryz.prog 21 #[.agg #[.int .i64 s.n, .int .u8 s.acc, .slice A s.rs.length c]] w1 fun e w' => e = .returned (.bool false) ∧ Below w1.heap.size w1 w') := by
      have h := rvalid_any s A c w1 (hs.below HB1.out)
      rw [decide_eq_false hok] at h
      exact h
    have HE : Hid (soundE s = 20) := soundE_20 hok
    clear hs hok HSO
    go_enter Tryz.func8, Tryz.ntmps8
    go_upto_region 1 with fail
    rw [HW1.out]
    go_wp2_with (go_at_call 21; go_loud (refine HVA.out.mono ?_; rintro e w2 ⟨rfl, hb2⟩))
    go_ret
    exact ⟨⟨false, rfl, fun h => (by cases h), fun h => by rw [HE.out] at h; cases h⟩, HB1.out.trans (hb2.mono HB1.out.size)⟩
end Go.Proofs.YtkjfdjcagfkdhaaGreat
