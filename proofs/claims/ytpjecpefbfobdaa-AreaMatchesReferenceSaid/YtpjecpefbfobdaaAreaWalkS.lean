/-
  The walks of layer 21: taps that are valid.
-/
import Derived.Test.YtpjecpefbfobdaaAreaWalkR
namespace Go.Proofs.Ytpjecpefbfobdaa
open Go Go.RowKit

structure TapOK (t : Tp) : Prop where
  key : 97 ≤ t.key ∧ t.key ≤ 122
  n : 1 ≤ t.n ∧ t.n ≤ 63
  dx : -63000 ≤ t.dx ∧ t.dx ≤ 63000
  dy : -63000 ≤ t.dy ∧ t.dy ≤ 63000

set_option maxRecDepth 100000 in
set_option maxHeartbeats 8000000 in
theorem validTaps_any (A : Option Addr) (xs : List Tp) (c : Nat) (w : World) (hx : SlR 4 RTp w A xs) (hl : xs.length ≤ 65536) (hok : ∀ t ∈ xs, TapOK t) (hinc : IncT xs) :
    Calls Try.prog 29 #[.slice A xs.length c] w fun e w' => e = .returned (.bool true) ∧ Below w.heap.size w w' := by
  have HINC := Lib.hid hinc
  clear hinc
  go_enter Try.func29, Try.ntmps29
  go_wp2_with fail
  go_loopw [3] (fun i wr => ∃ k : Nat, k ≤ xs.length ∧ i = .int .i64 k ∧ Below w.heap.size w wr) (fun i _ => xs.length - (intOf i).toNat)
  case atStart => exact ⟨0, by omega, rfl, Below.refl _ _⟩
  case round =>
    obtain ⟨k, hk, rfl, hb⟩ := hrel
    have hbs := hb.size
    by_cases hlt : k < xs.length
    · obtain ⟨b, off, t, rfl, hbb, htt, d0, d1, d2, d3⟩ := (hx.below keeps_tp hb).tp hlt
      obtain ⟨⟨t1, t2⟩, ⟨t3, t4⟩, ⟨t5, t6⟩, t7, t8⟩ := hok t (List.mem_of_getElem? htt)
      have g1 : decide (t.n < 1) = false := by simp; omega
      have g2 : decide (63 < t.n) = false := by simp; omega
      have g3 : decide (t.dx < -63000) = false := by simp; omega
      have g4 : decide (63000 < t.dx) = false := by simp; omega
      have g5 : decide (t.dy < -63000) = false := by simp; omega
      have g6 : decide (63000 < t.dy) = false := by simp; omega
      have HLB : Hid (letB t.key = true) := by show letB t.key = true; unfold letB; simp; omega
      clear t1 t2 t3 t4 t5 t6 t7 t8
      rcases k with _ | j
      · clear htt
        simp only [Nat.zero_mul, Nat.add_zero] at d0 d1 d2 d3
        go_wp2_with fail
        obtain ⟨W1, hW1⟩ : ∃ W1, wr.alloc (.cells #[.int .u8 t.key, .int .i64 t.dx, .int .i64 t.dy, .int .i64 t.n] 82) = W1 := ⟨_, rfl⟩
        have hb1 : Below wr.heap.size wr W1 := by rw [← hW1]; exact nw _ (Below.refl _ _)
        have hB1 : Blk W1 wr.heap.size 82 #[.int .u8 t.key, .int .i64 t.dx, .int .i64 t.dy, .int .i64 t.n] := by rw [← hW1]; exact Blk.new _ _ _
        have b0 := hB1.cell 0
        have b1 := hB1.cell 1
        have b2 := hB1.cell 2
        have b3 := hB1.cell 3
        have bl := hB1.lt
        simp at b0 b1 b2 b3
        have HB := Lib.hid (hb.trans (hb1.mono hbs))
        have hbl := Nat.lt_of_lt_of_le hbb hb1.size
        rw [hW1]
        clear hW1 hb1 hB1 d0 d1 d2 d3
        refine ord_below [(0, false), (1, false), (2, true), (3, false), (4, false), (5, false), (6, false), (7, false), (8, false), (9, false), (10, false), (11, false), (12, false), (13, false), (14, false), (15, false), (16, false), (17, false), (18, false), (19, false), (20, false), (21, false), (22, false), (23, false), (24, false), (25, false), (26, false), (27, false), (28, false), (29, false), (30, false), (31, false), (32, false), (33, false), (34, false), (35, false), (36, false), (37, false), (38, false), (39, false), (40, false), (41, false), (42, false), (43, false), (44, false), (45, false), (46, false), (47, false), (48, false)] (by kernel_rfl) (by kernel_rfl) (by kernel_rfl) (fun _ _ _ _ _ h => h) ?_
        intro W0 hS0
        iterate 2 (first
          | (refine ord_skip rfl rfl ?_; simp only [Act.put, List.setIfInBounds_toArray, List.set_cons_zero, List.set_cons_succ])
          | (refine ord_take (v := ?_) rfl rfl ?_ ?_
             rotate_left 1
             focus (intro W hW; obtain ⟨hcW, hfW⟩ := bcell hW; (go_simp <;> with_reducible rfl))
             simp only [Act.put, List.setIfInBounds_toArray, List.set_cons_zero, List.set_cons_succ]))
        refine ord_call rfl rfl (fun K hK => ?_)
        go_simp
        (go_at_call 54; refine (refletter_any _ _).mono ?_; rintro e w' ⟨rfl, rfl⟩; rw [HLB.out]; refine hK.out _ _ hS0 (fun hS0 => ?_))
        skip
        iterate 46 (first
          | (refine ord_skip rfl rfl ?_; simp only [Act.put, List.setIfInBounds_toArray, List.set_cons_zero, List.set_cons_succ])
          | (refine ord_take (v := ?_) rfl rfl ?_ ?_
             rotate_left 1
             focus (intro W hW; obtain ⟨hcW, hfW⟩ := bcell hW; (go_simp <;> with_reducible rfl))
             simp only [Act.put, List.setIfInBounds_toArray, List.set_cons_zero, List.set_cons_succ]))
        refine ord_nil ?_
        go_wp2_with fail
        go_roundw
        case rel => exact ⟨1, by omega, by go_num, HB.out.trans (hS0.mono HB.out.size)⟩
        case measure => simp [intOf]; omega
      · obtain ⟨b', off', y, he, hbb', hyy, e0, e1, e2, e3⟩ := (hx.below keeps_tp hb).tp (k := j) (by omega)
        simp only [Option.some.injEq, Addr.mk.injEq, and_true] at he
        obtain ⟨rfl, rfl⟩ := he
        have hky := HINC.out.at_ (show j < j + 1 by omega) hyy htt
        have g0 : decide (t.key ≤ y.key) = false := by simp; omega
        have hwj : IntKind.i64.wrap (j : Int) = (j : Int) := IntWalk.i64_in _ (by omega)
        have hjl : (j : Int) < (xs.length : Int) := by omega
        have hpos : (0 : Int) < (j : Int) + 1 := by omega
        clear htt hyy hky
        go_wp2_with fail
        obtain ⟨W1, hW1⟩ : ∃ W1, wr.alloc (.cells #[.int .u8 t.key, .int .i64 t.dx, .int .i64 t.dy, .int .i64 t.n] 82) = W1 := ⟨_, rfl⟩
        have hb1 : Below wr.heap.size wr W1 := by rw [← hW1]; exact nw _ (Below.refl _ _)
        have hB1 : Blk W1 wr.heap.size 82 #[.int .u8 t.key, .int .i64 t.dx, .int .i64 t.dy, .int .i64 t.n] := by rw [← hW1]; exact Blk.new _ _ _
        have b0 := hB1.cell 0
        have b1 := hB1.cell 1
        have b2 := hB1.cell 2
        have b3 := hB1.cell 3
        have bl := hB1.lt
        simp at b0 b1 b2 b3
        have HB := Lib.hid (hb.trans (hb1.mono hbs))
        have hbl := Nat.lt_of_lt_of_le hbb hb1.size
        have z0 := (hb1.cell (p := ⟨b, _, none⟩) hbb).trans e0
        rw [hW1]
        clear hW1 hb1 hB1 d0 d1 d2 d3 e0 e1 e2 e3
        refine ord_below [(0, false), (1, false), (2, true), (3, false), (4, false), (5, false), (6, false), (7, false), (8, false), (9, false), (10, false), (11, false), (12, false), (13, false), (14, false), (15, false), (16, false), (17, false), (18, false), (19, false), (20, false), (21, false), (22, false), (23, false), (24, false), (25, false), (26, false), (27, false), (28, false), (29, false), (30, false), (31, false), (32, false), (33, false), (34, false), (35, false), (36, false), (37, false), (38, false), (39, false), (40, false), (41, false), (42, false), (43, false), (44, false), (45, false), (46, false), (47, false), (48, false)] (by kernel_rfl) (by kernel_rfl) (by kernel_rfl) (fun _ _ _ _ _ h => h) ?_
        intro W0 hS0
        iterate 2 (first
          | (refine ord_skip rfl rfl ?_; simp only [Act.put, List.setIfInBounds_toArray, List.set_cons_zero, List.set_cons_succ])
          | (refine ord_take (v := ?_) rfl rfl ?_ ?_
             rotate_left 1
             focus (intro W hW; obtain ⟨hcW, hfW⟩ := bcell hW; (go_simp <;> with_reducible rfl))
             simp only [Act.put, List.setIfInBounds_toArray, List.set_cons_zero, List.set_cons_succ]))
        refine ord_call rfl rfl (fun K hK => ?_)
        go_simp
        (go_at_call 54; refine (refletter_any _ _).mono ?_; rintro e w' ⟨rfl, rfl⟩; rw [HLB.out]; refine hK.out _ _ hS0 (fun hS0 => ?_))
        skip
        iterate 46 (first
          | (refine ord_skip rfl rfl ?_; simp only [Act.put, List.setIfInBounds_toArray, List.set_cons_zero, List.set_cons_succ])
          | (refine ord_take (v := ?_) rfl rfl ?_ ?_
             rotate_left 1
             focus (intro W hW; obtain ⟨hcW, hfW⟩ := bcell hW; (go_simp <;> with_reducible rfl))
             simp only [Act.put, List.setIfInBounds_toArray, List.set_cons_zero, List.set_cons_succ]))
        refine ord_nil ?_
        go_wp2_with fail
        go_roundw
        case rel => exact ⟨j + 1 + 1, by omega, by go_num, HB.out.trans (hS0.mono HB.out.size)⟩
        case measure => simp [intOf]; omega
    · go_wp2_with fail
      go_ret
      exact ⟨rfl, hb⟩
end Go.Proofs.Ytpjecpefbfobdaa
