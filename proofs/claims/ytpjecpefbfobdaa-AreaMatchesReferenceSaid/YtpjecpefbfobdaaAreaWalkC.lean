/-
  The walks of layer 21: shifts.
-/
import Derived.Test.YtpjecpefbfobdaaAreaWalkB
import Derived.Test.YtpjecpefbfobdaaRet
namespace Go.Proofs.Ytpjecpefbfobdaa
open Go Go.RowKit

set_option maxHeartbeats 1000000 in
set_option maxRecDepth 100000 in
theorem shift_any (A : Option Addr) (xs : List Tp) (c : Nat) (key : Int) (w : World) (hx : SlR 4 RTp w A xs) (hl : xs.length ≤ 65536) (hT : ∀ t ∈ xs, TpOK t) :
    Calls Try.prog 21 #[.slice A xs.length c, .int .u8 key] w fun e w' => e = .returned (vPt (shiftOf xs key)) ∧ Below w.heap.size w w' := by
  go_enter Try.func21, Try.ntmps21
  go_wp2
  go_loopw [9] (fun i wr => ∃ k : Nat, k ≤ xs.length ∧ Hid (shiftOf xs key = shiftOf (xs.drop k) key) ∧ i = .int .i64 k ∧ Below (w.heap.size + 1) (w.alloc (.cells #[.int .i64 0, .int .i64 0] 36)) wr) (fun i _ => xs.length - (intOf i).toNat)
  case atStart => exact ⟨0, by omega, rfl, rfl, rebox _ _⟩
  case round =>
    obtain ⟨k, hk, HS, rfl, hb⟩ := hrel
    have hsz := box_size hb
    have hc0 := box_cell hb 0
    have hc1 := box_cell hb 1
    have hf0 := box_frozen hb 0
    have hf1 := box_frozen hb 1
    have hbw := unbox hb
    have HB := Lib.hid ((Blk.new w 36 #[.int .i64 0, .int .i64 0]).below hb (by omega))
    by_cases hlt : k < xs.length
    · obtain ⟨b, off, t, rfl, hbb, ht, hd0, hd1, hd2, hd3⟩ := (hx.below keeps_tp hbw).tp hlt
      have hne : b ≠ w.heap.size := by
        obtain ⟨b', off', e, hb', _⟩ := hx (by rintro rfl; simp at hlt)
        simp only [Option.some.injEq, Addr.mk.injEq, and_true] at e
        omega
      have HD := Lib.hid (drop_of ht)
      have HT := Lib.hid ht
      clear ht
      by_cases h1 : t.key = key
      · by_cases h2 : 4 ≤ t.n
        · have hn0 : t.n ≠ 0 := by omega
          have HQ1 := Lib.hid <| wrap_small (tdiv_small (hT t (List.mem_of_getElem? HT.out)).dx (show 1 ≤ t.n by omega))
          have HQ2 := Lib.hid <| wrap_small (tdiv_small (hT t (List.mem_of_getElem? HT.out)).dy (show 1 ≤ t.n by omega))
          go_wp2_with fail
          refine ordT_below [11] [(0, false), (1, false), (2, false), (3, false), (4, false), (5, false), (6, false), (7, false), (8, false), (9, false), (10, false), (11, true)] (by kernel_rfl) (by kernel_rfl) (by kernel_rfl) (fun _ _ _ _ _ h => h) ?_
          intro W0 hS0
          repeat (first
            | (refine ordT_skip rfl rfl (by assumption) ?_; simp only [Act.put, List.setIfInBounds_toArray, List.set_cons_zero, List.set_cons_succ])
            | (refine ordT_cskip rfl rfl (by assumption) ?_; simp only [Act.put, List.setIfInBounds_toArray, List.set_cons_zero, List.set_cons_succ])
            | (refine ordT_take (v := ?_) rfl rfl (by assumption) ?_ ?_
               rotate_left 1
               focus (intro W hW; obtain ⟨hcW, hfW⟩ := bcell hW; (go_simp <;> with_reducible rfl))
               simp only [Act.put, List.setIfInBounds_toArray, List.set_cons_zero, List.set_cons_succ])
            | (refine ordT_call rfl rfl (fun K hK => ?_)
               obtain ⟨hcS, hfS⟩ := bcell hS0
               go_simp
               first
                 | (refine hK.out _ _ (fun h => by cases h) ?_)))
          refine ordT_nil ?_
          go_wp2_with fail
          (try simp only [Exit.inBlock, Exit.then])
          refine ret_cell (t := 36) (cs := #[.int .i64 (IntKind.i64.wrap (t.dx.tdiv t.n)), .int .i64 (IntKind.i64.wrap (t.dy.tdiv t.n))]) ?_ rfl rfl Try.underlying36 rfl (by kernel_rfl) rfl ?_
          · exact (((HB.out.alloc _).below hS0 (by simp; omega)).set_ 0 _).set_ 1 _
          · exact ⟨by rw [HQ1.out, HQ2.out, HS.out, HD.out, shiftOf, if_pos ⟨by first | exact h1 | rfl, h2⟩], (((nw _ hbw).trans (hS0.mono (by simp; omega))).setCell (Nat.le_refl _) _).setCell (Nat.le_refl _) _⟩
        · go_wp2_with fail
          go_roundw
          case rel => exact ⟨k + 1, by omega, by show shiftOf xs key = _; rw [HS.out, HD.out, shiftOf, if_neg (by omega)], by go_num, (hb.alloc (by have := hb.size; simp at this ⊢; omega) _)⟩
          case measure => simp [intOf]; omega
      · go_wp2_with fail
        go_roundw
        case rel => exact ⟨k + 1, by omega, by show shiftOf xs key = _; rw [HS.out, HD.out, shiftOf, if_neg (fun h => h1 h.1)], by go_num, (hb.alloc (by have := hb.size; simp at this ⊢; omega) _)⟩
        case measure => simp [intOf]; omega
    · go_wp2_with fail
      (try simp only [Exit.inBlock, Exit.then])
      refine ret_cell (t := 36) (cs := #[.int .i64 0, .int .i64 0]) ((HB.out.set_ 0 _).set_ 1 _) rfl rfl Try.underlying36 rfl (by kernel_rfl) rfl ?_
      exact ⟨by rw [HS.out, drop_end hlt]; rfl, (hbw.setCell (Nat.le_refl _) _).setCell (Nat.le_refl _) _⟩

set_option maxHeartbeats 1000000 in
set_option maxRecDepth 100000 in
theorem refshift_any (A : Option Addr) (xs : List Tp) (c : Nat) (key : Int) (w : World) (hx : SlR 4 RTp w A xs) (hl : xs.length ≤ 65536) (hT : ∀ t ∈ xs, TpOK t) :
    Calls Try.prog 22 #[.slice A xs.length c, .int .u8 key] w fun e w' => e = .returned (vPt (shiftOf xs key)) ∧ Below w.heap.size w w' := by
  go_enter Try.func22, Try.ntmps22
  go_wp2
  go_loopw [5] (fun i wr => ∃ k : Nat, k ≤ xs.length ∧ Hid (shiftOf xs key = shiftOf (xs.drop k) key) ∧ i = .int .i64 k ∧ Below (w.heap.size + 1) (w.alloc (.cells #[.int .i64 0, .int .i64 0] 36)) wr) (fun i _ => xs.length - (intOf i).toNat)
  case atStart => exact ⟨0, by omega, rfl, rfl, rebox _ _⟩
  case round =>
    obtain ⟨k, hk, HS, rfl, hb⟩ := hrel
    have hsz := box_size hb
    have hc0 := box_cell hb 0
    have hc1 := box_cell hb 1
    have hf0 := box_frozen hb 0
    have hf1 := box_frozen hb 1
    have hbw := unbox hb
    have HB := Lib.hid ((Blk.new w 36 #[.int .i64 0, .int .i64 0]).below hb (by omega))
    by_cases hlt : k < xs.length
    · obtain ⟨b, off, t, rfl, hbb, ht, hd0, hd1, hd2, hd3⟩ := (hx.below keeps_tp hbw).tp hlt
      have hne : b ≠ w.heap.size := by
        obtain ⟨b', off', e, hb', _⟩ := hx (by rintro rfl; simp at hlt)
        simp only [Option.some.injEq, Addr.mk.injEq, and_true] at e
        omega
      have HD := Lib.hid (drop_of ht)
      have HT := Lib.hid ht
      clear ht
      by_cases h1 : t.key = key
      · by_cases h2 : 4 ≤ t.n
        · have hn0 : t.n ≠ 0 := by omega
          have HQ1 := Lib.hid <| wrap_small (tdiv_small (hT t (List.mem_of_getElem? HT.out)).dx (show 1 ≤ t.n by omega))
          have HQ2 := Lib.hid <| wrap_small (tdiv_small (hT t (List.mem_of_getElem? HT.out)).dy (show 1 ≤ t.n by omega))
          go_wp2_with fail
          refine ordT_below [23] [(0, false), (1, false), (2, false), (3, false), (4, false), (5, false), (6, false), (7, false), (8, false), (9, false), (10, false), (11, false), (12, false), (13, false), (14, false), (15, false), (16, false), (17, false), (18, false), (19, false), (20, false), (21, false), (22, false), (23, true)] (by kernel_rfl) (by kernel_rfl) (by kernel_rfl) (fun _ _ _ _ _ h => h) ?_
          intro W0 hS0
          repeat (first
            | (refine ordT_skip rfl rfl (by assumption) ?_; simp only [Act.put, List.setIfInBounds_toArray, List.set_cons_zero, List.set_cons_succ])
            | (refine ordT_cskip rfl rfl (by assumption) ?_; simp only [Act.put, List.setIfInBounds_toArray, List.set_cons_zero, List.set_cons_succ])
            | (refine ordT_take (v := ?_) rfl rfl (by assumption) ?_ ?_
               rotate_left 1
               focus (intro W hW; obtain ⟨hcW, hfW⟩ := bcell hW; (go_simp <;> with_reducible rfl))
               simp only [Act.put, List.setIfInBounds_toArray, List.set_cons_zero, List.set_cons_succ])
            | (refine ordT_call rfl rfl (fun K hK => ?_)
               obtain ⟨hcS, hfS⟩ := bcell hS0
               go_simp
               first
                 | (refine hK.out _ _ (fun h => by cases h) ?_)))
          refine ordT_nil ?_
          go_wp2_with fail
          (try simp only [Exit.inBlock, Exit.then])
          refine ret_cell (t := 36) (cs := #[.int .i64 (IntKind.i64.wrap (t.dx.tdiv t.n)), .int .i64 (IntKind.i64.wrap (t.dy.tdiv t.n))]) ?_ rfl rfl Try.underlying36 rfl (by kernel_rfl) rfl ?_
          · exact ((HB.out.below hS0 hsz).set_ 0 _).set_ 1 _
          · exact ⟨by rw [HQ1.out, HQ2.out, HS.out, HD.out, shiftOf, if_pos ⟨by first | exact h1 | rfl, h2⟩], ((hbw.trans (hS0.mono (by omega))).setCell (Nat.le_refl _) _).setCell (Nat.le_refl _) _⟩
        · go_wp2_with fail
          go_roundw
          case rel => exact ⟨k + 1, by omega, by show shiftOf xs key = _; rw [HS.out, HD.out, shiftOf, if_neg (by omega)], by go_num, hb⟩
          case measure => simp [intOf]; omega
      · go_wp2_with fail
        go_roundw
        case rel => exact ⟨k + 1, by omega, by show shiftOf xs key = _; rw [HS.out, HD.out, shiftOf, if_neg (fun h => h1 h.1)], by go_num, hb⟩
        case measure => simp [intOf]; omega
    · go_wp2_with fail
      (try simp only [Exit.inBlock, Exit.then])
      refine ret_cell (t := 36) (cs := #[.int .i64 0, .int .i64 0]) ((HB.out.set_ 0 _).set_ 1 _) rfl rfl Try.underlying36 rfl (by kernel_rfl) rfl ?_
      exact ⟨by rw [HS.out, drop_end hlt]; rfl, (hbw.setCell (Nat.le_refl _) _).setCell (Nat.le_refl _) _⟩
end Go.Proofs.Ytpjecpefbfobdaa
