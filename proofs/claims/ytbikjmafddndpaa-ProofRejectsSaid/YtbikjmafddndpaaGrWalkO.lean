/-
  The walks of layers 15 and 16: the reference's Before, Less.
-/
import Derived.Test.YtbikjmafddndpaaGrMc
import Derived.Test.YtbikjmafddndpaaBase
namespace Go.Proofs.Ytbikjmafddndpaa
open Go Go.RowKit

theorem lex_at {xs ys : List Int} {k : Nat} {x y : Int} (hx : xs[k]? = some x) (hy : ys[k]? = some y) : lexLt (xs.drop k) (ys.drop k) = if x < y then true else if y < x then false else lexLt (xs.drop (k + 1)) (ys.drop (k + 1)) := by
  obtain ⟨h1, rfl⟩ := List.getElem?_eq_some_iff.1 hx
  obtain ⟨h2, rfl⟩ := List.getElem?_eq_some_iff.1 hy
  rw [List.drop_eq_getElem_cons h1, List.drop_eq_getElem_cons h2]
  rfl
theorem lex_end {xs ys : List Int} {k : Nat} (h : xs.length ≤ k ∨ ys.length ≤ k) (hx : k ≤ xs.length) (hy : k ≤ ys.length) : lexLt (xs.drop k) (ys.drop k) = decide (xs.length < ys.length) := by
  by_cases h1 : xs.length ≤ k
  · rw [List.drop_eq_nil_of_le h1]
    by_cases h2 : ys.length ≤ k
    · rw [List.drop_eq_nil_of_le h2, decide_eq_false (by omega)]
      rfl
    · rw [List.drop_eq_getElem_cons (show k < ys.length by omega), decide_eq_true (by omega)]
      rfl
  · rw [List.drop_eq_getElem_cons (show k < xs.length by omega), List.drop_eq_nil_of_le (show ys.length ≤ k by omega), decide_eq_false (by omega)]
    rfl
set_option maxRecDepth 100000 in
set_option maxHeartbeats 4000000 in
theorem refbefore_any (A B : Option Addr) (xs ys : List Int) (c d : Nat) (w : World) (hx : SlR 1 RInt w A xs) (hy : SlR 1 RInt w B ys) (hl : xs.length ≤ maxLen) (hl2 : ys.length ≤ maxLen) :
    Calls Try.prog 47 #[.slice A xs.length c, .slice B ys.length d] w fun e w' => e = .returned (.bool (lexLt xs ys)) ∧ Below w.heap.size w w' := by
  unfold maxLen at hl hl2
  go_enter Try.func47, Try.ntmps47
  go_wp2_with fail
  go_loopw [5] (fun i wr => ∃ k : Nat, k ≤ xs.length ∧ k ≤ ys.length ∧ Hid (lexLt xs ys = lexLt (xs.drop k) (ys.drop k)) ∧ i = .int .i64 k ∧ Below w.heap.size w wr) (fun i _ => xs.length - (intOf i).toNat)
  case atStart => exact ⟨0, by omega, by omega, rfl, rfl, Below.refl _ _⟩
  case round =>
    obtain ⟨k, hk, hk2, HS, rfl, hbr⟩ := hrel
    by_cases hlt : k < xs.length ∧ k < ys.length
    · obtain ⟨hlt1, hlt2⟩ := hlt
      obtain ⟨b, off, x, rfl, hbb, hxx, hc0⟩ := (hx.below keeps_int hbr).int hlt1
      obtain ⟨b', off', y, rfl, hbb', hyy, hd0⟩ := (hy.below keeps_int hbr).int hlt2
      have HAT := Lib.hid (lex_at hxx hyy)
      have z1 : decide (k < xs.length) = true := decide_eq_true hlt1
      have z2 : decide (k < ys.length) = true := decide_eq_true hlt2
      have z3 : (k : Int) < (xs.length : Int) := by omega
      have z4 : (k : Int) < (ys.length : Int) := by omega
      have HBR := Lib.hid hbr
      clear hxx hyy hbr
      by_cases he : x = y
      · have HN : Hid (lexLt xs ys = lexLt (xs.drop (k + 1)) (ys.drop (k + 1))) := by show _ = _; rw [HS.out, HAT.out, if_neg (by omega), if_neg (by omega)]
        have zb : (x != y) = false := by simp [he]
        clear he
        go_wp2_with fail
        refine ordB_below (.quiet 0 (.quiet 1 (.quiet 2 (.quiet 3 (.quiet 4 (.quiet 5 (.quiet 6 (.quiet 7 (.quiet 8 .done))))))))) (by kernel_rfl) (by kernel_rfl) (by kernel_rfl) (fun _ _ _ _ _ h => h) ?_
        intro V0 hV0
        iterate 9 (first
          | (refine ordB_skip rfl rfl ?_; simp only [Act.put, List.setIfInBounds_toArray, List.set_cons_zero, List.set_cons_succ])
          | (refine ordB_take (v := ?_) rfl rfl ?_ ?_
             rotate_left 1
             focus (intro W hW; obtain ⟨hcW, hfW⟩ := bcell hW; (go_simp <;> with_reducible rfl))
             simp only [Act.put, List.setIfInBounds_toArray, List.set_cons_zero, List.set_cons_succ]))
        refine ordB_nil ?_
        have hE := HBR.out.trans (hV0.mono HBR.out.size)
        go_wp2_with fail
        go_roundw
        case rel => exact ⟨k + 1, by omega, by omega, HN, by go_num, hE⟩
        case measure => simp [intOf]; omega
      · have HN : Hid (lexLt xs ys = decide (x < y)) := by
          show _ = _
          rw [HS.out, HAT.out]
          by_cases h1 : x < y
          · rw [if_pos h1, decide_eq_true h1]
          · rw [if_neg h1, if_pos (by omega), decide_eq_false h1]
        have zb : (x != y) = true := by simp [he]
        clear he
        go_wp2_with fail
        refine ordB_below (.quiet 0 (.quiet 1 (.quiet 2 (.quiet 3 (.quiet 4 (.quiet 5 (.quiet 6 (.quiet 7 (.quiet 8 .done))))))))) (by kernel_rfl) (by kernel_rfl) (by kernel_rfl) (fun _ _ _ _ _ h => h) ?_
        intro V0 hV0
        iterate 9 (first
          | (refine ordB_skip rfl rfl ?_; simp only [Act.put, List.setIfInBounds_toArray, List.set_cons_zero, List.set_cons_succ])
          | (refine ordB_take (v := ?_) rfl rfl ?_ ?_
             rotate_left 1
             focus (intro W hW; obtain ⟨hcW, hfW⟩ := bcell hW; (go_simp <;> with_reducible rfl))
             simp only [Act.put, List.setIfInBounds_toArray, List.set_cons_zero, List.set_cons_succ]))
        refine ordB_nil ?_
        have hE := HBR.out.trans (hV0.mono HBR.out.size)
        have hc0 := (hV0.cell (p := ⟨b, _, none⟩) hbb).trans hc0
        have hd0 := (hV0.cell (p := ⟨b', _, none⟩) hbb').trans hd0
        have hbb := Nat.lt_of_lt_of_le hbb hV0.size
        have hbb' := Nat.lt_of_lt_of_le hbb' hV0.size
        generalize V0 = V at *
        clear hV0
        go_upto_region 5 with fail
        refine ordB_below (.quiet 0 (.quiet 1 (.quiet 2 (.quiet 3 (.quiet 4 (.quiet 5 (.quiet 6 (.quiet 7 (.quiet 8 (.quiet 9 .done)))))))))) (by kernel_rfl) (by kernel_rfl) (by kernel_rfl) (fun _ _ _ _ _ h => h) ?_
        intro V1 hV1
        iterate 10 (first
          | (refine ordB_skip rfl rfl ?_; simp only [Act.put, List.setIfInBounds_toArray, List.set_cons_zero, List.set_cons_succ])
          | (refine ordB_take (v := ?_) rfl rfl ?_ ?_
             rotate_left 1
             focus (intro W hW; obtain ⟨hcW, hfW⟩ := bcell hW; (go_simp <;> with_reducible rfl))
             simp only [Act.put, List.setIfInBounds_toArray, List.set_cons_zero, List.set_cons_succ]))
        refine ordB_nil ?_
        have hE2 := hE.trans (hV1.mono hE.size)
        go_wp2_with fail
        go_ret
        exact ⟨ret_bool HN.out.symm, hE2⟩
    · have HN : Hid (lexLt xs ys = decide (xs.length < ys.length)) := by show _ = _; rw [HS.out, lex_end (by omega) hk hk2]
      have hEE := Lib.hid hbr
      by_cases hk1 : k < xs.length
      · have z1 : decide (k < xs.length) = true := decide_eq_true hk1
        have z2 : decide (k < ys.length) = false := decide_eq_false (by omega)
        clear hlt hbr
        go_wp2_with fail
        go_ret
        exact ⟨ret_bool HN.out.symm, hEE.out⟩
      · have z1 : decide (k < xs.length) = false := decide_eq_false hk1
        clear hlt hbr
        go_wp2_with fail
        go_ret
        exact ⟨ret_bool HN.out.symm, hEE.out⟩

set_option maxRecDepth 100000 in
set_option maxHeartbeats 4000000 in
theorem refless_any (A B : Option Addr) (a b : Can) (c d : Nat) (w : World) (hx : SlR 1 RInt w A a.links) (hy : SlR 1 RInt w B b.links) (hl : a.links.length ≤ maxLen) (hl2 : b.links.length ≤ maxLen) :
    Calls Try.prog 24 #[.agg #[.slice A a.links.length c, .int .i64 a.cost], .agg #[.slice B b.links.length d, .int .i64 b.cost]] w fun e w' => e = .returned (.bool (canLt a b)) ∧ Below w.heap.size w w' := by
  obtain ⟨al, ac⟩ := a
  obtain ⟨bl, bc⟩ := b
  dsimp only at hx hy hl hl2 ⊢
  obtain ⟨W, hW⟩ : ∃ W, (w.alloc (.cells #[.slice A al.length c, .int .i64 ac] 43)).alloc (.cells #[.slice B bl.length d, .int .i64 bc] 43) = W := ⟨_, rfl⟩
  have hb : Below w.heap.size w W := by rw [← hW]; exact nw _ (nw _ (Below.refl _ _))
  have hB1 : Blk W w.heap.size 43 #[.slice A al.length c, .int .i64 ac] := by rw [← hW]; exact (Blk.new_ (by simp)).alloc _
  have hB2 : Blk W (w.heap.size + 1) 43 #[.slice B bl.length d, .int .i64 bc] := by rw [← hW]; exact Blk.new_ (by simp)
  have HW := Lib.hid hW
  have c0 := hB1.cell 0
  have c1 := hB1.cell 1
  have c2 := hB2.cell 0
  have c3 := hB2.cell 1
  simp at c0 c1 c2 c3
  have HC := Lib.hid (refbefore_any A B al bl c d W (hx.below keeps_int hb) (hy.below keeps_int hb) hl hl2)
  clear hW hB1 hB2 hx hy
  by_cases h1 : ac < bc
  · have z1 : decide (ac < bc) = true := decide_eq_true h1
    have HR : Hid (canLt ⟨al, ac⟩ ⟨bl, bc⟩ = true) := by show canLt _ _ = _; rw [canLt_iff]; exact .inl h1
    clear h1
    go_enter Try.func24, Try.ntmps24
    go_upto_region 1 with fail
    rw [HW.out]
    go_wp2_with fail
    go_ret
    exact ⟨ret_bool HR.out.symm, hb⟩
  · have z1 : decide (ac < bc) = false := decide_eq_false h1
    by_cases h2 : ac = bc
    · have z2 : (ac == bc) = true := by simp [h2]
      have HR : Hid (canLt ⟨al, ac⟩ ⟨bl, bc⟩ = lexLt al bl) := by
        show canLt _ _ = _
        rw [Bool.eq_iff_iff, canLt_iff]
        dsimp only
        constructor
        · rintro (h | ⟨_, h⟩)
          · exact absurd h h1
          · exact h
        · intro h; exact .inr ⟨h2, h⟩
      clear h1 h2
      go_enter Try.func24, Try.ntmps24
      go_upto_region 1 with fail
      rw [HW.out]
      go_wp2_with (go_at_call 47; go_loud (refine HC.out.mono ?_; rintro e w' ⟨rfl, hb2⟩))
      go_ret
      exact ⟨ret_bool HR.out.symm, bthen hb hb2⟩
    · have z2 : (ac == bc) = false := by simp [h2]
      have HR : Hid (canLt ⟨al, ac⟩ ⟨bl, bc⟩ = false) := by
        show canLt _ _ = _
        cases h : canLt ⟨al, ac⟩ ⟨bl, bc⟩ with
        | false => rfl
        | true => rcases canLt_iff.1 h with h | ⟨h, _⟩ <;> dsimp only at h <;> omega
      clear h1 h2
      go_enter Try.func24, Try.ntmps24
      go_upto_region 1 with fail
      rw [HW.out]
      go_wp2_with fail
      go_ret
      exact ⟨ret_bool HR.out.symm, hb⟩
end Go.Proofs.Ytbikjmafddndpaa
