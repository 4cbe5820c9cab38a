/-
  The walks of layer 21: areas that increase and do not meet; Valid at boards without templates and chords.
-/
import Derived.Test.YtpjecpefbfobdaaAreaWalkK
namespace Go.Proofs.Ytpjecpefbfobdaa
open Go Go.RowKit Go.Lib

set_option maxRecDepth 100000 in
set_option maxHeartbeats 4000000 in
theorem incA_any (A : Option Addr) (us : List Ar) (c : Nat) (w : World) (hx : SlR 5 RAr w A us) (hl : us.length ≤ 65536) :
    Calls Try.prog 89 #[.slice A us.length c, .func (.func 62) #[] #[]] w fun e w' => e = .returned (.bool (adjB ltA us)) ∧ Below w.heap.size w w' := by
  go_enter Try.func89, Try.ntmps89
  go_wp2_with fail
  go_loopw [5] (fun i wr => ∃ j : Nat, j ≤ us.length ∧ Hid (adjB ltA us = adjB ltA (us.drop j)) ∧ i = .int .i64 ((j : Int) + 1) ∧ Below w.heap.size w wr) (fun i _ => us.length + 1 - (intOf i).toNat)
  case atStart => exact ⟨0, by omega, rfl, rfl, Below.refl _ _⟩
  case round =>
    obtain ⟨j, hj, HS, rfl, hb⟩ := hrel
    have hbs := hb.size
    by_cases hlt : j + 1 < us.length
    · obtain ⟨b, off, x, rfl, hbb, hxx, d0, d1, d2, d3, d4⟩ := (hx.below keeps_ar hb).ar (k := j) (by omega)
      obtain ⟨b', off', y, he, hbb', hyy, e0, e1, e2, e3, e4⟩ := (hx.below keeps_ar hb).ar (k := j + 1) (by omega)
      simp only [Option.some.injEq, Addr.mk.injEq, and_true] at he
      obtain ⟨rfl, rfl⟩ := he
      have HD : Hid (adjB ltA us = (ltA x y && adjB ltA (us.drop (j + 1)))) := by
        show adjB ltA us = _
        rw [HS.out, drop_of hxx, drop_of hyy]; rfl
      have HC : Hid (∀ W, Calls Try.prog 62 #[vAr x, vAr y] W fun e w' => e = .returned (.int .i64 (Lib.compareInt x.key y.key)) ∧ Below W.heap.size W w') := c62_any x y
      have hn1 : ((j : Int) + 1 - 1) = (j : Int) := by omega
      have hn2 : ((j : Int) + 1).toNat = j + 1 := by omega
      have hw1 : IntKind.i64.wrap (j : Int) = (j : Int) := IntWalk.i64_in _ (by omega)
      clear hn1
      have hge : (0 : Int) ≤ (j : Int) + 1 := by omega
      have hlt' : (j : Int) + 1 < (us.length : Int) := by omega
      have hlt'' : (j : Int) < (us.length : Int) := by omega
      have hcase : (ltA x y = true ∧ Lib.compareInt x.key y.key = -1) ∨ (ltA x y = false ∧ (Lib.compareInt x.key y.key = 0 ∨ Lib.compareInt x.key y.key = 1)) := by
        unfold ltA Lib.compareInt
        by_cases h : x.key < y.key
        · exact .inl ⟨by simpa using h, if_pos h⟩
        · refine .inr ⟨by simpa using h, ?_⟩
          rw [if_neg h]
          by_cases h2 : x.key > y.key
          · exact .inr (if_pos h2)
          · exact .inl (if_neg h2)
      clear hxx hyy
      rcases hcase with ⟨h1, h2⟩ | ⟨h1, h2⟩
      · rw [h1] at HD
        rw [h2] at HC
        clear h1 h2
        go_wp2_with fail
        refine ord_below [(0, false), (1, false), (2, false), (3, false), (4, false), (5, false), (6, false), (7, false), (8, false), (9, false), (10, true), (11, false)] (by kernel_rfl) (by kernel_rfl) (by kernel_rfl) (fun _ _ _ _ _ h => h) ?_
        intro W0 hS0
        iterate 10 (first
          | (refine ord_skip rfl rfl ?_; simp only [Act.put, List.setIfInBounds_toArray, List.set_cons_zero, List.set_cons_succ])
          | (refine ord_take (v := ?_) rfl rfl ?_ ?_
             rotate_left 1
             focus (intro W hW; obtain ⟨hcW, hfW⟩ := bcell hW; (go_simp <;> with_reducible rfl))
             simp only [Act.put, List.setIfInBounds_toArray, List.set_cons_zero, List.set_cons_succ]))
        refine ord_call rfl rfl (fun K hK => ?_)
        go_simp
        (go_at_call 62; refine (HC.out _).mono ?_; rintro e w1 ⟨rfl, hb1⟩; refine hK.out _ _ (hS0.trans (hb1.mono hS0.size)) (fun hS1 => ?_))
        skip
        iterate 1 (first
          | (refine ord_skip rfl rfl ?_; simp only [Act.put, List.setIfInBounds_toArray, List.set_cons_zero, List.set_cons_succ])
          | (refine ord_take (v := ?_) rfl rfl ?_ ?_
             rotate_left 1
             focus (intro W hW; obtain ⟨hcW, hfW⟩ := bcell hW; (go_simp <;> with_reducible rfl))
             simp only [Act.put, List.setIfInBounds_toArray, List.set_cons_zero, List.set_cons_succ]))
        refine ord_nil ?_
        go_wp2_with fail
        go_roundw
        case rel => exact ⟨j + 1, by omega, by show adjB ltA us = _; rw [HD.out]; rfl, by go_num, hb.trans (hS1.mono hbs)⟩
        case measure => simp [intOf]; omega
      · rw [h1] at HD
        clear h1
        rcases h2 with h2 | h2
        all_goals
          rw [h2] at HC
          clear h2
          go_wp2_with fail
          refine ord_below [(0, false), (1, false), (2, false), (3, false), (4, false), (5, false), (6, false), (7, false), (8, false), (9, false), (10, true), (11, false)] (by kernel_rfl) (by kernel_rfl) (by kernel_rfl) (fun _ _ _ _ _ h => h) ?_
          intro W0 hS0
          iterate 10 (first
            | (refine ord_skip rfl rfl ?_; simp only [Act.put, List.setIfInBounds_toArray, List.set_cons_zero, List.set_cons_succ])
            | (refine ord_take (v := ?_) rfl rfl ?_ ?_
               rotate_left 1
               focus (intro W hW; obtain ⟨hcW, hfW⟩ := bcell hW; (go_simp <;> with_reducible rfl))
               simp only [Act.put, List.setIfInBounds_toArray, List.set_cons_zero, List.set_cons_succ]))
          refine ord_call rfl rfl (fun K hK => ?_)
          go_simp
          (go_at_call 62; refine (HC.out _).mono ?_; rintro e w1 ⟨rfl, hb1⟩; refine hK.out _ _ (hS0.trans (hb1.mono hS0.size)) (fun hS1 => ?_))
          skip
          iterate 1 (first
            | (refine ord_skip rfl rfl ?_; simp only [Act.put, List.setIfInBounds_toArray, List.set_cons_zero, List.set_cons_succ])
            | (refine ord_take (v := ?_) rfl rfl ?_ ?_
               rotate_left 1
               focus (intro W hW; obtain ⟨hcW, hfW⟩ := bcell hW; (go_simp <;> with_reducible rfl))
               simp only [Act.put, List.setIfInBounds_toArray, List.set_cons_zero, List.set_cons_succ]))
          refine ord_nil ?_
          go_wp2_with fail
          go_ret
          exact ⟨ret_bool (by rw [HD.out]; rfl), hb.trans (hS1.mono hbs)⟩
    · have HE : Hid (adjB ltA us = true) := by
        show adjB ltA us = true
        rw [HS.out]
        have hl2 : (us.drop j).length ≤ 1 := by rw [List.length_drop]; omega
        cases hd : us.drop j with
        | nil => rfl
        | cons x l =>
          rw [hd] at hl2
          have : l = [] := by simpa using hl2
          rw [this]; rfl
      have hnlt : ¬ (j : Int) + 1 < (us.length : Int) := by omega
      go_wp2_with fail
      go_ret
      exact ⟨ret_bool HE.out.symm, hb⟩

def fitsB (us : List Ar) : Bool := decide (us.length ≤ 26) && us.all arB && adjB ltA us
set_option maxRecDepth 100000 in
set_option maxHeartbeats 4000000 in
theorem fitsA_any (A : Option Addr) (us : List Ar) (c g : Nat) (w : World) (hx : SlR 5 RAr w A us) (hl : us.length ≤ 65536) (hG : Blk w g 94 #[.func (.func 63) #[] #[], .func (.func 65) #[] #[], .func (.func 66) #[] #[]]) :
    Calls Try.prog 67 #[.slice A us.length c, .func (.func 62) #[] #[], .slice (some ⟨g, 0, none⟩) 3 3] w fun e w' => e = .returned (.bool (fitsB us)) ∧ Below w.heap.size w w' := by
  have HA := Lib.hid (allA_any A us c g w hx hl hG)
  have HI : Hid (∀ W, Below w.heap.size w W → Calls Try.prog 89 #[.slice A us.length c, .func (.func 62) #[] #[]] W fun e w' => e = .returned (.bool (adjB ltA us)) ∧ Below W.heap.size W w') := fun W hW => incA_any A us c W (hx.below keeps_ar hW) hl
  have HF : Hid (fitsB us = (decide (us.length ≤ 26) && us.all arB && adjB ltA us)) := rfl
  generalize us.all arB = p at *
  generalize adjB ltA us = q at *
  clear hx hG
  by_cases h26 : us.length ≤ 26
  · cases p with
    | false =>
      go_enter Try.func67, Try.ntmps67
      go_wp2_with (go_at_call 88; refine HA.out.mono ?_; rintro e w1 ⟨rfl, hb1⟩)
      go_ret
      exact ⟨ret_bool (by rw [HF.out]; simp), hb1⟩
    | true =>
      go_enter Try.func67, Try.ntmps67
      go_wp2_with (first | (go_at_call 88; refine HA.out.mono ?_; rintro e w1 ⟨rfl, hb1⟩) | (go_at_call 89; refine (HI.out _ hb1).mono ?_; rintro e w2 ⟨rfl, hb2⟩))
      go_ret
      exact ⟨ret_bool (by rw [HF.out]; simp [h26]), hb1.trans (hb2.mono hb1.size)⟩
  · go_enter Try.func67, Try.ntmps67
    go_wp2_with fail
    go_ret
    exact ⟨ret_bool (by rw [HF.out]; simp; omega), Below.refl _ _⟩

set_option maxRecDepth 100000 in
set_option maxHeartbeats 4000000 in
/-- Does an earlier area meet a? -/
theorem meets_any (a : Ar) (g : Nat) (A : Option Addr) (us : List Ar) (c : Nat) (w : World) (hx : SlR 5 RAr w A us) (hl : us.length ≤ 65536) (hB : Blk w g 57 #[.int .u8 a.key, .int .i64 a.x0, .int .i64 a.y0, .int .i64 a.x1, .int .i64 a.y1]) :
    Calls Try.prog 40 #[.slice A us.length c, .func (.func 69) #[] #[.pointer (some ⟨g, 0, none⟩)]] w fun e w' =>
      (∃ n : Int, e = .returned (.int .i64 n) ∧ decide (0 ≤ n) = us.any (meetB a)) ∧ Below w.heap.size w w' := by
  have HB := Lib.hid hB
  have hglt := hB.lt
  clear hB
  go_enter Try.func40, Try.ntmps40
  go_wp2_with fail
  go_loopw [8] (fun i wr => ∃ k : Nat, k ≤ us.length ∧ Hid (us.any (meetB a) = (us.drop k).any (meetB a)) ∧ i = .int .i64 k ∧ Below w.heap.size w wr) (fun i _ => us.length - (intOf i).toNat)
  case atStart => exact ⟨0, by omega, rfl, rfl, Below.refl _ _⟩
  case round =>
    obtain ⟨k, hk, HS, rfl, hb⟩ := hrel
    by_cases hlt : k < us.length
    · obtain ⟨b, off, x, rfl, hbb, hxx, d0, d1, d2, d3, d4⟩ := (hx.below keeps_ar hb).ar hlt
      have HR : Hid (us.any (meetB a) = (meetB a x || (us.drop (k + 1)).any (meetB a))) := by show us.any _ = _; rw [HS.out, drop_of hxx, List.any_cons]
      have HI := Lib.hid (c69_any a x g wr (HB.out.below hb hglt))
      have hbs := hb.size
      clear hxx
      generalize meetB a x = p at *
      cases p with
      | true =>
        go_wp2_with (go_at_call 69; refine HI.out.mono ?_; rintro e w1 ⟨rfl, hb1⟩)
        go_ret
        exact ⟨⟨k, rfl, by rw [HR.out]; simp⟩, hb.trans (hb1.mono hbs)⟩
      | false =>
        go_wp2_with (go_at_call 69; refine HI.out.mono ?_; rintro e w1 ⟨rfl, hb1⟩)
        go_roundw
        case rel => exact ⟨k + 1, by omega, by show us.any _ = _; rw [HR.out]; rfl, by go_num, hb.trans (hb1.mono hbs)⟩
        case measure => simp [intOf]; omega
    · have HR : Hid (us.any (meetB a) = false) := by show us.any _ = false; rw [HS.out, drop_end hlt]; rfl
      go_wp2_with fail
      go_ret
      exact ⟨⟨-1, rfl, by rw [HR.out]; rfl⟩, hb⟩
theorem contains_any (a : Ar) (g : Nat) (A : Option Addr) (us : List Ar) (c : Nat) (w : World) (hx : SlR 5 RAr w A us) (hl : us.length ≤ 65536) (hB : Blk w g 57 #[.int .u8 a.key, .int .i64 a.x0, .int .i64 a.y0, .int .i64 a.x1, .int .i64 a.y1]) :
    Calls Try.prog 68 #[.slice A us.length c, .func (.func 69) #[] #[.pointer (some ⟨g, 0, none⟩)]] w fun e w' => e = .returned (.bool (us.any (meetB a))) ∧ Below w.heap.size w w' := by
  have HM := Lib.hid (meets_any a g A us c w hx hl hB)
  clear hB
  go_enter Try.func68, Try.ntmps68
  go_wp2_with (go_at_call 40; refine HM.out.mono ?_; rintro e w1 ⟨⟨n, rfl, hn⟩, hb1⟩; have HN := Lib.hid hn; clear hn)
  go_ret
  exact ⟨ret_bool HN.out, hb1⟩
end Go.Proofs.Ytpjecpefbfobdaa
