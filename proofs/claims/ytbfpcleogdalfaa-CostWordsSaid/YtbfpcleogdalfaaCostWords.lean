/-
  CostWords: the walk.
-/
import Derived.Test.YtbfpcleogdalfaaCostMB
namespace Go.Proofs.Ytbfpcleogdalfaa
open Go Go.RowKit

set_option maxRecDepth 100000 in
set_option maxHeartbeats 8000000 in
theorem costWords_any (x : Raw) (A1 A2 A3 : Option Addr) (c1 c2 c3 : Nat) (w : World) (h : RawR w x A1 A2 A3) :
    Calls Try.prog 6 #[.agg #[.slice A1 x.words.length c1, .slice A2 x.counts.length c2, .slice A3 x.uses.length c3, .int .u8 x.back]] w fun e w' => e = .returned (.bool true) ∧ Below w.heap.size w w' := by
  have hlim := made_lim x h.b2 h.b3 h.bk
  have HLIM := Lib.hid hlim
  have HBX := Lib.hid (show Below w.heap.size w (w.alloc (.cells #[.slice A1 x.words.length c1, .slice A2 x.counts.length c2, .slice A3 x.uses.length c3, .int .u8 x.back] 26)) from (Below.refl w.heap.size w).alloc (Nat.le_refl _) (.cells #[.slice A1 x.words.length c1, .slice A2 x.counts.length c2, .slice A3 x.uses.length c3, .int .u8 x.back] 26))
  have HR := Lib.hid (h.below HBX.out)
  have HK0 := Lib.hid (Blk.new w 26 #[.slice A1 x.words.length c1, .slice A2 x.counts.length c2, .slice A3 x.uses.length c3, .int .u8 x.back])
  clear h hlim
  go_enter Try.func6, Try.ntmps6
  go_wp2_with (first | (go_at_call 10; go_loud (refine (sanity_any _).mono ?_; rintro e w1 ⟨rfl, hb1⟩; have hkr := HK0.out.below hb1 HK0.out.lt; have rw0 := hkr.cell 0; have rw1 := hkr.cell 1; have rw2 := hkr.cell 2; have rw3 := hkr.cell 3)) | (go_at_call 11; go_loud (refine (made_any x A1 A2 A3 c1 c2 c3 _ (HR.out.below hb1)).mono ?_; rintro e w2 ⟨B1, B2, B3, d1, d2, d3, rfl, hmor, hcaps, hb2⟩)))
  have hb12 := hb1.trans (hb2.mono hb1.size)
  have HMB := Lib.hid (mb_new hmor hcaps)
  have HB := Lib.hid ((HBX.out.trans (hb12.mono HBX.out.size)).alloc (Nat.le_trans HBX.out.size hb12.size) (.cells #[.slice B1 (madeM x).ws.length d1, .slice B2 (madeM x).cs.length d2, .slice B3 (madeM x).ps.length d3, .int .i64 (madeM x).back] 34))
  clear hb1 hb2 hb12 hkr rw0 rw1 rw2 rw3 HK0 HR HBX hmor hcaps
  generalize w2.alloc (.cells #[.slice B1 (madeM x).ws.length d1, .slice B2 (madeM x).cs.length d2, .slice B3 (madeM x).ps.length d3, .int .i64 (madeM x).back] 34) = W at *
  generalize w2.heap.size = g at *
  generalize madeM x = m at *
  obtain ⟨hl, hw2, hw8⟩ := HLIM.out
  have HOK := Lib.hid hl.ok
  have HL := Lib.hid hl
  have HCL := Lib.hid (show m.cs.length = m.ws.length from hl.ok.1.1.2.1)
  clear hl HLIM
  go_loopw [5] (fun i wr => ∃ k : Nat, k ≤ m.ws.length ∧ i = .int .i64 k ∧ Below W.heap.size W wr) (fun i _ => m.ws.length - (intOf i).toNat)
  case atStart => exact ⟨0, by omega, rfl, Below.refl _ _⟩
  case round =>
    obtain ⟨i, hi, rfl, hb⟩ := hrel
    have hmb := HMB.out.below hb
    have q0 := hmb.b.cell 0
    by_cases hlt : i < m.ws.length
    · go_wp2_with fail
      clear hmb q0
      obtain ⟨wo, rfl⟩ : ∃ wo : World, wo = wr := ⟨_, rfl⟩
      go_loopw [6] (fun i wr => ∃ k : Nat, k ≤ m.ws.length ∧ i = .int .i64 k ∧ Below W.heap.size W wr) (fun i _ => m.ws.length - (intOf i).toNat)
      case atStart => exact ⟨0, by omega, rfl, hb⟩
      case round =>
        clear hb
        obtain ⟨k, hk, rfl, hb⟩ := hrel
        have hmb := HMB.out.below hb
        have q0 := hmb.b.cell 0
        have q1 := hmb.b.cell 1
        have q2 := hmb.b.cell 2
        have q3 := hmb.b.cell 3
        have hg := hmb.b.lt
        by_cases hlk : k < m.ws.length
        · have hcl := HCL.out
          obtain ⟨b, off, y, hA, hbb, hyy, hcy⟩ := hmb.r.h2.int (k := i) (by omega)
          obtain ⟨b', off', z, hA', hbb', hzz, hcz⟩ := hmb.r.h2.int (k := k) (by omega)
          subst hA
          injection hA' with hA'
          injection hA' with h1 h2
          subst h1 h2
          have n0 := wcost_nonneg HOK.out i (by omega)
          have hcmp : (z ≤ y ∧ wcost m i ≤ wcost m k) ∨ y < z := by
            by_cases h : z ≤ y
            · exact .inl ⟨h, wcost_le hyy hzz h⟩
            · exact .inr (by omega)
          have hix : (i : Int) < m.cs.length := by omega
          have hkx : (k : Int) < m.cs.length := by omega
          have hic : i < m.cs.length := by omega
          have hkc : k < m.cs.length := by omega
          clear hyy hzz hcl
          have hd1 : ¬ wcost m i < 0 := by omega
          have hd0 : decide (wcost m i < 0) = false := by simp; omega
          have hcmp2 : (decide (z ≤ y) = true ∧ decide (wcost m k < wcost m i) = false) ∨ (decide (z ≤ y) = false) := by
            rcases hcmp with ⟨c1, c2⟩ | c1
            · left; exact ⟨by simpa using c1, by simp; omega⟩
            · right; simp; omega
          clear hcmp
          rcases hcmp2 with ⟨c1, c2⟩ | c1
          all_goals
            go_wp2_with fail
            refine ord_below [(0, false), (1, false), (3, false), (4, false), (2, true), (5, true), (6, false), (7, false)] (by kernel_rfl) (by kernel_rfl) (by kernel_rfl) (fun _ _ _ _ _ h => h) ?_
            intro W0 hS0
            repeat (first
              | (refine ord_skip rfl rfl ?_; simp only [Act.put, List.setIfInBounds_toArray, List.set_cons_zero, List.set_cons_succ])
              | (refine ord_cskip rfl rfl (by assumption) ?_; simp only [Act.put, List.setIfInBounds_toArray, List.set_cons_zero, List.set_cons_succ])
              | (refine ord_take (v := ?_) rfl rfl ?_ ?_
                 rotate_left 1
                 focus (intro W hW; obtain ⟨hcW, hfW⟩ := bcell hW; (go_simp <;> with_reducible rfl))
                 simp only [Act.put, List.setIfInBounds_toArray, List.set_cons_zero, List.set_cons_succ])
              | (refine ord_call rfl rfl (fun K hK => ?_)
                 go_simp
                 first
                   | (go_at_call 12; refine (wcost_any m _ _ _ d1 d2 d3 _ _ (hmb.r.below hS0) HOK.out.1.1.2 (by omega)).mono ?_; rintro e w' ⟨rfl, hb'⟩; refine hK.out _ _ (hS0.trans (hb'.mono hS0.size)) (fun hS0 => ?_))))
            refine ord_nil ?_
            go_wp2_with fail
            have hS1 := hS0
            obtain ⟨hcX, hfX⟩ := bcell hS1
            have hgx := Nat.lt_of_lt_of_le hg hS1.size
            have hbx := Nat.lt_of_lt_of_le hbb hS1.size
            refine ord_below [(0, false), (1, false), (2, false), (3, false), (4, false), (5, false), (6, false), (7, false), (8, false), (9, false), (10, false), (11, false), (12, false), (13, false), (14, false), (15, false), (16, false), (17, false), (18, false), (19, false)] (by kernel_rfl) (by kernel_rfl) (by kernel_rfl) (fun _ _ _ _ _ h => h) ?_
            intro W0 hS0
            repeat (first
              | (refine ord_skip rfl rfl ?_; simp only [Act.put, List.setIfInBounds_toArray, List.set_cons_zero, List.set_cons_succ])
              | (refine ord_cskip rfl rfl (by assumption) ?_; simp only [Act.put, List.setIfInBounds_toArray, List.set_cons_zero, List.set_cons_succ])
              | (refine ord_take (v := ?_) rfl rfl ?_ ?_
                 rotate_left 1
                 focus (intro W hW; obtain ⟨hcW, hfW⟩ := bcell hW; (go_simp <;> with_reducible rfl))
                 simp only [Act.put, List.setIfInBounds_toArray, List.set_cons_zero, List.set_cons_succ])
              | (refine ord_call rfl rfl (fun K hK => ?_)
                 go_simp
                 first
                   | (fail)))
            refine ord_nil ?_
            go_wp2_with fail
            go_roundw
            case rel => exact ⟨k + 1, by omega, by go_num, hb.trans ((hS1.trans (hS0.mono hS1.size)).mono hb.size)⟩
            case measure => simp [intOf]; omega
        · go_wp2_with fail
          go_roundw
          case rel => exact ⟨i + 1, by omega, by go_num, hb⟩
          case measure => simp [intOf]; omega
    · go_wp2_with fail
      go_ret
      exact ⟨rfl, HB.out.trans (hb.mono HB.out.size)⟩
end Go.Proofs.Ytbfpcleogdalfaa
