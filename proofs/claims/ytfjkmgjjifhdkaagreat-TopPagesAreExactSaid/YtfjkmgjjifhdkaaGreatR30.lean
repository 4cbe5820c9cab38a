/-
  The walks of layer 11: which pairs are valid (the program).
-/
import Derived.Test.YtfjkmgjjifhdkaaGreatR29
namespace Go.Proofs.YtfjkmgjjifhdkaaGreat
open Go Go.RowKit

set_option maxRecDepth 100000 in
set_option maxHeartbeats 4000000 in
theorem validPairs_any (A : Option Addr) (xs : List Pr) (c n : Nat) (w : World) (hx : SlR 3 RPr w A xs) (hl : xs.length ≤ 65536) (hn : n ≤ 65536) :
    Calls Tryz.prog 79 #[.slice A xs.length c, .int .i64 n] w fun e w' => e = .returned (.bool (decide (PsOK xs n))) ∧ Below w.heap.size w w' := by
  by_cases h1 : xs.length ≤ 1000
  · have HL := Lib.hid hl
    go_enter Tryz.func79, Tryz.ntmps79
    go_wp2_with fail
    go_loopw [5, 6, 7, 8, 14] (fun s _ _ _ i wr => ∃ k : Nat, ∃ S : Int, k ≤ xs.length ∧ PsTo xs n k ∧ Hid (S = curSum xs k) ∧ 0 ≤ S ∧ S ≤ 1073741824 ∧ i = .int .i64 k ∧ s = .int .i64 S ∧ Below w.heap.size w wr) (fun _ _ _ _ i _ => xs.length - (intOf i).toNat)
    case atStart => exact ⟨0, 0, by omega, PsTo.zero _ _, rfl, by omega, by omega, rfl, rfl, Below.refl _ _⟩
    case round =>
      obtain ⟨k, S, hk, hs', HSum, hS0, hS1, rfl, rfl, hb⟩ := hrel
      have HS := Lib.hid hs'
      clear hs'
      have hbs := hb.size
      by_cases hlt : k < xs.length
      · obtain ⟨b, off, p, rfl, hbb, hpp, hc0, hc1, hc2⟩ := (hx.below keeps_pr hb).pr hlt
        have HP := Lib.hid hpp
        clear hpp
        by_cases hr : PRange n p
        · have HR := Lib.hid hr
          obtain ⟨⟨r1, r2⟩, ⟨r3, r4⟩, r5⟩ := hr
          rcases k with _ | j
          · simp only [Nat.zero_mul, Nat.add_zero] at hc0 hc1 hc2
            have HE := Lib.hid (show S = sumAt (xs.take 0) p.a by rw [HSum.out]; simp [curSum, sumAt, total])
            by_cases hsum : p.n ≤ 1073741824 - S
            · go_wp2_with fail
              go_roundw
              case rel => exact ⟨1, S + p.n, by omega, HS.out.succ HP.out HR.out (fun _ _ h => by omega) (by rw [← HE.out]; omega), (by rw [HE.out, curSum_next HP.out] : S + p.n = curSum xs (0 + 1)), by omega, by omega, by go_num, rfl, hb.alloc hb.size _⟩
              case measure => simp [intOf]; omega
            · go_wp2_with fail
              go_ret
              exact ⟨ret_bool (decide_eq_false (PsOK.not_sum HP.out (by rw [← HE.out]; omega))).symm, hb.alloc hb.size _⟩
          · obtain ⟨b', off', q, he, hbb', hqq, hd0, hd1, hd2⟩ := (hx.below keeps_pr hb).pr (k := j) (by omega)
            simp only [Option.some.injEq, Addr.mk.injEq, and_true] at he
            obtain ⟨rfl, rfl⟩ := he
            have HQ := Lib.hid hqq
            clear hqq
            have HE := Lib.hid (show S = sumAt (xs.take (j + 1)) q.a by rw [HSum.out, curSum_succ HQ.out])
            have hcase : (p.a < q.a ∨ (p.a = q.a ∧ p.b ≤ q.b)) ∨ (p.a = q.a ∧ q.b < p.b) ∨ q.a < p.a := by omega
            rcases hcase with h | h | h
            · have HN := Lib.hid (show lessP q p = false by unfold lessP; simp; omega)
              rcases h with h | ⟨h, h'⟩
              all_goals
                go_wp2_with fail
                go_ret
                exact ⟨ret_bool (decide_eq_false (PsOK.not_inc HQ.out HP.out HN.out)).symm, (hb.alloc hb.size _).alloc (by simp; omega) _⟩
            · obtain ⟨h, h'⟩ := h
              have HN := Lib.hid (show lessP q p = true by unfold lessP; simp; omega)
              have HE' := Lib.hid (show S = sumAt (xs.take (j + 1)) p.a by rw [h]; exact HE.out)
              by_cases hsum : p.n ≤ 1073741824 - S
              · go_wp2_with fail
                go_roundw
                case rel => exact ⟨j + 1 + 1, S + p.n, by omega, HS.out.succ HP.out HR.out (fun _ _ h1 h2 => by cases h1; rw [HQ.out] at h2; rw [← Option.some.inj h2]; exact HN.out) (by rw [← HE'.out]; omega), (by rw [HE'.out, curSum_next HP.out] : S + p.n = curSum xs (j + 1 + 1)), by omega, by omega, by go_num, rfl, (hb.alloc hb.size _).alloc (by simp; omega) _⟩
                case measure => simp [intOf]; omega
              · go_wp2_with fail
                go_ret
                exact ⟨ret_bool (decide_eq_false (PsOK.not_sum HP.out (by rw [← HE'.out]; omega))).symm, (hb.alloc hb.size _).alloc (by simp; omega) _⟩
            · have HN := Lib.hid (show lessP q p = true by unfold lessP; simp; omega)
              have HE' := Lib.hid (sumAt_reset HS.out HQ.out h)
              by_cases hsum : p.n ≤ 1073741824
              · go_wp2_with fail
                go_roundw
                case rel => exact ⟨j + 1 + 1, p.n, by omega, HS.out.succ HP.out HR.out (fun _ _ h1 h2 => by cases h1; rw [HQ.out] at h2; rw [← Option.some.inj h2]; exact HN.out) (by rw [HE'.out]; omega), (by rw [curSum_next HP.out, HE'.out, Int.zero_add] : p.n = curSum xs (j + 1 + 1)), by omega, by omega, by go_num, rfl, (hb.alloc hb.size _).alloc (by simp; omega) _⟩
                case measure => simp [intOf]; omega
              · go_wp2_with fail
                go_ret
                exact ⟨ret_bool (decide_eq_false (PsOK.not_sum HP.out (by rw [HE'.out]; omega))).symm, (hb.alloc hb.size _).alloc (by simp; omega) _⟩
        · have HR := Lib.hid hr
          have hcase : p.a < 0 ∨ (0 ≤ p.a ∧ n ≤ p.a) ∨ ((0 ≤ p.a ∧ p.a < n) ∧ p.b < 0) ∨ ((0 ≤ p.a ∧ p.a < n) ∧ 0 ≤ p.b ∧ n ≤ p.b) ∨ ((0 ≤ p.a ∧ p.a < n) ∧ (0 ≤ p.b ∧ p.b < n) ∧ p.n < 1) := by
            unfold PRange at hr; omega
          clear hr
          rcases hcase with r | ⟨r, r'⟩ | ⟨⟨r, r'⟩, r''⟩ | ⟨⟨r, r'⟩, r'', r'''⟩ | ⟨⟨r, r'⟩, ⟨r'', r'''⟩, r''''⟩
          all_goals
            go_wp2_with fail
            go_ret
            exact ⟨ret_bool (decide_eq_false (PsOK.not_range HP.out HR.out)).symm, hb.alloc hb.size _⟩
      · go_wp2_with fail
        go_ret
        exact ⟨ret_bool (decide_eq_true (HS.out.all (by omega) h1)).symm, hb⟩
  · go_enter Tryz.func79, Tryz.ntmps79
    go_wp2_with fail
    go_ret
    exact ⟨ret_bool (decide_eq_false (fun h => h1 h.1)).symm, Below.refl _ _⟩
end Go.Proofs.YtfjkmgjjifhdkaaGreat
