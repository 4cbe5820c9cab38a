/-
  OutputLimits: the walk.
-/
import Derived.Test.YtkjfdjcagfkdhaaP26
import Derived.Test.YtkjfdjcagfkdhaaP27
import Derived.Test.YtkjfdjcagfkdhaaP22
import Derived.Deep.DeepCutAuto
import Derived.Test.YtkjfdjcagfkdhaaP21
namespace Go.Proofs.Ytkjfdjcagfkdhaa
open Go Go.RowKit

theorem lim_in (j : Nat) : ∀ r ∈ (limS j).rs, RuIn r := lim_all (fun r hr => by
  have h : ∀ r ∈ limAll, r.inp.size ≤ 1 ∧ r.out.size ≤ 1 := by decide
  exact ⟨Nat.le_trans (h r hr).1 (by decide), Nat.le_trans (h r hr).2 (by decide)⟩) j
set_option maxRecDepth 100000 in
set_option maxHeartbeats 16000000 in
theorem outputLimits_any (pm pn : Int) (w : World) (hm : 0 ≤ pm ∧ pm ≤ 255) (hn : 0 ≤ pn ∧ pn ≤ 255) :
    Calls Try.prog 4 #[.int .u8 pm, .int .u8 pn] w fun e w' => e = .returned (.bool true) ∧ Below w.heap.size w w' := by
  obtain ⟨i0, hinf, hz0, hz1, hz2⟩ := info_partsR rule_info
  have HSA : Hid (∀ W, Calls Try.prog 5 #[] W fun e w' => e = .returned (.bool true) ∧ Below W.heap.size W w') := sanity5_any
  have htm : pm.tmod 4 = pm % 4 := Int.tmod_eq_emod_of_nonneg hm.1
  have htn : pn.tmod 15 = pn % 15 := Int.tmod_eq_emod_of_nonneg hn.1
  obtain ⟨q, hq⟩ : ∃ q : Nat, pm % 4 = (q : Int) := ⟨(pm % 4).toNat, by omega⟩
  obtain ⟨N, hN⟩ : ∃ q : Nat, pn % 15 = (q : Int) := ⟨(pn % 15).toNat, by omega⟩
  have hq3 : q ≤ 3 := by omega
  have hN14 : N ≤ 14 := by omega
  rw [hq] at htm
  rw [hN] at htn
  clear hq hN hm hn
  have hwq : IntKind.i64.wrap (q : Int) = (q : Int) := IntWalk.i64_in _ (by omega)
  have hwN : IntKind.i64.wrap (N : Int) = (N : Int) := IntWalk.i64_in _ (by omega)
  obtain ⟨k, hk⟩ : ∃ k : Nat, 2 + q = k := ⟨_, rfl⟩
  have hkI : (2 : Int) + (q : Int) = (k : Int) := by omega
  have hwk : IntKind.i64.wrap (2 + (q : Int)) = (k : Int) := by rw [hkI]; exact IntWalk.i64_in _ (by omega)
  have hk25 : 2 ≤ k ∧ k ≤ 5 := by omega
  clear hk hkI hq3
  go_enter Try.func4, Try.ntmps4
  go_upto_region 4 with (go_at_call 5; go_loud (refine (HSA.out _).mono ?_; rintro e w2 ⟨rfl, hb2⟩))
  obtain ⟨b3, hb3⟩ : ∃ x, w2.heap.size = x := ⟨_, rfl⟩
  obtain ⟨w3, hw3⟩ : ∃ W, w2.alloc (.cells #[.int .i64 1, .int .u8 1, .slice none 0 0] 30) = W := ⟨_, rfl⟩
  have hB3 : Blk w3 b3 30 #[.int .i64 1, .int .u8 1, .slice none 0 0] := by rw [← hw3]; exact Blk.new_ hb3.symm
  have hb03 : Below w.heap.size w w3 := by rw [← hw3]; exact hb2.alloc hb2.size _
  have hwb3 : w.heap.size ≤ b3 := by rw [← hb3]; exact hb2.size
  rw [hb3, hw3]
  clear hw3 hb3 hb2
  have HB03 := Lib.hid hb03
  clear hb03
  go_wp2_with fail
  go_loopw [10] (fun i wr => ∃ (j : Nat) (v : Value), j ≤ k ∧ i = .int .i64 (j : Int) ∧ wr.ownsRow (b3 + 1) 44 5 v j ((limAll.take j).flatMap encRu5) ∧ Blk wr b3 30 #[.int .i64 1, .int .u8 1, v] ∧ Below b3 w3 wr) (fun i _ => k - (intOf i).toNat)
  case atStart => exact ⟨0, .slice none 0 0, by omega, rfl, own_nil _ _ _ _, hB3, Below.refl _ _⟩
  case round =>
    clear hB3
    obtain ⟨j, v, hj, rfl, hown, hB, hbr⟩ := hrel
    by_cases hlt : j < k
    · have hj5 : j < 5 := by omega
      have hjk : (j : Int) < (k : Int) := by omega
      have hvne : v.ownBlock ≠ some b3 := fun e => by have := own_block_le hown _ e; omega
      have hc2 := hB.cell 2
      have hbl := hB.lt
      simp at hc2
      have hw1 : IntKind.i64.wrap ((j : Int) + 1) = (j : Int) + 1 := IntWalk.i64_in _ (by omega)
      have hs0 : (0 : Int) ≤ (j : Int) := by omega
      have hs1 : (j : Int) + 1 ≤ 5 := by omega
      have hs2 : (j : Int) ≤ (j : Int) + 1 := by omega
      have hs3 : (0 : Int) ≤ (j : Int) + 1 := by omega
      have hs4 : ((j : Int) + 1).toNat = j + 1 := by omega
      have HOW := Lib.hid hown
      have HB := Lib.hid hB
      have HBr := Lib.hid hbr
      clear hown hB hbr
      go_wp2_with fail
      refine ordV_start (ButR v wr) (fun _ => True) [11] [(0, some false), (1, some false), (2, some false), (3, some false), (4, some false), (5, some false), (6, some false), (7, some false), (8, some true), (9, some true), (10, some false), (11, some true)] (by kernel_rfl) (by kernel_rfl) (by kernel_rfl) (fun _ _ _ _ _ h => h) trivial ?_
      have HD : Below wr.heap.size wr wr.drew := (Below.refl _ _).drew
      obtain ⟨Wd, hWd⟩ : ∃ Wd, wr.drew = Wd := ⟨_, rfl⟩
      rw [hWd] at HD ⊢
      clear hWd
      have HS0 := ButR.of_below (v := v) HD
      iterate 8 (refine ordV_takeS (v := ?_) rfl rfl HS0 ?_ ?_; rotate_left 1; (focus (intro W hW; have hcW := hW.cell; (go_simp <;> (try with_reducible rfl)))); simp only [Act.put, List.setIfInBounds_toArray, List.set_cons_zero, List.set_cons_succ])
      rw [show (ByteArray.mk #[97, 98, 99, 100, 101]).extract j (j + 1) = abcO j from rfl]
      refine ordV_call rfl rfl (fun K hK => ?_)
      go_simp
      have HD2 := HD.alloc HD.size (.cells #[.int .i64 0, .int .i64 0, .string ⟨#[97]⟩, .string (abcO j), .int .i64 (j : Int)] 44)
      have HS2 := ButR.of_below (v := v) HD2
      refine hK.out _ _ trivial (fun _ _ => HS2) ?_
      clear hK K
      try simp only [Act.put, List.setIfInBounds_toArray, List.set_cons_zero, List.set_cons_succ]
      refine ordV_call rfl rfl (fun K hK => ?_)
      refine wp_appG _ _ 28 rfl 0 b3 44 i0 _ 5 56 Try.underlying28 hinf hz0 hz1 hz2 rfl (by decide) v _ _ rfl (.inl (own_below HOW.out HD2)) ⟨Wd.heap.size, 0, none⟩ 1 [.int .i64 0, .int .i64 0, .string ⟨#[97]⟩, .string (abcO j), .int .i64 (j : Int)] rfl rfl (news_blk (Blk.new_ (t := 44) (cs := #[.int .i64 0, .int .i64 0, .string ⟨#[97]⟩, .string (abcO j), .int .i64 (j : Int)]) rfl)) (fun u hu => by simp at hu; rcases hu with rfl | rfl | rfl | rfl <;> rfl) (by omega) (by decide) (by have := HD2.size; omega) ?_
      intro v4 w4 hown4 hb4 ha4
      have HS3 := HS2.apps hb4.size ha4
      refine hK.out _ _ trivial (fun _ _ => HS3) ?_
      clear hK K
      have hown5 : w4.ownsRow (b3 + 1) 44 5 v4 (j + 1) ((limAll.take (j + 1)).flatMap encRu5) := by rw [lim_next hj5, List.flatMap_append]; exact hown4
      obtain ⟨A9, c9, rfl, hc9, hcm9, _⟩ := own_slr (R := RRu) hown5 (fun _ => rfl) (fun _ => rfl) (lim_len (k := j + 1) hj5).symm
      have hB4 := (HB.out.below HD2 HB.out.lt).apps ha4 hvne
      have s2 := hB4.cell 2
      have sf2 := hB4.frozen 2
      have sl := hB4.lt
      simp at s2
      try simp only [Act.put, List.setIfInBounds_toArray, List.set_cons_zero, List.set_cons_succ]
      iterate 1 (refine ordV_takeS (v := ?_) rfl rfl HS3 ?_ ?_; rotate_left 1; (focus (intro W hW; have hcW := hW.cell; (go_simp <;> (try with_reducible rfl)))); simp only [Act.put, List.setIfInBounds_toArray, List.set_cons_zero, List.set_cons_succ])
      refine ordV_call rfl rfl (fun K hK => ?_)
      go_simp
      refine hK.out _ _ trivial (fun _ h => by cases h) ?_
      clear hK K
      refine ordV_nil ?_
      have hbE := ((HBr.out.trans (HD2.mono (by omega))).trans (hb4.mono (by omega))).setCell (p := ⟨b3, 2, none⟩) (Nat.le_refl _) (.slice A9 (j + 1) c9)
      have hBE := hB4.set_ 2 (.slice A9 (j + 1) c9)
      have hOE := own_set hown5 (a := ⟨b3, 2, none⟩) (fun e => absurd (own_block_le hown5 _ e) (Nat.not_succ_le_self _)) (.slice A9 (j + 1) c9)
      go_wp2_with fail
      go_roundw
      case rel => exact ⟨j + 1, .slice A9 (j + 1) c9, by omega, by go_num, hOE, hBE, hbE⟩
      case measure => simp [intOf]; omega
    · obtain rfl : j = k := by omega
      have hjk : ¬ ((j : Nat) : Int) < (j : Int) := by omega
      obtain ⟨A, c, rfl, hc1, hc2, hsl⟩ := own_slr (R := RRu) hown (fun _ => rfl) (fun _ => rfl) (lim_len hk25.2).symm
      have hsc : ScIn wr (limS j) A c := ⟨hsl, by rw [lim_len hk25.2]; omega, lim_in j, (by show (0 : Int) ≤ 1 ∧ (1 : Int) ≤ 255; decide), by rw [lim_len hk25.2]; exact ⟨hc1, hc2⟩⟩
      have hb0 : Below w.heap.size w wr := HB03.out.trans (hbr.mono hwb3)
      have hs0 := hB.cell 0
      have hs1 := hB.cell 1
      have hs2 := hB.cell 2
      have hsz := hB.lt
      simp at hs0 hs1 hs2
      have HSC := Lib.hid hsc
      have HB0 := Lib.hid hb0
      clear hown hB hbr hsl hsc hb0 HB03 hlt
      go_wp2_with fail
      obtain ⟨wB, rfl⟩ : ∃ W, W = wr := ⟨wr, rfl⟩
      have HSM : Hid (∀ (S : ByteArray) (A8 B8 : Option Addr) (c8 d8 : Nat) (W : World), SlR 2 RRs W A8 [⟨S, 0⟩] → SlR 2 RRs W B8 [⟨S, 0⟩] → Calls Try.prog 9 #[.slice A8 1 c8, .slice B8 1 d8] W fun e w' => e = .returned (.bool true) ∧ Below W.heap.size W w') := fun S A8 B8 c8 d8 W h1 h2 => by
        have h := same5_any A8 B8 [⟨S, 0⟩] [⟨S, 0⟩] c8 d8 W h1 h2 (by simp) (by simp)
        rw [decide_eq_true rfl] at h
        exact h
      go_loopw [7, 8, 11] (fun s7 s8 s11 wr => ∃ (i P : Nat) (S : ByteArray), i ≤ 14 ∧ i ≤ N ∧ P ≤ 10000 ∧ Hid (P = j ^ i) ∧ Hid (bl S = List.replicate i 97) ∧ S.size ≤ 40 ∧ s7 = .string S ∧ s8 = .int .i64 (P : Int) ∧ s11 = .int .i64 (i : Int) ∧ wB = wr) (fun _ _ s11 _ => 14 - (intOf s11).toNat)
      case atStart => exact ⟨0, 1, ⟨#[]⟩, by omega, by omega, by omega, rfl, rfl, by show 0 ≤ 40; omega, rfl, rfl, rfl, rfl⟩
      case round =>
        obtain ⟨i, P, S, hi14, hiN, hP10, HP, HS, hS40, rfl, rfl, rfl, rfl⟩ := hrel
        have HBS : Hid (Calls Try.prog 8 #[.agg #[.int .i64 1, .int .u8 1, .slice A j c], .string S, .int .i64 1] wB (IsBestR (limS j) S 1 wB)) := by
          have h := best05_any (limS j) A c S 1 wB HSC.out (fun _ _ => lim_flatR) (Nat.le_trans hS40 (by decide)) (by decide) (by decide)
          rw [lim_len hk25.2] at h
          exact h
        have hbest := limits_best hk25 HS.out (by omega)
        rw [← HP.out] at hbest
        have HBEST := Lib.hid hbest
        clear hbest
        by_cases hi : i < N
        · have hii : (i : Int) < (N : Int) := by omega
          by_cases hP : P ≤ 2000
          · have hPP : (P : Int) ≤ 2000 := by omega
            have hwp : IntKind.i64.wrap ((P : Int) * (j : Int)) = ((P * j : Nat) : Int) := by
              have h1 : P * j ≤ 2000 * 5 := Nat.mul_le_mul hP hk25.2
              rw [← Int.natCast_mul]
              exact IntWalk.i64_in _ (by omega)
            have hPj : P * j ≤ 10000 := Nat.le_trans (Nat.mul_le_mul hP hk25.2) (by decide)
            go_wp2_with fail
            go_roundw
            case rel => exact ⟨i + 1, P * j, S ++ ⟨#[97]⟩, by omega, by omega, hPj, (by show P * j = j ^ (i + 1); rw [Nat.pow_succ, HP.out]), (by show bl (S ++ ⟨#[97]⟩) = List.replicate (i + 1) 97; rw [bl_app, HS.out, List.replicate_succ']; rfl), (by have h1 : S.size = i := (lim_let HS.out (by omega)).2; rw [ByteArray.size_append, h1]; show i + 1 ≤ 40; omega), (by first | rfl | trivial), by go_num, by go_num, (by first | rfl | trivial)⟩
            case measure => simp [intOf]; omega
          · have hPP : ¬ (P : Int) ≤ 2000 := by omega
            have hQQ : (2000 : Int) < (P : Int) := by omega
            have HB2 : Hid (Calls Try.prog 8 #[.agg #[.int .i64 1, .int .u8 1, .slice A j c], .string S, .int .i64 1] wB fun e w' => ∃ (A8 : Option Addr) (c8 : Nat), e = .returned (.tuple #[.slice A8 0 c8, .int .i64 2]) ∧ Below wB.heap.size wB w') := HBS.out.mono fun e w' ⟨x8, er, A8, c8, h1, h2, _, _, h5⟩ => by
              rw [HBEST.out, if_pos (by omega)] at h2
              injection h2 with h6 h7
              subst h6 h7
              exact ⟨A8, c8, h1, h5⟩
            clear HBS HBEST
            go_wp2_with (go_at_call 8; go_loud (refine HB2.out.mono ?_; rintro e w9 ⟨A8, c8, rfl, hb9⟩))
            go_ret
            exact ⟨rfl, HB0.out.trans (hb9.mono HB0.out.size)⟩
        · have hii : ¬ (i : Int) < (N : Int) := by omega
          by_cases hP : P ≤ 2000
          · have hPP : (P : Int) ≤ 2000 := by omega
            have hQQ : ¬ (2000 : Int) < (P : Int) := by omega
            have HB2 : Hid (Calls Try.prog 8 #[.agg #[.int .i64 1, .int .u8 1, .slice A j c], .string S, .int .i64 1] wB fun e w' => ∃ (A8 : Option Addr) (c8 : Nat), e = .returned (.tuple #[.slice A8 1 c8, .int .i64 0]) ∧ SlR 2 RRs w' A8 [⟨S, 0⟩] ∧ Below wB.heap.size wB w') := HBS.out.mono fun e w' ⟨x8, er, A8, c8, h1, h2, _, h4, h5⟩ => by
              rw [HBEST.out, if_neg (by omega)] at h2
              injection h2 with h6 h7
              subst h6 h7
              exact ⟨A8, c8, h1, h4, h5⟩
            clear HBS HBEST
            go_wp2_with (first | (go_at_call 8; go_loud (refine HB2.out.mono ?_; rintro e w9 ⟨A8, c8, rfl, hs8, hb9⟩)) | (go_at_call 9; go_loud (refine (HSM.out S A8 (some ⟨w9.heap.size, 0, none⟩) c8 1 _ (hs8.below keeps_rs (nw _ (Below.refl _ _))) (slr_blkR (enc := encRs) (t := 40) (Blk.new_ rfl) (fun _ => rfl) (fun _ => rfl))).mono ?_; rintro e w10 ⟨rfl, hb10⟩)))
            go_ret
            exact ⟨rfl, (HB0.out.trans (hb9.mono HB0.out.size)).trans ((nw _ (Below.refl _ _)).trans (hb10.mono (by simp)) |>.mono (by have := HB0.out.size; have := hb9.size; omega))⟩
          · have hPP : ¬ (P : Int) ≤ 2000 := by omega
            have hQQ : (2000 : Int) < (P : Int) := by omega
            have HB2 : Hid (Calls Try.prog 8 #[.agg #[.int .i64 1, .int .u8 1, .slice A j c], .string S, .int .i64 1] wB fun e w' => ∃ (A8 : Option Addr) (c8 : Nat), e = .returned (.tuple #[.slice A8 0 c8, .int .i64 2]) ∧ Below wB.heap.size wB w') := HBS.out.mono fun e w' ⟨x8, er, A8, c8, h1, h2, _, _, h5⟩ => by
              rw [HBEST.out, if_pos (by omega)] at h2
              injection h2 with h6 h7
              subst h6 h7
              exact ⟨A8, c8, h1, h5⟩
            clear HBS HBEST
            go_wp2_with (go_at_call 8; go_loud (refine HB2.out.mono ?_; rintro e w9 ⟨A8, c8, rfl, hb9⟩))
            go_ret
            exact ⟨rfl, HB0.out.trans (hb9.mono HB0.out.size)⟩
end Go.Proofs.Ytkjfdjcagfkdhaa
