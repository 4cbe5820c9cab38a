/-
  The walks of layer 21: the taps that the laws draw.
-/
import Derived.Test.YtpjecpefbfobdaaAreaWalkP
import Derived.Test.YtpjecpefbfobdaaOrdI
namespace Go.Proofs.Ytpjecpefbfobdaa
open Go Go.RowKit

theorem bcellB {B : Nat} {W w1 : World} (hb : Below B W w1) : ∀ b o, b < B → w1.cell? ⟨b, o, none⟩ = W.cell? ⟨b, o, none⟩ := fun b o h => hb.cell (p := ⟨b, o, none⟩) h
def tapAt (k : Nat) (p : B3) : Tp := ⟨97 + k, p.a * 3, p.b * 3, 1 + p.c % 256 % 63⟩
def tapsTo (l : List B3) : Nat → List Tp
  | 0 => []
  | k + 1 => match l[k]? with | some p => tapsTo l k ++ [tapAt k p] | none => tapsTo l k
def tapsL (l : List B3) : List Tp := tapsTo l (min l.length 6)
theorem taps_succ {l : List B3} {k : Nat} {p : B3} (h : l[k]? = some p) : tapsTo l (k + 1) = tapsTo l k ++ [tapAt k p] := by
  show (match l[k]? with | some p => tapsTo l k ++ [tapAt k p] | none => tapsTo l k) = _
  rw [h]

set_option maxRecDepth 100000 in
set_option maxHeartbeats 8000000 in
theorem taps_any (A : Option Addr) (l : List B3) (c : Nat) (w : World) (hx : SlR 3 RB3 w A l) (hl0 : l.length ≤ maxLen) (hok : ∀ p ∈ l, B3OK p) :
    Calls Try.prog 13 #[.slice A l.length c] w fun e w' => ∃ A' c', e = .returned (.slice A' (tapsL l).length c') ∧ SlR 4 RTp w' A' (tapsL l) ∧ Below w.heap.size w w' := by
  have hl := hl0
  unfold maxLen at hl
  obtain ⟨i0, hi, hz0, hz1, hz2⟩ := info_parts tap_info
  go_enter Try.func13, Try.ntmps13
  go_wp2_with fail
  go_loopw [3, 4] (fun out i wr => ∃ k : Nat, ∃ T : List Tp, k ≤ l.length ∧ k ≤ 6 ∧ Hid (T = tapsTo l k) ∧ T.length ≤ k ∧ i = .int .i64 k ∧ wr.ownsRow w.heap.size 82 4 out T.length (T.flatMap encT) ∧ Below w.heap.size w wr) (fun _ i _ => 6 - (intOf i).toNat)
  case atStart => exact ⟨0, [], by omega, by omega, rfl, by simp, rfl, own_empty w _ _ _ (Nat.le_refl _), (Below.refl _ _).alloc (Nat.le_refl _) _⟩
  case round =>
    obtain ⟨k, T, hk, hk6, HT, hTl, rfl, hown, hb⟩ := hrel
    have hbs := hb.size
    by_cases hlt : k < l.length
    · by_cases hlt6 : k < 6
      · obtain ⟨b, off, p, rfl, hbb, hpp, d0, d1, d2⟩ := hx.b3 hlt
        have e0 := (hb.cell (p := ⟨b, _, none⟩) hbb).trans d0
        have e1 := (hb.cell (p := ⟨b, _, none⟩) hbb).trans d1
        have e2 := (hb.cell (p := ⟨b, _, none⟩) hbb).trans d2
        obtain ⟨⟨p1, p2⟩, ⟨p3, p4⟩, p5, p6⟩ := hok p (List.mem_of_getElem? hpp)
        have HP := Lib.hid (taps_succ hpp)
        have hc0 : 0 ≤ p.c % 256 := Int.emod_nonneg _ (by decide)
        have hm1 : (p.c % 256).tmod 63 = p.c % 256 % 63 := Int.tmod_eq_emod_of_nonneg hc0
        have hwa : IntKind.i64.wrap p.a = p.a := IntWalk.i64_in _ (by omega)
        have hwb : IntKind.i64.wrap p.b = p.b := IntWalk.i64_in _ (by omega)
        have hwa3 : IntKind.i64.wrap (p.a * 3) = p.a * 3 := IntWalk.i64_in _ (by omega)
        have hwb3 : IntKind.i64.wrap (p.b * 3) = p.b * 3 := IntWalk.i64_in _ (by omega)
        have hwc : IntKind.u8.wrap p.c = p.c % 256 := by rw [IntKind.wrap_u8]
        have hwc2 : IntKind.i64.wrap (p.c % 256) = p.c % 256 := IntWalk.i64_in _ (by omega)
        have hwc3 : IntKind.i64.wrap (p.c % 256 % 63) = p.c % 256 % 63 := IntWalk.i64_in _ (by omega)
        have hwc4 : IntKind.i64.wrap (1 + p.c % 256 % 63) = 1 + p.c % 256 % 63 := IntWalk.i64_in _ (by omega)
        have hk97 : IntKind.i64.wrap (97 + (k : Int)) = 97 + (k : Int) := IntWalk.i64_in _ (by omega)
        have hku : IntKind.u8.wrap (97 + (k : Int)) = 97 + (k : Int) := by rw [IntKind.wrap_u8]; omega
        have hlk : (k : Int) < (l.length : Int) := by omega
        have HOwn := Lib.hid hown
        have HB := Lib.hid hb
        have HBS := Lib.hid hbs
        clear hpp d0 d1 d2 hown hb hbs p1 p2 p3 p4 p5 p6
        go_wp2_with fail
        refine ord_start (Below w.heap.size wr) [(0, false), (1, false), (2, false), (3, false), (4, false), (5, false), (6, false), (7, false), (8, false), (9, false), (10, false), (11, false), (12, false), (13, false), (14, false), (15, false), (16, false), (17, false), (18, false), (19, false), (20, false), (21, false), (22, false), (23, false), (24, false), (25, false), (26, false), (27, false), (28, true), (29, true), (30, false)] (by kernel_rfl) (by kernel_rfl) (by kernel_rfl) (fun _ _ _ _ _ h => h) (Below.refl _ _).drew (fun hS0 => ?_)
        iterate 28 (first
          | (refine ord_skip rfl rfl ?_; simp only [Act.put, List.setIfInBounds_toArray, List.set_cons_zero, List.set_cons_succ])
          | (refine ord_take (v := ?_) rfl rfl ?_ ?_
             rotate_left 1
             focus (intro W hW; have hcW := bcellB hW; (go_simp <;> with_reducible rfl))
             simp only [Act.put, List.setIfInBounds_toArray, List.set_cons_zero, List.set_cons_succ]))
        refine ord_call rfl rfl (fun K hK => ?_)
        go_simp
        refine hK.out _ _ (hS0.alloc HBS.out _) (fun hS1 => ?_)
        try simp only [Act.put, List.setIfInBounds_toArray, List.set_cons_zero, List.set_cons_succ]
        refine ord_call rfl rfl (fun K hK => ?_)
        refine wp_appS (enc := encT) (R := RTp) _ _ 33 rfl w.heap.size 82 i0 _ 4 32 Try.underlying33 hi hz0 hz1 hz2 rfl (by decide) _ T.length (T.flatMap encT) rfl ((show wr.drew.ownsRow w.heap.size 82 4 _ T.length (T.flatMap encT) from HOwn.out).alloc _) (some ⟨wr.heap.size, 0, none⟩) 1 [tapAt k p] rfl (slr_blk (enc := encT) (Blk.new_ (w := wr.drew) rfl) (fun _ => rfl) (fun _ => rfl)) (fun _ _ _ h => h) (fun _ => rfl) (fun u hu => by simp [encT] at hu; rcases hu with rfl | rfl | rfl | rfl <;> rfl) (by simp; omega) (by decide) (by have := HBS.out; show w.heap.size ≤ (wr.drew.alloc _).heap.size; simp; exact Nat.le_succ_of_le this) ?_
        intro v4 w4 hown4 hb4 ha4
        refine hK.out _ _ (hS1.trans hb4) (fun hS2 => ?_)
        try simp only [Act.put, List.setIfInBounds_toArray, List.set_cons_zero, List.set_cons_succ]
        iterate 1 (first
          | (refine ord_skip rfl rfl ?_; simp only [Act.put, List.setIfInBounds_toArray, List.set_cons_zero, List.set_cons_succ])
          | (refine ord_take (v := ?_) rfl rfl ?_ ?_
             rotate_left 1
             focus (intro W hW; have hcW := bcellB hW; (go_simp <;> with_reducible rfl))
             simp only [Act.put, List.setIfInBounds_toArray, List.set_cons_zero, List.set_cons_succ]))
        refine ord_nil ?_
        go_wp2_with fail
        go_roundw
        case rel => exact ⟨k + 1, T ++ [tapAt k p], by omega, by omega, (by show T ++ _ = _; rw [HP.out, ← HT.out]), by simp; omega, by go_num, by rw [enc_snoc, List.length_append]; simpa using hown4, HB.out.trans hS2⟩
        case measure => simp [intOf]; omega
      · have HF : Hid (tapsL l = T) := by
          show tapsL l = T
          unfold tapsL
          rw [show min l.length 6 = k by omega, HT.out]
        obtain ⟨A3, cap, rfl, hcap, hcm, hslr⟩ := own_slr (R := RTp) hown (fun _ => rfl) (fun _ => rfl) rfl
        go_wp2_with fail
        go_ret
        exact ⟨A3, cap, by rw [HF.out]; rfl, by rw [HF.out]; exact hslr, hb⟩
    · have HF : Hid (tapsL l = T) := by
        show tapsL l = T
        unfold tapsL
        rw [show min l.length 6 = k by omega, HT.out]
      obtain ⟨A3, cap, rfl, hcap, hcm, hslr⟩ := own_slr (R := RTp) hown (fun _ => rfl) (fun _ => rfl) rfl
      go_wp2_with fail
      go_ret
      exact ⟨A3, cap, by rw [HF.out]; rfl, by rw [HF.out]; exact hslr, hb⟩
end Go.Proofs.Ytpjecpefbfobdaa
