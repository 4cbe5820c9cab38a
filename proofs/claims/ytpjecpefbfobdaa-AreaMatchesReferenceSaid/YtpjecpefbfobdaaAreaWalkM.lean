/-
  The walks of layer 21: validAreas, Valid.
-/
import Derived.Test.YtpjecpefbfobdaaAreaWalkL
namespace Go.Proofs.Ytpjecpefbfobdaa
open Go Go.RowKit Go.Lib

theorem slr_take {α : Type} {s : Nat} {R : World → α → List Value → Prop} {w : World} {A : Option Addr} {xs : List α} (h : SlR s R w A xs) (k : Nat) : SlR s R w A (xs.take k) := fun hn => by
  obtain ⟨b, off, rfl, hlt, hc⟩ := h (by rintro rfl; simp at hn)
  refine ⟨b, off, rfl, hlt, fun j x hx => hc j x ?_⟩
  rw [List.getElem?_take] at hx
  split at hx
  · exact hx
  · cases hx
def noMeetTo (us : List Ar) : Nat → Bool
  | 0 => true
  | k + 1 => noMeetTo us k && (match us[k]? with | some a => !(us.take k).any (meetB a) | none => true)
def areasB (us : List Ar) : Bool := fitsB us && noMeetTo us us.length
theorem noMeet_mono {us : List Ar} {k m : Nat} (h : noMeetTo us k = false) (hm : k ≤ m) : noMeetTo us m = false := by
  induction m with
  | zero => have : k = 0 := by omega
            subst this; exact h
  | succ m ih =>
    rcases Nat.lt_or_ge m k with h1 | h1
    · have : k = m + 1 := by omega
      subst this; exact h
    · unfold noMeetTo; rw [ih h1]; rfl

set_option maxRecDepth 100000 in
set_option maxHeartbeats 4000000 in
theorem validAreas_any (A : Option Addr) (us : List Ar) (c : Nat) (w : World) (hx : SlR 5 RAr w A us) (hl : us.length ≤ 65536) (hc : us.length ≤ c) (hcm : c ≤ maxLen) :
    Calls Try.prog 47 #[.slice A us.length c] w fun e w' => e = .returned (.bool (areasB us)) ∧ Below w.heap.size w w' := by
  unfold maxLen at hcm
  have HF := Lib.hid (fitsA_any A us c w.heap.size (w.alloc (.cells #[.func (.func 63) #[] #[], .func (.func 65) #[] #[], .func (.func 66) #[] #[]] 94)) (hx.below keeps_ar (nw _ (Below.refl _ _))) hl (Blk.new _ _ _))
  have HA : Hid (areasB us = (fitsB us && noMeetTo us us.length)) := rfl
  cases hf : fitsB us with
  | false =>
    rw [hf] at HF HA
    clear hf
    go_enter Try.func47, Try.ntmps47
    go_wp2_with (go_at_call 67; refine HF.out.mono ?_; rintro e w1 ⟨rfl, hb1⟩)
    go_ret
    exact ⟨ret_bool (by rw [HA.out]; rfl), unbox (bx hb1)⟩
  | true =>
    rw [hf] at HF HA
    clear hf
    go_enter Try.func47, Try.ntmps47
    go_wp2_with (go_at_call 67; refine HF.out.mono ?_; rintro e w1 ⟨rfl, hb1⟩; have hbw1 := unbox (bx hb1); have HB1 := Lib.hid hbw1; clear hb1 hbw1)
    go_loopw [19] (fun i wr => ∃ k : Nat, k ≤ us.length ∧ Hid (noMeetTo us k = true) ∧ i = .int .i64 k ∧ Below w.heap.size w wr) (fun i _ => us.length - (intOf i).toNat)
    case atStart => exact ⟨0, by omega, rfl, rfl, HB1.out⟩
    case round =>
      obtain ⟨k, hk, HS, rfl, hb⟩ := hrel
      by_cases hlt : k < us.length
      · obtain ⟨b, off, a, rfl, hbb, haa, d0, d1, d2, d3, d4⟩ := (hx.below keeps_ar hb).ar hlt
        have hbs := hb.size
        have HN : Hid (noMeetTo us (k + 1) = !(us.take k).any (meetB a)) := by
          show noMeetTo us (k + 1) = _
          unfold noMeetTo; rw [HS.out, haa]; rfl
        have htl : (us.take k).length = k := by rw [List.length_take]; omega
        have hC := contains_any a wr.heap.size (some ⟨b, off, none⟩) (us.take k) c (wr.alloc (.cells #[.int .u8 a.key, .int .i64 a.x0, .int .i64 a.y0, .int .i64 a.x1, .int .i64 a.y1] 57)) (slr_take (hx.below keeps_ar (nw _ hb)) k) (by omega) (Blk.new _ _ _)
        rw [htl] at hC
        have HC := Lib.hid hC
        clear hC haa htl
        have hkc : (k : Int) ≤ (c : Int) := by omega
        generalize (us.take k).any (meetB a) = q at *
        cases q with
        | true =>
          have HE : Hid (areasB us = false) := by show areasB us = false; rw [HA.out, noMeet_mono (by rw [HN.out]; rfl) (show k + 1 ≤ us.length by omega)]; rfl
          go_wp2_with (go_at_call 68; refine HC.out.mono ?_; rintro e w2 ⟨rfl, hb2⟩)
          go_ret
          exact ⟨ret_bool HE.out.symm, hb.trans ((unbox (bx hb2)).mono hbs)⟩
        | false =>
          go_wp2_with (go_at_call 68; refine HC.out.mono ?_; rintro e w2 ⟨rfl, hb2⟩)
          go_roundw
          case rel => exact ⟨k + 1, by omega, HN.out, by go_num, hb.trans ((unbox (bx hb2)).mono hbs)⟩
          case measure => simp [intOf]; omega
      · obtain rfl : k = us.length := by omega
        go_wp2_with fail
        go_ret
        exact ⟨ret_bool (by rw [HA.out, HS.out]; rfl), hb⟩

theorem templates_nil_all (A : Option Addr) (c : Nat) (B : Option Addr) (n m : Nat) (w : World) : Calls Try.prog 90 #[.slice A 0 c, .slice B n m] w fun e w' => e = .returned (.bool true) ∧ w = w' := by
  go_enter Try.func90, Try.ntmps90
  go_wp2_with fail
  refine wp_loop_rounds 1 ?_
  rw [rounds_succ]
  go_wp2_with fail
  go_ret
  exact ⟨rfl, rfl⟩

theorem templates_nil_inc (A : Option Addr) (c : Nat) (v : Value) (w : World) : Calls Try.prog 91 #[.slice A 0 c, v] w fun e w' => e = .returned (.bool true) ∧ w = w' := by
  go_enter Try.func91, Try.ntmps91
  go_wp2_with fail
  refine wp_loop_rounds 1 ?_
  rw [rounds_succ]
  go_wp2_with fail
  go_ret
  exact ⟨rfl, rfl⟩

theorem templates_nil_fits (A : Option Addr) (c : Nat) (v : Value) (B : Option Addr) (n m : Nat) (w : World) : Calls Try.prog 76 #[.slice A 0 c, v, .slice B n m] w fun e w' => e = .returned (.bool true) ∧ w = w' := by
  go_enter Try.func76, Try.ntmps76
  go_wp2_with (first | (go_at_call 90; refine (templates_nil_all _ _ _ _ _ _).mono ?_; rintro e w1 ⟨rfl, rfl⟩) | (go_at_call 91; refine (templates_nil_inc _ _ _ _).mono ?_; rintro e w1 ⟨rfl, rfl⟩))
  go_ret
  exact ⟨rfl, rfl⟩
theorem templates_nil (A : Option Addr) (c : Nat) (w : World) : Calls Try.prog 48 #[.slice A 0 c] w fun e w' => e = .returned (.bool true) ∧ Below w.heap.size w w' := by
  go_enter Try.func48, Try.ntmps48
  go_wp2_with (go_at_call 76; refine (templates_nil_fits _ _ _ _ _ _ _).mono ?_; rintro e w1 ⟨rfl, rfl⟩)
  go_ret
  exact ⟨rfl, nw _ (Below.refl _ _)⟩

theorem chords_nil_all (A : Option Addr) (c : Nat) (B : Option Addr) (n m : Nat) (w : World) : Calls Try.prog 93 #[.slice A 0 c, .slice B n m] w fun e w' => e = .returned (.bool true) ∧ w = w' := by
  go_enter Try.func93, Try.ntmps93
  go_wp2_with fail
  refine wp_loop_rounds 1 ?_
  rw [rounds_succ]
  go_wp2_with fail
  go_ret
  exact ⟨rfl, rfl⟩

theorem chords_nil_inc (A : Option Addr) (c : Nat) (v : Value) (w : World) : Calls Try.prog 94 #[.slice A 0 c, v] w fun e w' => e = .returned (.bool true) ∧ w = w' := by
  go_enter Try.func94, Try.ntmps94
  go_wp2_with fail
  refine wp_loop_rounds 1 ?_
  rw [rounds_succ]
  go_wp2_with fail
  go_ret
  exact ⟨rfl, rfl⟩

theorem chords_nil_fits (A : Option Addr) (c : Nat) (v : Value) (B : Option Addr) (n m : Nat) (w : World) : Calls Try.prog 83 #[.slice A 0 c, v, .slice B n m] w fun e w' => e = .returned (.bool true) ∧ w = w' := by
  go_enter Try.func83, Try.ntmps83
  go_wp2_with (first | (go_at_call 93; refine (chords_nil_all _ _ _ _ _ _).mono ?_; rintro e w1 ⟨rfl, rfl⟩) | (go_at_call 94; refine (chords_nil_inc _ _ _ _).mono ?_; rintro e w1 ⟨rfl, rfl⟩))
  go_ret
  exact ⟨rfl, rfl⟩
theorem chords_nil (A : Option Addr) (c : Nat) (w : World) : Calls Try.prog 49 #[.slice A 0 c] w fun e w' => e = .returned (.bool true) ∧ Below w.heap.size w w' := by
  go_enter Try.func49, Try.ntmps49
  go_wp2_with (go_at_call 83; refine (chords_nil_fits _ _ _ _ _ _ _).mono ?_; rintro e w1 ⟨rfl, rfl⟩)
  go_ret
  exact ⟨rfl, nw _ (Below.refl _ _)⟩

set_option maxRecDepth 100000 in
set_option maxHeartbeats 4000000 in
/-- Valid, where it is known what is said of the templates and of the chords. -/
theorem valid_by (A B C : Option Addr) (us : List Ar) (n m c c2 c3 : Nat) (w : World) (bt bc : Bool) (hx : SlR 5 RAr w A us) (hl : us.length ≤ 65536) (hc : us.length ≤ c) (hcm : c ≤ maxLen)
    (hT : ∀ W, Below w.heap.size w W → Calls Try.prog 48 #[.slice B n c2] W fun e w' => e = .returned (.bool bt) ∧ Below W.heap.size W w')
    (hC : ∀ W, Below w.heap.size w W → Calls Try.prog 49 #[.slice C m c3] W fun e w' => e = .returned (.bool bc) ∧ Below W.heap.size W w') :
    Calls Try.prog 23 #[.agg #[.slice A us.length c, .slice B n c2, .slice C m c3]] w fun e w' => e = .returned (.bool (areasB us && bt && bc)) ∧ Below w.heap.size w w' := by
  have HV := Lib.hid (validAreas_any A us c (w.alloc (.cells #[.slice A us.length c, .slice B n c2, .slice C m c3] 31)) (hx.below keeps_ar (nw _ (Below.refl _ _))) hl hc hcm)
  have HT : Hid (∀ W, Below (w.heap.size + 1) (w.alloc (.cells #[.slice A us.length c, .slice B n c2, .slice C m c3] 31)) W → Calls Try.prog 48 #[.slice B n c2] W fun e w' => e = .returned (.bool bt) ∧ Below W.heap.size W w') := fun W hW => hT W (unbox hW)
  have HC : Hid (∀ W, Below (w.heap.size + 1) (w.alloc (.cells #[.slice A us.length c, .slice B n c2, .slice C m c3] 31)) W → Calls Try.prog 49 #[.slice C m c3] W fun e w' => e = .returned (.bool bc) ∧ Below W.heap.size W w') := fun W hW => hC W (unbox hW)
  clear hx hT hC
  generalize areasB us = ba at *
  cases ba with
  | false =>
    go_enter Try.func23, Try.ntmps23
    go_wp2_with (go_at_call 47; refine HV.out.mono ?_; rintro e w1 ⟨rfl, hb1⟩)
    go_ret
    exact ⟨rfl, unbox (bx hb1)⟩
  | true =>
    cases bt with
    | false =>
      go_enter Try.func23, Try.ntmps23
      go_wp2_with (first | (go_at_call 47; refine HV.out.mono ?_; rintro e w1 ⟨rfl, hb1⟩; have hb1' := bx hb1; have k1 := box_cell hb1' 1; have k2 := box_cell hb1' 2; have hs1 := box_size hb1'; simp at k1 k2) | (go_at_call 48; refine (HT.out _ hb1').mono ?_; rintro e w2 ⟨rfl, hb2⟩))
      go_ret
      exact ⟨rfl, unbox (hb1'.trans (hb2.mono (by omega)))⟩
    | true =>
      go_enter Try.func23, Try.ntmps23
      go_wp2_with (first | (go_at_call 47; refine HV.out.mono ?_; rintro e w1 ⟨rfl, hb1⟩; have hb1' := bx hb1; have k1 := box_cell hb1' 1; have k2 := box_cell hb1' 2; have hs1 := box_size hb1'; simp at k1 k2) | (go_at_call 48; refine (HT.out _ hb1').mono ?_; rintro e w2 ⟨rfl, hb2⟩; have hb2' := hb1'.trans (hb2.mono (by omega)); have k3 := box_cell hb2' 2; have hs2 := box_size hb2'; simp at k3) | (go_at_call 49; refine (HC.out _ hb2').mono ?_; rintro e w3 ⟨rfl, hb3⟩))
      go_ret
      exact ⟨ret_bool (by simp), unbox (hb2'.trans (hb3.mono (by omega)))⟩
end Go.Proofs.Ytpjecpefbfobdaa
