/-
  The walks of layer 11: which models are valid (the reference): words and counts.
-/
import Derived.Test.YtcimnkijpifkjaaQ09
namespace Go.Proofs.Ytcimnkijpifkjaa
open Go Go.RowKit

/-- What the reference's loop over words and counts has seen. -/
def CsR (cs : List Int) (k : Nat) : Prop := ∀ c ∈ cs.take k, 0 ≤ c ∧ c ≤ 1073741824
theorem CsR.succ {cs : List Int} {k : Nat} {x : Int} (h : CsR cs k) (hx : cs[k]? = some x) (h0 : inB x 0 1073741824 = true) : CsR cs (k + 1) := by
  unfold CsR
  rw [take_succ_of hx]
  intro c hc
  rcases List.mem_append.1 hc with hc | hc
  · exact h c hc
  · rw [List.mem_singleton.1 hc]; unfold inB at h0; simp at h0; exact h0
def WCsOK (ws : List ByteArray) (cs : List Int) : Prop := WsOK ws ∧ CsOK cs ws.length
instance (ws : List ByteArray) (cs : List Int) : Decidable (WCsOK ws cs) := by unfold WCsOK; infer_instance

set_option maxRecDepth 100000 in
set_option maxHeartbeats 4000000 in
theorem words_any (A B : Option Addr) (xs : List ByteArray) (ys : List Int) (c d : Nat) (v2 v3 : Value) (w : World) (hx : SlR 1 RStr w A xs) (hy : SlR 1 RInt w B ys) (hl : xs.length ≤ 65536) (hl2 : ys.length ≤ 65536)
    (hs : ∀ s ∈ xs, s.size ≤ maxLen) :
    Calls Try.prog 59 #[.agg #[.slice A xs.length c, .slice B ys.length d, v2, v3]] w fun e w' => e = .returned (.bool (decide (WCsOK xs ys))) ∧ Below w.heap.size w w' := by
  by_cases h1 : inB (xs.length : Int) 1 200 = true
  · by_cases h2 : ys.length = xs.length
    · have HI := Lib.hid h1
      have H2 := Lib.hid h2
      rw [h2]
      clear h2
      go_enter Try.func59, Try.ntmps59
      go_wp2_with (go_at_call 36; refine (in_any _ _ _ _).mono ?_; rintro e w' ⟨rfl, rfl⟩)
      clear h1
      go_loopw [4, 18] (fun i _ wr => ∃ k nd : Nat, k ≤ xs.length ∧ WsTo xs k ∧ CsR ys k ∧ i = .int .i64 k ∧ wr = (w.alloc (.cells #[.slice A xs.length c, .slice B xs.length d, v2, v3] 34)).drewN nd) (fun i _ _ => xs.length - (intOf i).toNat)
      case atStart => exact ⟨0, 0, by omega, WsTo.zero _, fun _ h => by simp at h, rfl, rfl⟩
      case round =>
        obtain ⟨k, nd, hk, hW, hC, rfl, rfl⟩ := hrel
        have HW := Lib.hid hW
        have HC := Lib.hid hC
        clear hW hC
        by_cases hlt : k < xs.length
        · obtain ⟨b, off, x, rfl, hbb, hxx, hcx⟩ := hx.str hlt
          obtain ⟨b', off', y, rfl, hbb', hyy, hcy⟩ := hy.int (k := k) (by have := H2.out; omega)
          have hxs := hs x (List.mem_of_getElem? hxx)
          have HX := Lib.hid hxx
          have HY := Lib.hid hyy
          clear hxx hyy
          cases hwx : wordS x
          · have HN := Lib.hid hwx
            go_wp2_with fail
            go_quiet (first
              | (go_at_call 83; exact quiet_al (refword_any _ _ hxs))
              | (go_at_call 36; exact quiet_al (in_any _ _ _ _)))
            go_wp2_with fail
            go_ret
            exact ⟨ret_bool (decide_eq_false (fun h => WsOK.not_word HX.out HN.out h.1)).symm, below_drewN (below_drewN ((Below.refl _ _).alloc (Nat.le_refl _) _) _) _⟩
          · have HN := Lib.hid hwx
            cases hiy : inB y 0 1073741824
            · have HI2 := Lib.hid hiy
              go_wp2_with fail
              go_quiet (first
                | (go_at_call 83; exact quiet_al (refword_any _ _ hxs))
                | (go_at_call 36; exact quiet_al (in_any _ _ _ _)))
              go_wp2_with fail
              go_ret
              exact ⟨ret_bool (decide_eq_false (fun h => by
                have := h.2.2.1 y (List.mem_of_getElem? HY.out)
                have h2 := HI2.out
                unfold inB at h2; simp at h2; omega)).symm, below_drewN (below_drewN ((Below.refl _ _).alloc (Nat.le_refl _) _) _) _⟩
            · have HI2 := Lib.hid hiy
              rcases k with _ | j
              · simp only [Nat.add_zero] at hcx hcy
                go_wp2_with fail
                go_quiet (first
                  | (go_at_call 83; exact quiet_al (refword_any _ _ hxs))
                  | (go_at_call 36; exact quiet_al (in_any _ _ _ _)))
                go_wp2_with fail
                go_roundw
                case rel => exact ⟨1, _, by omega, WsTo.one HX.out HN.out, HC.out.succ HY.out HI2.out, by go_num, rfl⟩
                case measure => simp [intOf]; omega
              · obtain ⟨b1, off1, z, he, hbb1, hzz, hcz⟩ := hx.str (k := j) (by omega)
                simp only [Option.some.injEq, Addr.mk.injEq, and_true] at he
                obtain ⟨rfl, rfl⟩ := he
                have HZ := Lib.hid hzz
                clear hzz
                cases hlt' : ltS z x
                · have hge : Op.bytesLess z.toList x.toList = false := hlt'
                  have HG := Lib.hid hlt'
                  clear hlt'
                  go_wp2_with fail
                  go_quiet (first
                    | (go_at_call 83; exact quiet_al (refword_any _ _ hxs))
                    | (go_at_call 36; exact quiet_al (in_any _ _ _ _)))
                  go_wp2_with fail
                  go_ret
                  exact ⟨ret_bool (decide_eq_false (fun h => WsOK.not_inc HZ.out HX.out HG.out h.1)).symm, below_drewN (below_drewN ((Below.refl _ _).alloc (Nat.le_refl _) _) _) _⟩
                · have hge : Op.bytesLess z.toList x.toList = true := hlt'
                  have HG := Lib.hid hlt'
                  clear hlt'
                  go_wp2_with fail
                  go_quiet (first
                    | (go_at_call 83; exact quiet_al (refword_any _ _ hxs))
                    | (go_at_call 36; exact quiet_al (in_any _ _ _ _)))
                  go_wp2_with fail
                  go_roundw
                  case rel => exact ⟨j + 1 + 1, _, by omega, HW.out.succ HZ.out HX.out HN.out HG.out, HC.out.succ HY.out HI2.out, by go_num, rfl⟩
                  case measure => simp [intOf]; omega
        · obtain rfl : k = xs.length := by omega
          have hB : Below w.heap.size w ((w.alloc (.cells #[.slice A xs.length c, .slice B xs.length d, v2, v3] 34)).drewN nd) := below_drewN ((Below.refl _ _).alloc (Nat.le_refl _) _) _
          have HT := Lib.hid (show Calls Try.prog 45 #[.slice B xs.length d] ((w.alloc (.cells #[.slice A xs.length c, .slice B xs.length d, v2, v3] 34)).drewN nd) fun e w' => e = .returned (.int .i64 (total ys)) ∧ ((w.alloc (.cells #[.slice A xs.length c, .slice B xs.length d, v2, v3] 34)).drewN nd) = w' by
            have := total_any B ys d _ (hy.below keeps_int hB) hl2 (fun x hx => by
              have := HC.out x (by rw [List.take_of_length_le (by have := H2.out; omega)]; exact hx)
              omega)
            rwa [H2.out] at this)
          go_wp2_with (go_at_call 45; refine HT.out.mono ?_; rintro e w' ⟨rfl, rfl⟩)
          go_ret
          refine ⟨ret_bool ?_, hB⟩
          rw [decide_eq_decide]
          have hi := HI.out
          unfold inB at hi
          simp at hi
          have hCC := HC.out
          unfold CsR at hCC
          rw [List.take_of_length_le (by have := H2.out; omega)] at hCC
          exact ⟨fun h => ⟨HW.out.all rfl (by omega) (by omega), H2.out, hCC, h⟩, fun h => h.2.2.2⟩
    · go_enter Try.func59, Try.ntmps59
      go_wp2_with (go_at_call 36; refine (in_any _ _ _ _).mono ?_; rintro e w' ⟨rfl, rfl⟩)
      go_ret
      exact ⟨ret_bool (decide_eq_false (fun h => h2 h.2.1)).symm, (Below.refl _ _).alloc (Nat.le_refl _) _⟩
  · have h1' : inB (xs.length : Int) 1 200 = false := by simpa using h1
    have HI := Lib.hid h1
    clear h1
    go_enter Try.func59, Try.ntmps59
    go_wp2_with (go_at_call 36; refine (in_any _ _ _ _).mono ?_; rintro e w' ⟨rfl, rfl⟩)
    go_ret
    exact ⟨ret_bool (decide_eq_false (fun h => HI.out (by unfold inB; have := h.1.1; simp; omega))).symm, (Below.refl _ _).alloc (Nat.le_refl _) _⟩
end Go.Proofs.Ytcimnkijpifkjaa
