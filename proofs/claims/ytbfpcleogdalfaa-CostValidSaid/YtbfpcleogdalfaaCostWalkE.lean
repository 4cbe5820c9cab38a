/-
  The walks of layer 11: which models are valid (the program).
-/
import Derived.Test.YtbfpcleogdalfaaCostWalkD
namespace Go.Proofs.Ytbfpcleogdalfaa
open Go Go.RowKit

def IncAt (ws : List ByteArray) (k : Nat) : Prop := ∀ j x y, j + 1 < k → ws[j]? = some x → ws[j + 1]? = some y → ltS x y = true
def incW : List ByteArray → Bool
  | [] => true
  | [_] => true
  | x :: y :: l => ltS x y && incW (y :: l)
theorem incW_iff (ws : List ByteArray) : incW ws = true ↔ IncAt ws ws.length := by
  induction ws with
  | nil => simp [incW, IncAt]
  | cons x l ih =>
    cases l with
    | nil => simp [incW, IncAt]
    | cons y l =>
      rw [incW, Bool.and_eq_true, ih]
      constructor
      · rintro ⟨h1, h2⟩ j a b hj ha hb
        cases j with
        | zero => simp at ha hb; subst ha hb; exact h1
        | succ j => exact h2 j a b (by simp at hj ⊢; omega) (by simpa using ha) (by simpa using hb)
      · intro h
        exact ⟨h 0 x y (by simp) (by simp) (by simp), fun j a b hj ha hb => h (j + 1) a b (by simp at hj ⊢; omega) (by simpa using ha) (by simpa using hb)⟩
def WsOK (ws : List ByteArray) : Prop := (1 ≤ ws.length ∧ ws.length ≤ 200) ∧ (∀ s ∈ ws, wordS s = true) ∧ incW ws = true
instance (ws : List ByteArray) : Decidable (WsOK ws) := by unfold WsOK; infer_instance
def WsTo (ws : List ByteArray) (k : Nat) : Prop := (∀ s ∈ ws.take k, wordS s = true) ∧ IncAt ws k
theorem WsTo.zero (ws : List ByteArray) : WsTo ws 0 := ⟨by simp, fun _ _ _ h => absurd h (by omega)⟩
theorem WsTo.one {ws : List ByteArray} {x : ByteArray} (hx : ws[0]? = some x) (h : wordS x = true) : WsTo ws 1 := by
  refine ⟨?_, fun _ _ _ h => absurd h (by omega)⟩
  rw [take_succ_of hx]
  intro s hs
  simp at hs
  rw [hs]; exact h
theorem WsTo.succ {ws : List ByteArray} {j : Nat} {x y : ByteArray} (h : WsTo ws (j + 1)) (hx : ws[j]? = some x) (hy : ws[j + 1]? = some y) (hw : wordS y = true) (hl : ltS x y = true) : WsTo ws (j + 1 + 1) := by
  refine ⟨?_, fun i a b hi ha hb => ?_⟩
  · rw [take_succ_of hy]
    intro s hs
    rcases List.mem_append.1 hs with hs | hs
    · exact h.1 s hs
    · rw [List.mem_singleton.1 hs]; exact hw
  · by_cases e : i = j
    · subst e
      rw [hx] at ha; rw [hy] at hb
      rw [← Option.some.inj ha, ← Option.some.inj hb]; exact hl
    · exact h.2 i a b (by omega) ha hb
theorem WsTo.all {ws : List ByteArray} {k : Nat} (h : WsTo ws k) (hk : k = ws.length) (h1 : 1 ≤ ws.length) (h2 : ws.length ≤ 200) : WsOK ws := by
  subst hk
  refine ⟨⟨h1, h2⟩, ?_, (incW_iff ws).2 h.2⟩
  have := h.1
  rwa [List.take_length] at this
theorem WsOK.not_word {ws : List ByteArray} {k : Nat} {x : ByteArray} (hx : ws[k]? = some x) (h : wordS x = false) : ¬ WsOK ws := fun hok => by
  have := hok.2.1 x (List.mem_of_getElem? hx)
  rw [h] at this; cases this
theorem WsOK.not_inc {ws : List ByteArray} {j : Nat} {x y : ByteArray} (hx : ws[j]? = some x) (hy : ws[j + 1]? = some y) (h : ltS x y = false) : ¬ WsOK ws := fun hok => by
  obtain ⟨hlt, _⟩ := List.getElem?_eq_some_iff.1 hy
  have := (incW_iff ws).1 hok.2.2 j x y (by omega) hx hy
  rw [h] at this; cases this

set_option maxHeartbeats 1000000 in
theorem validWords_any (A : Option Addr) (xs : List ByteArray) (c : Nat) (w : World) (hx : SlR 1 RStr w A xs) (hl : xs.length ≤ 65536) (hs : ∀ s ∈ xs, s.size ≤ maxLen) :
    Calls Try.prog 38 #[.slice A xs.length c] w fun e w' => e = .returned (.bool (decide (WsOK xs))) ∧ w = w' := by
  by_cases h1 : 1 ≤ xs.length
  · by_cases h2 : xs.length ≤ 200
    · have HL := Lib.hid hl
      go_enter Try.func38, Try.ntmps38
      go_wp2_with fail
      go_loop [3, 4, 15] (fun _ _ i => ∃ k : Nat, k ≤ xs.length ∧ WsTo xs k ∧ i = .int .i64 k) (fun _ _ i => xs.length - (intOf i).toNat)
      case atStart => exact ⟨0, by omega, WsTo.zero _, rfl⟩
      case round =>
        obtain ⟨k, hk, hs', rfl⟩ := hrel
        have HS := Lib.hid hs'
        clear hs'
        by_cases hlt : k < xs.length
        · obtain ⟨b, off, x, rfl, hbb, hxx, hc⟩ := hx.str hlt
          have hxs := hs x (List.mem_of_getElem? hxx)
          have HX := Lib.hid hxx
          clear hxx
          by_cases hw : wordS x = true
          · rcases k with _ | j
            · simp only [Nat.add_zero] at hc
              go_wp2_with (go_at_call 45; refine (word_any _ _ hxs).mono ?_; rintro e w' ⟨rfl, rfl⟩)
              go_round
              case rel => exact ⟨1, by omega, WsTo.one HX.out hw, by go_num⟩
              case measure => simp [intOf]; omega
            · obtain ⟨b', off', y, he, hbb', hyy, hc'⟩ := hx.str (k := j) (by omega)
              simp only [Option.some.injEq, Addr.mk.injEq, and_true] at he
              obtain ⟨rfl, rfl⟩ := he
              have HY := Lib.hid hyy
              clear hyy
              cases hlt' : ltS y x
              · have hge : Op.bytesLess y.toList x.toList = false := hlt'
                go_wp2_with (go_at_call 45; refine (word_any _ _ hxs).mono ?_; rintro e w' ⟨rfl, rfl⟩)
                go_ret
                exact ⟨ret_bool (decide_eq_false (WsOK.not_inc HY.out HX.out hlt')).symm, rfl⟩
              · have hge : Op.bytesLess y.toList x.toList = true := hlt'
                go_wp2_with (go_at_call 45; refine (word_any _ _ hxs).mono ?_; rintro e w' ⟨rfl, rfl⟩)
                go_round
                case rel => exact ⟨j + 1 + 1, by omega, HS.out.succ HY.out HX.out hw hlt', by go_num⟩
                case measure => simp [intOf]; omega
          · have hw' : wordS x = false := by simpa using hw
            clear hw
            go_wp2_with (go_at_call 45; refine (word_any _ _ hxs).mono ?_; rintro e w' ⟨rfl, rfl⟩)
            go_ret
            exact ⟨ret_bool (decide_eq_false (WsOK.not_word HX.out hw')).symm, rfl⟩
        · go_wp2_with fail
          go_ret
          exact ⟨ret_bool (decide_eq_true (HS.out.all (by omega) h1 h2)).symm, rfl⟩
    · go_enter Try.func38, Try.ntmps38
      go_wp2_with fail
      go_ret
      exact ⟨ret_bool (decide_eq_false (fun h => h2 h.1.2)).symm, rfl⟩
  · go_enter Try.func38, Try.ntmps38
    go_wp2_with fail
    go_ret
    exact ⟨ret_bool (decide_eq_false (fun h => h1 h.1.1)).symm, rfl⟩
end Go.Proofs.Ytbfpcleogdalfaa
