/-
  CostWalkC, CostWalkD, CostWalkE, joined. No conditions.
-/
import Derived.Test.YtfjkmgjjifhdkaaGreatR27
import Derived.WalkSpells
import Derived.Deep.QuietTactic
import Derived.BigQuiet
import Derived.WalkLawsBesides
/-
  The walks of layer 11: words, searches, comparisons of lists.
-/
namespace Go.Proofs.YtfjkmgjjifhdkaaGreat
open Go Go.RowKit

/-! letters and digits -/
def plainB (c : Int) : Bool := (decide (97 ≤ c) && decide (c ≤ 122)) || (decide (65 ≤ c) && decide (c ≤ 90)) || (decide (48 ≤ c) && decide (c ≤ 57))
def plainS (s : ByteArray) : Bool := s.data.toList.all fun c => plainB (c.toNat : Int)
def PlainTo (s : ByteArray) (k : Nat) : Prop := ∀ i (h : i < s.size), i < k → plainB (s[i].toNat : Int) = true
theorem plainS_true {s : ByteArray} (h : PlainTo s s.size) : plainS s = true := by
  unfold plainS
  rw [List.all_eq_true]
  intro c hc
  obtain ⟨i, hi, rfl⟩ := List.getElem_of_mem hc
  have hi' : i < s.size := by simpa using hi
  exact h i hi' hi'
theorem plainS_false {s : ByteArray} {k : Nat} (hk : k < s.size) (h : plainB (s[k].toNat : Int) = false) : plainS s = false := by
  unfold plainS
  rw [List.all_eq_false]
  exact ⟨s[k], List.getElem_mem (l := s.data.toList) (by simpa using hk), by rw [h]; decide⟩
theorem PlainTo.succ {s : ByteArray} {k : Nat} (h : PlainTo s k) (hk : k < s.size) (hp : plainB (s[k].toNat : Int) = true) : PlainTo s (k + 1) := fun i hi hik => by
  by_cases e : i = k
  · subst e; exact hp
  · exact h i hi (by omega)
theorem byte_ranges (c : Int) : c < 48 ∨ (48 ≤ c ∧ c ≤ 57) ∨ (57 < c ∧ c < 65) ∨ (65 ≤ c ∧ c ≤ 90) ∨ (90 < c ∧ c < 97) ∨ (97 ≤ c ∧ c ≤ 122) ∨ 122 < c := by omega

/-- A word: 1 to 20 letters and digits. -/
def wordS (s : ByteArray) : Bool := decide (1 ≤ s.size) && decide (s.size ≤ 20) && plainS s
/-! scheme.class, allKnown, Word -/
def clsI (c : Int) : Int := if 97 ≤ c ∧ c ≤ 122 then 1 else if 65 ≤ c ∧ c ≤ 90 then 2 else if 48 ≤ c ∧ c ≤ 57 then 3 else 0
theorem clsI_plain (c : Int) : plainB c = !(clsI c == 0) := by
  unfold plainB clsI
  rw [Bool.eq_iff_iff]
  split <;> (try split) <;> (try split) <;> simp <;> omega
set_option maxRecDepth 100000 in
set_option maxHeartbeats 1000000 in
theorem class_any (c : Int) (w : World) : Calls Tryz.prog 134 #[.int .u8 c] w fun e w' => e = .returned (.int .i64 (clsI c)) ∧ w = w' := by
  have hr := byte_ranges c
  rcases hr with h | ⟨h, h'⟩ | ⟨h, h'⟩ | ⟨h, h'⟩ | ⟨h, h'⟩ | ⟨h, h'⟩ | h
  all_goals
    go_enter Tryz.func134, Tryz.ntmps134
    go_wp2
    go_ret
    exact ⟨ret_int (by unfold clsI; repeat' split; all_goals omega), rfl⟩
set_option maxRecDepth 100000 in
set_option maxHeartbeats 1000000 in
theorem allKnown_any (s : ByteArray) (w : World) (hs : s.size ≤ maxLen) : Calls Tryz.prog 112 #[.string s] w fun e w' => e = .returned (.bool (plainS s)) ∧ w = w' := by
  unfold maxLen at hs
  go_enter Tryz.func112, Tryz.ntmps112
  go_wp2
  go_loop [3, 6] (fun _ i => ∃ k : Nat, k ≤ s.size ∧ PlainTo s k ∧ i = .int .i64 k) (fun _ i => s.size - (intOf i).toNat)
  case atStart => exact ⟨0, by omega, fun _ _ h => absurd h (by omega), rfl⟩
  case round =>
    obtain ⟨k, hk, hp, rfl⟩ := hrel
    have HP := Lib.hid hp
    clear hp
    by_cases hlt : k < s.size
    · by_cases hz : clsI (s[k].toNat : Int) = 0
      · go_wp2_with (go_at_call 134; refine (class_any _ _).mono ?_; rintro e w' ⟨rfl, rfl⟩)
        go_ret
        exact ⟨ret_bool (plainS_false hlt (by rw [clsI_plain, hz]; rfl)).symm, rfl⟩
      · go_wp2_with (go_at_call 134; refine (class_any _ _).mono ?_; rintro e w' ⟨rfl, rfl⟩)
        go_round
        case rel => exact ⟨k + 1, by omega, HP.out.succ hlt (by rw [clsI_plain]; simpa using hz), by go_num⟩
        case measure => simp [intOf]; omega
    · obtain rfl : k = s.size := by omega
      go_wp2
      go_ret
      exact ⟨ret_bool (plainS_true HP.out).symm, rfl⟩
set_option maxRecDepth 100000 in
set_option maxHeartbeats 400000 in
theorem word_any (s : ByteArray) (w : World) (hs : s.size ≤ maxLen) : Calls Tryz.prog 97 #[.string s] w fun e w' => e = .returned (.bool (wordS s)) ∧ w = w' := by
  by_cases h1 : 1 ≤ s.size
  · by_cases h2 : s.size ≤ 20
    · have HW := Lib.hid (show wordS s = plainS s by unfold wordS; simp; omega)
      go_enter Tryz.func97, Tryz.ntmps97
      go_wp2_with (go_at_call 112; refine (allKnown_any _ _ hs).mono ?_; rintro e w' ⟨rfl, rfl⟩)
      go_ret
      exact ⟨ret_bool HW.out.symm, rfl⟩
    · have HW := Lib.hid (show wordS s = false by unfold wordS; simp; omega)
      go_enter Tryz.func97, Tryz.ntmps97
      go_wp2_with fail
      go_ret
      exact ⟨ret_bool HW.out.symm, rfl⟩
  · have HW := Lib.hid (show wordS s = false by unfold wordS; simp; omega)
    go_enter Tryz.func97, Tryz.ntmps97
    go_wp2_with fail
    go_ret
    exact ⟨ret_bool HW.out.symm, rfl⟩
end Go.Proofs.YtfjkmgjjifhdkaaGreat

/-
  The walks of layer 11: comparisons of lists, validity.
-/
namespace Go.Proofs.YtfjkmgjjifhdkaaGreat
open Go Go.RowKit

def co_SameTo {α : Type} (xs ys : List α) (k : Nat) : Prop := xs.take k = ys.take k
theorem co_SameTo.succ {α : Type} {xs ys : List α} {k : Nat} {x : α} (h : co_SameTo xs ys k) (hx : xs[k]? = some x) (hy : ys[k]? = some x) : co_SameTo xs ys (k + 1) := by
  unfold co_SameTo at *
  rw [take_succ_of hx, take_succ_of hy, h]
theorem co_SameTo.all {α : Type} {xs ys : List α} {k : Nat} (h : co_SameTo xs ys k) (hx : xs.length ≤ k) (hy : ys.length ≤ k) : xs = ys := by
  unfold co_SameTo at h
  rwa [List.take_of_length_le hx, List.take_of_length_le hy] at h
theorem bytes_ne {x y : ByteArray} (h : ¬ x = y) : (x.toList == y.toList) = false := by
  rw [beq_eq_false_iff_ne, ByteArray.toList_eq, ByteArray.toList_eq]
  intro e
  exact h (by cases x; cases y; congr; exact Array.toList_inj.1 e)

set_option maxRecDepth 100000 in
set_option maxHeartbeats 1000000 in
theorem validCounts_any (A : Option Addr) (xs : List Int) (c n : Nat) (w : World) (hx : SlR 1 RInt w A xs) (hl : xs.length ≤ 65536) (hn : n ≤ 65536) :
    Calls Tryz.prog 78 #[.slice A xs.length c, .int .i64 n] w fun e w' => e = .returned (.bool (decide (CsOK xs n))) ∧ w = w' := by
  by_cases hlen : xs.length = n
  · subst hlen
    go_enter Tryz.func78, Tryz.ntmps78
    go_wp2
    go_loop [5, 7, 14] (fun s _ i => ∃ k : Nat, k ≤ xs.length ∧ CsTo xs k ∧ i = .int .i64 k ∧ s = .int .i64 (total (xs.take k))) (fun _ _ i => xs.length - (intOf i).toNat)
    case atStart => exact ⟨0, by omega, ⟨by simp, by simp [total]⟩, rfl, rfl⟩
    case round =>
      obtain ⟨k, hk, hs, rfl, rfl⟩ := hrel
      have hb0 := total_nonneg hs.1
      have hb1 := hs.2
      have HS := Lib.hid hs
      clear hs
      by_cases hlt : k < xs.length
      · obtain ⟨b, off, x, rfl, hbb, hxx, hc⟩ := hx.int hlt
        have HX := Lib.hid (take_succ_of hxx)
        have HM := Lib.hid (List.mem_of_getElem? hxx)
        clear hxx
        by_cases h0 : 0 ≤ x
        · by_cases h1 : total (xs.take k) + x ≤ 1073741824
          · go_wp2
            go_round
            case rel => exact ⟨k + 1, by omega, HS.out.succ HX.out h0 h1, by go_num, by rw [HX.out, total_snoc]⟩
            case measure => simp [intOf]; omega
          · go_wp2
            go_ret
            exact ⟨ret_bool (by
              symm; rw [decide_eq_false_iff_not]; intro hok
              have := (hok.to (k := k + 1)).2
              rw [HX.out, total_snoc] at this
              omega), rfl⟩
        · go_wp2
          go_ret
          exact ⟨ret_bool (by
            symm; rw [decide_eq_false_iff_not]; intro hok
            have := hok.2.1 x HM.out
            omega), rfl⟩
      · go_wp2
        go_ret
        exact ⟨ret_bool (by symm; rw [decide_eq_true_iff]; exact HS.out.all (by omega) rfl), rfl⟩
  · go_enter Tryz.func78, Tryz.ntmps78
    go_wp2
    go_ret
    exact ⟨ret_bool (by symm; rw [decide_eq_false_iff_not]; exact fun h => hlen h.1), rfl⟩
end Go.Proofs.YtfjkmgjjifhdkaaGreat

/-
  The walks of layer 11: which models are valid (the program).
-/
namespace Go.Proofs.YtfjkmgjjifhdkaaGreat
open Go Go.RowKit

def IncAt (ws : List ByteArray) (k : Nat) : Prop := ∀ j x y, j + 1 < k → ws[j]? = some x → ws[j + 1]? = some y → ltS x y = true
def incW : List ByteArray → Bool
  | [] => true
  | [_] => true
  | x :: y :: l => ltS x y && incW (y :: l)
theorem incW_iff (ws : List ByteArray) : incW ws = true ↔ IncAt ws ws.length := by
  induction ws with
  | nil => simp [incW, IncAt]
  | cons x l ih =>
    cases l with
    | nil => simp [incW, IncAt]
    | cons y l =>
      rw [incW, Bool.and_eq_true, ih]
      constructor
      · rintro ⟨h1, h2⟩ j a b hj ha hb
        cases j with
        | zero => simp at ha hb; subst ha hb; exact h1
        | succ j => exact h2 j a b (by simp at hj ⊢; omega) (by simpa using ha) (by simpa using hb)
      · intro h
        exact ⟨h 0 x y (by simp) (by simp) (by simp), fun j a b hj ha hb => h (j + 1) a b (by simp at hj ⊢; omega) (by simpa using ha) (by simpa using hb)⟩
def WsOK (ws : List ByteArray) : Prop := (1 ≤ ws.length ∧ ws.length ≤ 200) ∧ (∀ s ∈ ws, wordS s = true) ∧ incW ws = true
instance (ws : List ByteArray) : Decidable (WsOK ws) := by unfold WsOK; infer_instance
def WsTo (ws : List ByteArray) (k : Nat) : Prop := (∀ s ∈ ws.take k, wordS s = true) ∧ IncAt ws k
theorem WsTo.zero (ws : List ByteArray) : WsTo ws 0 := ⟨by simp, fun _ _ _ h => absurd h (by omega)⟩
theorem WsTo.one {ws : List ByteArray} {x : ByteArray} (hx : ws[0]? = some x) (h : wordS x = true) : WsTo ws 1 := by
  refine ⟨?_, fun _ _ _ h => absurd h (by omega)⟩
  rw [take_succ_of hx]
  intro s hs
  simp at hs
  rw [hs]; exact h
theorem WsTo.succ {ws : List ByteArray} {j : Nat} {x y : ByteArray} (h : WsTo ws (j + 1)) (hx : ws[j]? = some x) (hy : ws[j + 1]? = some y) (hw : wordS y = true) (hl : ltS x y = true) : WsTo ws (j + 1 + 1) := by
  refine ⟨?_, fun i a b hi ha hb => ?_⟩
  · rw [take_succ_of hy]
    intro s hs
    rcases List.mem_append.1 hs with hs | hs
    · exact h.1 s hs
    · rw [List.mem_singleton.1 hs]; exact hw
  · by_cases e : i = j
    · subst e
      rw [hx] at ha; rw [hy] at hb
      rw [← Option.some.inj ha, ← Option.some.inj hb]; exact hl
    · exact h.2 i a b (by omega) ha hb
theorem WsTo.all {ws : List ByteArray} {k : Nat} (h : WsTo ws k) (hk : k = ws.length) (h1 : 1 ≤ ws.length) (h2 : ws.length ≤ 200) : WsOK ws := by
  subst hk
  refine ⟨⟨h1, h2⟩, ?_, (incW_iff ws).2 h.2⟩
  have := h.1
  rwa [List.take_length] at this
theorem WsOK.not_word {ws : List ByteArray} {k : Nat} {x : ByteArray} (hx : ws[k]? = some x) (h : wordS x = false) : ¬ WsOK ws := fun hok => by
  have := hok.2.1 x (List.mem_of_getElem? hx)
  rw [h] at this; cases this
theorem WsOK.not_inc {ws : List ByteArray} {j : Nat} {x y : ByteArray} (hx : ws[j]? = some x) (hy : ws[j + 1]? = some y) (h : ltS x y = false) : ¬ WsOK ws := fun hok => by
  obtain ⟨hlt, _⟩ := List.getElem?_eq_some_iff.1 hy
  have := (incW_iff ws).1 hok.2.2 j x y (by omega) hx hy
  rw [h] at this; cases this

set_option maxRecDepth 100000 in
set_option maxHeartbeats 1000000 in
theorem validWords_any (A : Option Addr) (xs : List ByteArray) (c : Nat) (w : World) (hx : SlR 1 RStr w A xs) (hl : xs.length ≤ 65536) (hs : ∀ s ∈ xs, s.size ≤ maxLen) :
    Calls Tryz.prog 77 #[.slice A xs.length c] w fun e w' => e = .returned (.bool (decide (WsOK xs))) ∧ w = w' := by
  by_cases h1 : 1 ≤ xs.length
  · by_cases h2 : xs.length ≤ 200
    · have HL := Lib.hid hl
      go_enter Tryz.func77, Tryz.ntmps77
      go_wp2_with fail
      go_loop [3, 4, 15] (fun _ _ i => ∃ k : Nat, k ≤ xs.length ∧ WsTo xs k ∧ i = .int .i64 k) (fun _ _ i => xs.length - (intOf i).toNat)
      case atStart => exact ⟨0, by omega, WsTo.zero _, rfl⟩
      case round =>
        obtain ⟨k, hk, hs', rfl⟩ := hrel
        have HS := Lib.hid hs'
        clear hs'
        by_cases hlt : k < xs.length
        · obtain ⟨b, off, x, rfl, hbb, hxx, hc⟩ := hx.str hlt
          have hxs := hs x (List.mem_of_getElem? hxx)
          have HX := Lib.hid hxx
          clear hxx
          by_cases hw : wordS x = true
          · rcases k with _ | j
            · simp only [Nat.add_zero] at hc
              go_wp2_with (go_at_call 97; refine (word_any _ _ hxs).mono ?_; rintro e w' ⟨rfl, rfl⟩)
              go_round
              case rel => exact ⟨1, by omega, WsTo.one HX.out hw, by go_num⟩
              case measure => simp [intOf]; omega
            · obtain ⟨b', off', y, he, hbb', hyy, hc'⟩ := hx.str (k := j) (by omega)
              simp only [Option.some.injEq, Addr.mk.injEq, and_true] at he
              obtain ⟨rfl, rfl⟩ := he
              have HY := Lib.hid hyy
              clear hyy
              cases hlt' : ltS y x
              · have hge : Op.bytesLess y.toList x.toList = false := hlt'
                go_wp2_with (go_at_call 97; refine (word_any _ _ hxs).mono ?_; rintro e w' ⟨rfl, rfl⟩)
                go_ret
                exact ⟨ret_bool (decide_eq_false (WsOK.not_inc HY.out HX.out hlt')).symm, rfl⟩
              · have hge : Op.bytesLess y.toList x.toList = true := hlt'
                go_wp2_with (go_at_call 97; refine (word_any _ _ hxs).mono ?_; rintro e w' ⟨rfl, rfl⟩)
                go_round
                case rel => exact ⟨j + 1 + 1, by omega, HS.out.succ HY.out HX.out hw hlt', by go_num⟩
                case measure => simp [intOf]; omega
          · have hw' : wordS x = false := by simpa using hw
            clear hw
            go_wp2_with (go_at_call 97; refine (word_any _ _ hxs).mono ?_; rintro e w' ⟨rfl, rfl⟩)
            go_ret
            exact ⟨ret_bool (decide_eq_false (WsOK.not_word HX.out hw')).symm, rfl⟩
        · go_wp2_with fail
          go_ret
          exact ⟨ret_bool (decide_eq_true (HS.out.all (by omega) h1 h2)).symm, rfl⟩
    · go_enter Tryz.func77, Tryz.ntmps77
      go_wp2_with fail
      go_ret
      exact ⟨ret_bool (decide_eq_false (fun h => h2 h.1.2)).symm, rfl⟩
  · go_enter Tryz.func77, Tryz.ntmps77
    go_wp2_with fail
    go_ret
    exact ⟨ret_bool (decide_eq_false (fun h => h1 h.1.1)).symm, rfl⟩
end Go.Proofs.YtfjkmgjjifhdkaaGreat
