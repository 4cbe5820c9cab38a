/-
  The plain law of layer 21: the taps that the laws draw; what adapting leaves.
-/
import Derived.Test.YtpjecpefbfobdaaAreaWalkS
namespace Go.Proofs.Ytpjecpefbfobdaa
open List

theorem taps_len {l : List B3} : ∀ k, k ≤ l.length → (tapsTo l k).length = k := by
  intro k
  induction k with
  | zero => intro _; rfl
  | succ k ih =>
    intro hk
    obtain ⟨p, hp⟩ : ∃ p, l[k]? = some p := ⟨l[k], List.getElem?_eq_getElem (by omega)⟩
    rw [taps_succ hp, length_append, ih (by omega)]; rfl
/-- What is known of the taps. -/
structure TpM (i : Nat) (t : Tp) : Prop where
  key : t.key = 97 + (i : Int)
  dx : -384 ≤ t.dx ∧ t.dx ≤ 381
  dy : -384 ≤ t.dy ∧ t.dy ≤ 381
  n : 1 ≤ t.n ∧ t.n ≤ 63
theorem taps_at {l : List B3} (hl : ∀ p ∈ l, B3OK p) : ∀ k, k ≤ l.length → ∀ i t, (tapsTo l k)[i]? = some t → TpM i t := by
  intro k
  induction k with
  | zero => intro _ i t h; simp [tapsTo] at h
  | succ k ih =>
    intro hk i t h
    obtain ⟨p, hp⟩ : ∃ p, l[k]? = some p := ⟨l[k], List.getElem?_eq_getElem (by omega)⟩
    have hlen := taps_len (l := l) k (by omega)
    obtain ⟨⟨p1, p2⟩, ⟨p3, p4⟩, p5, p6⟩ := hl p (List.mem_of_getElem? hp)
    rw [taps_succ hp] at h
    rcases Nat.lt_or_ge i (tapsTo l k).length with hlt | hge
    · rw [List.getElem?_append_left hlt] at h
      exact ih (by omega) i t h
    · rw [List.getElem?_append_right hge] at h
      have hi : i - (tapsTo l k).length = 0 := by
        have := (List.getElem?_eq_some_iff.1 h).1
        simp at this; omega
      rw [hi] at h
      simp at h
      have hik : i = k := by omega
      subst hik
      rw [← h]
      unfold tapAt
      exact ⟨rfl, by dsimp only; omega, by dsimp only; omega, by dsimp only; omega⟩
theorem tapsL_at {l : List B3} (hl : ∀ p ∈ l, B3OK p) {i : Nat} {t : Tp} (h : (tapsL l)[i]? = some t) : TpM i t := taps_at hl _ (Nat.min_le_left _ _) i t h
theorem tapsL_len {l : List B3} : (tapsL l).length ≤ 6 := by
  unfold tapsL
  rw [taps_len _ (Nat.min_le_left _ _)]; omega
theorem tapsL_ok {l : List B3} (hl : ∀ p ∈ l, B3OK p) : (∀ t ∈ tapsL l, TpOK t) ∧ (∀ t ∈ tapsL l, Small t.n) ∧ (∀ t ∈ tapsL l, TapOK t) := by
  have key : ∀ t ∈ tapsL l, ∃ i, i < 6 ∧ TpM i t := fun t ht => by
    obtain ⟨i, hi, rfl⟩ := List.getElem_of_mem ht
    exact ⟨i, Nat.lt_of_lt_of_le hi tapsL_len, tapsL_at hl (List.getElem?_eq_getElem hi)⟩
  refine ⟨fun t ht => ?_, fun t ht => ?_, fun t ht => ?_⟩
  all_goals
    obtain ⟨i, hi, h1, h2, h3, h4⟩ := key t ht
  · exact ⟨by unfold Small; omega, by unfold Small; omega⟩
  · unfold Small; omega
  · exact ⟨by omega, h4, by omega, by omega⟩
theorem tapsL_inc {l : List B3} (hl : ∀ p ∈ l, B3OK p) : IncT (tapsL l) := by
  unfold IncT
  rw [List.pairwise_iff_getElem]
  intro i j hi hj hij
  rw [(tapsL_at hl (List.getElem?_eq_getElem hi)).key, (tapsL_at hl (List.getElem?_eq_getElem hj)).key]
  omega

/-- Adapting one key leaves the shifts of all others. -/
theorem shift_filter_lo {ts : List Tp} {key k : Int} (hk : k < key) : shiftOf (ts.filter (fun x => decide (x.key < key))) k = shiftOf ts k := by
  induction ts with
  | nil => rfl
  | cons t l ih =>
    rw [filter_cons]
    by_cases h : t.key < key
    · rw [if_pos (by simpa using h)]
      unfold shiftOf
      rw [ih]
    · rw [if_neg (by simpa using h), ih]
      conv => rhs; unfold shiftOf
      rw [if_neg (by omega)]
theorem shift_filter_hi {ts : List Tp} {key k : Int} (hk : key < k) : shiftOf (ts.filter (fun x => decide (key < x.key))) k = shiftOf ts k := by
  induction ts with
  | nil => rfl
  | cons t l ih =>
    rw [filter_cons]
    by_cases h : key < t.key
    · rw [if_pos (by simpa using h)]
      unfold shiftOf
      rw [ih]
    · rw [if_neg (by simpa using h), ih]
      conv => rhs; unfold shiftOf
      rw [if_neg (by omega)]
theorem shift_none {ts : List Tp} {k : Int} (h : ∀ t ∈ ts, t.key ≠ k) : shiftOf ts k = ⟨0, 0⟩ := by
  induction ts with
  | nil => rfl
  | cons t l ih =>
    unfold shiftOf
    rw [if_neg (fun hc => h t (by simp) hc.1), ih fun t ht => h t (by simp [ht])]
theorem shift_app {a b : List Tp} {k : Int} (h : ∀ t ∈ a, t.key ≠ k) : shiftOf (a ++ b) k = shiftOf b k := by
  induction a with
  | nil => rfl
  | cons t l ih =>
    show shiftOf (t :: (l ++ b)) k = _
    conv => lhs; unfold shiftOf
    rw [if_neg (fun hc => h t (by simp) hc.1), ih fun t ht => h t (by simp [ht])]
theorem shift_app_end {a b : List Tp} {k : Int} (h : ∀ t ∈ b, t.key ≠ k) : shiftOf (a ++ b) k = shiftOf a k := by
  induction a with
  | nil => rw [nil_append, shift_none h]; rfl
  | cons t l ih =>
    show shiftOf (t :: (l ++ b)) k = _
    unfold shiftOf
    rw [ih]
theorem shift_put {ts : List Tp} {key k : Int} {t : Tp} (ht : t.key = key) (hk : k ≠ key) : shiftOf (putT ts key t) k = shiftOf ts k := by
  unfold putT
  rcases Int.lt_or_gt_of_ne hk with h | h
  · rw [append_assoc, shift_app_end, shift_filter_lo h]
    intro x hx
    rcases mem_append.1 hx with hx | hx
    · rw [mem_singleton.1 hx]; omega
    · have := (mem_filter.1 hx).2
      simp at this; omega
  · rw [append_assoc, shift_app, shift_app, shift_filter_hi h]
    · intro x hx
      rw [mem_singleton.1 hx]; omega
    · intro x hx
      have := (mem_filter.1 hx).2
      simp at this; omega
end Go.Proofs.Ytpjecpefbfobdaa
