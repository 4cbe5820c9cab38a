/-
  The plain law of layer 21: what adapting leaves is valid.
-/
import Derived.Test.YtpjecpefbfobdaaAreaLaw5
namespace Go.Proofs.Ytpjecpefbfobdaa
open List

theorem areaOf_mem {us : List Ar} (h : IncA us) {a : Ar} (ha : a ∈ us) : areaOf us a.key = some a := by
  unfold areaOf
  induction us with
  | nil => cases ha
  | cons b us ih =>
    rw [find?_cons]
    obtain ⟨hb, hi⟩ := pairwise_cons.1 h
    rcases mem_cons.1 ha with rfl | hm
    · simp
    · have := hb a hm
      rw [show decide (b.key = a.key) = false by simp; omega]
      exact ih hi hm
theorem areaOf_key {us : List Ar} {key : Int} {a : Ar} (h : areaOf us key = some a) : a ∈ us ∧ a.key = key := by
  unfold areaOf at h
  exact ⟨mem_of_find?_eq_some h, by have := find?_some h; simpa using this⟩
theorem tapOf_key (ts : List Tp) (key : Int) : (tapOf ts key).key = key := by
  unfold tapOf
  cases h : ts.find? (fun t => decide (t.key = key)) with
  | none => rfl
  | some t => have := find?_some h; simpa using this
theorem tapOf_or (ts : List Tp) (key : Int) : tapOf ts key = ⟨key, 0, 0, 0⟩ ∨ tapOf ts key ∈ ts := by
  unfold tapOf
  cases h : ts.find? (fun t => decide (t.key = key)) with
  | none => exact .inl rfl
  | some t => exact .inr (mem_of_find?_eq_some h)
theorem tdiv2_bd {v B : Int} (h : -B ≤ v ∧ v ≤ B) : -B ≤ v.tdiv 2 ∧ v.tdiv 2 ≤ B := by
  rcases Int.le_total 0 v with h0 | h0
  · rw [Int.tdiv_eq_ediv_of_nonneg h0]; omega
  · obtain ⟨b, rfl⟩ : ∃ b, v = -b := ⟨-v, by omega⟩
    rw [Int.neg_tdiv, Int.tdiv_eq_ediv_of_nonneg (by omega)]; omega
theorem newT_key (t : Tp) (m p : Pt) : (newT t m p).key = t.key := by
  unfold newT halfT bumpT
  split <;> rfl
theorem newT_ok {t : Tp} {m p : Pt} (hk : 97 ≤ t.key ∧ t.key ≤ 122) (hn : 0 ≤ t.n ∧ t.n ≤ 63) (hx : -62000 ≤ t.dx ∧ t.dx ≤ 62000) (hy : -62000 ≤ t.dy ∧ t.dy ≤ 62000) (hm : insideB m = true) (hp : insideB p = true) : TapOK (newT t m p) := by
  unfold insideB coordB at hm hp
  simp at hm hp
  unfold newT halfT bumpT
  have bx := tdiv2_bd (v := t.dx + (p.x - m.x)) (B := 63000) (by omega)
  have by_ := tdiv2_bd (v := t.dy + (p.y - m.y)) (B := 63000) (by omega)
  split
  · exact ⟨hk, by simp, bx, by_⟩
  · rename_i h
    exact ⟨hk, by simp at h ⊢; omega, by simp; omega, by simp; omega⟩
theorem putT_mem {ts : List Tp} {key : Int} {t x : Tp} (h : x ∈ putT ts key t) : x = t ∨ x ∈ ts := by
  unfold putT at h
  simp only [mem_append, mem_filter, mem_singleton] at h
  rcases h with (h | h) | h
  · exact .inr h.1
  · exact .inl h
  · exact .inr h.1
theorem putT_inc {ts : List Tp} {key : Int} {t : Tp} (h : IncT ts) (hk : t.key = key) : IncT (putT ts key t) := by
  unfold putT IncT
  rw [append_assoc, pairwise_append]
  refine ⟨Pairwise.sublist filter_sublist h, ?_, fun x hx y hy => ?_⟩
  · rw [singleton_append, pairwise_cons]
    exact ⟨fun y hy => by have := (mem_filter.1 hy).2; simp at this; omega, Pairwise.sublist filter_sublist h⟩
  · have h1 := (mem_filter.1 hx).2
    simp at h1
    rcases mem_append.1 hy with h2 | h2
    · obtain rfl := mem_singleton.1 h2; omega
    · have h3 := (mem_filter.1 h2).2
      simp at h3
      omega
theorem putT_len (ts : List Tp) (key : Int) (t : Tp) : (putT ts key t).length ≤ ts.length + ts.length + 1 := by
  unfold putT
  have h1 := length_filter_le (fun x : Tp => decide (x.key < key)) ts
  have h2 := length_filter_le (fun x : Tp => decide (key < x.key)) ts
  simp
  omega
theorem mid_in {a : Ar} {i : Nat} (h : ArM i a) : insideB (midOf a) = true := by
  obtain ⟨_, ⟨h1, h2, h3⟩, h4, h5, h6⟩ := h
  unfold insideB coordB midOf
  rw [Int.tdiv_eq_ediv_of_nonneg (by omega), Int.tdiv_eq_ediv_of_nonneg (by omega)]
  simp
  omega
/-- What adapting leaves of the taps that the laws draw. -/
theorem adapt_drawn {us : List Ar} (hinc : IncA us) {a : Ar} {i : Nat} (ha : a ∈ us) (hi : ArM i a) (hi14 : i < 14) {ts : List Tp} (hts : ∀ t ∈ ts, ∃ j, TpM j t) (htok : ∀ t ∈ ts, TapOK t) (htinc : IncT ts) {p : Pt} (hp : insideB p = true) :
    ∃ t, t.key = a.key ∧ adaptOf us ts a.key p = (putT ts a.key t, 0) ∧ (∀ x ∈ putT ts a.key t, TapOK x) ∧ IncT (putT ts a.key t) := by
  have hak := hi.key
  have hk := newT_key (tapOf ts a.key) (midOf a) p
  rw [tapOf_key] at hk
  refine ⟨newT (tapOf ts a.key) (midOf a) p, hk, ?_, ?_, putT_inc htinc hk⟩
  · unfold adaptOf
    rw [if_pos hp, areaOf_mem hinc ha]
  · intro x hx
    rcases putT_mem hx with rfl | hx
    · have hk2 := tapOf_key ts a.key
      rcases tapOf_or ts a.key with h | h
      · rw [h]; exact newT_ok (by simp; omega) (by simp) (by simp) (by simp) (mid_in hi) hp
      · obtain ⟨j, hj⟩ := hts _ h
        obtain ⟨_, h1, h2, h3⟩ := hj
        exact newT_ok (by omega) (by omega) (by omega) (by omega) (mid_in hi) hp
    · exact htok x hx
end Go.Proofs.Ytpjecpefbfobdaa
