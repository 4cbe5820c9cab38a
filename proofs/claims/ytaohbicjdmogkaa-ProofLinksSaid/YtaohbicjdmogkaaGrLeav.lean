/-
  The plain law of layer 16: the links that leave each node, counted and sorted into one list.
-/
import Derived.Test.YtaohbicjdmogkaaGrWays
namespace Go.Proofs.Ytaohbicjdmogkaa
open List

/-- Where the links of a node begin in the list of all. -/
def stN (g : Gr) : Nat → Nat
  | 0 => 0
  | v + 1 => stN g v + (lvs g (v : Int)).length
def cntN (g : Gr) (v k : Nat) : Nat := (lvTo g.ls (v : Int) k).length
theorem countP_split (l : List Lk) (v : Int) (hv : 0 ≤ v) : l.countP (fun l => decide (0 ≤ l.fr ∧ l.fr < v + 1)) = l.countP (fun l => decide (0 ≤ l.fr ∧ l.fr < v)) + l.countP (fun l => decide (l.fr = v)) := by
  induction l with
  | nil => rfl
  | cons x l ih =>
    rw [countP_cons, countP_cons, countP_cons, ih]
    by_cases h1 : x.fr = v
    · have a1 : decide (0 ≤ x.fr ∧ x.fr < v + 1) = true := decide_eq_true (by omega)
      have a2 : decide (0 ≤ x.fr ∧ x.fr < v) = false := decide_eq_false (by omega)
      have a3 : decide (x.fr = v) = true := decide_eq_true h1
      rw [a1, a2, a3]
      simp
      omega
    · have a3 : decide (x.fr = v) = false := decide_eq_false h1
      by_cases h2 : 0 ≤ x.fr ∧ x.fr < v
      · have a1 : decide (0 ≤ x.fr ∧ x.fr < v + 1) = true := decide_eq_true (by omega)
        have a2 : decide (0 ≤ x.fr ∧ x.fr < v) = true := decide_eq_true h2
        rw [a1, a2, a3]
        simp
        omega
      · have a1 : decide (0 ≤ x.fr ∧ x.fr < v + 1) = false := decide_eq_false (by omega)
        have a2 : decide (0 ≤ x.fr ∧ x.fr < v) = false := decide_eq_false h2
        rw [a1, a2, a3]
        simp
theorem stN_count (g : Gr) : ∀ v : Nat, stN g v = g.ls.countP (fun l => decide (0 ≤ l.fr ∧ l.fr < (v : Int)))
  | 0 => by
    show 0 = _
    rw [eq_comm, countP_eq_zero]
    intro l _
    simp
  | v + 1 => by
    show stN g v + (lvs g (v : Int)).length = _
    have h := countP_split g.ls (v : Int) (by omega)
    have e : ((v + 1 : Nat) : Int) = (v : Int) + 1 := by omega
    rw [e, h, stN_count g v]
    unfold lvs
    rw [lvTo_len _ _ _ (Nat.le_refl _), take_length]
theorem stN_le (g : Gr) (v : Nat) : stN g v ≤ g.ls.length := by rw [stN_count]; exact countP_le_length
theorem stN_succ (g : Gr) (v : Nat) : stN g (v + 1) = stN g v + (lvs g (v : Int)).length := rfl
theorem stN_mono (g : Gr) {u v : Nat} (h : u ≤ v) : stN g u ≤ stN g v := by
  induction v with
  | zero => obtain rfl : u = 0 := by omega
            exact Nat.le_refl _
  | succ v ih =>
    rcases Nat.lt_or_ge u (v + 1) with h1 | h1
    · have := ih (by omega); rw [stN_succ]; omega
    · obtain rfl : u = v + 1 := by omega
      exact Nat.le_refl _
theorem cntN_le (g : Gr) (v : Nat) {k : Nat} (hk : k ≤ g.ls.length) : cntN g v k ≤ (lvs g (v : Int)).length := by
  unfold cntN lvs
  rw [lvTo_len _ _ _ hk, lvTo_len _ _ _ (Nat.le_refl _), take_length]
  exact Sublist.countP_le (take_sublist _ _)
theorem cntN_all (g : Gr) (v : Nat) : cntN g v g.ls.length = (lvs g (v : Int)).length := rfl
theorem cntN_zero (g : Gr) (v : Nat) : cntN g v 0 = 0 := rfl
theorem cntN_succ {g : Gr} {v k : Nat} {l : Lk} (h : g.ls[k]? = some l) : cntN g v (k + 1) = if l.fr = (v : Int) then cntN g v k + 1 else cntN g v k := by
  unfold cntN
  rw [lvTo_succ h]
  split
  · rw [length_append]; rfl
  · rfl
theorem range_set {f f' : Nat → Int} {n i : Nat} (hi : i < n) (h : ∀ v, v < n → v ≠ i → f' v = f v) : (range n).map f' = ((range n).map f).set i (f' i) := by
  apply ext_getElem?
  intro j
  rw [getElem?_set]
  by_cases hj : i = j
  · subst hj
    rw [if_pos rfl]
    simp [hi]
  · rw [if_neg hj]
    rcases Nat.lt_or_ge j n with h1 | h1
    · simp [h1, h j h1 (fun e => hj e.symm)]
    · simp [h1]
theorem range_at {f : Nat → Int} {n i : Nat} (hi : i < n) : ((range n).map f)[i]? = some (f i) := by simp [hi]
def endsA (g : Gr) (n k : Nat) : List Int := (range n).map (fun v => (cntN g v k : Int))
def endsB (g : Gr) (n k : Nat) : List Int := (range n).map (fun v => if v < k then (stN g v : Int) else ((lvs g (v : Int)).length : Int))
def endsC (g : Gr) (n k : Nat) : List Int := (range n).map (fun v => ((stN g v + cntN g v k : Nat) : Int))
theorem endsA_zero (g : Gr) (n : Nat) : endsA g n 0 = replicate n 0 := by
  unfold endsA
  simp only [cntN_zero]
  apply ext_getElem?
  intro j
  by_cases h : j < n
  · simp [h]
  · simp [h]
theorem endsA_step {g : Gr} {n k f : Nat} {l : Lk} (h : g.ls[k]? = some l) (hf : l.fr = (f : Int)) (hn : f < n) : endsA g n (k + 1) = (endsA g n k).set f ((cntN g f k : Int) + 1) := by
  have e : ((cntN g f k : Int) + 1) = (fun v => (cntN g v (k + 1) : Int)) f := by
    show _ = (cntN g f (k + 1) : Int)
    rw [cntN_succ h, if_pos hf]; omega
  rw [e]
  refine range_set hn fun v _ hv => ?_
  show (cntN g v (k + 1) : Int) = (cntN g v k : Int)
  rw [cntN_succ h, if_neg (by omega)]
theorem endsA_all (g : Gr) (n : Nat) : endsA g n g.ls.length = endsB g n 0 := by
  unfold endsA endsB
  simp only [cntN_all, Nat.not_lt_zero, if_false]
theorem endsB_step (g : Gr) {n k : Nat} (hk : k < n) : endsB g n (k + 1) = (endsB g n k).set k (stN g k) := by
  have e : (stN g k : Int) = (fun v => if v < k + 1 then (stN g v : Int) else ((lvs g (v : Int)).length : Int)) k := by
    show _ = if k < k + 1 then (stN g k : Int) else _
    rw [if_pos (by omega)]
  rw [e]
  refine range_set hk fun v _ hv => ?_
  show (if v < k + 1 then (stN g v : Int) else ((lvs g (v : Int)).length : Int)) = if v < k then (stN g v : Int) else ((lvs g (v : Int)).length : Int)
  by_cases h : v < k
  · rw [if_pos h, if_pos (by omega)]
  · rw [if_neg h, if_neg (by omega)]
theorem endsB_at (g : Gr) {n k : Nat} (hk : k < n) : (endsB g n k)[k]? = some ((lvs g (k : Int)).length : Int) := by
  unfold endsB
  rw [range_at hk, if_neg (by omega)]
theorem endsB_all (g : Gr) (n : Nat) : endsB g n n = endsC g n 0 := by
  unfold endsB endsC
  apply map_congr_left
  intro v hv
  rw [if_pos (mem_range.1 hv), cntN_zero]
  rfl
theorem endsA_at (g : Gr) {n k f : Nat} (hf : f < n) : (endsA g n k)[f]? = some (cntN g f k : Int) := by unfold endsA; rw [range_at hf]
theorem endsC_at (g : Gr) {n k f : Nat} (hf : f < n) : (endsC g n k)[f]? = some ((stN g f + cntN g f k : Nat) : Int) := by unfold endsC; rw [range_at hf]
theorem endsC_end (g : Gr) {n f : Nat} (hf : f < n) : (endsC g n g.ls.length)[f]? = some ((stN g (f + 1) : Nat) : Int) := by rw [endsC_at g hf, cntN_all, stN_succ]
theorem endsC_step {g : Gr} {n k f : Nat} {l : Lk} (h : g.ls[k]? = some l) (hf : l.fr = (f : Int)) (hn : f < n) : endsC g n (k + 1) = (endsC g n k).set f (((stN g f + cntN g f k : Nat) : Int) + 1) := by
  have e : (((stN g f + cntN g f k : Nat) : Int) + 1) = (fun v => ((stN g v + cntN g v (k + 1) : Nat) : Int)) f := by
    show _ = ((stN g f + cntN g f (k + 1) : Nat) : Int)
    rw [cntN_succ h, if_pos hf]; omega
  rw [e]
  refine range_set hn fun v _ hv => ?_
  show ((stN g v + cntN g v (k + 1) : Nat) : Int) = ((stN g v + cntN g v k : Nat) : Int)
  rw [cntN_succ h, if_neg (by omega)]
/-- The list of all, when k links have been put into it. -/
def AllTo (g : Gr) (k : Nat) (al : List Int) : Prop := al.length = g.ls.length ∧ ∀ (v j : Nat) (x : Int), (lvTo g.ls (v : Int) k)[j]? = some x → al[stN g v + j]? = some x
theorem AllTo.zero (g : Gr) : AllTo g 0 (replicate g.ls.length 0) := ⟨by simp, fun v j x h => by simp [lvTo] at h⟩
theorem cntN_lt {g : Gr} {k f : Nat} {l : Lk} (h : g.ls[k]? = some l) (hf : l.fr = (f : Int)) : cntN g f k < (lvs g (f : Int)).length := by
  have h1 := (List.getElem?_eq_some_iff.1 h).1
  have h2 := cntN_le g f (k := k + 1) h1
  rw [cntN_succ h, if_pos hf] at h2
  omega
theorem AllTo.step {g : Gr} {k f : Nat} {al : List Int} {l : Lk} (ha : AllTo g k al) (h : g.ls[k]? = some l) (hf : l.fr = (f : Int)) : AllTo g (k + 1) (al.set (stN g f + cntN g f k) (k : Int)) := by
  obtain ⟨h1, h2⟩ := ha
  have hlt := cntN_lt h hf
  have hkl := (List.getElem?_eq_some_iff.1 h).1
  have hs := stN_le g (f + 1)
  rw [stN_succ] at hs
  refine ⟨by rw [length_set, h1], fun v j x hx => ?_⟩
  rw [getElem?_set]
  by_cases hv : l.fr = (v : Int)
  · obtain rfl : v = f := by omega
    rw [lvTo_succ h, if_pos hf] at hx
    rcases Nat.lt_or_ge j (cntN g v k) with hj | hj
    · rw [getElem?_append_left hj] at hx
      rw [if_neg (by omega)]
      exact h2 v j x hx
    · rw [getElem?_append_right hj] at hx
      have hj2 : j = cntN g v k := by
        have := (List.getElem?_eq_some_iff.1 hx).1
        simp at this
        unfold cntN at hj ⊢
        omega
      subst hj2
      unfold cntN at hx
      simp at hx
      rw [if_pos rfl, if_pos (by omega), hx]
  · rw [lvTo_succ h, if_neg hv] at hx
    have hj := (List.getElem?_eq_some_iff.1 hx).1
    have hj2 : j < (lvs g (v : Int)).length := Nat.lt_of_lt_of_le hj (cntN_le g v (Nat.le_of_lt hkl))
    rw [if_neg]
    · exact h2 v j x hx
    · intro e
      rcases Nat.lt_or_ge v f with h3 | h3
      · have := stN_mono g (u := v + 1) (v := f) h3
        rw [stN_succ] at this
        omega
      · have h4 : f < v := by omega
        have := stN_mono g (u := f + 1) (v := v) h4
        rw [stN_succ] at this
        omega
theorem AllTo.lt {g : Gr} {k f : Nat} {al : List Int} {l : Lk} (ha : AllTo g k al) (h : g.ls[k]? = some l) (hf : l.fr = (f : Int)) : stN g f + cntN g f k < al.length := by
  have hlt := cntN_lt h hf
  have hs := stN_le g (f + 1)
  rw [stN_succ] at hs
  rw [ha.1]
  omega
end Go.Proofs.Ytaohbicjdmogkaa
