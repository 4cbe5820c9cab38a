/-
  The plain law of layer 21: how the reference adapts: the last tap of the key; the taps put together anew.
-/
import Derived.Test.YtpjecpefbfobdaaAreaLaw6
namespace Go.Proofs.Ytpjecpefbfobdaa
open List

def lastT (ts : List Tp) (key : Int) (k : Nat) : Tp := (ts.take k).foldl (fun acc t => if t.key = key then t else acc) ⟨key, 0, 0, 0⟩
theorem lastT_snoc {ts : List Tp} {key : Int} {k : Nat} {x : Tp} (h : ts[k]? = some x) : lastT ts key (k + 1) = if x.key = key then x else lastT ts key k := by
  unfold lastT
  rw [take_succ_of h, foldl_append]
  rfl
theorem last_no {l : List Tp} {key : Int} {z : Tp} (h : ∀ t ∈ l, t.key ≠ key) : l.foldl (fun acc t => if t.key = key then t else acc) z = z := by
  induction l generalizing z with
  | nil => rfl
  | cons x l ih =>
    rw [foldl_cons, if_neg (h x (by simp))]
    exact ih fun t ht => h t (by simp [ht])
theorem last_eq {l : List Tp} {key : Int} {z : Tp} (h : IncT l) : l.foldl (fun acc t => if t.key = key then t else acc) z = (l.find? (fun t => decide (t.key = key))).getD z := by
  induction l generalizing z with
  | nil => rfl
  | cons x l ih =>
    obtain ⟨h1, h2⟩ := pairwise_cons.1 h
    rw [foldl_cons, find?_cons]
    by_cases hx : x.key = key
    · rw [if_pos hx, decide_eq_true hx]
      exact last_no fun t ht => by have := h1 t ht; omega
    · rw [if_neg hx, decide_eq_false hx]
      exact ih h2
theorem lastT_all {ts : List Tp} {key : Int} (h : IncT ts) : lastT ts key ts.length = tapOf ts key := by
  unfold lastT tapOf
  rw [take_length]
  exact last_eq h
theorem lastT_or (ts : List Tp) (key : Int) (k : Nat) : lastT ts key k = ⟨key, 0, 0, 0⟩ ∨ lastT ts key k ∈ ts := by
  unfold lastT
  have : ∀ (l : List Tp) (z : Tp), (∀ x ∈ l, x ∈ ts) → (z = ⟨key, 0, 0, 0⟩ ∨ z ∈ ts) → (l.foldl (fun acc t => if t.key = key then t else acc) z = ⟨key, 0, 0, 0⟩ ∨ l.foldl (fun acc t => if t.key = key then t else acc) z ∈ ts) := by
    intro l
    induction l with
    | nil => intro z _ h; exact h
    | cons x l ih =>
      intro z hl h
      rw [foldl_cons]
      refine ih _ (fun y hy => hl y (by simp [hy])) ?_
      split
      · exact .inr (hl x (by simp))
      · exact h
  exact this _ _ (fun x hx => mem_of_mem_take hx) (.inl rfl)

def outStep (t : Tp) (key : Int) (s : List Tp × Bool) (x : Tp) : List Tp × Bool :=
  ((if key ≤ x.key ∧ s.2 = false then s.1 ++ [t] else s.1) ++ (if x.key ≠ key then [x] else []), s.2 || decide (key ≤ x.key))
theorem step_lt {t x : Tp} {key : Int} {o : List Tp} {d : Bool} (h : x.key < key) : outStep t key (o, d) x = (o ++ [x], d) := by
  unfold outStep
  dsimp only
  rw [if_neg (by omega), if_pos (by omega), decide_eq_false (by omega), Bool.or_false]
theorem step_eq_f {t x : Tp} {key : Int} {o : List Tp} (h : x.key = key) : outStep t key (o, false) x = (o ++ [t], true) := by
  unfold outStep
  dsimp only
  rw [if_pos ⟨by omega, rfl⟩, if_neg (by simpa using h), decide_eq_true (by omega)]
  simp
theorem step_eq_t {t x : Tp} {key : Int} {o : List Tp} (h : x.key = key) : outStep t key (o, true) x = (o, true) := by
  unfold outStep
  dsimp only
  rw [if_neg (by simp), if_neg (by simpa using h)]
  simp
theorem step_gt_f {t x : Tp} {key : Int} {o : List Tp} (h : key < x.key) : outStep t key (o, false) x = (o ++ [t] ++ [x], true) := by
  unfold outStep
  dsimp only
  rw [if_pos ⟨by omega, rfl⟩, if_pos (by omega), decide_eq_true (by omega)]
  simp
theorem step_gt_t {t x : Tp} {key : Int} {o : List Tp} (h : key < x.key) : outStep t key (o, true) x = (o ++ [x], true) := by
  unfold outStep
  dsimp only
  rw [if_neg (by simp), if_pos (by omega)]
  simp
def outT (ts : List Tp) (t : Tp) (key : Int) (k : Nat) : List Tp × Bool := (ts.take k).foldl (outStep t key) ([], false)
theorem outT_snoc {ts : List Tp} {t : Tp} {key : Int} {k : Nat} {x : Tp} (h : ts[k]? = some x) : outT ts t key (k + 1) = outStep t key (outT ts t key k) x := by
  unfold outT
  rw [take_succ_of h, foldl_append]
  rfl
theorem outT_len (ts : List Tp) (t : Tp) (key : Int) (k : Nat) : (outT ts t key k).1.length ≤ 2 * k := by
  unfold outT
  have : ∀ (l : List Tp) (s : List Tp × Bool), (l.foldl (outStep t key) s).1.length ≤ s.1.length + 2 * l.length := by
    intro l
    induction l with
    | nil => intro s; simp
    | cons x l ih =>
      intro s
      rw [foldl_cons]
      refine Nat.le_trans (ih _) ?_
      unfold outStep
      dsimp only
      rw [length_append]
      have h1 : (if key ≤ x.key ∧ s.2 = false then s.1 ++ [t] else s.1).length ≤ s.1.length + 1 := by split <;> simp
      have h2 : (if x.key ≠ key then [x] else []).length ≤ 1 := by split <;> simp
      simp only [length_cons]
      omega
  have h := this (ts.take k) ([], false)
  have h2 := length_take_le k ts
  simp at h ⊢
  omega
/-- What the loop has put together: either all keys so far are smaller, or the tap stands between. -/
theorem out_inv {t : Tp} {key : Int} : ∀ (l : List Tp), IncT l → (l.foldl (outStep t key) ([], false)) =
    if l.any (fun x => decide (key ≤ x.key)) = true then (l.filter (fun x => decide (x.key < key)) ++ [t] ++ l.filter (fun x => decide (key < x.key)), true) else (l, false) := by
  intro l hl
  -- from the end of the list
  have : ∀ n, ∀ l : List Tp, l.length = n → IncT l → (l.foldl (outStep t key) ([], false)) =
    if l.any (fun x => decide (key ≤ x.key)) = true then (l.filter (fun x => decide (x.key < key)) ++ [t] ++ l.filter (fun x => decide (key < x.key)), true) else (l, false) := by
    intro n
    induction n with
    | zero => intro l h _; obtain rfl := length_eq_zero_iff.1 h; simp
    | succ n ih =>
      intro l h hinc
      obtain ⟨l', x, rfl⟩ : ∃ l' x, l = l' ++ [x] := ⟨l.dropLast, l.getLast (by intro e; subst e; simp at h), (dropLast_concat_getLast _).symm⟩
      have hl' : l'.length = n := by simpa using h
      obtain ⟨h1, _, h3⟩ := pairwise_append.1 hinc
      have h3' : ∀ y ∈ l', y.key < x.key := fun y hy => h3 y hy x (by simp)
      rw [foldl_append, foldl_cons, foldl_nil, ih l' hl' h1]
      by_cases ha : l'.any (fun y => decide (key ≤ y.key)) = true
      · obtain ⟨y, hy, hyk⟩ := any_eq_true.1 ha
        have hyk' : key ≤ y.key := by simpa using hyk
        have hxy := h3' y hy
        rw [if_pos ha, if_pos (by rw [any_append, ha]; rfl)]
        unfold outStep
        simp only [Bool.true_eq_false, and_false, if_false, Bool.true_or]
        rw [if_pos (by omega), filter_append, filter_append, filter_cons_of_neg (by simp; omega), filter_cons_of_pos (by simp; omega)]
        simp
      · have hlt : ∀ y ∈ l', y.key < key := fun y hy => by
          have h4 : ¬ key ≤ y.key := fun h5 => ha (any_eq_true.2 ⟨y, hy, by simpa using h5⟩)
          omega
        rw [if_neg ha]
        have f1 : l'.filter (fun y => decide (y.key < key)) = l' := filter_eq_self.2 fun y hy => by simpa using hlt y hy
        have f2 : l'.filter (fun y => decide (key < y.key)) = [] := filter_eq_nil_iff.2 fun y hy => by have := hlt y hy; simp; omega
        unfold outStep
        by_cases hx : key ≤ x.key
        · rw [if_pos (show (l' ++ [x]).any (fun y => decide (key ≤ y.key)) = true by rw [any_append]; simp [hx]), if_pos ⟨hx, rfl⟩, filter_append, filter_append, f1, f2]
          by_cases hk : x.key = key
          · rw [if_neg (by simpa using hk), filter_cons_of_neg (by simp; omega), filter_cons_of_neg (by simp; omega)]
            simp [hx]
          · rw [if_pos hk, filter_cons_of_neg (by simp; omega), filter_cons_of_pos (by simp; omega)]
            simp [hx]
        · rw [if_neg (show ¬ (l' ++ [x]).any (fun y => decide (key ≤ y.key)) = true by
            intro h; rw [any_append, Bool.or_eq_true] at h
            rcases h with h | h
            · exact ha h
            · simp at h; exact hx h), if_neg (fun h => hx h.1), if_pos (by omega)]
          simp [hx]
  exact this _ l rfl hl
theorem outT_all {ts : List Tp} {t : Tp} {key : Int} (h : IncT ts) : (if (outT ts t key ts.length).2 = true then (outT ts t key ts.length).1 else (outT ts t key ts.length).1 ++ [t]) = putT ts key t := by
  unfold outT
  rw [take_length, out_inv ts h]
  by_cases ha : ts.any (fun y => decide (key ≤ y.key)) = true
  · rw [if_pos ha]
    rfl
  · have hlt : ∀ y ∈ ts, y.key < key := fun y hy => by
      have h4 : ¬ key ≤ y.key := fun h5 => ha (any_eq_true.2 ⟨y, hy, by simpa using h5⟩)
      omega
    rw [if_neg ha]
    have f1 : ts.filter (fun y => decide (y.key < key)) = ts := filter_eq_self.2 fun y hy => by simpa using hlt y hy
    have f2 : ts.filter (fun y => decide (key < y.key)) = [] := filter_eq_nil_iff.2 fun y hy => by have := hlt y hy; simp; omega
    unfold putT
    rw [f1, f2]
    simp
end Go.Proofs.Ytpjecpefbfobdaa
