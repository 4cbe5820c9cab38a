/-
  The plain mathematics of layer 11, continued: searches by halves, costs of pairs.
-/
import Derived.Test.YtbfpcleogdalfaaCostMath2
namespace Go.Proofs.Ytbfpcleogdalfaa
open Go Go.RowKit

/-- p has the words of g, or comes after it. -/
def reachB (g p : Pr) : Bool := decide (g.a < p.a) || (p.a == g.a && decide (g.b ≤ p.b))
theorem lessP_reach {g p q : Pr} (h : lessP p q = true) (hr : reachB g p = true) : reachB g q = true := by
  unfold lessP at h; unfold reachB at *
  simp at *
  omega
/-- Where the pairs begin that are reached. -/
def cutP (ps : List Pr) (g : Pr) : Nat := ps.findIdx (reachB g)
theorem reach_mono {ps : List Pr} {g : Pr} (h : IncPAt ps ps.length) : ∀ (d i : Nat) (x y : Pr), ps[i]? = some x → ps[i + d]? = some y → reachB g x = true → reachB g y = true := by
  intro d
  induction d with
  | zero => intro i x y hx hy hr; simp at hy; rw [hx] at hy; rw [← Option.some.inj hy]; exact hr
  | succ d ih =>
    intro i x y hx hy hr
    have hlt : i + d + 1 < ps.length := by
      obtain ⟨hlt, _⟩ := List.getElem?_eq_some_iff.1 hy
      omega
    have h1 := ih i x ps[i + d] hx (List.getElem?_eq_getElem (by omega)) hr
    exact lessP_reach (h (i + d) ps[i + d] y hlt (List.getElem?_eq_getElem (by omega)) (by rw [← hy]; rfl)) h1
/-- What the search by halves knows. -/
structure Halves (ps : List Pr) (g : Pr) (lo hi : Nat) : Prop where
  hle : lo ≤ hi
  hhi : hi ≤ ps.length
  below : ∀ i x, i < lo → ps[i]? = some x → reachB g x = false
  above : ∀ i x, hi ≤ i → ps[i]? = some x → reachB g x = true
theorem Halves.start (ps : List Pr) (g : Pr) : Halves ps g 0 ps.length :=
  ⟨Nat.zero_le _, Nat.le_refl _, fun _ _ h => absurd h (by omega), fun i x h hx => by
    obtain ⟨hlt, _⟩ := List.getElem?_eq_some_iff.1 hx
    omega⟩
theorem Halves.left {ps : List Pr} {g p : Pr} {lo hi k : Nat} (h : Halves ps g lo hi) (hinc : incP ps = true) (h1 : lo ≤ k) (h2 : k < hi) (hp : ps[k]? = some p) (hr : reachB g p = true) : Halves ps g lo k :=
  ⟨h1, by have := h.hhi; omega, h.below, fun i x hi' hx => reach_mono ((incP_iff ps).1 hinc) (i - k) k p x hp (by rw [← hx]; congr 1; omega) hr⟩
theorem Halves.right {ps : List Pr} {g p : Pr} {lo hi k : Nat} (h : Halves ps g lo hi) (hinc : incP ps = true) (h2 : k < hi) (hp : ps[k]? = some p) (hr : reachB g p = false) : Halves ps g (k + 1) hi :=
  ⟨h2, h.hhi, (fun i x hi' hx => by
    cases hx' : reachB g x
    · rfl
    · have := reach_mono ((incP_iff ps).1 hinc) (k - i) i x p hx (by rw [← hp]; congr 1; omega) hx'
      rw [hr] at this; cases this), h.above⟩
theorem Halves.cut {ps : List Pr} {g : Pr} {k : Nat} (h : Halves ps g k k) : cutP ps g = k := by
  unfold cutP
  by_cases hk : k < ps.length
  · rw [List.findIdx_eq hk]
    exact ⟨h.above k ps[k] (Nat.le_refl _) (List.getElem?_eq_getElem hk), fun j hj => h.below j _ hj (List.getElem?_eq_getElem (by omega))⟩
  · have : k = ps.length := by have := h.hhi; omega
    subst this
    rw [List.findIdx_eq_length]
    intro x hx
    obtain ⟨i, hi, rfl⟩ := List.getElem_of_mem hx
    exact h.below i _ hi (List.getElem?_eq_getElem hi)
theorem cut_spec (ps : List Pr) (g : Pr) (hinc : incP ps = true) : Halves ps g (cutP ps g) (cutP ps g) := by
  have hle : cutP ps g ≤ ps.length := List.findIdx_le_length
  refine ⟨Nat.le_refl _, hle, fun i x hi hx => ?_, fun i x hi hx => ?_⟩
  · obtain ⟨hlt, rfl⟩ := List.getElem?_eq_some_iff.1 hx
    have := List.not_of_lt_findIdx (p := reachB g) (xs := ps) (i := i) hi
    simpa using this
  · obtain ⟨hlt, rfl⟩ := List.getElem?_eq_some_iff.1 hx
    have hc : cutP ps g < ps.length := by omega
    have h1 : reachB g ps[cutP ps g] = true := List.findIdx_getElem (w := hc)
    exact reach_mono ((incP_iff ps).1 hinc) (i - cutP ps g) (cutP ps g) _ _ (List.getElem?_eq_getElem hc) (by rw [← List.getElem?_eq_getElem hlt]; congr 1; omega) h1

/-! the number of a known pair -/
def known (ps : List Pr) (a b : Int) : Int := ps.foldl (fun acc p => if p.a == a && p.b == b then p.n else acc) 0
theorem known_snoc (ps : List Pr) (p : Pr) (a b : Int) : known (ps ++ [p]) a b = if p.a == a && p.b == b then p.n else known ps a b := by
  unfold known
  rw [List.foldl_append]
  rfl
theorem known_keep {ps qs : List Pr} {a b : Int} (h : ∀ p ∈ qs, ¬ (p.a = a ∧ p.b = b)) : known (ps ++ qs) a b = known ps a b := by
  unfold known
  rw [List.foldl_append]
  generalize ps.foldl (fun acc p => if p.a == a && p.b == b then p.n else acc) 0 = acc
  induction qs generalizing acc with
  | nil => rfl
  | cons q qs ih =>
    rw [List.foldl_cons, if_neg (by have := h q (by simp); simpa using this)]
    exact ih (fun p hp => h p (by simp [hp])) acc
theorem sumAt_append (ps qs : List Pr) (a : Int) : sumAt (ps ++ qs) a = sumAt ps a + sumAt qs a := by
  simp only [sumAt, List.filter_append, List.map_append, total_append]
theorem sumAt_none {qs : List Pr} {a : Int} (h : ∀ p ∈ qs, p.a ≠ a) : sumAt qs a = 0 := by
  have : qs.filter (fun p => p.a == a) = [] := by
    rw [List.filter_eq_nil_iff]
    intro p hp e
    exact h p hp (by simpa using e)
  simp [sumAt, this, total]
theorem mem_drop_get {ps : List Pr} {k : Nat} {p : Pr} (h : p ∈ ps.drop k) : ∃ i, k ≤ i ∧ ps[i]? = some p := by
  obtain ⟨i, hi, rfl⟩ := List.getElem_of_mem h
  rw [List.length_drop] at hi
  exact ⟨k + i, by omega, by rw [List.getElem_drop, List.getElem?_eq_getElem (by omega)]⟩
theorem mem_take_get {ps : List Pr} {k : Nat} {p : Pr} (h : p ∈ ps.take k) : ∃ i, i < k ∧ ps[i]? = some p := by
  obtain ⟨i, hi, rfl⟩ := List.getElem_of_mem h
  rw [List.length_take] at hi
  exact ⟨i, by omega, by rw [List.getElem_take, List.getElem?_eq_getElem (by omega)]⟩
/-- The goal that Pair looks for. -/
def goalP (a : Int) : Pr := ⟨a, 0, 0⟩
theorem before_cut {ps : List Pr} {n : Nat} {a : Int} (hok : PsOK ps n) : ∀ p ∈ ps.take (cutP ps (goalP a)), p.a ≠ a := fun p hp e => by
  obtain ⟨i, hi, hpi⟩ := mem_take_get hp
  have := (cut_spec ps (goalP a) hok.2.2).below i p hi hpi
  have hb := (hok.2.1 p (List.mem_of_getElem? hpi)).1.2.1.1
  unfold reachB goalP at this
  simp at this
  omega
theorem after_cut {ps : List Pr} {n k : Nat} {a : Int} {p : Pr} (hok : PsOK ps n) (hk : cutP ps (goalP a) ≤ k) (hp : ps[k]? = some p) (hne : p.a ≠ a) : ∀ q ∈ ps.drop k, q.a ≠ a := fun q hq e => by
  obtain ⟨i, hi, hqi⟩ := mem_drop_get hq
  have h1 := (cut_spec ps (goalP a) hok.2.2).above k p hk hp
  have h2 : reachB ⟨p.a, p.b, 0⟩ q = true := by
    refine reach_mono ((incP_iff ps).1 hok.2.2) (i - k) k p q hp (by rw [← hqi]; congr 1; omega) (by unfold reachB; simp)
  unfold reachB goalP at *
  simp at *
  omega
theorem known_spec {ps : List Pr} {n : Nat} {a b : Int} (hok : PsOK ps n) :
    (∃ i : Nat, ∃ p, ps[i]? = some p ∧ p.a = a ∧ p.b = b ∧ known ps a b = p.n ∧ (∀ q ∈ ps.take i, ¬ (q.a = a ∧ q.b = b))) ∨ (known ps a b = 0 ∧ ∀ q ∈ ps, ¬ (q.a = a ∧ q.b = b)) := by
  by_cases h : ∀ q ∈ ps, ¬ (q.a = a ∧ q.b = b)
  · refine .inr ⟨?_, h⟩
    have := known_keep (ps := []) (qs := ps) (a := a) (b := b) h
    simpa [known] using this
  · have h' : ∃ q, q ∈ ps ∧ (q.a = a ∧ q.b = b) := by
      refine Classical.byContradiction fun hc => h fun q hq he => hc ⟨q, hq, he⟩
    obtain ⟨q, hq, hqa, hqb⟩ := h'
    obtain ⟨i, hi, rfl⟩ := List.getElem_of_mem hq
    have hinc := (incP_iff ps).1 hok.2.2
    have huniq : ∀ (d j : Nat) (x y : Pr), ps[j]? = some x → ps[j + d + 1]? = some y → lessP x y = true := by
      intro d
      induction d with
      | zero =>
        intro j x y hx hy
        obtain ⟨hlt, _⟩ := List.getElem?_eq_some_iff.1 hy
        exact hinc j x y (by omega) hx hy
      | succ d ih =>
        intro j x y hx hy
        obtain ⟨hlt, _⟩ := List.getElem?_eq_some_iff.1 hy
        have h1 := ih j x ps[j + d + 1] hx (List.getElem?_eq_getElem (by omega))
        have h2 := hinc (j + d + 1) ps[j + d + 1] y (by omega) (List.getElem?_eq_getElem (by omega)) hy
        unfold lessP at *
        simp at *
        omega
    refine .inl ⟨i, ps[i], List.getElem?_eq_getElem hi, hqa, hqb, ?_, fun x hx he => ?_⟩
    · have e : ps = (ps.take i ++ [ps[i]]) ++ ps.drop (i + 1) := by
        rw [List.append_assoc]
        simp
      conv => lhs; rw [e]
      rw [known_keep (fun x hx he => by
        obtain ⟨j, hj, hxj⟩ := mem_drop_get hx
        have := huniq (j - i - 1) i ps[i] x (List.getElem?_eq_getElem hi) (by rw [← hxj]; congr 1; omega)
        unfold lessP at this
        simp at this
        omega), known_snoc, if_pos (by simp [hqa, hqb])]
    · obtain ⟨j, hj, hxj⟩ := mem_take_get hx
      have := huniq (i - j - 1) j x ps[i] hxj (by rw [← List.getElem?_eq_getElem hi]; congr 1; omega)
      unfold lessP at this
      simp at this
      omega
/-- The cost of a word after another one. -/
def pcost (m : Mo) (a : Int) (k : Nat) : Int := if a < 0 then wcost m k else if known m.ps a k = 0 then m.back + wcost m k else lg (sumAt m.ps a) - lg (known m.ps a k)
theorem known_bd {ps : List Pr} {n : Nat} {a b : Int} (hok : PsOK ps n) : 0 ≤ known ps a b ∧ known ps a b ≤ 1073741824 := by
  rcases known_spec (a := a) (b := b) hok with ⟨i, p, hp, _, _, hk, _⟩ | ⟨hk, _⟩
  · have := hok.2.1 p (List.mem_of_getElem? hp)
    have h1 := this.1.2.2
    rw [hk]; omega
  · rw [hk]; omega
theorem sumAt_ok {ps : List Pr} {n : Nat} {a : Int} (hok : PsOK ps n) : 0 ≤ sumAt ps a ∧ sumAt ps a ≤ 1073741824 := by
  refine ⟨sumAt_nonneg (n := n) (fun p hp => (hok.2.1 p hp).1) a, ?_⟩
  by_cases h : ∀ p ∈ ps, p.a ≠ a
  · rw [sumAt_none h]; omega
  · have h' : ∃ p, p ∈ ps ∧ p.a = a := Classical.byContradiction fun hc => h fun p hp he => hc ⟨p, hp, he⟩
    obtain ⟨p, hp, rfl⟩ := h'
    exact (hok.2.1 p hp).2.2
theorem pair_start {ps : List Pr} {n : Nat} {a b : Int} (hok : PsOK ps n) : sumAt (ps.take (cutP ps (goalP a) + 0)) a = 0 ∧ known (ps.take (cutP ps (goalP a) + 0)) a b = 0 := by
  have h := before_cut (a := a) hok
  refine ⟨sumAt_none h, ?_⟩
  have := known_keep (ps := []) (qs := ps.take (cutP ps (goalP a))) (a := a) (b := b) (fun p hp he => h p hp he.1)
  simpa [known] using this
theorem pair_ends {ps : List Pr} {n k : Nat} {a b : Int} (hok : PsOK ps n) (hk : cutP ps (goalP a) ≤ k) (he : ps.length ≤ k ∨ ∃ p, ps[k]? = some p ∧ p.a ≠ a) :
    sumAt (ps.take k) a = sumAt ps a ∧ known (ps.take k) a b = known ps a b := by
  rcases he with he | ⟨p, hp, hne⟩
  · rw [List.take_of_length_le he]; exact ⟨rfl, rfl⟩
  · have h := after_cut hok hk hp hne
    have e1 : sumAt ps a = sumAt (ps.take k) a + sumAt (ps.drop k) a := by rw [← sumAt_append, List.take_append_drop]
    have e2 : known ps a b = known (ps.take k ++ ps.drop k) a b := by rw [List.take_append_drop]
    rw [sumAt_none h] at e1
    rw [known_keep (fun q hq he => h q hq he.1)] at e2
    exact ⟨by omega, e2.symm⟩
theorem wcost_bd (m : Mo) (k : Nat) (hok : CsOK m.cs m.ws.length) (hk : k < m.cs.length) (hl : m.ws.length ≤ 65536) : -512 ≤ wcost m k ∧ wcost m k ≤ 512 := by
  have hx : m.cs[k]? = some m.cs[k] := List.getElem?_eq_getElem hk
  rw [wcost_at hx]
  have ht0 := (hok.to (k := m.cs.length))
  rw [List.take_length] at ht0
  have h1 := lg_bd (total m.cs + m.ws.length) (by omega)
  have hc := hok.2.1 m.cs[k] (List.getElem_mem hk)
  have h2 := lg_bd (m.cs[k] + 1) (by omega)
  omega
end Go.Proofs.Ytbfpcleogdalfaa
