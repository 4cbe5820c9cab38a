/-
  The plain law of layer 21: sorting by cost and key, taking eight and sorting by key leaves what the reference picks by ranks.
-/
import Derived.Test.YtpjecpefbfobdaaAreaMath
import Derived.Sort.Statements
namespace Go.Proofs.Ytpjecpefbfobdaa
open List

def lessC (x y : Cho) : Bool := decide (x.cost < y.cost) || (decide (x.cost = y.cost) && decide (x.key < y.key))
def rankC (l : List Cho) (x : Cho) : Nat := l.countP (fun y => lessC y x)
/-- The reference's choice of eight. -/
def fewOf (l : List Cho) : List Cho := l.filter (fun x => decide (rankC l x < 8))
def chosOf (as : List Ar) (ts : List Tp) (p : Pt) : List Cho :=
  (as.map fun a => (⟨a.key, priceOf a (shiftOf ts a.key) p⟩ : Cho)).filter (fun c => decide (c.cost ≤ 1000))
/-- What a touch means: the slot and the error. -/
def touchOf (as : List Ar) (ts : List Tp) (p : Pt) : List Cho × Int :=
  if insideB p = true then (if chosOf as ts p = [] then ([], 210) else (fewOf (chosOf as ts p), 0)) else ([], 1)

/-- The keys of a list increase. -/
def IncK (l : List Cho) : Prop := l.Pairwise (fun x y => x.key < y.key)
def IncA (l : List Ar) : Prop := l.Pairwise (fun x y => x.key < y.key)
theorem chos_inc {as : List Ar} {ts : List Tp} {p : Pt} (h : IncA as) : IncK (chosOf as ts p) := by
  unfold IncK chosOf
  refine Pairwise.sublist filter_sublist ?_
  rw [pairwise_map]
  exact h
theorem chos_len {as : List Ar} {ts : List Tp} {p : Pt} : (chosOf as ts p).length ≤ as.length := by
  unfold chosOf
  refine Nat.le_trans (List.length_filter_le _ _) ?_
  simp

theorem inc_unique {a b : List Cho} (ha : IncK a) (hb : IncK b) (hp : a ~ b) : a = b :=
  hp.eq_of_pairwise (fun x y _ _ h1 h2 => absurd h1 (by omega)) ha hb
theorem few_small {l : List Cho} (h : l.length ≤ 8) : fewOf l = l := by
  unfold fewOf
  rw [filter_eq_self]
  intro x hx
  rw [decide_eq_true_iff]
  unfold rankC
  have h1 : l.countP (fun y => lessC y x) < l.length := by
    rw [countP_eq_length_filter]
    refine Nat.lt_of_le_of_ne (length_filter_le _ _) (fun e => ?_)
    have := length_filter_eq_length_iff.1 e x hx
    simp [lessC] at this
  omega

/-- A list in strict order: an element's rank is its place. -/
theorem rank_at {d : List Cho} (hd : d.Pairwise (fun x y => lessC x y = true)) {i : Nat} (hi : i < d.length) : rankC d d[i] = i := by
  unfold rankC
  conv => lhs; arg 2; rw [← take_append_drop i d]
  rw [countP_append, drop_eq_getElem_cons hi, countP_cons]
  have hx : lessC d[i] d[i] = false := by simp [lessC]
  have h1 : (take i d).countP (fun y => lessC y d[i]) = i := by
    rw [countP_eq_length.2, length_take]
    · omega
    · intro y hy
      obtain ⟨j, hj, rfl⟩ := getElem_of_mem hy
      rw [length_take] at hj
      rw [getElem_take]
      exact (pairwise_iff_getElem.1 hd) j i (by omega) hi (by omega)
  have h2 : (drop (i + 1) d).countP (fun y => lessC y d[i]) = 0 := by
    rw [countP_eq_zero]
    intro y hy hc
    obtain ⟨j, hj, rfl⟩ := getElem_of_mem hy
    rw [length_drop] at hj
    rw [getElem_drop] at hc
    have := (pairwise_iff_getElem.1 hd) i (i + 1 + j) hi (by omega) (by omega)
    simp [lessC] at this hc
    omega
  rw [h1, h2, hx]
  simp
theorem filter_rank {d : List Cho} (hd : d.Pairwise (fun x y => lessC x y = true)) (k : Nat) : d.filter (fun x => decide (rankC d x < k)) = d.take k := by
  have hs : ∀ (l : List Cho) (p : Cho → Bool), (∀ i (hi : i < l.length), p l[i] = decide (i < k)) → l.filter p = l.take k := by
    intro l p h
    have e := take_append_drop k l
    conv => lhs; rw [← e]
    rw [filter_append, filter_eq_self.2, filter_eq_nil_iff.2, append_nil]
    · intro y hy
      obtain ⟨j, hj, rfl⟩ := getElem_of_mem hy
      rw [length_drop] at hj
      rw [getElem_drop, h (k + j) (by omega)]
      simp
    · intro y hy
      obtain ⟨j, hj, rfl⟩ := getElem_of_mem hy
      rw [length_take] at hj
      rw [getElem_take, h j (by omega)]
      simp; omega
  refine hs d _ fun i hi => ?_
  rw [rank_at hd hi]

/-- Sorted by cost and key, cut to eight, sorted by key: the reference's choice. -/
theorem few_sorted {l d1 d2 : List Cho} (hl : IncK l) (hp1 : d1 ~ l) (hs1 : d1.Pairwise (fun x y => lessC y x = false)) (hp2 : d2 ~ d1.take 8) (hs2 : d2.Pairwise (fun x y => ¬ y.key < x.key)) : d2 = fewOf l := by
  have hnd : l.Pairwise (fun x y => x.key ≠ y.key) := Pairwise.imp (fun h => by omega) hl
  have hn1 : d1.Pairwise (fun x y => x.key ≠ y.key) := (hp1.pairwise_iff (fun h => fun e => h e.symm)).2 hnd
  have h1 : d1.Pairwise (fun x y => lessC x y = true) := by
    refine Pairwise.imp ?_ (hs1.and hn1)
    rintro x y ⟨ha, hb⟩
    simp [lessC] at ha ⊢
    omega
  have hn2 : d2.Pairwise (fun x y => x.key ≠ y.key) := (hp2.pairwise_iff (fun h => fun e => h e.symm)).2 (Pairwise.sublist (take_sublist _ _) hn1)
  have h2 : IncK d2 := by
    refine Pairwise.imp ?_ (hs2.and hn2)
    rintro x y ⟨ha, hb⟩
    omega
  have h3 : IncK (fewOf l) := Pairwise.sublist filter_sublist hl
  refine inc_unique h2 h3 (hp2.trans ?_)
  rw [← filter_rank h1 8]
  unfold fewOf
  have e : (fun x => decide (rankC d1 x < 8)) = (fun x => decide (rankC l x < 8)) := by
    funext x
    unfold rankC
    rw [hp1.countP_eq]
  rw [e]
  exact hp1.filter _
theorem sorted_small {l d : List Cho} (hl : IncK l) (hp : d ~ l) (hs : d.Pairwise (fun x y => ¬ y.key < x.key)) : d = l := by
  have hnd : l.Pairwise (fun x y => x.key ≠ y.key) := Pairwise.imp (fun h => by omega) hl
  have hn2 : d.Pairwise (fun x y => x.key ≠ y.key) := (hp.pairwise_iff (fun h => fun e => h e.symm)).2 hnd
  refine inc_unique ?_ hl hp
  refine Pairwise.imp ?_ (hs.and hn2)
  rintro x y ⟨ha, hb⟩
  omega
end Go.Proofs.Ytpjecpefbfobdaa
