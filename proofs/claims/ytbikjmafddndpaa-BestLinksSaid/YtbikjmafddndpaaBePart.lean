/-
  The end of the best way is the best way from the node at which it begins.
-/
import Derived.Test.YtbikjmafddndpaaBeRest
import Derived.Test.YtbikjmafddndpaaBsLaw
namespace Go.Proofs.Ytbikjmafddndpaa
open Go Go.RowKit

/-- A way that lies ahead of all others. -/
structure IsFirst (g : Gr) (v : Int) (w : List Int) : Prop where
  fway : wayB g v w = true
  fmin : ∀ w', wayB g v w' = true → w' = w ∨ canLt ⟨w, sumC g w⟩ ⟨w', sumC g w'⟩ = true
theorem first_of {g : Gr} (hg : GrOK g) (h14 : g.ls.length ≤ 14) {y : Can} (h : (allR g).take 1 = [y]) : IsFirst g 0 y.links ∧ y.cost = sumC g y.links := by
  have hA := allR_is hg h14
  cases hc : allR g with
  | nil => rw [hc] at h; simp at h
  | cons z r =>
    rw [hc] at h hA
    obtain rfl : z = y := by simpa using h
    have hz := (hA.2 z).1 (by simp)
    refine ⟨⟨hz.1, fun w' hw' => ?_⟩, hz.2⟩
    have hm := (hA.2 ⟨w', sumC g w'⟩).2 ⟨hw', rfl⟩
    rcases List.mem_cons.1 hm with h1 | h1
    · left; rw [← h1]
    · right
      have := (List.pairwise_cons.1 hA.1).1 _ h1
      rw [← hz.2]
      exact this
theorem first_one (g : Gr) : (allR g).take 1 = [] ∨ ∃ y, (allR g).take 1 = [y] := by
  cases allR g with
  | nil => left; rfl
  | cons z r => right; exact ⟨z, rfl⟩
theorem first_end {g : Gr} {p e : List Int} (h : IsFirst g 0 (p ++ e)) : IsFirst g (endP g 0 p) e := by
  have hw := h.fway
  rw [way_app, Bool.and_eq_true] at hw
  refine ⟨hw.2, fun w' hw' => ?_⟩
  have h2 : wayB g 0 (p ++ w') = true := by rw [way_app, hw.1, hw']; rfl
  rcases h.fmin _ h2 with h3 | h3
  · left; exact List.append_cancel_left h3
  · right
    rw [canLt_iff] at h3 ⊢
    simp only [sumC_app, lex_pre] at h3
    rcases h3 with h4 | ⟨h4, h5⟩
    · left; show sumC g e < sumC g w'; omega
    · right; exact ⟨by show sumC g e = sumC g w'; omega, h5⟩
/-- The numbers of the links behind a node, among the first k. -/
def numsTo (t : Int) (ls : List Lk) : Nat → List Int
  | 0 => []
  | k + 1 => match ls[k]? with
    | some l => if t ≤ l.fr then numsTo t ls k ++ [(k : Int)] else numsTo t ls k
    | none => numsTo t ls k
theorem numsTo_succ {t : Int} {ls : List Lk} {k : Nat} {l : Lk} (h : ls[k]? = some l) : numsTo t ls (k + 1) = if t ≤ l.fr then numsTo t ls k ++ [(k : Int)] else numsTo t ls k := by
  show (match ls[k]? with | some l => if t ≤ l.fr then numsTo t ls k ++ [(k : Int)] else numsTo t ls k | none => numsTo t ls k) = _
  rw [h]
theorem numsTo_rest {F : Lk → Lk} {g : Gr} {t : Int} : ∀ k, k ≤ g.ls.length → restTo F t g.ls k = (numsTo t g.ls k).map (fun i => F (lkAt g i)) := by
  intro k
  induction k with
  | zero => intro _; rfl
  | succ k ih =>
    intro hk
    have hl : g.ls[k]? = some g.ls[k] := List.getElem?_eq_getElem (by omega)
    rw [restTo_succ hl, numsTo_succ hl, ih (by omega)]
    by_cases hf : t ≤ (g.ls[k]).fr
    · rw [if_pos hf, if_pos hf, List.map_append]
      simp [lkAt_nat hl]
    · rw [if_neg hf, if_neg hf]
theorem numsTo_mem {g : Gr} {t : Int} : ∀ k, k ≤ g.ls.length → ∀ i, i ∈ numsTo t g.ls k ↔ 0 ≤ i ∧ i < (k : Int) ∧ t ≤ (lkAt g i).fr := by
  intro k
  induction k with
  | zero => intro _ i; simp [numsTo]; omega
  | succ k ih =>
    intro hk i
    have hl : g.ls[k]? = some g.ls[k] := List.getElem?_eq_getElem (by omega)
    have e := lkAt_nat hl
    rw [numsTo_succ hl]
    have h := ih (by omega) i
    by_cases hf : t ≤ (g.ls[k]).fr
    · rw [if_pos hf, List.mem_append, h, List.mem_singleton]
      constructor
      · rintro (⟨h1, h2, h3⟩ | rfl)
        · exact ⟨h1, by omega, h3⟩
        · exact ⟨by omega, by omega, by rw [e]; exact hf⟩
      · rintro ⟨h1, h2, h3⟩
        by_cases hik : i = (k : Int)
        · right; exact hik
        · left; exact ⟨h1, by omega, h3⟩
    · rw [if_neg hf, h]
      constructor
      · rintro ⟨h1, h2, h3⟩; exact ⟨h1, by omega, h3⟩
      · rintro ⟨h1, h2, h3⟩
        refine ⟨h1, ?_, h3⟩
        by_cases hik : i = (k : Int)
        · subst hik; rw [e] at h3; exact absurd h3 hf
        · omega
theorem numsTo_inc {g : Gr} {t : Int} : ∀ k, k ≤ g.ls.length → (numsTo t g.ls k).Pairwise (· < ·) := by
  intro k
  induction k with
  | zero => intro _; exact List.Pairwise.nil
  | succ k ih =>
    intro hk
    have hl : g.ls[k]? = some g.ls[k] := List.getElem?_eq_getElem (by omega)
    rw [numsTo_succ hl]
    by_cases hf : t ≤ (g.ls[k]).fr
    · rw [if_pos hf]
      refine List.pairwise_append.2 ⟨ih (by omega), List.pairwise_singleton _ _, fun a ha b hb => ?_⟩
      obtain rfl := List.mem_singleton.1 hb
      exact ((numsTo_mem k (by omega) a).1 ha).2.1
    · rw [if_neg hf]
      exact ih (by omega)
/-- The number of a link of the graph behind t. -/
def numAt (g : Gr) (t : Int) (j : Int) : Int := (numsTo t g.ls g.ls.length).getD j.toNat 0
/-- F turns and keeps the costs. -/
structure Keeping (F : Lk → Lk) : Prop where
  kcost : ∀ l, (F l).cost = l.cost
section
variable {F : Lk → Lk} {g : Gr} {t : Int}
theorem rest_len : (restG F g t).ls.length = (numsTo t g.ls g.ls.length).length := by
  show (restTo F t g.ls g.ls.length).length = _
  rw [numsTo_rest _ (Nat.le_refl _), List.length_map]
theorem numAt_get {j : Int} (h0 : 0 ≤ j) (h1 : j < (restG F g t).ls.length) : (numsTo t g.ls g.ls.length)[j.toNat]? = some (numAt g t j) := by
  rw [rest_len] at h1
  unfold numAt
  rw [List.getD_eq_getElem?_getD, List.getElem?_eq_getElem (by omega)]
  rfl
theorem rest_at {j : Int} (h0 : 0 ≤ j) (h1 : j < (restG F g t).ls.length) : lkAt (restG F g t) j = F (lkAt g (numAt g t j)) := by
  have h := numAt_get h0 h1
  have e : (restG F g t).ls[j.toNat]? = some (F (lkAt g (numAt g t j))) := by
    show (restTo F t g.ls g.ls.length)[j.toNat]? = _
    rw [numsTo_rest _ (Nat.le_refl _), List.getElem?_map, h]
    rfl
  have := lkAt_nat e
  rwa [Int.toNat_of_nonneg h0] at this
theorem numAt_mem {j : Int} (h0 : 0 ≤ j) (h1 : j < (restG F g t).ls.length) : 0 ≤ numAt g t j ∧ numAt g t j < g.ls.length ∧ t ≤ (lkAt g (numAt g t j)).fr :=
  (numsTo_mem g.ls.length (Nat.le_refl _) _).1 (List.mem_of_getElem? (numAt_get h0 h1))
theorem numAt_lt {i j : Int} (h0 : 0 ≤ i) (hij : i < j) (h1 : j < (restG F g t).ls.length) : numAt g t i < numAt g t j := by
  have h2 := numAt_get h0 (F := F) (g := g) (t := t) (by omega)
  have h3 := numAt_get (F := F) (g := g) (t := t) (j := j) (by omega) h1
  obtain ⟨a1, a2⟩ := List.getElem?_eq_some_iff.1 h2
  obtain ⟨b1, b2⟩ := List.getElem?_eq_some_iff.1 h3
  have := List.pairwise_iff_getElem.1 (numsTo_inc (g := g) (t := t) g.ls.length (Nat.le_refl _)) i.toNat j.toNat a1 b1 (by omega)
  rwa [a2, b2] at this
theorem numAt_of {i : Int} (h0 : 0 ≤ i) (h1 : i < g.ls.length) (h2 : t ≤ (lkAt g i).fr) : ∃ j, 0 ≤ j ∧ j < ((restG F g t).ls.length : Int) ∧ numAt g t j = i := by
  obtain ⟨k, hk, he⟩ := List.getElem_of_mem ((numsTo_mem g.ls.length (Nat.le_refl _) i).2 ⟨h0, h1, h2⟩)
  refine ⟨(k : Int), by omega, by rw [rest_len]; omega, ?_⟩
  unfold numAt
  rw [Int.toNat_natCast, List.getD_eq_getElem?_getD, List.getElem?_eq_getElem hk, he]
  rfl
/-- A way of the graph behind t is a way of the graph. -/
theorem rest_way (hF : Turns F g.n t) : ∀ (w : List Int) (v : Int), wayB (restG F g t) v w = true → wayB g (v + t) (w.map (numAt g t)) = true ∧ ∀ j ∈ w, 0 ≤ j ∧ j < ((restG F g t).ls.length : Int)
  | [], v, h => by
    have h : decide (v = (g.n - t) - 1) = true := h
    rw [decide_eq_true_iff] at h
    refine ⟨?_, fun j hj => by cases hj⟩
    show decide (v + t = g.n - 1) = true
    rw [decide_eq_true_iff]
    omega
  | i :: r, v, h => by
    rw [wayB_cons, Bool.and_eq_true, decide_eq_true_iff] at h
    obtain ⟨⟨h0, h1, h2⟩, h3⟩ := h
    obtain ⟨m0, m1, m2⟩ := numAt_mem (F := F) h0 h1
    rw [rest_at h0 h1] at h2 h3
    rw [hF.tfr] at h2
    rw [hF.tto] at h3
    obtain ⟨e1, e2⟩ := rest_way hF r _ h3
    rw [Int.sub_add_cancel] at e1
    refine ⟨?_, fun j hj => ?_⟩
    · rw [List.map_cons, wayB_cons, Bool.and_eq_true, decide_eq_true_iff]
      exact ⟨⟨m0, m1, by omega⟩, e1⟩
    · rcases List.mem_cons.1 hj with rfl | hj
      · exact ⟨h0, h1⟩
      · exact e2 j hj
theorem rest_sum (hK : Keeping F) : ∀ (w : List Int), (∀ j ∈ w, 0 ≤ j ∧ j < ((restG F g t).ls.length : Int)) → sumC g (w.map (numAt g t)) = sumC (restG F g t) w
  | [], _ => rfl
  | i :: r, h => by
    obtain ⟨h0, h1⟩ := h i (by simp)
    rw [List.map_cons, sumC_cons, sumC_cons, rest_sum hK r (fun j hj => h j (List.mem_cons_of_mem _ hj)), rest_at h0 h1, hK.kcost]
/-- Each way from a node behind t is one of the graph behind t. -/
theorem way_rest (hg : GrOK g) (hF : Turns F g.n t) : ∀ (w : List Int) (u : Int), t ≤ u → wayB g u w = true → ∃ w', wayB (restG F g t) (u - t) w' = true ∧ w = w'.map (numAt g t)
  | [], u, hu, h => by
    have h : decide (u = g.n - 1) = true := h
    rw [decide_eq_true_iff] at h
    refine ⟨[], ?_, rfl⟩
    show decide (u - t = (g.n - t) - 1) = true
    rw [decide_eq_true_iff]
    omega
  | i :: r, u, hu, h => by
    rw [wayB_cons, Bool.and_eq_true, decide_eq_true_iff] at h
    obtain ⟨⟨h0, h1, h2⟩, h3⟩ := h
    have hok := lkAt_ok hg ⟨h0, h1⟩
    have hlt := hok.lt
    obtain ⟨j, j0, j1, rfl⟩ := numAt_of (F := F) (g := g) (t := t) h0 h1 (by omega)
    obtain ⟨w', hw', rfl⟩ := way_rest hg hF r _ (by omega) h3
    refine ⟨j :: w', ?_, rfl⟩
    rw [wayB_cons, Bool.and_eq_true, decide_eq_true_iff, rest_at j0 j1, hF.tfr, hF.tto]
    exact ⟨⟨j0, j1, by omega⟩, hw'⟩
theorem lex_num : ∀ (a b : List Int), (∀ j ∈ a, 0 ≤ j ∧ j < ((restG F g t).ls.length : Int)) → (∀ j ∈ b, 0 ≤ j ∧ j < ((restG F g t).ls.length : Int)) → lexLt a b = true → lexLt (a.map (numAt g t)) (b.map (numAt g t)) = true
  | [], [], _, _, h => by cases h
  | [], y :: b, _, _, _ => rfl
  | x :: a, [], _, _, h => by cases h
  | x :: a, y :: b, ha, hb, h => by
    obtain ⟨x0, x1⟩ := ha x (by simp)
    obtain ⟨y0, y1⟩ := hb y (by simp)
    rw [List.map_cons, List.map_cons]
    unfold lexLt at h ⊢
    by_cases h1 : x < y
    · rw [if_pos (numAt_lt (F := F) x0 h1 y1)]
    · rw [if_neg h1] at h
      by_cases h2 : y < x
      · rw [if_pos h2] at h; cases h
      · rw [if_neg h2] at h
        obtain rfl : x = y := by omega
        rw [if_neg (Int.lt_irrefl _), if_neg (Int.lt_irrefl _)]
        exact lex_num a b (fun j hj => ha j (List.mem_cons_of_mem _ hj)) (fun j hj => hb j (List.mem_cons_of_mem _ hj)) h
/-- The first way of the graph behind t is the first way from t. -/
theorem rest_first (hg : GrOK g) (hF : Turns F g.n t) (hK : Keeping F) {a b : List Int} (ha : IsFirst (restG F g t) 0 a) (hb : IsFirst g t b) : a.map (numAt g t) = b := by
  obtain ⟨w1, r1⟩ := rest_way hF a 0 ha.fway
  rw [Int.zero_add] at w1
  obtain ⟨b', hb', rfl⟩ := way_rest (F := F) hg hF b t (Int.le_refl _) hb.fway
  rw [Int.sub_self] at hb'
  obtain ⟨_, r2⟩ := rest_way hF b' 0 hb'
  rcases ha.fmin b' hb' with h | h
  · rw [h]
  · rcases hb.fmin _ w1 with h2 | h2
    · exact h2
    · exfalso
      rw [canLt_iff] at h h2
      simp only [rest_sum hK a r1, rest_sum hK b' r2] at h h2
      rcases h with h | ⟨h3, h4⟩
      · rcases h2 with h2 | ⟨h5, _⟩ <;> omega
      · have h5 := lex_num (F := F) a b' r1 r2 h4
        rcases h2 with h2 | ⟨_, h6⟩
        · omega
        · rw [lex_asymm h5] at h6; cases h6
end
end Go.Proofs.Ytbikjmafddndpaa
