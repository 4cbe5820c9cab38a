/-
  The plain law of layers 15 and 16: ways, their order, potentials as least costs, the first of the cheapest ways.
-/
import Derived.Test.YtaohbicjdmogkaaGrMath
namespace Go.Proofs.Ytaohbicjdmogkaa
open List

/-- Go's order of lists: at the first place at which they differ. -/
def lexLt : List Int → List Int → Bool
  | [], [] => false
  | [], _ :: _ => true
  | _ :: _, [] => false
  | a :: x, b :: y => if a < b then true else if b < a then false else lexLt x y
theorem lex_irrefl (a : List Int) : lexLt a a = false := by
  induction a with
  | nil => rfl
  | cons x a ih => unfold lexLt; simp [ih]
theorem lex_trans : ∀ {a b c : List Int}, lexLt a b = true → lexLt b c = true → lexLt a c = true
  | [], [], _, h, _ => by simp [lexLt] at h
  | [], _ :: _, [], _, h => by simp [lexLt] at h
  | [], _ :: _, _ :: _, _, _ => rfl
  | _ :: _, [], _, h, _ => by simp [lexLt] at h
  | _ :: _, _ :: _, [], _, h => by simp [lexLt] at h
  | x :: a, y :: b, z :: c, h1, h2 => by
    unfold lexLt at h1 h2 ⊢
    by_cases h3 : x < y
    · by_cases h4 : y < z
      · rw [if_pos (by omega)]
      · by_cases h5 : z < y
        · rw [if_neg h4, if_pos h5] at h2; cases h2
        · rw [if_pos (by omega)]
    · by_cases h4 : y < x
      · rw [if_neg h3, if_pos h4] at h1; cases h1
      · rw [if_neg h3, if_neg h4] at h1
        have : x = y := by omega
        subst this
        by_cases h5 : x < z
        · rw [if_pos h5]
        · by_cases h6 : z < x
          · rw [if_neg h5, if_pos h6] at h2; cases h2
          · rw [if_neg h5, if_neg h6] at h2 ⊢
            exact lex_trans h1 h2
theorem lex_total : ∀ (a b : List Int), lexLt a b = true ∨ a = b ∨ lexLt b a = true
  | [], [] => .inr (.inl rfl)
  | [], _ :: _ => .inl rfl
  | _ :: _, [] => .inr (.inr rfl)
  | x :: a, y :: b => by
    unfold lexLt
    by_cases h1 : x < y
    · left; rw [if_pos h1]
    · by_cases h2 : y < x
      · right; right; rw [if_pos h2]
      · have : x = y := by omega
        subst this
        simp only [Int.lt_irrefl, if_false]
        rcases lex_total a b with h | h | h
        · left; exact h
        · right; left; rw [h]
        · right; right; exact h
theorem lex_asymm {a b : List Int} (h : lexLt a b = true) : lexLt b a = false := by
  cases hb : lexLt b a with
  | false => rfl
  | true => have := lex_trans h hb; rw [lex_irrefl] at this; cases this
theorem lex_pre (p a b : List Int) : lexLt (p ++ a) (p ++ b) = lexLt a b := by
  induction p with
  | nil => rfl
  | cons x p ih => rw [cons_append, cons_append]; conv => lhs; unfold lexLt
                   rw [if_neg (by omega), if_neg (by omega), ih]

/-- A way from a node to the last one. -/
def wayB (g : Gr) : Int → List Int → Bool
  | v, [] => decide (v = g.n - 1)
  | v, i :: r => decide (0 ≤ i ∧ i < g.ls.length ∧ (lkAt g i).fr = v) && wayB g (lkAt g i).to r
def sumC (g : Gr) : List Int → Int
  | [] => 0
  | i :: r => (lkAt g i).cost + sumC g r
theorem lkAt_mem {g : Gr} {i : Int} (h : 0 ≤ i ∧ i < g.ls.length) : g.ls[i.toNat]? = some (lkAt g i) := by
  unfold lkAt
  rw [List.getD_eq_getElem?_getD, List.getElem?_eq_getElem (by omega)]
  rfl
theorem lkAt_ok {g : Gr} (hg : GrOK g) {i : Int} (h : 0 ≤ i ∧ i < g.ls.length) : LkOK g.n (lkAt g i) := hg.ls _ (List.mem_of_getElem? (lkAt_mem h))
theorem lvs_iff {g : Gr} {v i : Int} : i ∈ lvs g v ↔ 0 ≤ i ∧ i < g.ls.length ∧ (lkAt g i).fr = v := by
  rw [lvs_mem]
  constructor
  · rintro ⟨j, l, rfl, h2, h3⟩
    have hj := (List.getElem?_eq_some_iff.1 h2).1
    have := lkAt_mem (g := g) (i := (j : Int)) (by omega)
    rw [Int.toNat_natCast] at this
    rw [h2] at this
    exact ⟨by omega, by omega, by rw [← Option.some.inj this]; exact h3⟩
  · rintro ⟨h1, h2, h3⟩
    exact ⟨i.toNat, lkAt g i, by omega, lkAt_mem ⟨h1, h2⟩, h3⟩
theorem way_cons {g : Gr} {v i : Int} {r : List Int} : wayB g v (i :: r) = true ↔ i ∈ lvs g v ∧ wayB g (lkAt g i).to r = true := by
  rw [lvs_iff]
  conv => lhs; unfold wayB
  simp

/-- The potential of a node, in the list of all. -/
def hAt (g : Gr) (v : Int) : Int := (potL g).getD v.toNat 0
/-- The least cost by the link i, or -1. -/
def viaOf (g : Gr) (i : Int) : Int := if 0 ≤ hAt g (lkAt g i).to then (lkAt g i).cost + hAt g (lkAt g i).to else -1
def minStep (f : Int → Int) (acc i : Int) : Int := if 0 ≤ f i ∧ (acc < 0 ∨ f i < acc) then f i else acc
theorem min_spec_ (f : Int → Int) : ∀ (L : List Int) (a : Int), (a < 0 → a = -1) →
    (L.foldl (minStep f) a = a ∧ ∀ i ∈ L, 0 ≤ f i → 0 ≤ a ∧ a ≤ f i) ∨ ((∃ i ∈ L, f i = L.foldl (minStep f) a ∧ 0 ≤ f i) ∧ (∀ i ∈ L, 0 ≤ f i → L.foldl (minStep f) a ≤ f i) ∧ (0 ≤ a → L.foldl (minStep f) a ≤ a)) := by
  intro L
  induction L with
  | nil => intro a _; exact .inl ⟨rfl, by simp⟩
  | cons x L ih =>
    intro a ha
    rw [foldl_cons]
    by_cases hx : 0 ≤ f x ∧ (a < 0 ∨ f x < a)
    · have e : minStep f a x = f x := by unfold minStep; rw [if_pos hx]
      rw [e]
      rcases ih (f x) (by omega) with ⟨h1, h2⟩ | ⟨⟨i, hi, h1, h2⟩, h3, h4⟩
      · right
        refine ⟨⟨x, by simp, h1.symm, hx.1⟩, fun i hi hf => ?_, fun _ => by omega⟩
        rcases mem_cons.1 hi with rfl | hi
        · omega
        · have := h2 i hi hf; omega
      · right
        refine ⟨⟨i, by simp [hi], h1, h2⟩, fun j hj hf => ?_, fun h0 => by have := h4 hx.1; omega⟩
        rcases mem_cons.1 hj with rfl | hj
        · exact h4 hx.1
        · exact h3 j hj hf
    · have e : minStep f a x = a := by unfold minStep; rw [if_neg hx]
      rw [e]
      rcases ih a ha with ⟨h1, h2⟩ | ⟨⟨i, hi, h1, h2⟩, h3, h4⟩
      · left
        refine ⟨h1, fun i hi hf => ?_⟩
        rcases mem_cons.1 hi with rfl | hi
        · omega
        · exact h2 i hi hf
      · right
        refine ⟨⟨i, by simp [hi], h1, h2⟩, fun j hj hf => ?_, h4⟩
        rcases mem_cons.1 hj with rfl | hj
        · have := h4 (by omega); omega
        · exact h3 j hj hf
theorem min_spec (f : Int → Int) (L : List Int) : (L.foldl (minStep f) (-1) = -1 ∧ ∀ i ∈ L, f i < 0) ∨
    ((∃ i ∈ L, f i = L.foldl (minStep f) (-1)) ∧ 0 ≤ L.foldl (minStep f) (-1) ∧ ∀ i ∈ L, 0 ≤ f i → L.foldl (minStep f) (-1) ≤ f i) := by
  rcases min_spec_ f L (-1) (fun _ => rfl) with ⟨h1, h2⟩ | ⟨⟨i, hi, h1, h2⟩, h3, _⟩
  · left
    refine ⟨h1, fun i hi => ?_⟩
    rcases Int.lt_or_le (f i) 0 with h | h
    · exact h
    · have := h2 i hi h; omega
  · exact .inr ⟨⟨i, hi, h1⟩, by omega, h3⟩

theorem potS_drop (g : Gr) : ∀ k m, k ≤ m → (potS g m).drop (m - k) = potS g k := by
  intro k m
  induction m with
  | zero => intro h; obtain rfl : k = 0 := by omega
            rfl
  | succ m ih =>
    intro h
    rcases Nat.lt_or_ge k (m + 1) with h1 | h1
    · cases m with
      | zero => obtain rfl : k = 0 := by omega
                rfl
      | succ m =>
        have e : potS g (m + 2) = (lvs g (g.n - (m + 2))).foldl (potStep g (g.n - (m + 2)) (potS g (m + 1))) (-1) :: potS g (m + 1) := rfl
        rw [show m + 1 + 1 - k = (m + 1 - k) + 1 by omega, e, drop_succ_cons]
        exact ih (by omega)
    · obtain rfl : k = m + 1 := by omega
      simp
theorem hAt_eq {g : Gr} (hg : GrOK g) {k : Nat} (hk : k ≤ g.n.toNat) {v : Int} (h0 : g.n - k ≤ v) (_h1 : v < g.n) : (potS g k).getD (v - (g.n - k)).toNat 0 = hAt g v := by
  have hn := hg.n
  unfold hAt potL
  rw [← potS_drop g k g.n.toNat hk, List.getD_eq_getElem?_getD, List.getD_eq_getElem?_getD, getElem?_drop]
  congr 2
  omega
theorem hAt_last {g : Gr} (hg : GrOK g) : hAt g (g.n - 1) = 0 := by
  have hn := hg.n
  rw [← hAt_eq hg (k := 1) (by omega) (by omega) (by omega)]
  have : (g.n - 1 - (g.n - (1 : Nat))).toNat = 0 := by omega
  rw [this]
  rfl
theorem hAt_step {g : Gr} (hg : GrOK g) {v : Int} (h0 : 0 ≤ v) (h1 : v < g.n - 1) : hAt g v = (lvs g v).foldl (minStep (viaOf g)) (-1) := by
  have hn := hg.n
  obtain ⟨k, hk⟩ : ∃ k : Nat, g.n - v = (k : Int) + 2 := ⟨(g.n - v - 2).toNat, by omega⟩
  rw [← hAt_eq hg (k := k + 2) (by omega) (v := v) (by omega) (by omega)]
  have e1 : (v - (g.n - ((k + 2 : Nat) : Int))).toNat = 0 := by omega
  rw [e1]
  unfold potS
  rw [List.getD_cons_zero]
  have e2 : g.n - ((k : Int) + 2) = v := by omega
  rw [e2]
  have : ∀ (L : List Int) (a : Int), (∀ i ∈ L, i ∈ lvs g v) → L.foldl (potStep g v (potS g (k + 1))) a = L.foldl (minStep (viaOf g)) a := by
    intro L
    induction L with
    | nil => intro a _; rfl
    | cons x L ih =>
      intro a h
      rw [foldl_cons, foldl_cons]
      have hx := lvs_iff.1 (h x (by simp))
      have hok := lkAt_ok hg ⟨hx.1, hx.2.1⟩
      have e : potStep g v (potS g (k + 1)) a x = minStep (viaOf g) a x := by
        unfold potStep minStep viaOf
        dsimp only
        have hto := hok.to
        have hlt := hok.lt
        have hcost := hok.cost
        have hh := hAt_eq hg (k := k + 1) (by omega) (v := (lkAt g x).to) (by omega) (by omega)
        have e3 : ((lkAt g x).to - (g.n - ((k + 1 : Nat) : Int))).toNat = ((lkAt g x).to - v - 1).toNat := by omega
        rw [e3] at hh
        rw [hh]
        by_cases h1 : 0 ≤ hAt g (lkAt g x).to
        · rw [if_pos h1]
          by_cases h2 : a < 0 ∨ (lkAt g x).cost + hAt g (lkAt g x).to < a
          · rw [if_pos ⟨h1, h2⟩, if_pos ⟨by omega, h2⟩]
          · rw [if_neg (fun h => h2 h.2), if_neg (fun h => h2 h.2)]
        · rw [if_neg (fun h => h1 h.1), if_neg h1, if_neg (by omega)]
      rw [e]
      exact ih _ fun i hi => h i (by simp [hi])
  exact this _ _ fun _ h => h
/-- No way costs less than the potential. -/
theorem way_h {g : Gr} (hg : GrOK g) : ∀ (w : List Int) (v : Int), 0 ≤ v → v < g.n → wayB g v w = true → 0 ≤ hAt g v ∧ hAt g v ≤ sumC g w := by
  intro w
  induction w with
  | nil =>
    intro v h0 h1 h
    unfold wayB at h
    have : v = g.n - 1 := by simpa using h
    rw [this, hAt_last hg]
    exact ⟨by omega, by unfold sumC; omega⟩
  | cons i w ih =>
    intro v h0 h1 h
    obtain ⟨hi, hw⟩ := way_cons.1 h
    have hi' := lvs_iff.1 hi
    have hok := lkAt_ok hg ⟨hi'.1, hi'.2.1⟩
    have hto := hok.to
    have hlt := hok.lt
    have hcost := hok.cost
    obtain ⟨h2, h3⟩ := ih (lkAt g i).to (by omega) (by omega) hw
    have hv : v < g.n - 1 := by omega
    have hvia : viaOf g i = (lkAt g i).cost + hAt g (lkAt g i).to := by unfold viaOf; rw [if_pos h2]
    unfold sumC
    rw [hAt_step hg h0 hv]
    rcases min_spec (viaOf g) (lvs g v) with ⟨h4, h5⟩ | ⟨_, h4, h5⟩
    · have := h5 i hi; omega
    · have := h5 i hi (by omega); omega
/-- The first of the cheapest ways from a node. -/
def bestW (g : Gr) : Nat → Int → List Int
  | 0, _ => []
  | k + 1, v => if v = g.n - 1 then [] else match (lvs g v).find? (fun i => decide (viaOf g i = hAt g v)) with
    | some i => i :: bestW g k (lkAt g i).to
    | none => []
theorem best_way {g : Gr} (hg : GrOK g) : ∀ (k : Nat) (v : Int), 0 ≤ v → v < g.n → g.n - v ≤ (k : Int) + 1 → 0 ≤ hAt g v → wayB g v (bestW g k v) = true ∧ sumC g (bestW g k v) = hAt g v := by
  intro k
  induction k with
  | zero =>
    intro v h0 h1 h2 _
    have : v = g.n - 1 := by omega
    unfold bestW
    rw [this, hAt_last hg]
    exact ⟨by unfold wayB; simp, rfl⟩
  | succ k ih =>
    intro v h0 h1 h2 h3
    unfold bestW
    by_cases hv : v = g.n - 1
    · rw [if_pos hv, hv, hAt_last hg]
      exact ⟨by unfold wayB; simp, rfl⟩
    · rw [if_neg hv]
      have hst := hAt_step hg h0 (by omega)
      rcases min_spec (viaOf g) (lvs g v) with ⟨h4, _⟩ | ⟨⟨i0, hi0, h5⟩, h4, _⟩
      · omega
      · cases hf : (lvs g v).find? (fun i => decide (viaOf g i = hAt g v)) with
        | none =>
          have := find?_eq_none.1 hf i0 hi0
          simp at this
          omega
        | some i =>
          have hi := mem_of_find?_eq_some hf
          have hvi := find?_some hf
          simp at hvi
          have hi' := lvs_iff.1 hi
          have hok := lkAt_ok hg ⟨hi'.1, hi'.2.1⟩
          have hto := hok.to
          have hlt := hok.lt
          have ht : 0 ≤ hAt g (lkAt g i).to := by
            rcases Int.lt_or_le (hAt g (lkAt g i).to) 0 with h | h
            · unfold viaOf at hvi; rw [if_neg (by omega)] at hvi; omega
            · exact h
          obtain ⟨h6, h7⟩ := ih (lkAt g i).to (by omega) (by omega) (by omega) ht
          have hvia : viaOf g i = (lkAt g i).cost + hAt g (lkAt g i).to := by unfold viaOf; rw [if_pos ht]
          exact ⟨way_cons.2 ⟨hi, h6⟩, by show (lkAt g i).cost + sumC g _ = _; omega⟩
theorem find_first {p : Int → Bool} : ∀ {L : List Int}, L.Pairwise (· < ·) → ∀ {i j : Int}, L.find? p = some i → j ∈ L → p j = true → i = j ∨ i < j := by
  intro L
  induction L with
  | nil => intro _ i j h; simp at h
  | cons x L ih =>
    intro hp i j h hj hpj
    obtain ⟨h1, h2⟩ := pairwise_cons.1 hp
    rw [find?_cons] at h
    cases hx : p x with
    | true =>
      rw [hx] at h
      obtain rfl := Option.some.inj h
      rcases mem_cons.1 hj with rfl | hj
      · exact .inl rfl
      · exact .inr (h1 j hj)
    | false =>
      rw [hx] at h
      rcases mem_cons.1 hj with rfl | hj
      · rw [hx] at hpj; cases hpj
      · exact ih h2 h hj hpj
theorem best_first {g : Gr} (hg : GrOK g) : ∀ (k : Nat) (v : Int), 0 ≤ v → v < g.n → g.n - v ≤ (k : Int) + 1 → ∀ w, wayB g v w = true → sumC g w = hAt g v → bestW g k v = w ∨ lexLt (bestW g k v) w = true := by
  intro k
  induction k with
  | zero =>
    intro v h0 h1 h2 w hw _
    cases w with
    | nil => exact .inl rfl
    | cons i w =>
      obtain ⟨hi, _⟩ := way_cons.1 hw
      have hi' := lvs_iff.1 hi
      have hok := lkAt_ok hg ⟨hi'.1, hi'.2.1⟩
      have hto := hok.to
      have hlt := hok.lt
      omega
  | succ k ih =>
    intro v h0 h1 h2 w hw hs
    unfold bestW
    by_cases hv : v = g.n - 1
    · rw [if_pos hv]
      cases w with
      | nil => exact .inl rfl
      | cons i w => exact .inr rfl
    · rw [if_neg hv]
      cases w with
      | nil => unfold wayB at hw; simp at hw; omega
      | cons j w =>
        obtain ⟨hj, hw'⟩ := way_cons.1 hw
        have hj' := lvs_iff.1 hj
        have hok := lkAt_ok hg ⟨hj'.1, hj'.2.1⟩
        have hto := hok.to
        have hlt := hok.lt
        obtain ⟨h3, h4⟩ := way_h hg w _ (by omega) (by omega) hw'
        have hst := hAt_step hg h0 (by omega)
        have hvia : viaOf g j = (lkAt g j).cost + hAt g (lkAt g j).to := by unfold viaOf; rw [if_pos h3]
        have hs' : (lkAt g j).cost + sumC g w = hAt g v := hs
        have hcost := hok.cost
        have hmin : hAt g v ≤ viaOf g j := by
          rcases min_spec (viaOf g) (lvs g v) with ⟨_, h5⟩ | ⟨_, _, h5⟩
          · have := h5 j hj; omega
          · have := h5 j hj (by omega); omega
        have hje : viaOf g j = hAt g v := by omega
        have hse : sumC g w = hAt g (lkAt g j).to := by omega
        cases hf : (lvs g v).find? (fun i => decide (viaOf g i = hAt g v)) with
        | none =>
          have := find?_eq_none.1 hf j hj
          simp at this
          omega
        | some i =>
          dsimp only
          rcases find_first (lvs_inc g v) hf hj (by simpa using hje) with rfl | hij
          · rcases ih (lkAt g i).to (by omega) (by omega) (by omega) w hw' hse with h | h
            · left; rw [h]
            · right; unfold lexLt; rw [if_neg (by omega), if_neg (by omega)]; exact h
          · right; unfold lexLt; rw [if_pos hij]
end Go.Proofs.Ytaohbicjdmogkaa
