/-
  BsHeap, BsGrp, joined. No conditions.
-/
import Derived.Test.YtfjkmgjjifhdkaaZ03
import Derived.Test.YtfjkmgjjifhdkaaZ05
/-
  The plain law of layer 15: a heap in a list, its elements sifted up and down; it gives back the least one.
-/
namespace Go.Proofs.Ytfjkmgjjifhdkaa
open List

section heap
variable {α : Type}
/-- What the order says agrees with an order of keys, for different places. -/
def Ag (key : α → Can) (lt : α → α → Bool) (l : List α) : Prop := l.Pairwise fun a b => lt a b = canLt (key a) (key b) ∧ lt b a = canLt (key b) (key a)
theorem Ag.perm {key : α → Can} {lt : α → α → Bool} {l l' : List α} (h : Ag key lt l) (hp : l' ~ l) : Ag key lt l' :=
  (hp.pairwise_iff (fun {a b} h => ⟨h.2, h.1⟩)).2 h
def kl (key : α → Can) (a b : α) : Bool := canLt (key a) (key b)
/-- a comes not behind b. -/
def LE (key : α → Can) (a b : α) : Prop := canLt (key b) (key a) = false
section
variable {key : α → Can} {a b c : α}
theorem LE.refl : LE key a a := canLt_irrefl _
theorem LE.trans (h1 : LE key a b) (h2 : LE key b c) : LE key a c := by
  unfold LE at *
  cases h : canLt (key c) (key a) with
  | false => rfl
  | true =>
    rcases canLt_total (key a) (key b) with h3 | h3 | h3
    · have := canLt_trans h h3; rw [h2] at this; cases this
    · rw [h3] at h; rw [h] at h2; cases h2
    · rw [h3] at h1; cases h1
theorem LE.lt (h : kl key a b = true) : LE key a b := canLt_asymm h
theorem LE.not (h : ¬ kl key a b = true) : LE key b a := by unfold LE; unfold kl at h; simpa using h
end
variable [Inhabited α]
def swp (l : List α) (i j : Nat) : List α := (l.set i (l.getD j default)).set j (l.getD i default)
def upM (lt : α → α → Bool) : Nat → List α → Nat → List α
  | 0, l, _ => l
  | f + 1, l, i => if i = 0 then l else if lt (l.getD i default) (l.getD ((i - 1) / 2) default) = true then upM lt f (swp l i ((i - 1) / 2)) ((i - 1) / 2) else l
def lsA (lt : α → α → Bool) (l : List α) (i : Nat) : Nat := if 2 * i + 1 < l.length ∧ lt (l.getD (2 * i + 1) default) (l.getD i default) = true then 2 * i + 1 else i
def lsM (lt : α → α → Bool) (l : List α) (i : Nat) : Nat := if 2 * i + 2 < l.length ∧ lt (l.getD (2 * i + 2) default) (l.getD (lsA lt l i) default) = true then 2 * i + 2 else lsA lt l i
def dnM (lt : α → α → Bool) : Nat → List α → Nat → List α
  | 0, l, _ => l
  | f + 1, l, i => if lsM lt l i = i then l else dnM lt f (swp l i (lsM lt l i)) (lsM lt l i)
def pushM (lt : α → α → Bool) (l : List α) (x : α) : List α := upM lt (l.length + 1) (l ++ [x]) l.length
def popM (lt : α → α → Bool) (l : List α) : List α := dnM lt l.length ((l.set 0 (l.getD (l.length - 1) default)).take (l.length - 1)) 0
theorem swp_len (l : List α) (i j : Nat) : (swp l i j).length = l.length := by unfold swp; simp
theorem swp_getD {l : List α} {i j : Nat} (hi : i < l.length) (hj : j < l.length) (k : Nat) : (swp l i j).getD k default = if k = j then l.getD i default else if k = i then l.getD j default else l.getD k default := by
  unfold swp
  simp only [getD_eq_getElem?_getD, getElem?_set, length_set]
  by_cases h1 : k = j
  · subst h1; simp [hj]
  · by_cases h2 : k = i
    · subst h2; simp [hi, Ne.symm h1, h1]
    · simp [Ne.symm h1, Ne.symm h2, h1, h2]
theorem swp_perm {l : List α} {i j : Nat} (hi : i < l.length) (hj : j < l.length) : swp l i j ~ l := by
  unfold swp
  have h1 : l.getD i default = l[i] := by simp [hi]
  have h2 : l.getD j default = l[j] := by simp [hj]
  rw [h1, h2]
  exact set_set_perm hi hj
theorem lsA_lt {lt : α → α → Bool} {l : List α} {i : Nat} (hi : i < l.length) : lsA lt l i < l.length := by unfold lsA; split <;> omega
theorem lsM_lt {lt : α → α → Bool} {l : List α} {i : Nat} (hi : i < l.length) : lsM lt l i < l.length := by unfold lsM; have := lsA_lt (lt := lt) hi; split <;> omega
theorem lsA_cases (lt : α → α → Bool) (l : List α) (i : Nat) : lsA lt l i = i ∨ lsA lt l i = 2 * i + 1 := by unfold lsA; split <;> simp
theorem lsM_cases (lt : α → α → Bool) (l : List α) (i : Nat) : lsM lt l i = i ∨ lsM lt l i = 2 * i + 1 ∨ lsM lt l i = 2 * i + 2 := by
  unfold lsM; rcases lsA_cases lt l i with h | h <;> split <;> simp [h]
theorem Ag.at_ {key : α → Can} {lt : α → α → Bool} {l : List α} (h : Ag key lt l) {i j : Nat} (hi : i < l.length) (hj : j < l.length) (hne : i ≠ j) :
    lt (l.getD i default) (l.getD j default) = canLt (key (l.getD i default)) (key (l.getD j default)) := by
  have h1 : l.getD i default = l[i] := by simp [hi]
  have h2 : l.getD j default = l[j] := by simp [hj]
  rw [h1, h2]
  rcases Nat.lt_or_ge i j with h3 | h3
  · exact (pairwise_iff_getElem.1 h i j hi hj h3).1
  · exact (pairwise_iff_getElem.1 h j i hj hi (by omega)).2
theorem upM_ag {key : α → Can} {lt : α → α → Bool} : ∀ (f : Nat) (l : List α) (i : Nat), i < l.length → Ag key lt l → upM lt f l i = upM (kl key) f l i := by
  intro f
  induction f with
  | zero => intros; rfl
  | succ f ih =>
    intro l i hi h
    unfold upM
    by_cases h0 : i = 0
    · rw [if_pos h0, if_pos h0]
    · rw [if_neg h0, if_neg h0, h.at_ hi (show (i - 1) / 2 < l.length by omega) (by omega)]
      rw [show kl key (l.getD i default) (l.getD ((i - 1) / 2) default) = canLt (key (l.getD i default)) (key (l.getD ((i - 1) / 2) default)) from rfl]
      rw [ih _ _ (by rw [swp_len]; omega) (h.perm (swp_perm hi (by omega)))]
theorem lsA_ag {key : α → Can} {lt : α → α → Bool} {l : List α} {i : Nat} (hi : i < l.length) (h : Ag key lt l) : lsA lt l i = lsA (kl key) l i := by
  unfold lsA
  by_cases h1 : 2 * i + 1 < l.length
  · rw [h.at_ h1 hi (by omega)]; rfl
  · rw [if_neg (fun h => h1 h.1), if_neg (fun h => h1 h.1)]
theorem lsM_ag {key : α → Can} {lt : α → α → Bool} {l : List α} {i : Nat} (hi : i < l.length) (h : Ag key lt l) : lsM lt l i = lsM (kl key) l i := by
  unfold lsM
  rw [lsA_ag hi h]
  by_cases h1 : 2 * i + 2 < l.length
  · rw [h.at_ h1 (lsA_lt hi) (by rcases lsA_cases (kl key) l i with h | h <;> omega)]; rfl
  · rw [if_neg (fun h => h1 h.1), if_neg (fun h => h1 h.1)]
theorem dnM_ag {key : α → Can} {lt : α → α → Bool} : ∀ (f : Nat) (l : List α) (i : Nat), i < l.length → Ag key lt l → dnM lt f l i = dnM (kl key) f l i := by
  intro f
  induction f with
  | zero => intros; rfl
  | succ f ih =>
    intro l i hi h
    unfold dnM
    rw [lsM_ag hi h, ih _ _ (by rw [swp_len]; exact lsM_lt hi) (h.perm (swp_perm hi (lsM_lt hi)))]
def HeapO (key : α → Can) (l : List α) : Prop := ∀ j, 0 < j → j < l.length → LE key (l.getD ((j - 1) / 2) default) (l.getD j default)
theorem up_heap {key : α → Can} : ∀ (f : Nat) (l : List α) (i : Nat), i < l.length → i < f →
    (∀ j, 0 < j → j < l.length → j ≠ i → LE key (l.getD ((j - 1) / 2) default) (l.getD j default)) →
    (∀ j, 0 < j → j < l.length → (j - 1) / 2 = i → 0 < i → LE key (l.getD ((i - 1) / 2) default) (l.getD j default)) →
    HeapO key (upM (kl key) f l i) ∧ upM (kl key) f l i ~ l := by
  intro f
  induction f with
  | zero => intro l i _ h; omega
  | succ f ih =>
    intro l i hi hf h1 h2
    unfold upM
    by_cases h0 : i = 0
    · rw [if_pos h0]
      exact ⟨fun j hj hl => h1 j hj hl (by omega), Perm.refl _⟩
    · rw [if_neg h0]
      have hp : (i - 1) / 2 < l.length := by omega
      by_cases hlt : kl key (l.getD i default) (l.getD ((i - 1) / 2) default) = true
      · rw [if_pos hlt]
        have hsp := swp_perm hi hp
        have := ih (swp l i ((i - 1) / 2)) ((i - 1) / 2) (by rw [swp_len]; omega) (by omega) ?_ ?_
        · exact ⟨this.1, this.2.trans hsp⟩
        · intro j hj hjl hne
          rw [swp_len] at hjl
          rw [swp_getD hi hp, swp_getD hi hp, if_neg hne]
          by_cases e1 : j = i
          · subst e1
            rw [if_pos rfl, if_pos rfl]
            exact LE.lt hlt
          · rw [if_neg e1]
            by_cases e2 : (j - 1) / 2 = (i - 1) / 2
            · rw [if_pos e2]
              have := h1 j hj hjl e1
              rw [e2] at this
              exact (LE.lt hlt).trans this
            · rw [if_neg e2]
              by_cases e3 : (j - 1) / 2 = i
              · rw [if_pos e3]
                exact h2 j hj hjl e3 (by omega)
              · rw [if_neg e3]
                exact h1 j hj hjl e1
        · intro j hj hjl he h0'
          rw [swp_len] at hjl
          have hpp : ((i - 1) / 2 - 1) / 2 ≠ (i - 1) / 2 := by omega
          have hpi : ((i - 1) / 2 - 1) / 2 ≠ i := by omega
          rw [swp_getD hi hp, swp_getD hi hp, if_neg hpp, if_neg hpi, if_neg (show j ≠ (i - 1) / 2 by omega)]
          have hP := h1 ((i - 1) / 2) h0' hp (by omega)
          by_cases e1 : j = i
          · rw [if_pos e1]; exact hP
          · rw [if_neg e1]
            have := h1 j hj hjl e1
            rw [he] at this
            exact hP.trans this
      · rw [if_neg hlt]
        refine ⟨fun j hj hl => ?_, Perm.refl _⟩
        by_cases e : j = i
        · subst e; exact LE.not hlt
        · exact h1 j hj hl e
theorem lsM_least {key : α → Can} {l : List α} {i : Nat} : LE key (l.getD (lsM (kl key) l i) default) (l.getD i default) ∧
    ∀ j, 0 < j → j < l.length → (j - 1) / 2 = i → LE key (l.getD (lsM (kl key) l i) default) (l.getD j default) := by
  have hA : LE key (l.getD (lsA (kl key) l i) default) (l.getD i default) ∧ (2 * i + 1 < l.length → LE key (l.getD (lsA (kl key) l i) default) (l.getD (2 * i + 1) default)) := by
    unfold lsA
    by_cases h : 2 * i + 1 < l.length ∧ kl key (l.getD (2 * i + 1) default) (l.getD i default) = true
    · rw [if_pos h]; exact ⟨LE.lt h.2, fun _ => LE.refl⟩
    · rw [if_neg h]; exact ⟨LE.refl, fun h1 => LE.not (fun h2 => h ⟨h1, h2⟩)⟩
  have hB : LE key (l.getD (lsM (kl key) l i) default) (l.getD (lsA (kl key) l i) default) ∧ (2 * i + 2 < l.length → LE key (l.getD (lsM (kl key) l i) default) (l.getD (2 * i + 2) default)) := by
    unfold lsM
    by_cases h : 2 * i + 2 < l.length ∧ kl key (l.getD (2 * i + 2) default) (l.getD (lsA (kl key) l i) default) = true
    · rw [if_pos h]; exact ⟨LE.lt h.2, fun _ => LE.refl⟩
    · rw [if_neg h]; exact ⟨LE.refl, fun h1 => LE.not (fun h2 => h ⟨h1, h2⟩)⟩
  refine ⟨hB.1.trans hA.1, fun j hj hl he => ?_⟩
  rcases (by omega : j = 2 * i + 1 ∨ j = 2 * i + 2) with rfl | rfl
  · exact hB.1.trans (hA.2 hl)
  · exact hB.2 hl
theorem dn_heap {key : α → Can} : ∀ (f : Nat) (l : List α) (i : Nat), i < l.length → l.length ≤ f + i →
    (∀ j, 0 < j → j < l.length → (j - 1) / 2 ≠ i → LE key (l.getD ((j - 1) / 2) default) (l.getD j default)) →
    (∀ j, 0 < j → j < l.length → (j - 1) / 2 = i → 0 < i → LE key (l.getD ((i - 1) / 2) default) (l.getD j default)) →
    HeapO key (dnM (kl key) f l i) ∧ dnM (kl key) f l i ~ l := by
  intro f
  induction f with
  | zero => intro l i h1 h2; omega
  | succ f ih =>
    intro l i hi hf h1 h2
    unfold dnM
    have hls := lsM_least (key := key) (l := l) (i := i)
    have hlt := lsM_lt (lt := kl key) hi
    have hcs := lsM_cases (kl key) l i
    generalize lsM (kl key) l i = c at *
    by_cases h0 : c = i
    · rw [if_pos h0]
      subst h0
      refine ⟨fun j hj hl => ?_, Perm.refl _⟩
      by_cases e : (j - 1) / 2 = c
      · rw [e]; exact hls.2 j hj hl e
      · exact h1 j hj hl e
    · rw [if_neg h0]
      have hci : (c - 1) / 2 = i := by omega
      have hsp := swp_perm hi hlt
      have := ih (swp l i c) c (by rw [swp_len]; omega) (by rw [swp_len]; omega) ?_ ?_
      · exact ⟨this.1, this.2.trans hsp⟩
      · intro j hj hjl hne
        rw [swp_len] at hjl
        rw [swp_getD hi hlt, swp_getD hi hlt, if_neg hne]
        by_cases e1 : (j - 1) / 2 = i
        · rw [if_pos e1]
          by_cases e2 : j = c
          · rw [if_pos e2]; exact hls.1
          · rw [if_neg e2, if_neg (show j ≠ i by omega)]; exact hls.2 j hj hjl e1
        · rw [if_neg e1, if_neg (show j ≠ c by intro e; rw [e] at e1; exact e1 hci)]
          by_cases e2 : j = i
          · rw [if_pos e2]
            subst e2
            exact h2 c (by omega) hlt hci hj
          · rw [if_neg e2]; exact h1 j hj hjl e1
      · intro j hj hjl he hc0
        rw [swp_len] at hjl
        rw [hci, swp_getD hi hlt, swp_getD hi hlt, if_neg (fun e => h0 e.symm), if_pos rfl, if_neg (show j ≠ c by omega), if_neg (show j ≠ i by omega)]
        have := h1 j hj hjl (by omega)
        rw [he] at this
        exact this
theorem heap_root {key : α → Can} {l : List α} (h : HeapO key l) : ∀ j, j < l.length → LE key (l.getD 0 default) (l.getD j default) := by
  intro j
  induction j using Nat.strongRecOn with
  | _ j ih =>
    intro hj
    rcases Nat.eq_zero_or_pos j with rfl | h0
    · exact LE.refl
    · exact (ih ((j - 1) / 2) (by omega) (by omega)).trans (h j h0 hj)
theorem push_spec {key : α → Can} {lt : α → α → Bool} {l : List α} {x : α} (h : HeapO key l) (ha : Ag key lt (l ++ [x])) : HeapO key (pushM lt l x) ∧ pushM lt l x ~ l ++ [x] := by
  unfold pushM
  rw [upM_ag _ _ _ (by simp) ha]
  refine up_heap _ _ _ (by simp) (by omega) (fun j hj hl hne => ?_) (fun j hj hl he _ => ?_)
  · rw [length_append, length_singleton] at hl
    have e1 : (l ++ [x]).getD j default = l.getD j default := by simp only [getD_eq_getElem?_getD]; rw [getElem?_append_left (by omega)]
    have e2 : (l ++ [x]).getD ((j - 1) / 2) default = l.getD ((j - 1) / 2) default := by simp only [getD_eq_getElem?_getD]; rw [getElem?_append_left (by omega)]
    rw [e1, e2]
    exact h j hj (by omega)
  · rw [length_append, length_singleton] at hl; omega
theorem pop_list {l : List α} (hl : 0 < l.length) : l.getD 0 default :: (l.set 0 (l.getD (l.length - 1) default)).take (l.length - 1) ~ l := by
  cases l with
  | nil => simp at hl
  | cons x t =>
    cases ht : t.reverse with
    | nil =>
      have : t = [] := by simpa using ht
      subst this
      simp
    | cons y s =>
      have : t = s.reverse ++ [y] := by rw [← reverse_reverse t, ht]; simp
      subst this
      have e1 : (x :: (s.reverse ++ [y])).getD ((x :: (s.reverse ++ [y])).length - 1) default = y := by simp
      rw [e1]
      have e2 : ((x :: (s.reverse ++ [y])).set 0 y).take ((x :: (s.reverse ++ [y])).length - 1) = y :: s.reverse := by
        simp only [set_cons_zero, length_cons, length_append, length_reverse, length_nil, Nat.add_sub_cancel]
        rw [take_succ_cons, take_append_of_le_length (by simp), take_of_length_le (by simp)]
      rw [e2]
      show x :: y :: s.reverse ~ x :: (s.reverse ++ [y])
      exact Perm.cons x (perm_append_singleton y s.reverse).symm
theorem pop_spec {key : α → Can} {lt : α → α → Bool} {l : List α} (hl : 0 < l.length) (h : HeapO key l) (ha : Ag key lt l) :
    HeapO key (popM lt l) ∧ l.getD 0 default :: popM lt l ~ l ∧ ∀ x ∈ l, LE key (l.getD 0 default) x := by
  have hroot : ∀ x ∈ l, LE key (l.getD 0 default) x := fun x hx => by
    obtain ⟨j, hj, rfl⟩ := getElem_of_mem hx
    have := heap_root h j hj
    rw [show l.getD j default = l[j] by simp [hj]] at this
    exact this
  have hpl := pop_list hl
  unfold popM
  rcases Nat.lt_or_ge 1 l.length with h1 | h1
  · have hag : Ag key lt ((l.set 0 (l.getD (l.length - 1) default)).take (l.length - 1)) := (pairwise_cons.1 (ha.perm hpl)).2
    have hlen : ((l.set 0 (l.getD (l.length - 1) default)).take (l.length - 1)).length = l.length - 1 := by simp
    have hget : ∀ j, 0 < j → j < l.length - 1 → ((l.set 0 (l.getD (l.length - 1) default)).take (l.length - 1)).getD j default = l.getD j default := fun j hj hjl => by
      simp only [getD_eq_getElem?_getD]
      rw [getElem?_take_of_lt hjl, getElem?_set_ne (by omega)]
    rw [dnM_ag _ _ _ (by rw [hlen]; omega) hag]
    obtain ⟨h2, h3⟩ := dn_heap (key := key) l.length _ 0 (by rw [hlen]; omega) (by rw [hlen]; omega) (fun j hj hjl hne => by
      rw [hlen] at hjl
      rw [hget j hj hjl, hget _ (by omega) (by omega)]
      exact h j hj (by omega)) (fun j _ _ _ h0 => by omega)
    exact ⟨h2, (Perm.cons _ h3).trans hpl, hroot⟩
  · have h4 : l.length = 1 := by omega
    rw [h4] at hpl ⊢
    simp only [Nat.sub_self, take_zero] at hpl ⊢
    have e : dnM lt 1 ([] : List α) 0 = [] := by unfold dnM; simp [lsM, lsA]
    rw [e]
    exact ⟨fun j _ hj => by simp at hj, hpl, hroot⟩
end heap
end Go.Proofs.Ytfjkmgjjifhdkaa

/-
  The plain law of layer 15: groups of ways, parted by their first ways; what a list of first candidates is; the loop of List.
-/
namespace Go.Proofs.Ytfjkmgjjifhdkaa
open List

structure Gp where
  head : List Int
  rank : Nat
  link : Int
  cost : Int
deriving Inhabited
/-- The ways that begin with head and go on with a link of rank r or more, or end there. -/
def InH (g : Gr) (head : List Int) (r : Nat) (w : List Int) : Prop := ∃ t, w = head ++ t ∧ wayB g 0 w = true ∧ ∀ i t', t = i :: t' → i ∈ (frL g (endP g 0 head)).drop r
def fw (g : Gr) (G : Gp) : List Int := G.head ++ G.link :: bw g (lkAt g G.link).to
def fc (g : Gr) (G : Gp) : Can := ⟨fw g G, G.cost⟩
structure GOK (g : Gr) (G : Gp) : Prop where
  path : pathB g 0 G.head = true
  link : (frL g (endP g 0 G.head))[G.rank]? = some G.link
  cost : G.cost = sumC g G.head + viaOf g G.link
/-- A first rest of a way, from rank r on. -/
def FirstT (g : Gr) (v : Int) (r : Nat) (t : List Int) : Prop := (t = [] ∧ v = g.n - 1) ∨ ∃ i, t = i :: bw g (lkAt g i).to ∧ (frL g v)[r]? = some i
theorem mem_drop_of {α : Type} {l : List α} {r : Nat} {x : α} (h : l[r]? = some x) : x ∈ l.drop r := by
  have : (l.drop r)[0]? = some x := by rw [getElem?_drop]; simpa using h
  exact mem_of_getElem? this
theorem drop_split {α : Type} {l : List α} {r : Nat} {x y : α} (h : l[r]? = some x) (hy : y ∈ l.drop r) : y = x ∨ y ∈ l.drop (r + 1) := by
  obtain ⟨hr, rfl⟩ := List.getElem?_eq_some_iff.1 h
  rw [drop_eq_getElem_cons hr] at hy
  rcases mem_cons.1 hy with h | h
  · exact .inl h
  · exact .inr h
theorem nodup_drop {α : Type} {l : List α} (hn : l.Nodup) {r : Nat} {x : α} (h : l[r]? = some x) : x ∉ l.drop (r + 1) := by
  obtain ⟨hr, rfl⟩ := List.getElem?_eq_some_iff.1 h
  have := (drop_sublist r l).nodup hn
  rw [drop_eq_getElem_cons hr] at this
  exact (nodup_cons.1 this).1
theorem end_bd {g : Gr} (hg : GrOK g) {p : List Int} (h : pathB g 0 p = true) : 0 ≤ endP g 0 p ∧ endP g 0 p < g.n ∧ 0 ≤ sumC g p ∧ sumC g p ≤ 1000000 * g.n ∧ (p.length : Int) < g.n := by
  have hn := hg.n
  have := path_bd hg p 0 (by omega) (by omega) h
  omega
/-- The first way of a group. -/
theorem GOK.first {g : Gr} {G : Gp} (h : GOK g G) : FirstT g (endP g 0 G.head) G.rank (G.link :: bw g (lkAt g G.link).to) := .inr ⟨_, rfl, h.link⟩
theorem GOK.mem {g : Gr} {G : Gp} (h : GOK g G) : G.link ∈ frL g (endP g 0 G.head) := mem_of_getElem? h.link
theorem first_way {g : Gr} (hg : GrOK g) {hd t : List Int} {r : Nat} (hp : pathB g 0 hd = true) (hf : FirstT g (endP g 0 hd) r t) : wayB g 0 (hd ++ t) = true ∧ InH g hd r (hd ++ t) := by
  have hb := end_bd hg hp
  have hw : wayB g 0 (hd ++ t) = true := by
    rw [way_app, hp, Bool.true_and]
    rcases hf with ⟨rfl, hv⟩ | ⟨i, rfl, hi⟩
    · unfold wayB; simpa using hv
    · have hm := mem_of_getElem? hi
      have hl := frL_link hg hm
      exact way_cons.2 ⟨(frL_mem.1 hm).1, (bw_way hg (by omega) (by omega) hl.2.2.2.2.2.2.2).1⟩
  refine ⟨hw, t, rfl, hw, fun i t' he => ?_⟩
  rcases hf with ⟨rfl, _⟩ | ⟨j, rfl, hj⟩
  · cases he
  · injection he with h1 _
    subst h1
    exact mem_drop_of hj
theorem first_sum {g : Gr} (hg : GrOK g) {hd : List Int} {i : Int} (hp : pathB g 0 hd = true) (hi : i ∈ frL g (endP g 0 hd)) : sumC g (hd ++ i :: bw g (lkAt g i).to) = sumC g hd + viaOf g i := by
  have hb := end_bd hg hp
  have hl := frL_link hg hi
  rw [sumC_app, sumC_cons, (bw_way hg (by omega) (by omega) hl.2.2.2.2.2.2.2).2, frL_via hi]
theorem GOK.sum {g : Gr} (hg : GrOK g) {G : Gp} (h : GOK g G) : sumC g (fw g G) = G.cost := by
  unfold fw
  rw [first_sum hg h.path h.mem, h.cost]
/-- No way of the ways from a rank on comes before the first one. -/
theorem first_least {g : Gr} (hg : GrOK g) {hd t : List Int} {r : Nat} (hp : pathB g 0 hd = true) (hf : FirstT g (endP g 0 hd) r t) {w : List Int} (hw : InH g hd r w) :
    w = hd ++ t ∨ canLt ⟨hd ++ t, sumC g (hd ++ t)⟩ ⟨w, sumC g w⟩ = true := by
  have hb := end_bd hg hp
  obtain ⟨s, rfl, hws, hi⟩ := hw
  rw [way_app, hp, Bool.true_and] at hws
  rcases hf with ⟨rfl, hv⟩ | ⟨i, rfl, hfi⟩
  · cases s with
    | nil => exact .inl rfl
    | cons j s =>
      have := (way_frL hg hb.1 hb.2.1 hws).1
      rw [hv, frL_last hg] at this
      cases this
  · have hmi := mem_of_getElem? hfi
    have hli := frL_link hg hmi
    cases s with
    | nil =>
      have : endP g 0 hd = g.n - 1 := by unfold wayB at hws; simpa using hws
      rw [this, frL_last hg] at hmi
      cases hmi
    | cons j s =>
      obtain ⟨hjf, hws'⟩ := way_frL hg hb.1 hb.2.1 hws
      have hlj := frL_link hg hjf
      have hvj := frL_via hjf
      have hvi := frL_via hmi
      have hh := way_h hg s _ (by omega) (by omega) hws'
      have hbi := bw_way hg (v := (lkAt g i).to) (by omega) (by omega) hli.2.2.2.2.2.2.2
      have e1 : sumC g (hd ++ i :: bw g (lkAt g i).to) = sumC g hd + viaOf g i := first_sum hg hp hmi
      have e2 : sumC g (hd ++ j :: s) = sumC g hd + ((lkAt g j).cost + sumC g s) := by rw [sumC_app, sumC_cons]
      rw [e1, e2, canLt_iff]
      rcases drop_split hfi (hi j s rfl) with rfl | hjd
      · rcases Int.lt_or_le (hAt g (lkAt g j).to) (sumC g s) with h1 | h1
        · right; left; show _ < _; simp only; omega
        · rcases bw_first hg (by omega) (by omega) hws' (by omega) with h2 | h2
          · left; rw [h2]
          · right; right
            refine ⟨by simp only; omega, ?_⟩
            show lexLt (hd ++ _) (hd ++ _) = true
            rw [lex_pre]
            unfold lexLt
            rw [if_neg (by omega), if_neg (by omega)]
            exact h2
      · right
        have hlt : viaOf g i < viaOf g j ∨ (viaOf g i = viaOf g j ∧ i < j) := by
          have hs := (frL_strict g (endP g 0 hd)).sublist (drop_sublist r _)
          obtain ⟨hr, he⟩ := List.getElem?_eq_some_iff.1 hfi
          rw [drop_eq_getElem_cons hr, he] at hs
          exact (pairwise_cons.1 hs).1 j hjd
        rcases Int.lt_or_le (sumC g hd + viaOf g i) (sumC g hd + ((lkAt g j).cost + sumC g s)) with h1 | h1
        · exact .inl h1
        · right
          refine ⟨by simp only; omega, ?_⟩
          show lexLt (hd ++ _) (hd ++ _) = true
          rw [lex_pre]
          unfold lexLt
          rw [if_pos (by omega)]
/-- Groups that part a set of ways. -/
structure Part (g : Gr) (Gs : List Gp) (S : List Int → Prop) : Prop where
  ok : ∀ G ∈ Gs, GOK g G
  iff : ∀ w, S w ↔ ∃ G ∈ Gs, InH g G.head G.rank w
  apart : Gs.Pairwise fun a b => ∀ w, InH g a.head a.rank w → ¬ InH g b.head b.rank w
theorem Part.congr {g : Gr} {Gs : List Gp} {S T : List Int → Prop} (h : Part g Gs S) (e : ∀ w, T w ↔ S w) : Part g Gs T := ⟨h.ok, fun w => (e w).trans (h.iff w), h.apart⟩
theorem Part.perm {g : Gr} {Gs Gs' : List Gp} {S : List Int → Prop} (h : Part g Gs S) (hp : Gs' ~ Gs) : Part g Gs' S :=
  ⟨fun G hG => h.ok G (hp.mem_iff.1 hG), fun w => by rw [h.iff]; simp [hp.mem_iff], (hp.pairwise_iff (fun {a b} h w h1 h2 => h w h2 h1)).2 h.apart⟩
theorem Part.app {g : Gr} {As Bs : List Gp} {S T : List Int → Prop} (h : Part g As S) (h' : Part g Bs T) (hd : ∀ w, S w → ¬ T w) : Part g (As ++ Bs) (fun w => S w ∨ T w) :=
  ⟨fun G hG => (mem_append.1 hG).elim (h.ok G) (h'.ok G), fun w => by
    rw [h.iff, h'.iff]
    constructor
    · rintro (⟨G, hG, h⟩ | ⟨G, hG, h⟩)
      · exact ⟨G, mem_append.2 (.inl hG), h⟩
      · exact ⟨G, mem_append.2 (.inr hG), h⟩
    · rintro ⟨G, hG, h⟩
      rcases mem_append.1 hG with hG | hG
      · exact .inl ⟨G, hG, h⟩
      · exact .inr ⟨G, hG, h⟩, pairwise_append.2 ⟨h.apart, h'.apart, fun a ha b hb w h1 h2 => hd w ((h.iff w).2 ⟨a, ha, h1⟩) ((h'.iff w).2 ⟨b, hb, h2⟩)⟩⟩
/-- What split makes of a group whose first way goes on with t, from its head on. -/
def spl (g : Gr) (pre : List Int) (v : Int) (spent : Int) (r : Nat) : List Int → List Gp
  | [] => []
  | i :: t => (match (frL g v)[r + 1]? with | some l => [⟨pre, r + 1, l, spent + viaOf g l⟩] | none => []) ++ spl g (pre ++ [i]) (lkAt g i).to (spent + (lkAt g i).cost) 0 t
theorem first_next {g : Gr} (hg : GrOK g) {v : Int} (h0 : 0 ≤ v) (h1 : v < g.n) (h : 0 ≤ hAt g v) : FirstT g v 0 (bw g v) := by
  by_cases hv : v = g.n - 1
  · left; rw [hv]; exact ⟨bw_last g, rfl⟩
  · right
    cases hf : frL g v with
    | nil => have := (frL_nil hg h0 (by omega)).1 hf; omega
    | cons i r => exact ⟨i, bw_step hg h0 (by omega) hf, rfl⟩
theorem spl_part {g : Gr} (hg : GrOK g) : ∀ (t pre : List Int) (v spent : Int) (r : Nat), pathB g 0 pre = true → endP g 0 pre = v → spent = sumC g pre → FirstT g v r t →
    Part g (spl g pre v spent r t) (fun w => InH g pre r w ∧ w ≠ pre ++ t) := by
  intro t
  induction t with
  | nil =>
    intro pre v spent r hp hv hs hf
    rcases hf with ⟨_, hv'⟩ | ⟨i, h, _⟩
    · refine ⟨(fun _ h => (not_mem_nil h).elim), fun w => ⟨?_, fun ⟨_, h, _⟩ => (not_mem_nil h).elim⟩, Pairwise.nil⟩
      rintro ⟨⟨s, rfl, hw, _⟩, hne⟩
      exfalso
      apply hne
      rw [way_app, hp, Bool.true_and, hv, hv'] at hw
      cases s with
      | nil => rfl
      | cons j s =>
        have := (way_cons.1 hw).1
        rw [lvs_last hg] at this
        cases this
    · cases h
  | cons i t ih =>
    intro pre v spent r hp hv hs hf
    have hb := end_bd hg hp
    rw [hv] at hb
    rcases hf with ⟨h, _⟩ | ⟨i', h, hfi⟩
    · cases h
    · injection h with h1 h2
      subst h1
      have hmi := mem_of_getElem? hfi
      have hli := frL_link hg hmi
      have hpi : pathB g 0 (pre ++ [i]) = true := by
        rw [path_app, hp, hv, Bool.true_and]
        exact path_cons.2 ⟨(frL_mem.1 hmi).1, rfl⟩
      have hei : endP g 0 (pre ++ [i]) = (lkAt g i).to := by rw [endP_app]; rfl
      have hsi : spent + (lkAt g i).cost = sumC g (pre ++ [i]) := by rw [sumC_app, hs]; simp [sumC]
      have hft : FirstT g (lkAt g i).to 0 t := by
        rw [h2]; exact first_next hg (by omega) (by omega) hli.2.2.2.2.2.2.2
      have hP2 := ih (pre ++ [i]) (lkAt g i).to (spent + (lkAt g i).cost) 0 hpi hei hsi hft
      have hP1 : Part g (match (frL g v)[r + 1]? with | some l => [⟨pre, r + 1, l, spent + viaOf g l⟩] | none => []) (fun w => InH g pre (r + 1) w) := by
        have hne : ∀ w, InH g pre (r + 1) w → ∃ j s, w = pre ++ j :: s ∧ j ∈ (frL g v).drop (r + 1) := by
          rintro w ⟨s, rfl, hw, hs⟩
          rw [hv] at hs
          cases s with
          | nil =>
            rw [way_app, hp, hv, Bool.true_and] at hw
            have : v = g.n - 1 := by unfold wayB at hw; simpa using hw
            rw [this, frL_last hg] at hmi
            cases hmi
          | cons j s => exact ⟨j, s, rfl, hs j s rfl⟩
        cases hn : (frL g v)[r + 1]? with
        | none =>
          refine ⟨(fun _ h => (not_mem_nil h).elim), fun w => ⟨fun h => ?_, fun ⟨_, h, _⟩ => (not_mem_nil h).elim⟩, Pairwise.nil⟩
          obtain ⟨j, s, _, hj⟩ := hne w h
          rw [drop_eq_nil_of_le (by simpa using hn)] at hj
          cases hj
        | some l =>
          refine ⟨fun G hG => ?_, fun w => by simp, pairwise_singleton _ _⟩
          obtain rfl := mem_singleton.1 hG
          exact ⟨hp, by rw [hv]; exact hn, by rw [hs]⟩
      refine (hP1.app hP2 ?_).congr fun w => ?_
      · rintro w ⟨s, rfl, hw, hs⟩ ⟨⟨s', he, _, _⟩, _⟩
        rw [append_assoc] at he
        have he := append_cancel_left he
        have := hs i s' (by rw [he]; rfl)
        rw [hv] at this
        exact nodup_drop frL_nodup hfi this
      · constructor
        · rintro ⟨⟨s, rfl, hw, hs⟩, hne⟩
          rw [hv] at hs
          cases s with
          | nil =>
            rw [way_app, hp, hv, Bool.true_and] at hw
            have : v = g.n - 1 := by unfold wayB at hw; simpa using hw
            rw [this, frL_last hg] at hmi
            cases hmi
          | cons j s =>
            rcases drop_split hfi (hs j s rfl) with rfl | hjd
            · right
              refine ⟨⟨s, by simp, hw, fun k s' he => ?_⟩, fun e => hne (by rw [e]; simp)⟩
              subst he
              rw [way_app, hp, hv, Bool.true_and] at hw
              have hw2 := (way_frL hg hb.1 hb.2.1 hw).2
              rw [drop_zero, hei]
              exact (way_frL hg (by omega) (by omega) hw2).1
            · left
              refine ⟨j :: s, rfl, hw, fun k s' he => ?_⟩
              injection he with e1 _
              rw [← e1, hv]
              exact hjd
        · rintro (⟨s, rfl, hw, hs⟩ | ⟨⟨s, rfl, hw, hs⟩, hne⟩)
          · refine ⟨⟨s, rfl, hw, fun k s' he => ?_⟩, fun e => ?_⟩
            · have := hs k s' he
              rw [← drop_drop] at this
              exact mem_of_mem_drop this
            · have e := append_cancel_left e
              have := hs i t e
              rw [hv] at this
              exact nodup_drop frL_nodup hfi this
          · refine ⟨⟨i :: s, by simp, hw, fun k s' he => ?_⟩, fun e => hne (by rw [e]; simp)⟩
            injection he with e1 _
            rw [← e1, hv]
            exact mem_drop_of hfi
end Go.Proofs.Ytfjkmgjjifhdkaa
