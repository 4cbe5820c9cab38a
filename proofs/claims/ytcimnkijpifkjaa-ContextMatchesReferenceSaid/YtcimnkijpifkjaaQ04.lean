/-
  GrAll, GrWays, GrMade, joined. No conditions.
-/
import Derived.Test.YtcimnkijpifkjaaQ03
/-
  The plain law of layer 16: what Check finds is what a comparison with all candidates finds.
-/
namespace Go.Proofs.Ytcimnkijpifkjaa
open List

def canLt (a b : Can) : Bool := decide (a.cost < b.cost) || (decide (a.cost = b.cost) && lexLt a.links b.links)
theorem canLt_iff {a b : Can} : canLt a b = true ↔ a.cost < b.cost ∨ (a.cost = b.cost ∧ lexLt a.links b.links = true) := by
  unfold canLt; simp
theorem canLt_irrefl (a : Can) : canLt a a = false := by unfold canLt; simp [lex_irrefl]
theorem canLt_trans {a b c : Can} (h1 : canLt a b = true) (h2 : canLt b c = true) : canLt a c = true := by
  rw [canLt_iff] at *
  rcases h1 with h1 | ⟨h1, h3⟩ <;> rcases h2 with h2 | ⟨h2, h4⟩
  · left; omega
  · left; omega
  · left; omega
  · right; exact ⟨by omega, lex_trans h3 h4⟩
theorem canLt_asymm {a b : Can} (h : canLt a b = true) : canLt b a = false := by
  cases hb : canLt b a with
  | false => rfl
  | true => have := canLt_trans h hb; rw [canLt_irrefl] at this; cases this
theorem canLt_total (a b : Can) : canLt a b = true ∨ a = b ∨ canLt b a = true := by
  rcases Int.lt_or_le a.cost b.cost with h | h
  · left; rw [canLt_iff]; exact .inl h
  · rcases Int.lt_or_le b.cost a.cost with h2 | h2
    · right; right; rw [canLt_iff]; exact .inl h2
    · have h3 : a.cost = b.cost := by omega
      rcases lex_total a.links b.links with h4 | h4 | h4
      · left; rw [canLt_iff]; exact .inr ⟨h3, h4⟩
      · right; left; cases a; cases b; simp at h3 h4 ⊢; exact ⟨h4, h3⟩
      · right; right; rw [canLt_iff]; exact .inr ⟨h3.symm, h4⟩
def canB (g : Gr) (c : Can) : Bool := wayB g 0 c.links && decide (c.cost = sumC g c.links)
def IsCan (g : Gr) (c : Can) : Prop := wayB g 0 c.links = true ∧ c.cost = sumC g c.links
theorem canB_iff {g : Gr} {c : Can} : canB g c = true ↔ IsCan g c := by unfold canB IsCan; simp
def Sorted (A : List Can) : Prop := A.Pairwise (fun a b => canLt a b = true)
/-- All candidates, in their order. -/
def IsAll (g : Gr) (A : List Can) : Prop := Sorted A ∧ ∀ c, c ∈ A ↔ IsCan g c
theorem Sorted.nodup {A : List Can} (h : Sorted A) : A.Nodup := h.imp fun {a b} hab e => by subst e; rw [canLt_irrefl] at hab; cases hab
theorem sorted_same {A B : List Can} (hA : Sorted A) (hB : Sorted B) (h : ∀ c, c ∈ A ↔ c ∈ B) : A = B :=
  ((perm_ext_iff_of_nodup hA.nodup hB.nodup).2 h).eq_of_pairwise (fun a b _ _ h1 h2 => by have := canLt_asymm h1; rw [h2] at this; cases this) hA hB
theorem isAll_unique {g : Gr} {A B : List Can} (hA : IsAll g A) (hB : IsAll g B) : A = B := sorted_same hA.1 hB.1 fun c => by rw [hA.2, hB.2]

/-- How many elements at the beginning are ways with their costs, each before the next one. -/
def ordN (g : Gr) : Option Can → List Can → Nat
  | _, [] => 0
  | prev, c :: r => if canB g c && (match prev with | none => true | some p => canLt p c) then ordN g (some c) r + 1 else 0
theorem ordN_le (g : Gr) : ∀ (l : List Can) (prev : Option Can), ordN g prev l ≤ l.length := by
  intro l
  induction l with
  | nil => intro _; simp [ordN]
  | cons c l ih =>
    intro prev
    unfold ordN
    by_cases h : (canB g c && (match prev with | none => true | some p => canLt p c)) = true
    · rw [if_pos h]; have := ih (some c); rw [length_cons]; omega
    · rw [if_neg h]; exact Nat.zero_le _
theorem ordN_spec (g : Gr) : ∀ (l : List Can) (prev : Option Can), Sorted (l.take (ordN g prev l)) ∧ (∀ c ∈ l.take (ordN g prev l), IsCan g c ∧ ∀ p, prev = some p → canLt p c = true) ∧
    ∀ c, l[ordN g prev l]? = some c → ¬ (IsCan g c ∧ (∀ p, prev = some p → canLt p c = true) ∧ ∀ q ∈ l.take (ordN g prev l), canLt q c = true) := by
  intro l
  induction l with
  | nil => intro _; exact ⟨Pairwise.nil, by simp, by simp⟩
  | cons c l ih =>
    intro prev
    unfold ordN
    by_cases h : (canB g c && (match prev with | none => true | some p => canLt p c)) = true
    · rw [if_pos h]
      obtain ⟨h1, h2, h3⟩ := ih (some c)
      rw [Bool.and_eq_true] at h
      have hc := canB_iff.1 h.1
      have hp : ∀ p, prev = some p → canLt p c = true := fun p hp => by rw [hp] at h; exact h.2
      rw [take_succ_cons]
      refine ⟨pairwise_cons.2 ⟨fun b hb => (h2 b hb).2 c rfl, h1⟩, fun d hd => ?_, fun d hd => ?_⟩
      · rcases mem_cons.1 hd with rfl | hd
        · exact ⟨hc, hp⟩
        · exact ⟨(h2 d hd).1, fun p hp' => canLt_trans (hp p hp') ((h2 d hd).2 c rfl)⟩
      · rw [getElem?_cons_succ] at hd
        rintro ⟨h4, h5, h6⟩
        exact h3 d hd ⟨h4, fun p hp' => by rw [← Option.some.inj hp']; exact h6 c (by simp), fun q hq => h6 q (by simp [hq])⟩
    · rw [if_neg h]
      refine ⟨Pairwise.nil, by simp, fun d hd => ?_⟩
      simp at hd
      subst hd
      rintro ⟨h4, h5, _⟩
      apply h
      rw [Bool.and_eq_true]
      refine ⟨canB_iff.2 h4, ?_⟩
      cases prev with
      | none => rfl
      | some p => exact h5 p rfl

def sortW (l : List (List Int)) : List (List Int) := l.mergeSort fun x y => !lexLt y x
def leastM (g : Gr) (l : List Can) : Oth :=
  if l = [] then ⟨decide (0 ≤ hAt g 0), max (hAt g 0) 0, []⟩ else visitM g g.n.toNat ⟨false, 0, []⟩ (sortW (l.map (·.links))) 0 0 0
def befB (o : Oth) (c : Can) : Bool := if o.cost ≠ c.cost then decide (o.cost < c.cost) else lexLt o.links c.links
theorem sortW_perm (l : List (List Int)) : sortW l ~ l := mergeSort_perm _ _
theorem sortW_sorted (l : List (List Int)) : (sortW l).Pairwise (fun a b => lexLt b a = false) := by
  have h := pairwise_mergeSort (le := fun x y => !lexLt y x) (fun a b c h1 h2 => by
    simp only [Bool.not_eq_true'] at *
    cases h : lexLt c a with
    | false => rfl
    | true =>
      rcases lex_total b c with h3 | h3 | h3
      · rw [lex_trans h3 h] at h1; cases h1
      · subst h3; rw [h] at h1; cases h1
      · rw [h3] at h2; cases h2) (fun a b => by
    cases h : lexLt b a with
    | false => simp
    | true => have := lex_asymm h; simp [this]) l
  exact h.imp fun {a b} hab => by simpa using hab
/-- No way is a proper beginning of another one. -/
theorem way_pre {g : Gr} (hg : GrOK g) : ∀ (a r : List Int) (v : Int), wayB g v a = true → wayB g v (a ++ r) = true → r = [] := by
  intro a
  induction a with
  | nil =>
    intro r v h1 h2
    cases r with
    | nil => rfl
    | cons i r =>
      unfold wayB at h1
      simp at h1
      have hi' := lvs_iff.1 (way_cons.1 h2).1
      have hok := lkAt_ok hg ⟨hi'.1, hi'.2.1⟩
      have hto := hok.to
      have hlt := hok.lt
      omega
  | cons i a ih =>
    intro r v h1 h2
    exact ih r _ (way_cons.1 h1).2 (way_cons.1 h2).2
/-- Lists of which neither begins with the other are told apart by what is put behind neither. -/
theorem lex_app : ∀ (a b r : List Int), (¬ ∃ t, b = a ++ t) → (¬ ∃ t, a = b ++ t) → lexLt (a ++ r) b = lexLt a b
  | [], b, _, h, _ => absurd ⟨b, rfl⟩ h
  | x :: a, [], _, _, h => absurd ⟨x :: a, rfl⟩ h
  | x :: a, y :: b, r, h1, h2 => by
    rw [cons_append]
    unfold lexLt
    by_cases h3 : x < y
    · rw [if_pos h3, if_pos h3]
    · by_cases h4 : y < x
      · rw [if_neg h3, if_pos h4, if_neg h3, if_pos h4]
      · have : x = y := by omega
        subst this
        rw [if_neg h3, if_neg h3, if_neg h3, if_neg h3]
        exact lex_app a b r (fun ⟨t, ht⟩ => h1 ⟨t, by rw [ht]; rfl⟩) (fun ⟨t, ht⟩ => h2 ⟨t, by rw [ht]; rfl⟩)
theorem least_spec {g : Gr} (hg : GrOK g) {l : List Can} (hl : ∀ c ∈ l, IsCan g c) :
    ((leastM g l).there = false ∧ ∀ c, IsCan g c → c ∈ l) ∨
    ((leastM g l).there = true ∧ ∃ m, IsCan g m ∧ m ∉ l ∧ (∀ c, IsCan g c → c ∉ l → c = m ∨ canLt m c = true) ∧ ∀ c ∈ l, befB (leastM g l) c = canLt m c) := by
  have hn := hg.n
  by_cases h0 : l = []
  · subst h0
    unfold leastM
    rw [if_pos rfl]
    by_cases hh : 0 ≤ hAt g 0
    · right
      obtain ⟨h1, h2⟩ := best_way hg g.n.toNat 0 (by omega) (by omega) (by omega) hh
      refine ⟨by simpa using hh, ⟨bestW g g.n.toNat 0, hAt g 0⟩, ⟨h1, h2.symm⟩, by simp, fun c hc _ => ?_, by simp⟩
      obtain ⟨h3, h4⟩ := hc
      have h5 := (way_h hg _ 0 (by omega) (by omega) h3).2
      rcases Int.lt_or_le (hAt g 0) (sumC g c.links) with h6 | h6
      · right; rw [canLt_iff]; left; show hAt g 0 < c.cost; omega
      · rcases best_first hg g.n.toNat 0 (by omega) (by omega) (by omega) _ h3 (by omega) with h7 | h7
        · left; cases c; simp at h4 h7 h6 h5 ⊢; exact ⟨h7.symm, by omega⟩
        · right; rw [canLt_iff]; right; exact ⟨by show hAt g 0 = c.cost; omega, h7⟩
    · left
      refine ⟨by simpa using hh, fun c hc => ?_⟩
      have := (way_h hg _ 0 (by omega) (by omega) hc.1).1
      exact absurd this hh
  · unfold leastM
    rw [if_neg h0]
    have hW : sortW (l.map (·.links)) ≠ [] := fun h => h0 (by
      have := (sortW_perm (l.map (·.links))).length_eq
      rw [h] at this
      simpa using this.symm)
    have hmem : ∀ w, w ∈ sortW (l.map (·.links)) ↔ w ∈ l.map (·.links) := fun w => (sortW_perm _).mem_iff
    have hrep := visit_rep hg (l.map (·.links)) g.n.toNat ⟨false, 0, []⟩ (sortW (l.map (·.links))) [] 0 0 (fun _ => False) (by omega) (by omega) (by omega) (fun w => by show sumC g w = 0 + sumC g w; omega) hW (sortW_sorted _)
      (fun w hw => by
        have h1 := (hmem w).1 hw
        obtain ⟨c, hc, rfl⟩ := mem_map.1 h1
        exact ⟨h1, c.links, rfl, (hl c hc).1⟩)
      (fun w hw _ => (hmem w).2 hw) (.inl ⟨rfl, fun s h => h⟩) (fun s h => h.elim)
    rw [length_nil] at hrep
    generalize visitM g g.n.toNat ⟨false, 0, []⟩ (sortW (l.map (·.links))) 0 0 0 = o at *
    have hout : ∀ c, IsCan g c → (c.links ∈ l.map (·.links) ↔ c ∈ l) := fun c hc => by
      constructor
      · intro h
        obtain ⟨d, hd, he⟩ := mem_map.1 h
        have := hl d hd
        have : d = c := by
          cases c; cases d
          simp at he
          subst he
          have h1 := hc.2
          have h2 := this.2
          simp at h1 h2 ⊢
          omega
        rw [← this]; exact hd
      · intro h; exact mem_map_of_mem h
    rcases hrep with ⟨h1, h2⟩ | ⟨h1, m, h2, h3, ⟨r, hr⟩, h5, h6⟩
    · left
      refine ⟨h1, fun c hc => ?_⟩
      rcases Classical.em (c ∈ l) with h | h
      · exact h
      · exact absurd (.inr ⟨c.links, hc.1, rfl, fun h' => h ((hout c hc).1 h')⟩) (h2 c.links)
    · right
      rcases h2 with h2 | ⟨w, hw, he, hn'⟩
      · exact h2.elim
      · rw [nil_append] at he
        subst he
        have hm : IsCan g ⟨m, o.cost⟩ := ⟨hw, h3⟩
        refine ⟨h1, ⟨m, o.cost⟩, hm, fun h => hn' ((hout _ hm).2 h), fun c hc hcl => ?_, fun c hc => ?_⟩
        · have h7 := h6 c.links (.inr ⟨c.links, hc.1, rfl, fun h => hcl ((hout c hc).1 h)⟩)
          have h8 := hc.2
          rcases h7 with h7 | ⟨h7, h9 | h9⟩
          · right; rw [canLt_iff]; left; show o.cost < c.cost; omega
          · left; cases c; simp at h8 h9 ⊢; exact ⟨h9.symm, by rw [h8, ← h9]; omega⟩
          · right; rw [canLt_iff]; right; exact ⟨by show o.cost = c.cost; omega, h9⟩
        · have hcw := (hl c hc).1
          have hx := lex_app o.links c.links r (h5 _ (mem_map_of_mem hc)) (fun ⟨t, ht⟩ => by
            rw [ht, append_assoc] at hr
            rw [hr] at hw
            have := way_pre hg _ _ _ hcw hw
            rw [this, append_nil] at hr
            exact hn' (by rw [hr]; exact mem_map_of_mem hc))
          rw [← hr] at hx
          unfold befB canLt
          rw [← hx]
          by_cases he : o.cost = c.cost
          · rw [if_neg (by simpa using he)]; simp [he]
          · rw [if_pos he]; simp [he]

/-- Where a list first differs from the beginning of another one. -/
def diffAt : List Can → List Can → Nat → Option Nat
  | [], _, _ => none
  | _ :: _, [], k => some k
  | c :: l, a :: A, k => if c = a then diffAt l A (k + 1) else some k
def refCheckM (A l : List Can) (whole : Bool) : Int × Int :=
  match diffAt l A 0 with
  | some i => ((i : Int), 160)
  | none => if whole ≠ decide (l.length = A.length) then ((l.length : Int), 160) else ((l.length : Int), 0)
def checkM (g : Gr) (l : List Can) (whole : Bool) : Int × Int :=
  let n := ordN g none l
  let o := leastM g (l.take n)
  match (if o.there = true then (l.take n).findIdx? (befB o) else none) with
  | some i => ((i : Int), 160)
  | none => if n < l.length ∨ whole = o.there then ((n : Int), 160) else ((n : Int), 0)
theorem diffAt_pre : ∀ (p l A : List Can) (k : Nat), diffAt (p ++ l) (p ++ A) k = diffAt l A (k + p.length)
  | [], l, A, k => rfl
  | c :: p, l, A, k => by
    show (if c = c then diffAt (p ++ l) (p ++ A) (k + 1) else some k) = _
    rw [if_pos rfl, diffAt_pre p l A (k + 1), length_cons, show k + 1 + p.length = k + (p.length + 1) by omega]
/-- A sorted list parts at an element. -/
theorem sorted_split {A : List Can} (h : Sorted A) {m : Can} (hm : m ∈ A) : A = A.filter (fun c => canLt c m) ++ m :: A.filter (fun c => canLt m c) := by
  refine sorted_same h ?_ fun c => ?_
  · unfold Sorted
    rw [pairwise_append]
    refine ⟨Pairwise.sublist filter_sublist h, pairwise_cons.2 ⟨fun c hc => (mem_filter.1 hc).2, Pairwise.sublist filter_sublist h⟩, fun a ha b hb => ?_⟩
    have h1 := (mem_filter.1 ha).2
    rcases mem_cons.1 hb with rfl | hb
    · exact h1
    · exact canLt_trans h1 (mem_filter.1 hb).2
  · rw [mem_append, mem_cons, mem_filter, mem_filter]
    constructor
    · intro hc
      rcases canLt_total c m with h1 | h1 | h1
      · exact .inl ⟨hc, h1⟩
      · exact .inr (.inl h1)
      · exact .inr (.inr ⟨hc, h1⟩)
    · rintro (h1 | h1 | h1)
      · exact h1.1
      · rw [h1]; exact hm
      · exact h1.1
theorem find_split {l : List Can} (hs : Sorted l) {m : Can} (hm : m ∉ l) {f : Can → Bool} (hf : ∀ c ∈ l, f c = canLt m c) :
    l = l.filter (fun c => canLt c m) ++ l.filter (fun c => canLt m c) ∧
    (l.findIdx? f = if l.filter (fun c => canLt m c) = [] then none else some (l.filter (fun c => canLt c m)).length) := by
  induction l with
  | nil => exact ⟨rfl, rfl⟩
  | cons c l ih =>
    obtain ⟨h1, h2⟩ := pairwise_cons.1 hs
    obtain ⟨h3, h4⟩ := ih h2 (fun h => hm (by simp [h])) (fun d hd => hf d (by simp [hd]))
    rcases canLt_total c m with h5 | h5 | h5
    · have h6 := canLt_asymm h5
      rw [filter_cons_of_pos (p := fun c => canLt c m) h5, filter_cons_of_neg (p := fun c => canLt m c) (by rw [h6]; simp), findIdx?_cons, hf c (by simp), h6, h4]
      refine ⟨by rw [cons_append, ← h3], ?_⟩
      by_cases h7 : l.filter (fun c => canLt m c) = []
      · simp [h7]
      · simp [h7]
    · exact absurd (by simp [h5]) hm
    · have h6 := canLt_asymm h5
      have hall : ∀ d ∈ l, canLt m d = true := fun d hd => canLt_trans h5 (h1 d hd)
      have e1 : l.filter (fun c => canLt c m) = [] := filter_eq_nil_iff.2 fun d hd => by rw [canLt_asymm (hall d hd)]; simp
      have e2 : l.filter (fun c => canLt m c) = l := filter_eq_self.2 hall
      rw [filter_cons_of_neg (p := fun c => canLt c m) (by rw [h6]; simp), filter_cons_of_pos (p := fun c => canLt m c) h5, e1, e2, findIdx?_cons, hf c (by simp), h5]
      simp
theorem check_eq {g : Gr} (hg : GrOK g) {A : List Can} (hA : IsAll g A) (l : List Can) (whole : Bool) : checkM g l whole = refCheckM A l whole := by
  obtain ⟨hs, hc, hstop⟩ := ordN_spec g l none
  have hle := ordN_le g l none
  unfold checkM refCheckM
  dsimp only
  generalize ordN g none l = n at *
  have hlen : (l.take n).length = n := by rw [length_take]; omega
  have hl : l = l.take n ++ l.drop n := (take_append_drop n l).symm
  have hcan : ∀ c ∈ l.take n, IsCan g c := fun c h => (hc c h).1
  rcases least_spec hg hcan with ⟨h1, h2⟩ | ⟨h1, m, h2, h3, h4, h5⟩
  · -- there is no other
    have hAL : A = l.take n := sorted_same hA.1 hs fun c => by rw [hA.2]; exact ⟨h2 c, hcan c⟩
    rw [h1, if_neg (by simp)]
    rw [show diffAt l A 0 = diffAt (l.take n ++ l.drop n) (l.take n ++ []) 0 by rw [← hl, append_nil, ← hAL], diffAt_pre, hlen]
    have hAn : A.length = n := by rw [hAL, hlen]
    cases hd : l.drop n with
    | nil =>
      have hn : l.length ≤ n := by simpa using hd
      have hn' : l.length = n := by omega
      show (if n < l.length ∨ whole = false then _ else _) = (if whole ≠ decide (l.length = A.length) then _ else _)
      rw [hn', hAn]
      cases whole <;> simp
    | cons c r =>
      have hlt : n < l.length := by
        have := congrArg length hd
        rw [length_drop] at this
        simp at this
        omega
      show (if n < l.length ∨ whole = false then _ else _) = _
      rw [if_pos (.inl hlt)]
      show _ = (((0 + n : Nat) : Int), (160 : Int))
      rw [Nat.zero_add]
  · -- there is one
    have hmA : m ∈ A := (hA.2 m).2 h2
    have hsp := sorted_split hA.1 hmA
    obtain ⟨hf1, hf2⟩ := find_split hs h3 h5
    have hpre : A.filter (fun c => canLt c m) = (l.take n).filter (fun c => canLt c m) := sorted_same (Pairwise.sublist filter_sublist hA.1) (Pairwise.sublist filter_sublist hs) fun c => by
      rw [mem_filter, mem_filter, hA.2]
      constructor
      · rintro ⟨h6, h7⟩
        refine ⟨?_, h7⟩
        rcases Classical.em (c ∈ l.take n) with h | h
        · exact h
        · rcases h4 c h6 h with h8 | h8
          · rw [h8, canLt_irrefl] at h7; cases h7
          · have := canLt_asymm h8; rw [h7] at this; cases this
      · rintro ⟨h6, h7⟩; exact ⟨hcan c h6, h7⟩
    rw [hpre] at hsp
    rw [h1, if_pos rfl, hf2]
    by_cases hemp : (l.take n).filter (fun c => canLt m c) = []
    · rw [if_pos hemp]
      rw [hemp, append_nil] at hf1
      rw [← hf1] at hsp
      have hAl : n < A.length := by rw [hsp, length_append, hlen]; simp
      rw [show diffAt l A 0 = diffAt (l.take n ++ l.drop n) (l.take n ++ m :: A.filter (fun c => canLt m c)) 0 by rw [← hl, ← hsp], diffAt_pre, hlen]
      cases hd : l.drop n with
      | nil =>
        have hn : l.length ≤ n := by simpa using hd
        have hn' : l.length = n := by omega
        show (if n < l.length ∨ whole = true then _ else _) = (if whole ≠ decide (l.length = A.length) then _ else _)
        rw [hn', decide_eq_false (show ¬ n = A.length by omega)]
        cases whole <;> simp
      | cons c r =>
        have hlt : n < l.length := by
          have := congrArg length hd
          rw [length_drop] at this
          simp at this
          omega
        have hcn : l[n]? = some c := by
          have := getElem?_drop (xs := l) (i := n) (j := 0)
          rw [hd] at this
          simpa using this.symm
        have hne : c ≠ m := fun e => by
          subst e
          refine hstop c hcn ⟨h2, by simp, fun q hq => ?_⟩
          rw [hf1] at hq
          exact (mem_filter.1 hq).2
        show (if n < l.length ∨ whole = true then _ else _) = _
        rw [if_pos (.inl hlt)]
        unfold diffAt
        rw [if_neg hne, Nat.zero_add]
    · rw [if_neg hemp]
      obtain ⟨L1, hL1⟩ : ∃ L1, (l.take n).filter (fun c => canLt c m) = L1 := ⟨_, rfl⟩
      obtain ⟨L2, hL2⟩ : ∃ L2, (l.take n).filter (fun c => canLt m c) = L2 := ⟨_, rfl⟩
      rw [hL1] at hsp hf1 ⊢
      rw [hL2] at hf1 hemp
      cases L2 with
      | nil => exact absurd rfl hemp
      | cons d L2 =>
        have hdm : d ≠ m := fun e => by
          have : d ∈ (l.take n).filter (fun c => canLt m c) := by rw [hL2]; simp
          have := (mem_filter.1 this).2
          rw [e, canLt_irrefl] at this; cases this
        rw [show diffAt l A 0 = diffAt (L1 ++ (d :: L2 ++ l.drop n)) (L1 ++ m :: A.filter (fun c => canLt m c)) 0 by rw [← append_assoc, ← hf1, ← hl, ← hsp], diffAt_pre]
        show _ = (match diffAt (d :: (L2 ++ l.drop n)) _ (0 + L1.length) with | some i => _ | none => _)
        unfold diffAt
        rw [if_neg hdm, Nat.zero_add]
end Go.Proofs.Ytcimnkijpifkjaa

/-
  The plain law of layer 15: the reference goes through all ways, and puts them in order.
-/
namespace Go.Proofs.Ytcimnkijpifkjaa
open List

/-- Adding what follows the link i, as far as there is room. -/
def addW (g : Gr) (most : Nat) (rest : List Can) (out : List Can) (i : Int) : List Can :=
  out ++ (rest.take (most - out.length)).map (fun r => (⟨i :: r.links, r.cost + (lkAt g i).cost⟩ : Can))
def waysM (g : Gr) (most : Nat) : Nat → Int → List Can
  | 0, _ => []
  | f + 1, v => if v = g.n - 1 then [⟨[], 0⟩] else (lvs g v).foldl (fun out i => addW g most (waysM g most f (lkAt g i).to) out i) []
/-- The same without a limit. -/
def waysF (g : Gr) : Nat → Int → List Can
  | 0, _ => []
  | f + 1, v => if v = g.n - 1 then [⟨[], 0⟩] else (lvs g v).flatMap (fun i => (waysF g f (lkAt g i).to).map (fun r => (⟨i :: r.links, r.cost + (lkAt g i).cost⟩ : Can)))
theorem lvs_last {g : Gr} (hg : GrOK g) : lvs g (g.n - 1) = [] := by
  rcases h : lvs g (g.n - 1) with _ | ⟨i, l⟩
  · rfl
  · have hi' := lvs_iff.1 (show i ∈ lvs g (g.n - 1) by rw [h]; simp)
    have hok := lkAt_ok hg ⟨hi'.1, hi'.2.1⟩
    have hto := hok.to
    have hlt := hok.lt
    omega
theorem waysF_mem {g : Gr} (hg : GrOK g) : ∀ (f : Nat) (v : Int), 0 ≤ v → v < g.n → g.n - v ≤ (f : Int) → ∀ c, c ∈ waysF g f v ↔ wayB g v c.links = true ∧ c.cost = sumC g c.links := by
  intro f
  induction f with
  | zero => intro v h0 h1 h2; exfalso; omega
  | succ f ih =>
    intro v h0 h1 h2 c
    unfold waysF
    by_cases hv : v = g.n - 1
    · rw [if_pos hv, mem_singleton]
      constructor
      · rintro rfl; exact ⟨by unfold wayB; simpa using hv, rfl⟩
      · rintro ⟨h3, h4⟩
        obtain ⟨w, k⟩ := c
        cases w with
        | nil => simp at h4; rw [h4]; rfl
        | cons i w =>
          have := (way_cons.1 h3).1
          rw [hv, lvs_last hg] at this
          cases this
    · rw [if_neg hv, mem_flatMap]
      constructor
      · rintro ⟨i, hi, hc⟩
        obtain ⟨r, hr, rfl⟩ := mem_map.1 hc
        have hi' := lvs_iff.1 hi
        have hok := lkAt_ok hg ⟨hi'.1, hi'.2.1⟩
        have hto := hok.to
        have hlt := hok.lt
        obtain ⟨h3, h4⟩ := (ih _ (by omega) (by omega) (by omega) r).1 hr
        exact ⟨way_cons.2 ⟨hi, h3⟩, by show r.cost + (lkAt g i).cost = (lkAt g i).cost + sumC g r.links; omega⟩
      · rintro ⟨h3, h4⟩
        obtain ⟨w, k⟩ := c
        cases w with
        | nil => unfold wayB at h3; simp at h3; exact absurd h3 hv
        | cons i w =>
          obtain ⟨hi, hw⟩ := way_cons.1 h3
          have hi' := lvs_iff.1 hi
          have hok := lkAt_ok hg ⟨hi'.1, hi'.2.1⟩
          have hto := hok.to
          have hlt := hok.lt
          refine ⟨i, hi, mem_map.2 ⟨⟨w, sumC g w⟩, (ih _ (by omega) (by omega) (by omega) _).2 ⟨hw, rfl⟩, ?_⟩⟩
          have h4' : k = (lkAt g i).cost + sumC g w := h4
          simp
          omega
theorem waysF_nodup (g : Gr) : ∀ (f : Nat) (v : Int), (waysF g f v).Nodup := by
  intro f
  induction f with
  | zero => intro v; exact Pairwise.nil
  | succ f ih =>
    intro v
    unfold waysF
    split
    · exact pairwise_singleton _ _
    · have hinc := lvs_inc g v
      generalize lvs g v = L at *
      induction L with
      | nil => exact Pairwise.nil
      | cons i L ihL =>
        obtain ⟨h1, h2⟩ := pairwise_cons.1 hinc
        rw [flatMap_cons]
        refine nodup_append.2 ⟨?_, ihL h2, ?_⟩
        · refine (ih _).map _ fun a b hab e => hab ?_
          obtain ⟨w, k⟩ := a
          obtain ⟨w', k'⟩ := b
          simp at e ⊢
          exact ⟨e.1, by omega⟩
        · intro a ha b hb e
          subst e
          obtain ⟨r, _, rfl⟩ := mem_map.1 ha
          obtain ⟨j, hj, hb⟩ := mem_flatMap.1 hb
          obtain ⟨r', _, he⟩ := mem_map.1 hb
          simp at he
          have := h1 j hj
          omega
/-- How many links leave a node or a later one. -/
def outE (g : Gr) (v : Int) : Nat := g.ls.countP (fun l => decide (v ≤ l.fr))
theorem lvTo_len (ls : List Lk) (v : Int) : ∀ k, k ≤ ls.length → (lvTo ls v k).length = (ls.take k).countP (fun l => decide (l.fr = v)) := by
  intro k
  induction k with
  | zero => intro _; rfl
  | succ k ih =>
    intro hk
    have hl : ls[k]? = some ls[k] := List.getElem?_eq_getElem (by omega)
    rw [lvTo_succ hl, take_succ_of hl, countP_append]
    split
    · rename_i h
      rw [length_append, ih (by omega)]
      simp [h]
    · rename_i h
      rw [ih (by omega)]
      simp [h]
theorem outE_step (g : Gr) (v : Int) : outE g v = (lvs g v).length + outE g (v + 1) := by
  unfold lvs outE
  rw [lvTo_len _ _ _ (Nat.le_refl _), take_length]
  generalize g.ls = l
  induction l with
  | nil => rfl
  | cons x l ih =>
    rw [countP_cons, countP_cons, countP_cons, ih]
    by_cases h1 : x.fr = v
    · simp [h1, show ¬ (v + 1 ≤ v) by omega]; omega
    · by_cases h2 : v ≤ x.fr
      · have h3 : v + 1 ≤ x.fr := by omega
        simp [h1, h2, h3]; omega
      · have h3 : ¬ v + 1 ≤ x.fr := by omega
        simp [h1, h2, h3]
theorem outE_mono (g : Gr) {u v : Int} (h : u ≤ v) : outE g v ≤ outE g u := by
  unfold outE
  exact countP_mono_left fun l _ hl => by simp at hl ⊢; omega
theorem cube_le (d : Nat) : d * d * d ≤ 3 ^ d := by
  match d with
  | 0 => decide
  | 1 => decide
  | 2 => decide
  | 3 => decide
  | d + 4 =>
    induction d with
    | zero => decide
    | succ d ih =>
      have h1 : (d + 1 + 4) * (d + 1 + 4) * (d + 1 + 4) ≤ 3 * ((d + 4) * (d + 4) * (d + 4)) := by
        rw [show d + 1 + 4 = (d + 4) + 1 by omega]
        have hx : 4 ≤ d + 4 := by omega
        generalize d + 4 = x at *
        have e : (x + 1) * (x + 1) * (x + 1) = x * x * x + 3 * (x * x) + 3 * x + 1 := by
          simp only [Nat.add_mul, Nat.mul_add, Nat.one_mul, Nat.mul_one]
          omega
        have h3 : 4 * x ≤ x * x := Nat.mul_le_mul_right x hx
        have h4 : 4 * (x * x) ≤ x * x * x := by rw [Nat.mul_assoc x x x, ]; exact Nat.mul_le_mul_right (x * x) hx
        rw [e]
        omega
      have h2 : 3 ^ (d + 1 + 4) = 3 * 3 ^ (d + 4) := by rw [show d + 1 + 4 = (d + 4) + 1 by omega, Nat.pow_succ]; omega
      rw [h2]
      exact Nat.le_trans h1 (Nat.mul_le_mul_left 3 ih)
theorem sum_cube {α : Type} (L : List α) (f : α → Nat) (B : Nat) (h : ∀ x ∈ L, f x * f x * f x ≤ B) : ∃ M, M * M * M ≤ B ∧ (L.map f).sum ≤ L.length * M := by
  induction L with
  | nil => exact ⟨0, by simp, by simp⟩
  | cons x L ih =>
    obtain ⟨M, h1, h2⟩ := ih fun y hy => h y (by simp [hy])
    have hx := h x (by simp)
    rcases Nat.le_total (f x) M with h3 | h3
    · refine ⟨M, h1, ?_⟩
      rw [map_cons, sum_cons, length_cons, Nat.add_mul, Nat.one_mul]
      omega
    · refine ⟨f x, hx, ?_⟩
      rw [map_cons, sum_cons, length_cons, Nat.add_mul, Nat.one_mul]
      have := Nat.mul_le_mul_left L.length h3
      omega
theorem waysF_len {g : Gr} (hg : GrOK g) : ∀ (f : Nat) (v : Int), (waysF g f v).length * (waysF g f v).length * (waysF g f v).length ≤ 3 ^ outE g v := by
  intro f
  induction f with
  | zero => intro v; simp [waysF]
  | succ f ih =>
    intro v
    unfold waysF
    split
    · simp
      exact Nat.one_le_pow _ _ (by decide)
    · obtain ⟨M, h1, h2⟩ := sum_cube (lvs g v) (fun i => (waysF g f (lkAt g i).to).length) (3 ^ outE g (v + 1)) (fun i hi => by
        have hi' := lvs_iff.1 hi
        have hok := lkAt_ok hg ⟨hi'.1, hi'.2.1⟩
        have hlt := hok.lt
        exact Nat.le_trans (ih _) (Nat.pow_le_pow_right (by decide) (outE_mono g (by omega))))
      have e : ((lvs g v).flatMap (fun i => (waysF g f (lkAt g i).to).map (fun r => (⟨i :: r.links, r.cost + (lkAt g i).cost⟩ : Can)))).length = ((lvs g v).map (fun i => (waysF g f (lkAt g i).to).length)).sum := by
        rw [length_flatMap]
        simp
      rw [e, outE_step, Nat.pow_add]
      generalize ((lvs g v).map (fun i => (waysF g f (lkAt g i).to).length)).sum = s at *
      generalize (lvs g v).length = d at *
      have h3 : s * s * s ≤ (d * M) * (d * M) * (d * M) := Nat.mul_le_mul (Nat.mul_le_mul h2 h2) h2
      have h4 : (d * M) * (d * M) * (d * M) = (d * d * d) * (M * M * M) := by
        rw [Nat.mul_mul_mul_comm d M d M, Nat.mul_mul_mul_comm]
      rw [h4] at h3
      exact Nat.le_trans h3 (Nat.mul_le_mul (cube_le d) h1)
theorem waysF_small {g : Gr} (hg : GrOK g) (h14 : g.ls.length ≤ 14) (f : Nat) (v : Int) : (waysF g f v).length ≤ 168 := by
  have h1 := waysF_len hg f v
  have h2 : outE g v ≤ 14 := Nat.le_trans countP_le_length h14
  have h3 : 3 ^ outE g v ≤ 3 ^ 14 := Nat.pow_le_pow_right (by decide) h2
  rcases Nat.lt_or_ge 168 (waysF g f v).length with h | h
  · exfalso
    have h4 : 169 * 169 * 169 ≤ (waysF g f v).length * (waysF g f v).length * (waysF g f v).length := Nat.mul_le_mul (Nat.mul_le_mul h h) h
    have h5 : 3 ^ 14 = 4782969 := by decide
    omega
  · exact h
theorem waysM_eq {g : Gr} (hg : GrOK g) (h14 : g.ls.length ≤ 14) {most : Nat} (hm : 168 ≤ most) : ∀ (f : Nat) (v : Int), waysM g most f v = waysF g f v := by
  intro f
  induction f with
  | zero => intro v; rfl
  | succ f ih =>
    intro v
    have hs := waysF_small hg h14 (f + 1) v
    unfold waysM waysF
    unfold waysF at hs
    split
    · rfl
    · rename_i hv
      rw [if_neg hv] at hs
      have key : ∀ (L : List Int) (out : List Can), (out ++ L.flatMap (fun i => (waysF g f (lkAt g i).to).map (fun r => (⟨i :: r.links, r.cost + (lkAt g i).cost⟩ : Can)))).length ≤ 168 →
          L.foldl (fun out i => addW g most (waysM g most f (lkAt g i).to) out i) out = out ++ L.flatMap (fun i => (waysF g f (lkAt g i).to).map (fun r => (⟨i :: r.links, r.cost + (lkAt g i).cost⟩ : Can))) := by
        intro L
        induction L with
        | nil => intro out _; simp
        | cons i L ihL =>
          intro out ho
          rw [flatMap_cons] at ho ⊢
          rw [foldl_cons, ih]
          have e : addW g most (waysF g f (lkAt g i).to) out i = out ++ (waysF g f (lkAt g i).to).map (fun r => (⟨i :: r.links, r.cost + (lkAt g i).cost⟩ : Can)) := by
            unfold addW
            rw [take_of_length_le (by simp at ho; omega)]
          rw [e, ihL _ (by rw [append_assoc]; exact ho), append_assoc]
      have := key (lvs g v) [] (by simpa using hs)
      simpa using this

/-- The reference's way to put candidates in order. -/
def insC (out : List Can) (x : Can) : List Can :=
  out.takeWhile (fun c => canLt c x) ++ [x] ++ out.drop (out.takeWhile (fun c => canLt c x)).length
def orderedM (l : List Can) : List Can := l.foldl insC []
theorem insC_perm (out : List Can) (x : Can) : insC out x ~ x :: out := by
  unfold insC
  have h : out.takeWhile (fun c => canLt c x) ++ out.drop (out.takeWhile (fun c => canLt c x)).length = out := by
    have h1 := congrArg (List.take (out.takeWhile (fun c => canLt c x)).length) (takeWhile_append_dropWhile (p := fun c => canLt c x) (l := out))
    rw [take_left] at h1
    conv => lhs; lhs; rw [h1]
    exact take_append_drop _ _
  rw [append_assoc, singleton_append]
  refine perm_middle.trans ?_
  rw [h]
theorem insC_sorted {out : List Can} {x : Can} (h : Sorted out) (hx : x ∉ out) : Sorted (insC out x) := by
  induction out with
  | nil => exact pairwise_singleton _ _
  | cons c out ih =>
    obtain ⟨h1, h2⟩ := pairwise_cons.1 h
    unfold insC
    rw [takeWhile_cons]
    by_cases hc : canLt c x = true
    · rw [if_pos hc, length_cons, drop_succ_cons]
      have ihs := ih h2 (fun hm => hx (by simp [hm]))
      show Sorted (c :: insC out x)
      refine pairwise_cons.2 ⟨fun d hd => ?_, ihs⟩
      have := (insC_perm out x).mem_iff.1 hd
      rcases mem_cons.1 this with rfl | hd
      · exact hc
      · exact h1 d hd
    · rw [if_neg hc]
      show Sorted (x :: c :: out)
      have hxc : canLt x c = true := by
        rcases canLt_total x c with h3 | h3 | h3
        · exact h3
        · exact absurd (by simp [h3]) hx
        · exact absurd h3 hc
      exact pairwise_cons.2 ⟨fun d hd => by
        rcases mem_cons.1 hd with rfl | hd
        · exact hxc
        · exact canLt_trans hxc (h1 d hd), h⟩
theorem ordered_spec {l : List Can} (h : l.Nodup) : Sorted (orderedM l) ∧ ∀ c, c ∈ orderedM l ↔ c ∈ l := by
  unfold orderedM
  have key : ∀ (l out : List Can), Sorted out → (out ++ l).Nodup → Sorted (l.foldl insC out) ∧ l.foldl insC out ~ out ++ l := by
    intro l
    induction l with
    | nil => intro out h1 _; exact ⟨h1, by simp⟩
    | cons x l ih =>
      intro out h1 h2
      have hx : x ∉ out := fun hm => by
        obtain ⟨_, _, h3⟩ := nodup_append.1 h2
        exact h3 x hm x (by simp) rfl
      have hp := insC_perm out x
      have hp2 : insC out x ++ l ~ out ++ x :: l := (hp.append_right l).trans (by rw [cons_append]; exact perm_middle.symm)
      obtain ⟨h3, h4⟩ := ih (insC out x) (insC_sorted h1 hx) (hp2.nodup_iff.2 h2)
      exact ⟨h3, h4.trans hp2⟩
  obtain ⟨h1, h2⟩ := key l [] Pairwise.nil (by simpa using h)
  exact ⟨h1, fun c => by rw [h2.mem_iff]; simp⟩
/-- All candidates of a small graph, as the reference has them. -/
theorem ref_all {g : Gr} (hg : GrOK g) (h14 : g.ls.length ≤ 14) {most : Nat} (hm : 168 ≤ most) : IsAll g (orderedM (waysM g most g.n.toNat 0)) := by
  have hn := hg.n
  rw [waysM_eq hg h14 hm]
  obtain ⟨h1, h2⟩ := ordered_spec (waysF_nodup g g.n.toNat 0)
  exact ⟨h1, fun c => by rw [h2]; exact waysF_mem hg _ 0 (by omega) (by omega) (by omega) c⟩
end Go.Proofs.Ytcimnkijpifkjaa

/-
  The plain things of layers 15 and 16: the graphs that the laws draw.
-/
namespace Go.Proofs.Ytcimnkijpifkjaa
open Go Go.RowKit

structure T3 where
  a : Int
  b : Int
  c : Int
deriving Inhabited
def RT3 (_ : World) (x : T3) (vs : List Value) : Prop := vs = [.int .u8 x.a, .int .u8 x.b, .int .u8 x.c]
theorem keeps_t3 : Keeps RT3 := fun _ _ _ _ _ h => h
def T3OK (x : T3) : Prop := (0 ≤ x.a ∧ x.a ≤ 255) ∧ (0 ≤ x.b ∧ x.b ≤ 255) ∧ (0 ≤ x.c ∧ x.c ≤ 255)
theorem SlR.t3 {w : World} {A : Option Addr} {k : Nat} {xs : List T3} (h : SlR 3 RT3 w A xs) (hk : k < xs.length) : ∃ b off x, A = some ⟨b, off, none⟩ ∧ b < w.heap.size ∧ xs[k]? = some x ∧
    w.cell? ⟨b, off + k * 3, none⟩ = some (.int .u8 x.a) ∧ w.cell? ⟨b, off + k * 3 + 1, none⟩ = some (.int .u8 x.b) ∧ w.cell? ⟨b, off + k * 3 + 2, none⟩ = some (.int .u8 x.c) := by
  obtain ⟨b, off, x, vs, hA, hlt, hx, hr, _, hv⟩ := h.at_ hk
  exact ⟨b, off, x, hA, hlt, hx, hv 0 _ (by rw [hr]; rfl), hv 1 _ (by rw [hr]; rfl), hv 2 _ (by rw [hr]; rfl)⟩

/-- The link that three numbers describe. -/
def mkLk (n : Int) (k : Nat) (p : T3) : Lk := ⟨p.a % (n - 1), p.a % (n - 1) + 1 + p.b % (n - 1 - p.a % (n - 1)), (k : Int), p.c % 5⟩
def mkTo (n : Int) (l : List T3) : Nat → List Lk
  | 0 => []
  | k + 1 => match l[k]? with
    | some p => mkTo n l k ++ [mkLk n k p]
    | none => mkTo n l k
theorem mk_succ {n : Int} {l : List T3} {k : Nat} {p : T3} (h : l[k]? = some p) : mkTo n l (k + 1) = mkTo n l k ++ [mkLk n k p] := by
  show (match l[k]? with | some p => mkTo n l k ++ [mkLk n k p] | none => mkTo n l k) = _
  rw [h]
theorem mk_len {n : Int} {l : List T3} : ∀ k, (mkTo n l k).length ≤ k
  | 0 => by simp [mkTo]
  | k + 1 => by
    have := mk_len (n := n) (l := l) k
    unfold mkTo
    split
    · simp; omega
    · omega
def madeG (x : Int) (l : List T3) : Gr := ⟨1 + x % 7, if 1 < 1 + x % 7 then mkTo (1 + x % 7) l (min l.length 14) else []⟩
/-- The bounds of a link that is made. -/
structure LkM (n : Int) (l : Lk) : Prop where
  fr : 0 ≤ l.fr ∧ l.fr ≤ 5
  lt : l.fr < l.to
  to : l.to < n
  lb : 0 ≤ l.lb ∧ l.lb ≤ 13
  cost : 0 ≤ l.cost ∧ l.cost ≤ 4
theorem mkLk_ok {n : Int} {k : Nat} {p : T3} (hp : T3OK p) (hn : 1 < n ∧ n ≤ 7) (hk : k < 14) : LkM n (mkLk n k p) := by
  obtain ⟨⟨a1, a2⟩, ⟨b1, b2⟩, c1, c2⟩ := hp
  have h1 := Int.emod_nonneg p.a (show n - 1 ≠ 0 by omega)
  have h2 := Int.emod_lt_of_pos p.a (show 0 < n - 1 by omega)
  have h3 := Int.emod_nonneg p.b (show n - 1 - p.a % (n - 1) ≠ 0 by omega)
  have h4 := Int.emod_lt_of_pos p.b (show 0 < n - 1 - p.a % (n - 1) by omega)
  unfold mkLk
  exact ⟨by dsimp only; omega, by dsimp only; omega, by dsimp only; omega, by dsimp only; omega, by dsimp only; omega⟩
theorem mk_ok {n : Int} {l : List T3} (hl : ∀ p ∈ l, T3OK p) (hn : 1 < n ∧ n ≤ 7) : ∀ k, k ≤ 14 → ∀ x ∈ mkTo n l k, LkM n x := by
  intro k
  induction k with
  | zero => intro _ x hx; simp [mkTo] at hx
  | succ k ih =>
    intro hk x hx
    unfold mkTo at hx
    split at hx
    · rename_i p hp
      rcases List.mem_append.1 hx with h | h
      · exact ih (by omega) x h
      · obtain rfl := List.mem_singleton.1 h
        exact mkLk_ok (hl p (List.mem_of_getElem? hp)) hn (by omega)
    · exact ih (by omega) x hx
theorem madeG_m {x : Int} {l : List T3} (hl : ∀ p ∈ l, T3OK p) : ∀ k ∈ (madeG x l).ls, LkM (madeG x l).n k := by
  intro k hk
  unfold madeG at hk ⊢
  dsimp only at hk ⊢
  split at hk
  · exact mk_ok hl (by omega) _ (Nat.min_le_right _ _) k hk
  · cases hk
theorem madeG_n (x : Int) (l : List T3) : 1 ≤ (madeG x l).n ∧ (madeG x l).n ≤ 7 := by unfold madeG; dsimp only; omega
theorem madeG_len (x : Int) (l : List T3) : (madeG x l).ls.length ≤ 14 := by
  unfold madeG
  dsimp only
  split
  · exact Nat.le_trans (mk_len _) (Nat.min_le_right _ _)
  · simp
theorem madeG_ok {x : Int} {l : List T3} (hl : ∀ p ∈ l, T3OK p) : GrOK (madeG x l) := by
  have h1 := madeG_n x l
  have h2 := madeG_len x l
  refine ⟨by omega, by omega, fun k hk => ?_⟩
  obtain ⟨h3, h4, h5, h6, h7⟩ := madeG_m hl k hk
  exact ⟨by omega, h4, h5, by omega, by omega⟩
theorem madeG_all {x : Int} {l : List T3} (hl : ∀ p ∈ l, T3OK p) {most : Nat} (hm : 168 ≤ most) : IsAll (madeG x l) (orderedM (waysM (madeG x l) most (madeG x l).n.toNat 0)) := ref_all (madeG_ok hl) (madeG_len x l) hm
end Go.Proofs.Ytcimnkijpifkjaa
