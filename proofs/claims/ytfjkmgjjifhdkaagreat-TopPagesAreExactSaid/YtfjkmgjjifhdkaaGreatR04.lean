/-
  GrAll, GrWays, GrLeav, GrSl, joined. No conditions.
-/
import Derived.Test.YtfjkmgjjifhdkaaGreatR03
/-
  The plain law of layer 16: what Check finds is what a comparison with all candidates finds.
-/
namespace Go.Proofs.YtfjkmgjjifhdkaaGreat
open List

def canLt (a b : Can) : Bool := decide (a.cost < b.cost) || (decide (a.cost = b.cost) && lexLt a.links b.links)
theorem canLt_iff {a b : Can} : canLt a b = true ↔ a.cost < b.cost ∨ (a.cost = b.cost ∧ lexLt a.links b.links = true) := by
  unfold canLt; simp
theorem canLt_irrefl (a : Can) : canLt a a = false := by unfold canLt; simp [lex_irrefl]
theorem canLt_trans {a b c : Can} (h1 : canLt a b = true) (h2 : canLt b c = true) : canLt a c = true := by
  rw [canLt_iff] at *
  rcases h1 with h1 | ⟨h1, h3⟩ <;> rcases h2 with h2 | ⟨h2, h4⟩
  · left; omega
  · left; omega
  · left; omega
  · right; exact ⟨by omega, lex_trans h3 h4⟩
theorem canLt_asymm {a b : Can} (h : canLt a b = true) : canLt b a = false := by
  cases hb : canLt b a with
  | false => rfl
  | true => have := canLt_trans h hb; rw [canLt_irrefl] at this; cases this
theorem canLt_total (a b : Can) : canLt a b = true ∨ a = b ∨ canLt b a = true := by
  rcases Int.lt_or_le a.cost b.cost with h | h
  · left; rw [canLt_iff]; exact .inl h
  · rcases Int.lt_or_le b.cost a.cost with h2 | h2
    · right; right; rw [canLt_iff]; exact .inl h2
    · have h3 : a.cost = b.cost := by omega
      rcases lex_total a.links b.links with h4 | h4 | h4
      · left; rw [canLt_iff]; exact .inr ⟨h3, h4⟩
      · right; left; cases a; cases b; simp at h3 h4 ⊢; exact ⟨h4, h3⟩
      · right; right; rw [canLt_iff]; exact .inr ⟨h3.symm, h4⟩
def canB (g : Gr) (c : Can) : Bool := wayB g 0 c.links && decide (c.cost = sumC g c.links)
def IsCan (g : Gr) (c : Can) : Prop := wayB g 0 c.links = true ∧ c.cost = sumC g c.links
theorem canB_iff {g : Gr} {c : Can} : canB g c = true ↔ IsCan g c := by unfold canB IsCan; simp
def Sorted (A : List Can) : Prop := A.Pairwise (fun a b => canLt a b = true)
/-- All candidates, in their order. -/
def IsAll (g : Gr) (A : List Can) : Prop := Sorted A ∧ ∀ c, c ∈ A ↔ IsCan g c
theorem Sorted.nodup {A : List Can} (h : Sorted A) : A.Nodup := h.imp fun {a b} hab e => by subst e; rw [canLt_irrefl] at hab; cases hab
theorem sorted_same {A B : List Can} (hA : Sorted A) (hB : Sorted B) (h : ∀ c, c ∈ A ↔ c ∈ B) : A = B :=
  ((perm_ext_iff_of_nodup hA.nodup hB.nodup).2 h).eq_of_pairwise (fun a b _ _ h1 h2 => by have := canLt_asymm h1; rw [h2] at this; cases this) hA hB
/-- How many elements at the beginning are ways with their costs, each before the next one. -/
def ordN (g : Gr) : Option Can → List Can → Nat
  | _, [] => 0
  | prev, c :: r => if canB g c && (match prev with | none => true | some p => canLt p c) then ordN g (some c) r + 1 else 0
theorem ordN_le (g : Gr) : ∀ (l : List Can) (prev : Option Can), ordN g prev l ≤ l.length := by
  intro l
  induction l with
  | nil => intro _; simp [ordN]
  | cons c l ih =>
    intro prev
    unfold ordN
    by_cases h : (canB g c && (match prev with | none => true | some p => canLt p c)) = true
    · rw [if_pos h]; have := ih (some c); rw [length_cons]; omega
    · rw [if_neg h]; exact Nat.zero_le _
theorem ordN_spec (g : Gr) : ∀ (l : List Can) (prev : Option Can), Sorted (l.take (ordN g prev l)) ∧ (∀ c ∈ l.take (ordN g prev l), IsCan g c ∧ ∀ p, prev = some p → canLt p c = true) ∧
    ∀ c, l[ordN g prev l]? = some c → ¬ (IsCan g c ∧ (∀ p, prev = some p → canLt p c = true) ∧ ∀ q ∈ l.take (ordN g prev l), canLt q c = true) := by
  intro l
  induction l with
  | nil => intro _; exact ⟨Pairwise.nil, by simp, by simp⟩
  | cons c l ih =>
    intro prev
    unfold ordN
    by_cases h : (canB g c && (match prev with | none => true | some p => canLt p c)) = true
    · rw [if_pos h]
      obtain ⟨h1, h2, h3⟩ := ih (some c)
      rw [Bool.and_eq_true] at h
      have hc := canB_iff.1 h.1
      have hp : ∀ p, prev = some p → canLt p c = true := fun p hp => by rw [hp] at h; exact h.2
      rw [take_succ_cons]
      refine ⟨pairwise_cons.2 ⟨fun b hb => (h2 b hb).2 c rfl, h1⟩, fun d hd => ?_, fun d hd => ?_⟩
      · rcases mem_cons.1 hd with rfl | hd
        · exact ⟨hc, hp⟩
        · exact ⟨(h2 d hd).1, fun p hp' => canLt_trans (hp p hp') ((h2 d hd).2 c rfl)⟩
      · rw [getElem?_cons_succ] at hd
        rintro ⟨h4, h5, h6⟩
        exact h3 d hd ⟨h4, fun p hp' => by rw [← Option.some.inj hp']; exact h6 c (by simp), fun q hq => h6 q (by simp [hq])⟩
    · rw [if_neg h]
      refine ⟨Pairwise.nil, by simp, fun d hd => ?_⟩
      simp at hd
      subst hd
      rintro ⟨h4, h5, _⟩
      apply h
      rw [Bool.and_eq_true]
      refine ⟨canB_iff.2 h4, ?_⟩
      cases prev with
      | none => rfl
      | some p => exact h5 p rfl

def sortW (l : List (List Int)) : List (List Int) := l.mergeSort fun x y => !lexLt y x
def leastM (g : Gr) (l : List Can) : Oth :=
  if l = [] then ⟨decide (0 ≤ hAt g 0), max (hAt g 0) 0, []⟩ else visitM g g.n.toNat ⟨false, 0, []⟩ (sortW (l.map (·.links))) 0 0 0
def befB (o : Oth) (c : Can) : Bool := if o.cost ≠ c.cost then decide (o.cost < c.cost) else lexLt o.links c.links
theorem sortW_perm (l : List (List Int)) : sortW l ~ l := mergeSort_perm _ _
theorem sortW_sorted (l : List (List Int)) : (sortW l).Pairwise (fun a b => lexLt b a = false) := by
  have h := pairwise_mergeSort (le := fun x y => !lexLt y x) (fun a b c h1 h2 => by
    simp only [Bool.not_eq_true'] at *
    cases h : lexLt c a with
    | false => rfl
    | true =>
      rcases lex_total b c with h3 | h3 | h3
      · rw [lex_trans h3 h] at h1; cases h1
      · subst h3; rw [h] at h1; cases h1
      · rw [h3] at h2; cases h2) (fun a b => by
    cases h : lexLt b a with
    | false => simp
    | true => have := lex_asymm h; simp [this]) l
  exact h.imp fun {a b} hab => by simpa using hab
/-- No way is a proper beginning of another one. -/
theorem way_pre {g : Gr} (hg : GrOK g) : ∀ (a r : List Int) (v : Int), wayB g v a = true → wayB g v (a ++ r) = true → r = [] := by
  intro a
  induction a with
  | nil =>
    intro r v h1 h2
    cases r with
    | nil => rfl
    | cons i r =>
      unfold wayB at h1
      simp at h1
      have hi' := lvs_iff.1 (way_cons.1 h2).1
      have hok := lkAt_ok hg ⟨hi'.1, hi'.2.1⟩
      have hto := hok.to
      have hlt := hok.lt
      omega
  | cons i a ih =>
    intro r v h1 h2
    exact ih r _ (way_cons.1 h1).2 (way_cons.1 h2).2
/-- Lists of which neither begins with the other are told apart by what is put behind neither. -/
theorem lex_app : ∀ (a b r : List Int), (¬ ∃ t, b = a ++ t) → (¬ ∃ t, a = b ++ t) → lexLt (a ++ r) b = lexLt a b
  | [], b, _, h, _ => absurd ⟨b, rfl⟩ h
  | x :: a, [], _, _, h => absurd ⟨x :: a, rfl⟩ h
  | x :: a, y :: b, r, h1, h2 => by
    rw [cons_append]
    unfold lexLt
    by_cases h3 : x < y
    · rw [if_pos h3, if_pos h3]
    · by_cases h4 : y < x
      · rw [if_neg h3, if_pos h4, if_neg h3, if_pos h4]
      · have : x = y := by omega
        subst this
        rw [if_neg h3, if_neg h3, if_neg h3, if_neg h3]
        exact lex_app a b r (fun ⟨t, ht⟩ => h1 ⟨t, by rw [ht]; rfl⟩) (fun ⟨t, ht⟩ => h2 ⟨t, by rw [ht]; rfl⟩)
theorem least_spec {g : Gr} (hg : GrOK g) {l : List Can} (hl : ∀ c ∈ l, IsCan g c) :
    ((leastM g l).there = false ∧ ∀ c, IsCan g c → c ∈ l) ∨
    ((leastM g l).there = true ∧ ∃ m, IsCan g m ∧ m ∉ l ∧ (∀ c, IsCan g c → c ∉ l → c = m ∨ canLt m c = true) ∧ ∀ c ∈ l, befB (leastM g l) c = canLt m c) := by
  have hn := hg.n
  by_cases h0 : l = []
  · subst h0
    unfold leastM
    rw [if_pos rfl]
    by_cases hh : 0 ≤ hAt g 0
    · right
      obtain ⟨h1, h2⟩ := best_way hg g.n.toNat 0 (by omega) (by omega) (by omega) hh
      refine ⟨by simpa using hh, ⟨bestW g g.n.toNat 0, hAt g 0⟩, ⟨h1, h2.symm⟩, by simp, fun c hc _ => ?_, by simp⟩
      obtain ⟨h3, h4⟩ := hc
      have h5 := (way_h hg _ 0 (by omega) (by omega) h3).2
      rcases Int.lt_or_le (hAt g 0) (sumC g c.links) with h6 | h6
      · right; rw [canLt_iff]; left; show hAt g 0 < c.cost; omega
      · rcases best_first hg g.n.toNat 0 (by omega) (by omega) (by omega) _ h3 (by omega) with h7 | h7
        · left; cases c; simp at h4 h7 h6 h5 ⊢; exact ⟨h7.symm, by omega⟩
        · right; rw [canLt_iff]; right; exact ⟨by show hAt g 0 = c.cost; omega, h7⟩
    · left
      refine ⟨by simpa using hh, fun c hc => ?_⟩
      have := (way_h hg _ 0 (by omega) (by omega) hc.1).1
      exact absurd this hh
  · unfold leastM
    rw [if_neg h0]
    have hW : sortW (l.map (·.links)) ≠ [] := fun h => h0 (by
      have := (sortW_perm (l.map (·.links))).length_eq
      rw [h] at this
      simpa using this.symm)
    have hmem : ∀ w, w ∈ sortW (l.map (·.links)) ↔ w ∈ l.map (·.links) := fun w => (sortW_perm _).mem_iff
    have hrep := visit_rep hg (l.map (·.links)) g.n.toNat ⟨false, 0, []⟩ (sortW (l.map (·.links))) [] 0 0 (fun _ => False) (by omega) (by omega) (by omega) (fun w => by show sumC g w = 0 + sumC g w; omega) hW (sortW_sorted _)
      (fun w hw => by
        have h1 := (hmem w).1 hw
        obtain ⟨c, hc, rfl⟩ := mem_map.1 h1
        exact ⟨h1, c.links, rfl, (hl c hc).1⟩)
      (fun w hw _ => (hmem w).2 hw) (.inl ⟨rfl, fun s h => h⟩) (fun s h => h.elim)
    rw [length_nil] at hrep
    generalize visitM g g.n.toNat ⟨false, 0, []⟩ (sortW (l.map (·.links))) 0 0 0 = o at *
    have hout : ∀ c, IsCan g c → (c.links ∈ l.map (·.links) ↔ c ∈ l) := fun c hc => by
      constructor
      · intro h
        obtain ⟨d, hd, he⟩ := mem_map.1 h
        have := hl d hd
        have : d = c := by
          cases c; cases d
          simp at he
          subst he
          have h1 := hc.2
          have h2 := this.2
          simp at h1 h2 ⊢
          omega
        rw [← this]; exact hd
      · intro h; exact mem_map_of_mem h
    rcases hrep with ⟨h1, h2⟩ | ⟨h1, m, h2, h3, ⟨r, hr⟩, h5, h6⟩
    · left
      refine ⟨h1, fun c hc => ?_⟩
      rcases Classical.em (c ∈ l) with h | h
      · exact h
      · exact absurd (.inr ⟨c.links, hc.1, rfl, fun h' => h ((hout c hc).1 h')⟩) (h2 c.links)
    · right
      rcases h2 with h2 | ⟨w, hw, he, hn'⟩
      · exact h2.elim
      · rw [nil_append] at he
        subst he
        have hm : IsCan g ⟨m, o.cost⟩ := ⟨hw, h3⟩
        refine ⟨h1, ⟨m, o.cost⟩, hm, fun h => hn' ((hout _ hm).2 h), fun c hc hcl => ?_, fun c hc => ?_⟩
        · have h7 := h6 c.links (.inr ⟨c.links, hc.1, rfl, fun h => hcl ((hout c hc).1 h)⟩)
          have h8 := hc.2
          rcases h7 with h7 | ⟨h7, h9 | h9⟩
          · right; rw [canLt_iff]; left; show o.cost < c.cost; omega
          · left; cases c; simp at h8 h9 ⊢; exact ⟨h9.symm, by rw [h8, ← h9]; omega⟩
          · right; rw [canLt_iff]; right; exact ⟨by show o.cost = c.cost; omega, h9⟩
        · have hcw := (hl c hc).1
          have hx := lex_app o.links c.links r (h5 _ (mem_map_of_mem hc)) (fun ⟨t, ht⟩ => by
            rw [ht, append_assoc] at hr
            rw [hr] at hw
            have := way_pre hg _ _ _ hcw hw
            rw [this, append_nil] at hr
            exact hn' (by rw [hr]; exact mem_map_of_mem hc))
          rw [← hr] at hx
          unfold befB canLt
          rw [← hx]
          by_cases he : o.cost = c.cost
          · rw [if_neg (by simpa using he)]; simp [he]
          · rw [if_pos he]; simp [he]

/-- Where a list first differs from the beginning of another one. -/
def diffAt : List Can → List Can → Nat → Option Nat
  | [], _, _ => none
  | _ :: _, [], k => some k
  | c :: l, a :: A, k => if c = a then diffAt l A (k + 1) else some k
def refCheckM (A l : List Can) (whole : Bool) : Int × Int :=
  match diffAt l A 0 with
  | some i => ((i : Int), 160)
  | none => if whole ≠ decide (l.length = A.length) then ((l.length : Int), 160) else ((l.length : Int), 0)
def checkM (g : Gr) (l : List Can) (whole : Bool) : Int × Int :=
  let n := ordN g none l
  let o := leastM g (l.take n)
  match (if o.there = true then (l.take n).findIdx? (befB o) else none) with
  | some i => ((i : Int), 160)
  | none => if n < l.length ∨ whole = o.there then ((n : Int), 160) else ((n : Int), 0)
theorem diffAt_pre : ∀ (p l A : List Can) (k : Nat), diffAt (p ++ l) (p ++ A) k = diffAt l A (k + p.length)
  | [], l, A, k => rfl
  | c :: p, l, A, k => by
    show (if c = c then diffAt (p ++ l) (p ++ A) (k + 1) else some k) = _
    rw [if_pos rfl, diffAt_pre p l A (k + 1), length_cons, show k + 1 + p.length = k + (p.length + 1) by omega]
/-- A sorted list parts at an element. -/
theorem sorted_split {A : List Can} (h : Sorted A) {m : Can} (hm : m ∈ A) : A = A.filter (fun c => canLt c m) ++ m :: A.filter (fun c => canLt m c) := by
  refine sorted_same h ?_ fun c => ?_
  · unfold Sorted
    rw [pairwise_append]
    refine ⟨Pairwise.sublist filter_sublist h, pairwise_cons.2 ⟨fun c hc => (mem_filter.1 hc).2, Pairwise.sublist filter_sublist h⟩, fun a ha b hb => ?_⟩
    have h1 := (mem_filter.1 ha).2
    rcases mem_cons.1 hb with rfl | hb
    · exact h1
    · exact canLt_trans h1 (mem_filter.1 hb).2
  · rw [mem_append, mem_cons, mem_filter, mem_filter]
    constructor
    · intro hc
      rcases canLt_total c m with h1 | h1 | h1
      · exact .inl ⟨hc, h1⟩
      · exact .inr (.inl h1)
      · exact .inr (.inr ⟨hc, h1⟩)
    · rintro (h1 | h1 | h1)
      · exact h1.1
      · rw [h1]; exact hm
      · exact h1.1
theorem find_split {l : List Can} (hs : Sorted l) {m : Can} (hm : m ∉ l) {f : Can → Bool} (hf : ∀ c ∈ l, f c = canLt m c) :
    l = l.filter (fun c => canLt c m) ++ l.filter (fun c => canLt m c) ∧
    (l.findIdx? f = if l.filter (fun c => canLt m c) = [] then none else some (l.filter (fun c => canLt c m)).length) := by
  induction l with
  | nil => exact ⟨rfl, rfl⟩
  | cons c l ih =>
    obtain ⟨h1, h2⟩ := pairwise_cons.1 hs
    obtain ⟨h3, h4⟩ := ih h2 (fun h => hm (by simp [h])) (fun d hd => hf d (by simp [hd]))
    rcases canLt_total c m with h5 | h5 | h5
    · have h6 := canLt_asymm h5
      rw [filter_cons_of_pos (p := fun c => canLt c m) h5, filter_cons_of_neg (p := fun c => canLt m c) (by rw [h6]; simp), findIdx?_cons, hf c (by simp), h6, h4]
      refine ⟨by rw [cons_append, ← h3], ?_⟩
      by_cases h7 : l.filter (fun c => canLt m c) = []
      · simp [h7]
      · simp [h7]
    · exact absurd (by simp [h5]) hm
    · have h6 := canLt_asymm h5
      have hall : ∀ d ∈ l, canLt m d = true := fun d hd => canLt_trans h5 (h1 d hd)
      have e1 : l.filter (fun c => canLt c m) = [] := filter_eq_nil_iff.2 fun d hd => by rw [canLt_asymm (hall d hd)]; simp
      have e2 : l.filter (fun c => canLt m c) = l := filter_eq_self.2 hall
      rw [filter_cons_of_neg (p := fun c => canLt c m) (by rw [h6]; simp), filter_cons_of_pos (p := fun c => canLt m c) h5, e1, e2, findIdx?_cons, hf c (by simp), h5]
      simp
theorem check_eq {g : Gr} (hg : GrOK g) {A : List Can} (hA : IsAll g A) (l : List Can) (whole : Bool) : checkM g l whole = refCheckM A l whole := by
  obtain ⟨hs, hc, hstop⟩ := ordN_spec g l none
  have hle := ordN_le g l none
  unfold checkM refCheckM
  dsimp only
  generalize ordN g none l = n at *
  have hlen : (l.take n).length = n := by rw [length_take]; omega
  have hl : l = l.take n ++ l.drop n := (take_append_drop n l).symm
  have hcan : ∀ c ∈ l.take n, IsCan g c := fun c h => (hc c h).1
  rcases least_spec hg hcan with ⟨h1, h2⟩ | ⟨h1, m, h2, h3, h4, h5⟩
  · -- there is no other
    have hAL : A = l.take n := sorted_same hA.1 hs fun c => by rw [hA.2]; exact ⟨h2 c, hcan c⟩
    rw [h1, if_neg (by simp)]
    rw [show diffAt l A 0 = diffAt (l.take n ++ l.drop n) (l.take n ++ []) 0 by rw [← hl, append_nil, ← hAL], diffAt_pre, hlen]
    have hAn : A.length = n := by rw [hAL, hlen]
    cases hd : l.drop n with
    | nil =>
      have hn : l.length ≤ n := by simpa using hd
      have hn' : l.length = n := by omega
      show (if n < l.length ∨ whole = false then _ else _) = (if whole ≠ decide (l.length = A.length) then _ else _)
      rw [hn', hAn]
      cases whole <;> simp
    | cons c r =>
      have hlt : n < l.length := by
        have := congrArg length hd
        rw [length_drop] at this
        simp at this
        omega
      show (if n < l.length ∨ whole = false then _ else _) = _
      rw [if_pos (.inl hlt)]
      show _ = (((0 + n : Nat) : Int), (160 : Int))
      rw [Nat.zero_add]
  · -- there is one
    have hmA : m ∈ A := (hA.2 m).2 h2
    have hsp := sorted_split hA.1 hmA
    obtain ⟨hf1, hf2⟩ := find_split hs h3 h5
    have hpre : A.filter (fun c => canLt c m) = (l.take n).filter (fun c => canLt c m) := sorted_same (Pairwise.sublist filter_sublist hA.1) (Pairwise.sublist filter_sublist hs) fun c => by
      rw [mem_filter, mem_filter, hA.2]
      constructor
      · rintro ⟨h6, h7⟩
        refine ⟨?_, h7⟩
        rcases Classical.em (c ∈ l.take n) with h | h
        · exact h
        · rcases h4 c h6 h with h8 | h8
          · rw [h8, canLt_irrefl] at h7; cases h7
          · have := canLt_asymm h8; rw [h7] at this; cases this
      · rintro ⟨h6, h7⟩; exact ⟨hcan c h6, h7⟩
    rw [hpre] at hsp
    rw [h1, if_pos rfl, hf2]
    by_cases hemp : (l.take n).filter (fun c => canLt m c) = []
    · rw [if_pos hemp]
      rw [hemp, append_nil] at hf1
      rw [← hf1] at hsp
      have hAl : n < A.length := by rw [hsp, length_append, hlen]; simp
      rw [show diffAt l A 0 = diffAt (l.take n ++ l.drop n) (l.take n ++ m :: A.filter (fun c => canLt m c)) 0 by rw [← hl, ← hsp], diffAt_pre, hlen]
      cases hd : l.drop n with
      | nil =>
        have hn : l.length ≤ n := by simpa using hd
        have hn' : l.length = n := by omega
        show (if n < l.length ∨ whole = true then _ else _) = (if whole ≠ decide (l.length = A.length) then _ else _)
        rw [hn', decide_eq_false (show ¬ n = A.length by omega)]
        cases whole <;> simp
      | cons c r =>
        have hlt : n < l.length := by
          have := congrArg length hd
          rw [length_drop] at this
          simp at this
          omega
        have hcn : l[n]? = some c := by
          have := getElem?_drop (xs := l) (i := n) (j := 0)
          rw [hd] at this
          simpa using this.symm
        have hne : c ≠ m := fun e => by
          subst e
          refine hstop c hcn ⟨h2, by simp, fun q hq => ?_⟩
          rw [hf1] at hq
          exact (mem_filter.1 hq).2
        show (if n < l.length ∨ whole = true then _ else _) = _
        rw [if_pos (.inl hlt)]
        unfold diffAt
        rw [if_neg hne, Nat.zero_add]
    · rw [if_neg hemp]
      obtain ⟨L1, hL1⟩ : ∃ L1, (l.take n).filter (fun c => canLt c m) = L1 := ⟨_, rfl⟩
      obtain ⟨L2, hL2⟩ : ∃ L2, (l.take n).filter (fun c => canLt m c) = L2 := ⟨_, rfl⟩
      rw [hL1] at hsp hf1 ⊢
      rw [hL2] at hf1 hemp
      cases L2 with
      | nil => exact absurd rfl hemp
      | cons d L2 =>
        have hdm : d ≠ m := fun e => by
          have : d ∈ (l.take n).filter (fun c => canLt m c) := by rw [hL2]; simp
          have := (mem_filter.1 this).2
          rw [e, canLt_irrefl] at this; cases this
        rw [show diffAt l A 0 = diffAt (L1 ++ (d :: L2 ++ l.drop n)) (L1 ++ m :: A.filter (fun c => canLt m c)) 0 by rw [← append_assoc, ← hf1, ← hl, ← hsp], diffAt_pre]
        show _ = (match diffAt (d :: (L2 ++ l.drop n)) _ (0 + L1.length) with | some i => _ | none => _)
        unfold diffAt
        rw [if_neg hdm, Nat.zero_add]
end Go.Proofs.YtfjkmgjjifhdkaaGreat

/-
  The plain law of layer 15: the reference goes through all ways, and puts them in order.
-/
namespace Go.Proofs.YtfjkmgjjifhdkaaGreat
open List

/-- The same without a limit. -/
def waysF (g : Gr) : Nat → Int → List Can
  | 0, _ => []
  | f + 1, v => if v = g.n - 1 then [⟨[], 0⟩] else (lvs g v).flatMap (fun i => (waysF g f (lkAt g i).to).map (fun r => (⟨i :: r.links, r.cost + (lkAt g i).cost⟩ : Can)))
theorem lvs_last {g : Gr} (hg : GrOK g) : lvs g (g.n - 1) = [] := by
  rcases h : lvs g (g.n - 1) with _ | ⟨i, l⟩
  · rfl
  · have hi' := lvs_iff.1 (show i ∈ lvs g (g.n - 1) by rw [h]; simp)
    have hok := lkAt_ok hg ⟨hi'.1, hi'.2.1⟩
    have hto := hok.to
    have hlt := hok.lt
    omega
theorem waysF_mem {g : Gr} (hg : GrOK g) : ∀ (f : Nat) (v : Int), 0 ≤ v → v < g.n → g.n - v ≤ (f : Int) → ∀ c, c ∈ waysF g f v ↔ wayB g v c.links = true ∧ c.cost = sumC g c.links := by
  intro f
  induction f with
  | zero => intro v h0 h1 h2; exfalso; omega
  | succ f ih =>
    intro v h0 h1 h2 c
    unfold waysF
    by_cases hv : v = g.n - 1
    · rw [if_pos hv, mem_singleton]
      constructor
      · rintro rfl; exact ⟨by unfold wayB; simpa using hv, rfl⟩
      · rintro ⟨h3, h4⟩
        obtain ⟨w, k⟩ := c
        cases w with
        | nil => simp at h4; rw [h4]; rfl
        | cons i w =>
          have := (way_cons.1 h3).1
          rw [hv, lvs_last hg] at this
          cases this
    · rw [if_neg hv, mem_flatMap]
      constructor
      · rintro ⟨i, hi, hc⟩
        obtain ⟨r, hr, rfl⟩ := mem_map.1 hc
        have hi' := lvs_iff.1 hi
        have hok := lkAt_ok hg ⟨hi'.1, hi'.2.1⟩
        have hto := hok.to
        have hlt := hok.lt
        obtain ⟨h3, h4⟩ := (ih _ (by omega) (by omega) (by omega) r).1 hr
        exact ⟨way_cons.2 ⟨hi, h3⟩, by show r.cost + (lkAt g i).cost = (lkAt g i).cost + sumC g r.links; omega⟩
      · rintro ⟨h3, h4⟩
        obtain ⟨w, k⟩ := c
        cases w with
        | nil => unfold wayB at h3; simp at h3; exact absurd h3 hv
        | cons i w =>
          obtain ⟨hi, hw⟩ := way_cons.1 h3
          have hi' := lvs_iff.1 hi
          have hok := lkAt_ok hg ⟨hi'.1, hi'.2.1⟩
          have hto := hok.to
          have hlt := hok.lt
          refine ⟨i, hi, mem_map.2 ⟨⟨w, sumC g w⟩, (ih _ (by omega) (by omega) (by omega) _).2 ⟨hw, rfl⟩, ?_⟩⟩
          have h4' : k = (lkAt g i).cost + sumC g w := h4
          simp
          omega
theorem waysF_nodup (g : Gr) : ∀ (f : Nat) (v : Int), (waysF g f v).Nodup := by
  intro f
  induction f with
  | zero => intro v; exact Pairwise.nil
  | succ f ih =>
    intro v
    unfold waysF
    split
    · exact pairwise_singleton _ _
    · have hinc := lvs_inc g v
      generalize lvs g v = L at *
      induction L with
      | nil => exact Pairwise.nil
      | cons i L ihL =>
        obtain ⟨h1, h2⟩ := pairwise_cons.1 hinc
        rw [flatMap_cons]
        refine nodup_append.2 ⟨?_, ihL h2, ?_⟩
        · refine (ih _).map _ fun a b hab e => hab ?_
          obtain ⟨w, k⟩ := a
          obtain ⟨w', k'⟩ := b
          simp at e ⊢
          exact ⟨e.1, by omega⟩
        · intro a ha b hb e
          subst e
          obtain ⟨r, _, rfl⟩ := mem_map.1 ha
          obtain ⟨j, hj, hb⟩ := mem_flatMap.1 hb
          obtain ⟨r', _, he⟩ := mem_map.1 hb
          simp at he
          have := h1 j hj
          omega
theorem lvTo_len (ls : List Lk) (v : Int) : ∀ k, k ≤ ls.length → (lvTo ls v k).length = (ls.take k).countP (fun l => decide (l.fr = v)) := by
  intro k
  induction k with
  | zero => intro _; rfl
  | succ k ih =>
    intro hk
    have hl : ls[k]? = some ls[k] := List.getElem?_eq_getElem (by omega)
    rw [lvTo_succ hl, take_succ_of hl, countP_append]
    split
    · rename_i h
      rw [length_append, ih (by omega)]
      simp [h]
    · rename_i h
      rw [ih (by omega)]
      simp [h]
/-- The reference's way to put candidates in order. -/
def insC (out : List Can) (x : Can) : List Can :=
  out.takeWhile (fun c => canLt c x) ++ [x] ++ out.drop (out.takeWhile (fun c => canLt c x)).length
def orderedM (l : List Can) : List Can := l.foldl insC []
theorem insC_perm (out : List Can) (x : Can) : insC out x ~ x :: out := by
  unfold insC
  have h : out.takeWhile (fun c => canLt c x) ++ out.drop (out.takeWhile (fun c => canLt c x)).length = out := by
    have h1 := congrArg (List.take (out.takeWhile (fun c => canLt c x)).length) (takeWhile_append_dropWhile (p := fun c => canLt c x) (l := out))
    rw [take_left] at h1
    conv => lhs; lhs; rw [h1]
    exact take_append_drop _ _
  rw [append_assoc, singleton_append]
  refine perm_middle.trans ?_
  rw [h]
theorem insC_sorted {out : List Can} {x : Can} (h : Sorted out) (hx : x ∉ out) : Sorted (insC out x) := by
  induction out with
  | nil => exact pairwise_singleton _ _
  | cons c out ih =>
    obtain ⟨h1, h2⟩ := pairwise_cons.1 h
    unfold insC
    rw [takeWhile_cons]
    by_cases hc : canLt c x = true
    · rw [if_pos hc, length_cons, drop_succ_cons]
      have ihs := ih h2 (fun hm => hx (by simp [hm]))
      show Sorted (c :: insC out x)
      refine pairwise_cons.2 ⟨fun d hd => ?_, ihs⟩
      have := (insC_perm out x).mem_iff.1 hd
      rcases mem_cons.1 this with rfl | hd
      · exact hc
      · exact h1 d hd
    · rw [if_neg hc]
      show Sorted (x :: c :: out)
      have hxc : canLt x c = true := by
        rcases canLt_total x c with h3 | h3 | h3
        · exact h3
        · exact absurd (by simp [h3]) hx
        · exact absurd h3 hc
      exact pairwise_cons.2 ⟨fun d hd => by
        rcases mem_cons.1 hd with rfl | hd
        · exact hxc
        · exact canLt_trans hxc (h1 d hd), h⟩
theorem ordered_spec {l : List Can} (h : l.Nodup) : Sorted (orderedM l) ∧ ∀ c, c ∈ orderedM l ↔ c ∈ l := by
  unfold orderedM
  have key : ∀ (l out : List Can), Sorted out → (out ++ l).Nodup → Sorted (l.foldl insC out) ∧ l.foldl insC out ~ out ++ l := by
    intro l
    induction l with
    | nil => intro out h1 _; exact ⟨h1, by simp⟩
    | cons x l ih =>
      intro out h1 h2
      have hx : x ∉ out := fun hm => by
        obtain ⟨_, _, h3⟩ := nodup_append.1 h2
        exact h3 x hm x (by simp) rfl
      have hp := insC_perm out x
      have hp2 : insC out x ++ l ~ out ++ x :: l := (hp.append_right l).trans (by rw [cons_append]; exact perm_middle.symm)
      obtain ⟨h3, h4⟩ := ih (insC out x) (insC_sorted h1 hx) (hp2.nodup_iff.2 h2)
      exact ⟨h3, h4.trans hp2⟩
  obtain ⟨h1, h2⟩ := key l [] Pairwise.nil (by simpa using h)
  exact ⟨h1, fun c => by rw [h2.mem_iff]; simp⟩
end Go.Proofs.YtfjkmgjjifhdkaaGreat

/-
  The plain law of layer 16: the links that leave each node, counted and sorted into one list.
-/
namespace Go.Proofs.YtfjkmgjjifhdkaaGreat
open List

/-- Where the links of a node begin in the list of all. -/
def stN (g : Gr) : Nat → Nat
  | 0 => 0
  | v + 1 => stN g v + (lvs g (v : Int)).length
def cntN (g : Gr) (v k : Nat) : Nat := (lvTo g.ls (v : Int) k).length
theorem countP_split (l : List Lk) (v : Int) (hv : 0 ≤ v) : l.countP (fun l => decide (0 ≤ l.fr ∧ l.fr < v + 1)) = l.countP (fun l => decide (0 ≤ l.fr ∧ l.fr < v)) + l.countP (fun l => decide (l.fr = v)) := by
  induction l with
  | nil => rfl
  | cons x l ih =>
    rw [countP_cons, countP_cons, countP_cons, ih]
    by_cases h1 : x.fr = v
    · have a1 : decide (0 ≤ x.fr ∧ x.fr < v + 1) = true := decide_eq_true (by omega)
      have a2 : decide (0 ≤ x.fr ∧ x.fr < v) = false := decide_eq_false (by omega)
      have a3 : decide (x.fr = v) = true := decide_eq_true h1
      rw [a1, a2, a3]
      simp
      omega
    · have a3 : decide (x.fr = v) = false := decide_eq_false h1
      by_cases h2 : 0 ≤ x.fr ∧ x.fr < v
      · have a1 : decide (0 ≤ x.fr ∧ x.fr < v + 1) = true := decide_eq_true (by omega)
        have a2 : decide (0 ≤ x.fr ∧ x.fr < v) = true := decide_eq_true h2
        rw [a1, a2, a3]
        simp
        omega
      · have a1 : decide (0 ≤ x.fr ∧ x.fr < v + 1) = false := decide_eq_false (by omega)
        have a2 : decide (0 ≤ x.fr ∧ x.fr < v) = false := decide_eq_false h2
        rw [a1, a2, a3]
        simp
theorem stN_count (g : Gr) : ∀ v : Nat, stN g v = g.ls.countP (fun l => decide (0 ≤ l.fr ∧ l.fr < (v : Int)))
  | 0 => by
    show 0 = _
    rw [eq_comm, countP_eq_zero]
    intro l _
    simp
  | v + 1 => by
    show stN g v + (lvs g (v : Int)).length = _
    have h := countP_split g.ls (v : Int) (by omega)
    have e : ((v + 1 : Nat) : Int) = (v : Int) + 1 := by omega
    rw [e, h, stN_count g v]
    unfold lvs
    rw [lvTo_len _ _ _ (Nat.le_refl _), take_length]
theorem stN_le (g : Gr) (v : Nat) : stN g v ≤ g.ls.length := by rw [stN_count]; exact countP_le_length
theorem stN_succ (g : Gr) (v : Nat) : stN g (v + 1) = stN g v + (lvs g (v : Int)).length := rfl
theorem stN_mono (g : Gr) {u v : Nat} (h : u ≤ v) : stN g u ≤ stN g v := by
  induction v with
  | zero => obtain rfl : u = 0 := by omega
            exact Nat.le_refl _
  | succ v ih =>
    rcases Nat.lt_or_ge u (v + 1) with h1 | h1
    · have := ih (by omega); rw [stN_succ]; omega
    · obtain rfl : u = v + 1 := by omega
      exact Nat.le_refl _
theorem cntN_le (g : Gr) (v : Nat) {k : Nat} (hk : k ≤ g.ls.length) : cntN g v k ≤ (lvs g (v : Int)).length := by
  unfold cntN lvs
  rw [lvTo_len _ _ _ hk, lvTo_len _ _ _ (Nat.le_refl _), take_length]
  exact Sublist.countP_le (take_sublist _ _)
theorem cntN_all (g : Gr) (v : Nat) : cntN g v g.ls.length = (lvs g (v : Int)).length := rfl
theorem cntN_zero (g : Gr) (v : Nat) : cntN g v 0 = 0 := rfl
theorem cntN_succ {g : Gr} {v k : Nat} {l : Lk} (h : g.ls[k]? = some l) : cntN g v (k + 1) = if l.fr = (v : Int) then cntN g v k + 1 else cntN g v k := by
  unfold cntN
  rw [lvTo_succ h]
  split
  · rw [length_append]; rfl
  · rfl
theorem range_set {f f' : Nat → Int} {n i : Nat} (hi : i < n) (h : ∀ v, v < n → v ≠ i → f' v = f v) : (range n).map f' = ((range n).map f).set i (f' i) := by
  apply ext_getElem?
  intro j
  rw [getElem?_set]
  by_cases hj : i = j
  · subst hj
    rw [if_pos rfl]
    simp [hi]
  · rw [if_neg hj]
    rcases Nat.lt_or_ge j n with h1 | h1
    · simp [h1, h j h1 (fun e => hj e.symm)]
    · simp [h1]
theorem range_at {f : Nat → Int} {n i : Nat} (hi : i < n) : ((range n).map f)[i]? = some (f i) := by simp [hi]
def endsA (g : Gr) (n k : Nat) : List Int := (range n).map (fun v => (cntN g v k : Int))
def endsB (g : Gr) (n k : Nat) : List Int := (range n).map (fun v => if v < k then (stN g v : Int) else ((lvs g (v : Int)).length : Int))
def endsC (g : Gr) (n k : Nat) : List Int := (range n).map (fun v => ((stN g v + cntN g v k : Nat) : Int))
theorem endsA_zero (g : Gr) (n : Nat) : endsA g n 0 = replicate n 0 := by
  unfold endsA
  simp only [cntN_zero]
  apply ext_getElem?
  intro j
  by_cases h : j < n
  · simp [h]
  · simp [h]
theorem endsA_step {g : Gr} {n k f : Nat} {l : Lk} (h : g.ls[k]? = some l) (hf : l.fr = (f : Int)) (hn : f < n) : endsA g n (k + 1) = (endsA g n k).set f ((cntN g f k : Int) + 1) := by
  have e : ((cntN g f k : Int) + 1) = (fun v => (cntN g v (k + 1) : Int)) f := by
    show _ = (cntN g f (k + 1) : Int)
    rw [cntN_succ h, if_pos hf]; omega
  rw [e]
  refine range_set hn fun v _ hv => ?_
  show (cntN g v (k + 1) : Int) = (cntN g v k : Int)
  rw [cntN_succ h, if_neg (by omega)]
theorem endsA_all (g : Gr) (n : Nat) : endsA g n g.ls.length = endsB g n 0 := by
  unfold endsA endsB
  simp only [cntN_all, Nat.not_lt_zero, if_false]
theorem endsB_step (g : Gr) {n k : Nat} (hk : k < n) : endsB g n (k + 1) = (endsB g n k).set k (stN g k) := by
  have e : (stN g k : Int) = (fun v => if v < k + 1 then (stN g v : Int) else ((lvs g (v : Int)).length : Int)) k := by
    show _ = if k < k + 1 then (stN g k : Int) else _
    rw [if_pos (by omega)]
  rw [e]
  refine range_set hk fun v _ hv => ?_
  show (if v < k + 1 then (stN g v : Int) else ((lvs g (v : Int)).length : Int)) = if v < k then (stN g v : Int) else ((lvs g (v : Int)).length : Int)
  by_cases h : v < k
  · rw [if_pos h, if_pos (by omega)]
  · rw [if_neg h, if_neg (by omega)]
theorem endsB_at (g : Gr) {n k : Nat} (hk : k < n) : (endsB g n k)[k]? = some ((lvs g (k : Int)).length : Int) := by
  unfold endsB
  rw [range_at hk, if_neg (by omega)]
theorem endsB_all (g : Gr) (n : Nat) : endsB g n n = endsC g n 0 := by
  unfold endsB endsC
  apply map_congr_left
  intro v hv
  rw [if_pos (mem_range.1 hv), cntN_zero]
  rfl
theorem endsA_at (g : Gr) {n k f : Nat} (hf : f < n) : (endsA g n k)[f]? = some (cntN g f k : Int) := by unfold endsA; rw [range_at hf]
theorem endsC_at (g : Gr) {n k f : Nat} (hf : f < n) : (endsC g n k)[f]? = some ((stN g f + cntN g f k : Nat) : Int) := by unfold endsC; rw [range_at hf]
theorem endsC_end (g : Gr) {n f : Nat} (hf : f < n) : (endsC g n g.ls.length)[f]? = some ((stN g (f + 1) : Nat) : Int) := by rw [endsC_at g hf, cntN_all, stN_succ]
theorem endsC_step {g : Gr} {n k f : Nat} {l : Lk} (h : g.ls[k]? = some l) (hf : l.fr = (f : Int)) (hn : f < n) : endsC g n (k + 1) = (endsC g n k).set f (((stN g f + cntN g f k : Nat) : Int) + 1) := by
  have e : (((stN g f + cntN g f k : Nat) : Int) + 1) = (fun v => ((stN g v + cntN g v (k + 1) : Nat) : Int)) f := by
    show _ = ((stN g f + cntN g f (k + 1) : Nat) : Int)
    rw [cntN_succ h, if_pos hf]; omega
  rw [e]
  refine range_set hn fun v _ hv => ?_
  show ((stN g v + cntN g v (k + 1) : Nat) : Int) = ((stN g v + cntN g v k : Nat) : Int)
  rw [cntN_succ h, if_neg (by omega)]
/-- The list of all, when k links have been put into it. -/
def AllTo (g : Gr) (k : Nat) (al : List Int) : Prop := al.length = g.ls.length ∧ ∀ (v j : Nat) (x : Int), (lvTo g.ls (v : Int) k)[j]? = some x → al[stN g v + j]? = some x
theorem AllTo.zero (g : Gr) : AllTo g 0 (replicate g.ls.length 0) := ⟨by simp, fun v j x h => by simp [lvTo] at h⟩
theorem cntN_lt {g : Gr} {k f : Nat} {l : Lk} (h : g.ls[k]? = some l) (hf : l.fr = (f : Int)) : cntN g f k < (lvs g (f : Int)).length := by
  have h1 := (List.getElem?_eq_some_iff.1 h).1
  have h2 := cntN_le g f (k := k + 1) h1
  rw [cntN_succ h, if_pos hf] at h2
  omega
theorem AllTo.step {g : Gr} {k f : Nat} {al : List Int} {l : Lk} (ha : AllTo g k al) (h : g.ls[k]? = some l) (hf : l.fr = (f : Int)) : AllTo g (k + 1) (al.set (stN g f + cntN g f k) (k : Int)) := by
  obtain ⟨h1, h2⟩ := ha
  have hlt := cntN_lt h hf
  have hkl := (List.getElem?_eq_some_iff.1 h).1
  have hs := stN_le g (f + 1)
  rw [stN_succ] at hs
  refine ⟨by rw [length_set, h1], fun v j x hx => ?_⟩
  rw [getElem?_set]
  by_cases hv : l.fr = (v : Int)
  · obtain rfl : v = f := by omega
    rw [lvTo_succ h, if_pos hf] at hx
    rcases Nat.lt_or_ge j (cntN g v k) with hj | hj
    · rw [getElem?_append_left hj] at hx
      rw [if_neg (by omega)]
      exact h2 v j x hx
    · rw [getElem?_append_right hj] at hx
      have hj2 : j = cntN g v k := by
        have := (List.getElem?_eq_some_iff.1 hx).1
        simp at this
        unfold cntN at hj ⊢
        omega
      subst hj2
      unfold cntN at hx
      simp at hx
      rw [if_pos rfl, if_pos (by omega), hx]
  · rw [lvTo_succ h, if_neg hv] at hx
    have hj := (List.getElem?_eq_some_iff.1 hx).1
    have hj2 : j < (lvs g (v : Int)).length := Nat.lt_of_lt_of_le hj (cntN_le g v (Nat.le_of_lt hkl))
    rw [if_neg]
    · exact h2 v j x hx
    · intro e
      rcases Nat.lt_or_ge v f with h3 | h3
      · have := stN_mono g (u := v + 1) (v := f) h3
        rw [stN_succ] at this
        omega
      · have h4 : f < v := by omega
        have := stN_mono g (u := f + 1) (v := v) h4
        rw [stN_succ] at this
        omega
theorem AllTo.lt {g : Gr} {k f : Nat} {al : List Int} {l : Lk} (ha : AllTo g k al) (h : g.ls[k]? = some l) (hf : l.fr = (f : Int)) : stN g f + cntN g f k < al.length := by
  have hlt := cntN_lt h hf
  have hs := stN_le g (f + 1)
  rw [stN_succ] at hs
  rw [ha.1]
  omega
end Go.Proofs.YtfjkmgjjifhdkaaGreat

/-
  Words for memory of layers 15 and 16: slices of slices; parts of rows.
-/
namespace Go.Proofs.YtfjkmgjjifhdkaaGreat
open Go Go.RowKit

/-- A slice that lies in one cell and reads as a list of numbers. -/
def RSl (w : World) (x : List Int) (vs : List Value) : Prop := ∃ A c, vs = [.slice A x.length c] ∧ SlR 1 RInt w A x ∧ x.length ≤ c ∧ c ≤ maxLen
theorem keeps_sl : Keeps RSl := fun _ _ _ _ hb ⟨A, c, h, hs, hl⟩ => ⟨A, c, h, hs.below keeps_int hb, hl⟩
theorem SlR.sl {w : World} {A : Option Addr} {xs : List (List Int)} (h : SlR 1 RSl w A xs) {k : Nat} (hk : k < xs.length) :
    ∃ b off x A' c, A = some ⟨b, off, none⟩ ∧ b < w.heap.size ∧ xs[k]? = some x ∧ w.cell? ⟨b, off + k, none⟩ = some (.slice A' x.length c) ∧ SlR 1 RInt w A' x ∧ x.length ≤ c ∧ c ≤ maxLen := by
  obtain ⟨b, off, x, vs, hA, hlt, hx, ⟨A', c, hr, hs, hl⟩, _, hv⟩ := h.at_ hk
  have h0 := hv 0 (.slice A' x.length c) (by rw [hr]; rfl)
  simp only [Nat.mul_one, Nat.add_zero] at h0
  exact ⟨b, off, x, A', c, hA, hlt, hx, h0, hs, hl⟩
/-- A part of a row, from s on. -/
theorem Row.part {w : World} {g : Nat} {al : List Int} (h : Row w g al) (s : Nat) {xs : List Int} (hx : ∀ (j : Nat) (x : Int), xs[j]? = some x → al[s + j]? = some x) : SlR 1 RInt w (some ⟨g, s, none⟩) xs := fun _ =>
  ⟨g, s, rfl, h.lt, fun k x hk => ⟨[.int .i64 x], rfl, rfl, fun j v hj => by
    match j, hj with
    | 0, hj =>
      simp at hj
      subst hj
      have := h.cell (hx k x hk)
      simpa using this⟩⟩
/-- The part of the list of all that a node's links have. -/
def slV (ga : Nat) (g : Gr) (v : Nat) : Value := .slice (if stN g (v + 1) = stN g v then some ⟨ga, 0, none⟩ else some ⟨ga, stN g v, none⟩) (stN g (v + 1) - stN g v) (stN g (v + 1) - stN g v)
def fromC (ga : Nat) (g : Gr) (n k : Nat) : List Value := (List.range n).map (fun v => if v < k then slV ga g v else .slice none 0 0)
theorem fromC_zero (ga : Nat) (g : Gr) (n : Nat) : fromC ga g n 0 = List.replicate n (.slice none 0 0) := by
  unfold fromC
  apply List.ext_getElem?
  intro j
  by_cases h : j < n
  · simp [h]
  · simp [h]
theorem fromC_step (ga : Nat) (g : Gr) {n k : Nat} (hk : k < n) : fromC ga g n (k + 1) = (fromC ga g n k).set k (slV ga g k) := by
  unfold fromC
  apply List.ext_getElem?
  intro j
  rw [List.getElem?_set]
  by_cases hj : k = j
  · subst hj
    rw [if_pos rfl]
    simp [hk]
  · rw [if_neg hj]
    by_cases h : j < n
    · simp [h]
      by_cases h2 : j < k
      · simp [h2, Nat.lt_succ_of_lt h2]
      · have : ¬ j < k + 1 := by omega
        simp [h2, this]
    · simp [h]
/-- What leaving answers. -/
def leavL (g : Gr) (n : Nat) : List (List Int) := (List.range n).map (fun v : Nat => lvs g (v : Int))
theorem leavL_len (g : Gr) (n : Nat) : (leavL g n).length = n := by unfold leavL; simp
theorem leavL_at (g : Gr) {n v : Nat} (hv : v < n) : (leavL g n)[v]? = some (lvs g (v : Int)) := by unfold leavL; simp [hv]
theorem from_slr {w : World} {gf ga : Nat} {t : TypeId} {g : Gr} {n : Nat} {al : List Int} (hb : Blk w gf t (fromC ga g n n).toArray) (ha : AllTo g g.ls.length al) (hr : Row w ga al) (hl : g.ls.length ≤ maxLen) : SlR 1 RSl w (some ⟨gf, 0, none⟩) (leavL g n) := fun _ => by
  refine ⟨gf, 0, rfl, hb.lt, fun k x hx => ?_⟩
  have hk := (List.getElem?_eq_some_iff.1 hx).1
  rw [leavL_len] at hk
  rw [leavL_at g hk] at hx
  obtain rfl := Option.some.inj hx
  have hlen : stN g (k + 1) - stN g k = (lvs g (k : Int)).length := by rw [stN_succ]; omega
  refine ⟨[slV ga g k], ⟨_, _, by unfold slV; rw [hlen], ?_, Nat.le_refl _, by have := stN_le g (k + 1); rw [stN_succ] at this; omega⟩, rfl, fun j v hj => ?_⟩
  · by_cases h0 : stN g (k + 1) = stN g k
    · intro hne
      exfalso
      apply hne
      apply List.eq_nil_of_length_eq_zero
      omega
    · rw [if_neg h0]
      exact hr.part _ fun j x hj => ha.2 k j x hj
  match j, hj with
  | 0, hj =>
    simp at hj
    subst hj
    rw [hb.cell]
    unfold fromC
    simp [hk]
end Go.Proofs.YtfjkmgjjifhdkaaGreat
