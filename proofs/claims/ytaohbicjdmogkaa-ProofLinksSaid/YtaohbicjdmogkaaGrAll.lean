/-
  The plain law of layer 16: what Check finds is what a comparison with all candidates finds.
-/
import Derived.Test.YtaohbicjdmogkaaGrCheck
namespace Go.Proofs.Ytaohbicjdmogkaa
open List

def canLt (a b : Can) : Bool := decide (a.cost < b.cost) || (decide (a.cost = b.cost) && lexLt a.links b.links)
theorem canLt_iff {a b : Can} : canLt a b = true ↔ a.cost < b.cost ∨ (a.cost = b.cost ∧ lexLt a.links b.links = true) := by
  unfold canLt; simp
theorem canLt_irrefl (a : Can) : canLt a a = false := by unfold canLt; simp [lex_irrefl]
theorem canLt_trans {a b c : Can} (h1 : canLt a b = true) (h2 : canLt b c = true) : canLt a c = true := by
  rw [canLt_iff] at *
  rcases h1 with h1 | ⟨h1, h3⟩ <;> rcases h2 with h2 | ⟨h2, h4⟩
  · left; omega
  · left; omega
  · left; omega
  · right; exact ⟨by omega, lex_trans h3 h4⟩
theorem canLt_asymm {a b : Can} (h : canLt a b = true) : canLt b a = false := by
  cases hb : canLt b a with
  | false => rfl
  | true => have := canLt_trans h hb; rw [canLt_irrefl] at this; cases this
theorem canLt_total (a b : Can) : canLt a b = true ∨ a = b ∨ canLt b a = true := by
  rcases Int.lt_or_le a.cost b.cost with h | h
  · left; rw [canLt_iff]; exact .inl h
  · rcases Int.lt_or_le b.cost a.cost with h2 | h2
    · right; right; rw [canLt_iff]; exact .inl h2
    · have h3 : a.cost = b.cost := by omega
      rcases lex_total a.links b.links with h4 | h4 | h4
      · left; rw [canLt_iff]; exact .inr ⟨h3, h4⟩
      · right; left; cases a; cases b; simp at h3 h4 ⊢; exact ⟨h4, h3⟩
      · right; right; rw [canLt_iff]; exact .inr ⟨h3.symm, h4⟩
def canB (g : Gr) (c : Can) : Bool := wayB g 0 c.links && decide (c.cost = sumC g c.links)
def IsCan (g : Gr) (c : Can) : Prop := wayB g 0 c.links = true ∧ c.cost = sumC g c.links
theorem canB_iff {g : Gr} {c : Can} : canB g c = true ↔ IsCan g c := by unfold canB IsCan; simp
def Sorted (A : List Can) : Prop := A.Pairwise (fun a b => canLt a b = true)
/-- All candidates, in their order. -/
def IsAll (g : Gr) (A : List Can) : Prop := Sorted A ∧ ∀ c, c ∈ A ↔ IsCan g c
theorem Sorted.nodup {A : List Can} (h : Sorted A) : A.Nodup := h.imp fun {a b} hab e => by subst e; rw [canLt_irrefl] at hab; cases hab
theorem sorted_same {A B : List Can} (hA : Sorted A) (hB : Sorted B) (h : ∀ c, c ∈ A ↔ c ∈ B) : A = B :=
  ((perm_ext_iff_of_nodup hA.nodup hB.nodup).2 h).eq_of_pairwise (fun a b _ _ h1 h2 => by have := canLt_asymm h1; rw [h2] at this; cases this) hA hB
theorem isAll_unique {g : Gr} {A B : List Can} (hA : IsAll g A) (hB : IsAll g B) : A = B := sorted_same hA.1 hB.1 fun c => by rw [hA.2, hB.2]

/-- How many elements at the beginning are ways with their costs, each before the next one. -/
def ordN (g : Gr) : Option Can → List Can → Nat
  | _, [] => 0
  | prev, c :: r => if canB g c && (match prev with | none => true | some p => canLt p c) then ordN g (some c) r + 1 else 0
theorem ordN_le (g : Gr) : ∀ (l : List Can) (prev : Option Can), ordN g prev l ≤ l.length := by
  intro l
  induction l with
  | nil => intro _; simp [ordN]
  | cons c l ih =>
    intro prev
    unfold ordN
    by_cases h : (canB g c && (match prev with | none => true | some p => canLt p c)) = true
    · rw [if_pos h]; have := ih (some c); rw [length_cons]; omega
    · rw [if_neg h]; exact Nat.zero_le _
theorem ordN_spec (g : Gr) : ∀ (l : List Can) (prev : Option Can), Sorted (l.take (ordN g prev l)) ∧ (∀ c ∈ l.take (ordN g prev l), IsCan g c ∧ ∀ p, prev = some p → canLt p c = true) ∧
    ∀ c, l[ordN g prev l]? = some c → ¬ (IsCan g c ∧ (∀ p, prev = some p → canLt p c = true) ∧ ∀ q ∈ l.take (ordN g prev l), canLt q c = true) := by
  intro l
  induction l with
  | nil => intro _; exact ⟨Pairwise.nil, by simp, by simp⟩
  | cons c l ih =>
    intro prev
    unfold ordN
    by_cases h : (canB g c && (match prev with | none => true | some p => canLt p c)) = true
    · rw [if_pos h]
      obtain ⟨h1, h2, h3⟩ := ih (some c)
      rw [Bool.and_eq_true] at h
      have hc := canB_iff.1 h.1
      have hp : ∀ p, prev = some p → canLt p c = true := fun p hp => by rw [hp] at h; exact h.2
      rw [take_succ_cons]
      refine ⟨pairwise_cons.2 ⟨fun b hb => (h2 b hb).2 c rfl, h1⟩, fun d hd => ?_, fun d hd => ?_⟩
      · rcases mem_cons.1 hd with rfl | hd
        · exact ⟨hc, hp⟩
        · exact ⟨(h2 d hd).1, fun p hp' => canLt_trans (hp p hp') ((h2 d hd).2 c rfl)⟩
      · rw [getElem?_cons_succ] at hd
        rintro ⟨h4, h5, h6⟩
        exact h3 d hd ⟨h4, fun p hp' => by rw [← Option.some.inj hp']; exact h6 c (by simp), fun q hq => h6 q (by simp [hq])⟩
    · rw [if_neg h]
      refine ⟨Pairwise.nil, by simp, fun d hd => ?_⟩
      simp at hd
      subst hd
      rintro ⟨h4, h5, _⟩
      apply h
      rw [Bool.and_eq_true]
      refine ⟨canB_iff.2 h4, ?_⟩
      cases prev with
      | none => rfl
      | some p => exact h5 p rfl

def sortW (l : List (List Int)) : List (List Int) := l.mergeSort fun x y => !lexLt y x
def leastM (g : Gr) (l : List Can) : Oth :=
  if l = [] then ⟨decide (0 ≤ hAt g 0), max (hAt g 0) 0, []⟩ else visitM g g.n.toNat ⟨false, 0, []⟩ (sortW (l.map (·.links))) 0 0 0
def befB (o : Oth) (c : Can) : Bool := if o.cost ≠ c.cost then decide (o.cost < c.cost) else lexLt o.links c.links
theorem sortW_perm (l : List (List Int)) : sortW l ~ l := mergeSort_perm _ _
theorem sortW_sorted (l : List (List Int)) : (sortW l).Pairwise (fun a b => lexLt b a = false) := by
  have h := pairwise_mergeSort (le := fun x y => !lexLt y x) (fun a b c h1 h2 => by
    simp only [Bool.not_eq_true'] at *
    cases h : lexLt c a with
    | false => rfl
    | true =>
      rcases lex_total b c with h3 | h3 | h3
      · rw [lex_trans h3 h] at h1; cases h1
      · subst h3; rw [h] at h1; cases h1
      · rw [h3] at h2; cases h2) (fun a b => by
    cases h : lexLt b a with
    | false => simp
    | true => have := lex_asymm h; simp [this]) l
  exact h.imp fun {a b} hab => by simpa using hab
/-- No way is a proper beginning of another one. -/
theorem way_pre {g : Gr} (hg : GrOK g) : ∀ (a r : List Int) (v : Int), wayB g v a = true → wayB g v (a ++ r) = true → r = [] := by
  intro a
  induction a with
  | nil =>
    intro r v h1 h2
    cases r with
    | nil => rfl
    | cons i r =>
      unfold wayB at h1
      simp at h1
      have hi' := lvs_iff.1 (way_cons.1 h2).1
      have hok := lkAt_ok hg ⟨hi'.1, hi'.2.1⟩
      have hto := hok.to
      have hlt := hok.lt
      omega
  | cons i a ih =>
    intro r v h1 h2
    exact ih r _ (way_cons.1 h1).2 (way_cons.1 h2).2
/-- Lists of which neither begins with the other are told apart by what is put behind neither. -/
theorem lex_app : ∀ (a b r : List Int), (¬ ∃ t, b = a ++ t) → (¬ ∃ t, a = b ++ t) → lexLt (a ++ r) b = lexLt a b
  | [], b, _, h, _ => absurd ⟨b, rfl⟩ h
  | x :: a, [], _, _, h => absurd ⟨x :: a, rfl⟩ h
  | x :: a, y :: b, r, h1, h2 => by
    rw [cons_append]
    unfold lexLt
    by_cases h3 : x < y
    · rw [if_pos h3, if_pos h3]
    · by_cases h4 : y < x
      · rw [if_neg h3, if_pos h4, if_neg h3, if_pos h4]
      · have : x = y := by omega
        subst this
        rw [if_neg h3, if_neg h3, if_neg h3, if_neg h3]
        exact lex_app a b r (fun ⟨t, ht⟩ => h1 ⟨t, by rw [ht]; rfl⟩) (fun ⟨t, ht⟩ => h2 ⟨t, by rw [ht]; rfl⟩)
theorem least_spec {g : Gr} (hg : GrOK g) {l : List Can} (hl : ∀ c ∈ l, IsCan g c) :
    ((leastM g l).there = false ∧ ∀ c, IsCan g c → c ∈ l) ∨
    ((leastM g l).there = true ∧ ∃ m, IsCan g m ∧ m ∉ l ∧ (∀ c, IsCan g c → c ∉ l → c = m ∨ canLt m c = true) ∧ ∀ c ∈ l, befB (leastM g l) c = canLt m c) := by
  have hn := hg.n
  by_cases h0 : l = []
  · subst h0
    unfold leastM
    rw [if_pos rfl]
    by_cases hh : 0 ≤ hAt g 0
    · right
      obtain ⟨h1, h2⟩ := best_way hg g.n.toNat 0 (by omega) (by omega) (by omega) hh
      refine ⟨by simpa using hh, ⟨bestW g g.n.toNat 0, hAt g 0⟩, ⟨h1, h2.symm⟩, by simp, fun c hc _ => ?_, by simp⟩
      obtain ⟨h3, h4⟩ := hc
      have h5 := (way_h hg _ 0 (by omega) (by omega) h3).2
      rcases Int.lt_or_le (hAt g 0) (sumC g c.links) with h6 | h6
      · right; rw [canLt_iff]; left; show hAt g 0 < c.cost; omega
      · rcases best_first hg g.n.toNat 0 (by omega) (by omega) (by omega) _ h3 (by omega) with h7 | h7
        · left; cases c; simp at h4 h7 h6 h5 ⊢; exact ⟨h7.symm, by omega⟩
        · right; rw [canLt_iff]; right; exact ⟨by show hAt g 0 = c.cost; omega, h7⟩
    · left
      refine ⟨by simpa using hh, fun c hc => ?_⟩
      have := (way_h hg _ 0 (by omega) (by omega) hc.1).1
      exact absurd this hh
  · unfold leastM
    rw [if_neg h0]
    have hW : sortW (l.map (·.links)) ≠ [] := fun h => h0 (by
      have := (sortW_perm (l.map (·.links))).length_eq
      rw [h] at this
      simpa using this.symm)
    have hmem : ∀ w, w ∈ sortW (l.map (·.links)) ↔ w ∈ l.map (·.links) := fun w => (sortW_perm _).mem_iff
    have hrep := visit_rep hg (l.map (·.links)) g.n.toNat ⟨false, 0, []⟩ (sortW (l.map (·.links))) [] 0 0 (fun _ => False) (by omega) (by omega) (by omega) (fun w => by show sumC g w = 0 + sumC g w; omega) hW (sortW_sorted _)
      (fun w hw => by
        have h1 := (hmem w).1 hw
        obtain ⟨c, hc, rfl⟩ := mem_map.1 h1
        exact ⟨h1, c.links, rfl, (hl c hc).1⟩)
      (fun w hw _ => (hmem w).2 hw) (.inl ⟨rfl, fun s h => h⟩) (fun s h => h.elim)
    rw [length_nil] at hrep
    generalize visitM g g.n.toNat ⟨false, 0, []⟩ (sortW (l.map (·.links))) 0 0 0 = o at *
    have hout : ∀ c, IsCan g c → (c.links ∈ l.map (·.links) ↔ c ∈ l) := fun c hc => by
      constructor
      · intro h
        obtain ⟨d, hd, he⟩ := mem_map.1 h
        have := hl d hd
        have : d = c := by
          cases c; cases d
          simp at he
          subst he
          have h1 := hc.2
          have h2 := this.2
          simp at h1 h2 ⊢
          omega
        rw [← this]; exact hd
      · intro h; exact mem_map_of_mem h
    rcases hrep with ⟨h1, h2⟩ | ⟨h1, m, h2, h3, ⟨r, hr⟩, h5, h6⟩
    · left
      refine ⟨h1, fun c hc => ?_⟩
      rcases Classical.em (c ∈ l) with h | h
      · exact h
      · exact absurd (.inr ⟨c.links, hc.1, rfl, fun h' => h ((hout c hc).1 h')⟩) (h2 c.links)
    · right
      rcases h2 with h2 | ⟨w, hw, he, hn'⟩
      · exact h2.elim
      · rw [nil_append] at he
        subst he
        have hm : IsCan g ⟨m, o.cost⟩ := ⟨hw, h3⟩
        refine ⟨h1, ⟨m, o.cost⟩, hm, fun h => hn' ((hout _ hm).2 h), fun c hc hcl => ?_, fun c hc => ?_⟩
        · have h7 := h6 c.links (.inr ⟨c.links, hc.1, rfl, fun h => hcl ((hout c hc).1 h)⟩)
          have h8 := hc.2
          rcases h7 with h7 | ⟨h7, h9 | h9⟩
          · right; rw [canLt_iff]; left; show o.cost < c.cost; omega
          · left; cases c; simp at h8 h9 ⊢; exact ⟨h9.symm, by rw [h8, ← h9]; omega⟩
          · right; rw [canLt_iff]; right; exact ⟨by show o.cost = c.cost; omega, h9⟩
        · have hcw := (hl c hc).1
          have hx := lex_app o.links c.links r (h5 _ (mem_map_of_mem hc)) (fun ⟨t, ht⟩ => by
            rw [ht, append_assoc] at hr
            rw [hr] at hw
            have := way_pre hg _ _ _ hcw hw
            rw [this, append_nil] at hr
            exact hn' (by rw [hr]; exact mem_map_of_mem hc))
          rw [← hr] at hx
          unfold befB canLt
          rw [← hx]
          by_cases he : o.cost = c.cost
          · rw [if_neg (by simpa using he)]; simp [he]
          · rw [if_pos he]; simp [he]

/-- Where a list first differs from the beginning of another one. -/
def diffAt : List Can → List Can → Nat → Option Nat
  | [], _, _ => none
  | _ :: _, [], k => some k
  | c :: l, a :: A, k => if c = a then diffAt l A (k + 1) else some k
def refCheckM (A l : List Can) (whole : Bool) : Int × Int :=
  match diffAt l A 0 with
  | some i => ((i : Int), 160)
  | none => if whole ≠ decide (l.length = A.length) then ((l.length : Int), 160) else ((l.length : Int), 0)
def checkM (g : Gr) (l : List Can) (whole : Bool) : Int × Int :=
  let n := ordN g none l
  let o := leastM g (l.take n)
  match (if o.there = true then (l.take n).findIdx? (befB o) else none) with
  | some i => ((i : Int), 160)
  | none => if n < l.length ∨ whole = o.there then ((n : Int), 160) else ((n : Int), 0)
theorem diffAt_pre : ∀ (p l A : List Can) (k : Nat), diffAt (p ++ l) (p ++ A) k = diffAt l A (k + p.length)
  | [], l, A, k => rfl
  | c :: p, l, A, k => by
    show (if c = c then diffAt (p ++ l) (p ++ A) (k + 1) else some k) = _
    rw [if_pos rfl, diffAt_pre p l A (k + 1), length_cons, show k + 1 + p.length = k + (p.length + 1) by omega]
/-- A sorted list parts at an element. -/
theorem sorted_split {A : List Can} (h : Sorted A) {m : Can} (hm : m ∈ A) : A = A.filter (fun c => canLt c m) ++ m :: A.filter (fun c => canLt m c) := by
  refine sorted_same h ?_ fun c => ?_
  · unfold Sorted
    rw [pairwise_append]
    refine ⟨Pairwise.sublist filter_sublist h, pairwise_cons.2 ⟨fun c hc => (mem_filter.1 hc).2, Pairwise.sublist filter_sublist h⟩, fun a ha b hb => ?_⟩
    have h1 := (mem_filter.1 ha).2
    rcases mem_cons.1 hb with rfl | hb
    · exact h1
    · exact canLt_trans h1 (mem_filter.1 hb).2
  · rw [mem_append, mem_cons, mem_filter, mem_filter]
    constructor
    · intro hc
      rcases canLt_total c m with h1 | h1 | h1
      · exact .inl ⟨hc, h1⟩
      · exact .inr (.inl h1)
      · exact .inr (.inr ⟨hc, h1⟩)
    · rintro (h1 | h1 | h1)
      · exact h1.1
      · rw [h1]; exact hm
      · exact h1.1
theorem find_split {l : List Can} (hs : Sorted l) {m : Can} (hm : m ∉ l) {f : Can → Bool} (hf : ∀ c ∈ l, f c = canLt m c) :
    l = l.filter (fun c => canLt c m) ++ l.filter (fun c => canLt m c) ∧
    (l.findIdx? f = if l.filter (fun c => canLt m c) = [] then none else some (l.filter (fun c => canLt c m)).length) := by
  induction l with
  | nil => exact ⟨rfl, rfl⟩
  | cons c l ih =>
    obtain ⟨h1, h2⟩ := pairwise_cons.1 hs
    obtain ⟨h3, h4⟩ := ih h2 (fun h => hm (by simp [h])) (fun d hd => hf d (by simp [hd]))
    rcases canLt_total c m with h5 | h5 | h5
    · have h6 := canLt_asymm h5
      rw [filter_cons_of_pos (p := fun c => canLt c m) h5, filter_cons_of_neg (p := fun c => canLt m c) (by rw [h6]; simp), findIdx?_cons, hf c (by simp), h6, h4]
      refine ⟨by rw [cons_append, ← h3], ?_⟩
      by_cases h7 : l.filter (fun c => canLt m c) = []
      · simp [h7]
      · simp [h7]
    · exact absurd (by simp [h5]) hm
    · have h6 := canLt_asymm h5
      have hall : ∀ d ∈ l, canLt m d = true := fun d hd => canLt_trans h5 (h1 d hd)
      have e1 : l.filter (fun c => canLt c m) = [] := filter_eq_nil_iff.2 fun d hd => by rw [canLt_asymm (hall d hd)]; simp
      have e2 : l.filter (fun c => canLt m c) = l := filter_eq_self.2 hall
      rw [filter_cons_of_neg (p := fun c => canLt c m) (by rw [h6]; simp), filter_cons_of_pos (p := fun c => canLt m c) h5, e1, e2, findIdx?_cons, hf c (by simp), h5]
      simp
theorem check_eq {g : Gr} (hg : GrOK g) {A : List Can} (hA : IsAll g A) (l : List Can) (whole : Bool) : checkM g l whole = refCheckM A l whole := by
  obtain ⟨hs, hc, hstop⟩ := ordN_spec g l none
  have hle := ordN_le g l none
  unfold checkM refCheckM
  dsimp only
  generalize ordN g none l = n at *
  have hlen : (l.take n).length = n := by rw [length_take]; omega
  have hl : l = l.take n ++ l.drop n := (take_append_drop n l).symm
  have hcan : ∀ c ∈ l.take n, IsCan g c := fun c h => (hc c h).1
  rcases least_spec hg hcan with ⟨h1, h2⟩ | ⟨h1, m, h2, h3, h4, h5⟩
  · -- there is no other
    have hAL : A = l.take n := sorted_same hA.1 hs fun c => by rw [hA.2]; exact ⟨h2 c, hcan c⟩
    rw [h1, if_neg (by simp)]
    rw [show diffAt l A 0 = diffAt (l.take n ++ l.drop n) (l.take n ++ []) 0 by rw [← hl, append_nil, ← hAL], diffAt_pre, hlen]
    have hAn : A.length = n := by rw [hAL, hlen]
    cases hd : l.drop n with
    | nil =>
      have hn : l.length ≤ n := by simpa using hd
      have hn' : l.length = n := by omega
      show (if n < l.length ∨ whole = false then _ else _) = (if whole ≠ decide (l.length = A.length) then _ else _)
      rw [hn', hAn]
      cases whole <;> simp
    | cons c r =>
      have hlt : n < l.length := by
        have := congrArg length hd
        rw [length_drop] at this
        simp at this
        omega
      show (if n < l.length ∨ whole = false then _ else _) = _
      rw [if_pos (.inl hlt)]
      show _ = (((0 + n : Nat) : Int), (160 : Int))
      rw [Nat.zero_add]
  · -- there is one
    have hmA : m ∈ A := (hA.2 m).2 h2
    have hsp := sorted_split hA.1 hmA
    obtain ⟨hf1, hf2⟩ := find_split hs h3 h5
    have hpre : A.filter (fun c => canLt c m) = (l.take n).filter (fun c => canLt c m) := sorted_same (Pairwise.sublist filter_sublist hA.1) (Pairwise.sublist filter_sublist hs) fun c => by
      rw [mem_filter, mem_filter, hA.2]
      constructor
      · rintro ⟨h6, h7⟩
        refine ⟨?_, h7⟩
        rcases Classical.em (c ∈ l.take n) with h | h
        · exact h
        · rcases h4 c h6 h with h8 | h8
          · rw [h8, canLt_irrefl] at h7; cases h7
          · have := canLt_asymm h8; rw [h7] at this; cases this
      · rintro ⟨h6, h7⟩; exact ⟨hcan c h6, h7⟩
    rw [hpre] at hsp
    rw [h1, if_pos rfl, hf2]
    by_cases hemp : (l.take n).filter (fun c => canLt m c) = []
    · rw [if_pos hemp]
      rw [hemp, append_nil] at hf1
      rw [← hf1] at hsp
      have hAl : n < A.length := by rw [hsp, length_append, hlen]; simp
      rw [show diffAt l A 0 = diffAt (l.take n ++ l.drop n) (l.take n ++ m :: A.filter (fun c => canLt m c)) 0 by rw [← hl, ← hsp], diffAt_pre, hlen]
      cases hd : l.drop n with
      | nil =>
        have hn : l.length ≤ n := by simpa using hd
        have hn' : l.length = n := by omega
        show (if n < l.length ∨ whole = true then _ else _) = (if whole ≠ decide (l.length = A.length) then _ else _)
        rw [hn', decide_eq_false (show ¬ n = A.length by omega)]
        cases whole <;> simp
      | cons c r =>
        have hlt : n < l.length := by
          have := congrArg length hd
          rw [length_drop] at this
          simp at this
          omega
        have hcn : l[n]? = some c := by
          have := getElem?_drop (xs := l) (i := n) (j := 0)
          rw [hd] at this
          simpa using this.symm
        have hne : c ≠ m := fun e => by
          subst e
          refine hstop c hcn ⟨h2, by simp, fun q hq => ?_⟩
          rw [hf1] at hq
          exact (mem_filter.1 hq).2
        show (if n < l.length ∨ whole = true then _ else _) = _
        rw [if_pos (.inl hlt)]
        unfold diffAt
        rw [if_neg hne, Nat.zero_add]
    · rw [if_neg hemp]
      obtain ⟨L1, hL1⟩ : ∃ L1, (l.take n).filter (fun c => canLt c m) = L1 := ⟨_, rfl⟩
      obtain ⟨L2, hL2⟩ : ∃ L2, (l.take n).filter (fun c => canLt m c) = L2 := ⟨_, rfl⟩
      rw [hL1] at hsp hf1 ⊢
      rw [hL2] at hf1 hemp
      cases L2 with
      | nil => exact absurd rfl hemp
      | cons d L2 =>
        have hdm : d ≠ m := fun e => by
          have : d ∈ (l.take n).filter (fun c => canLt m c) := by rw [hL2]; simp
          have := (mem_filter.1 this).2
          rw [e, canLt_irrefl] at this; cases this
        rw [show diffAt l A 0 = diffAt (L1 ++ (d :: L2 ++ l.drop n)) (L1 ++ m :: A.filter (fun c => canLt m c)) 0 by rw [← append_assoc, ← hf1, ← hl, ← hsp], diffAt_pre]
        show _ = (match diffAt (d :: (L2 ++ l.drop n)) _ (0 + L1.length) with | some i => _ | none => _)
        unfold diffAt
        rw [if_neg hdm, Nat.zero_add]
end Go.Proofs.Ytaohbicjdmogkaa
