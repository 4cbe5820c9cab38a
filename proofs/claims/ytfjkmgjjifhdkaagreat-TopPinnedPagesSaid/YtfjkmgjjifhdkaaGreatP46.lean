/-
  TpPin, TpWalkE, TpWalkF, joined. No conditions.
-/
import Derived.Test.YtfjkmgjjifhdkaaGreatP45
import Derived.Test.YtfjkmgjjifhdkaaGreatP25
import Derived.Test.YtfjkmgjjifhdkaaGreatP26
import Derived.Test.YtfjkmgjjifhdkaaGreatP01
import Derived.Test.YtfjkmgjjifhdkaaGreatP39
import Derived.Test.YtfjkmgjjifhdkaaGreatP11
/-
  The plain law of pins: the candidates of a lattice that keeps those edges alone that are against no pin are, in order, those candidates of the whole lattice that have the pins' segments. No program in sight; no conditions.
-/
namespace Go.Proofs.YtfjkmgjjifhdkaaGreat
open List

structure Pn where
  fr : Int
  en : Int
  wd : Int
deriving DecidableEq
def PnOK (n : Int) (p : Pn) : Prop := (0 ≤ p.fr ∧ p.fr < p.en ∧ p.en ≤ n) ∧ -1 ≤ p.wd ∧ p.wd < 200
/-- Whether an edge is against a pin. -/
def agB (e : Ed) (p : Pn) : Bool := if (e.fr == p.fr && e.to == p.en) = true then !(p.wd == -1) && !(p.wd == e.wd) else decide (e.fr < p.en) && decide (p.fr < e.to)
def freeB (ps : List Pn) (e : Ed) : Bool := !ps.any (agB e)
def pinL (x : La) (ps : List Pn) : La := ⟨x.n, x.es.filter (freeB ps)⟩
/-- Whether an edge is a pin's segment. -/
def hasE (e : Ed) (p : Pn) : Bool := e.fr == p.fr && e.to == p.en && (p.wd == -1 || p.wd == e.wd)
def lkE (e : Ed) : Lk := ⟨e.fr, e.to, e.wd, e.co⟩
/-- The graph of a lattice alone. -/
def grX (x : La) : Gr := ⟨x.n + 1, x.es.map lkE⟩
def edAt (x : La) (i : Int) : Ed := x.es.getD i.toNat ⟨0, 0, 0, 0⟩
def edsL (x : La) (l : List Int) : List Ed := l.map (edAt x)
def keepC (x : La) (ps : List Pn) (c : Can) : Bool := ps.all fun p => c.links.any fun i => hasE (edAt x i) p
theorem grX_ok {x : La} (hx : LaOK x) : GrOK (grX x) := by
  obtain ⟨h1, h2, h3, _⟩ := hx
  refine ⟨by show 1 ≤ x.n + 1 ∧ x.n + 1 ≤ 2000; omega, by show (x.es.map lkE).length ≤ 20000; rw [length_map]; exact h2, fun l hl => ?_⟩
  obtain ⟨e, he, rfl⟩ := mem_map.1 hl
  obtain ⟨⟨a, b, c⟩, ⟨d, f⟩, g⟩ := h3 e he
  exact ⟨a, b, by show e.to < x.n + 1; omega, by show 0 ≤ e.wd ∧ e.wd ≤ 1000000; omega, g⟩

theorem all_cons {α : Type} {P : α → Prop} {a : α} {l : List α} (h : P a) (hl : ∀ b ∈ l, P b) : ∀ b ∈ a :: l, P b := fun b hb => by
  rcases mem_cons.1 hb with rfl | hb
  · exact h
  · exact hl b hb
def pathE (n : Int) : Int → List Ed → Prop
  | v, [] => v = n
  | v, e :: r => e.fr = v ∧ pathE n e.to r
def sumE : List Ed → Int
  | [] => 0
  | e :: r => e.co + sumE r
theorem edAt_mem {x : La} {i : Int} (h : 0 ≤ i ∧ i < (x.es.length : Int)) : x.es[i.toNat]? = some (edAt x i) := by
  unfold edAt
  rw [getD_eq_getElem?_getD, getElem?_eq_getElem (by omega)]
  rfl
theorem lkX {x : La} {i : Int} (h : 0 ≤ i ∧ i < (x.es.length : Int)) : lkAt (grX x) i = lkE (edAt x i) := by
  unfold lkAt
  show (x.es.map lkE).getD i.toNat default = _
  rw [getD_eq_getElem?_getD, getElem?_map, edAt_mem h]
  rfl
theorem way_path {x : La} : ∀ (w : List Int) (v : Int), wayB (grX x) v w = true ↔ (∀ i ∈ w, 0 ≤ i ∧ i < (x.es.length : Int)) ∧ pathE x.n v (edsL x w)
  | [], v => by
    show decide (v = x.n + 1 - 1) = true ↔ _ ∧ v = x.n
    rw [decide_eq_true_iff]
    constructor
    · intro h; exact ⟨fun i hi => (not_mem_nil hi).elim, by omega⟩
    · rintro ⟨_, h⟩; omega
  | i :: w, v => by
    show (decide (0 ≤ i ∧ i < ((x.es.map lkE).length : Int) ∧ (lkAt (grX x) i).fr = v) && wayB (grX x) (lkAt (grX x) i).to w) = true ↔ _ ∧ ((edAt x i).fr = v ∧ pathE x.n (edAt x i).to (edsL x w))
    rw [Bool.and_eq_true, decide_eq_true_iff, length_map, way_path w]
    constructor
    · rintro ⟨⟨h1, h2, h3⟩, h4, h5⟩
      rw [lkX ⟨h1, h2⟩] at h3 h5
      exact ⟨all_cons ⟨h1, h2⟩ h4, h3, h5⟩
    · rintro ⟨h1, h2, h3⟩
      have hi := h1 i (by simp)
      rw [lkX hi]
      exact ⟨⟨hi.1, hi.2, h2⟩, fun j hj => h1 j (by simp [hj]), h3⟩
theorem sum_edges {x : La} : ∀ (w : List Int), (∀ i ∈ w, 0 ≤ i ∧ i < (x.es.length : Int)) → sumC (grX x) w = sumE (edsL x w)
  | [], _ => rfl
  | i :: w, h => by
    show (lkAt (grX x) i).cost + sumC (grX x) w = (edAt x i).co + sumE (edsL x w)
    rw [lkX (h i (by simp)), sum_edges w fun j hj => h j (by simp [hj])]
    rfl
theorem eds_ex {x : La} : ∀ (E : List Ed), (∀ e ∈ E, e ∈ x.es) → ∃ w : List Int, (∀ i ∈ w, 0 ≤ i ∧ i < (x.es.length : Int)) ∧ edsL x w = E
  | [], _ => ⟨[], fun i hi => (not_mem_nil hi).elim, rfl⟩
  | e :: E, h => by
    obtain ⟨w, h1, h2⟩ := eds_ex E fun f hf => h f (by simp [hf])
    obtain ⟨k, hk, hke⟩ := getElem_of_mem (h e (by simp))
    refine ⟨(k : Int) :: w, fun i hi => ?_, ?_⟩
    · rcases mem_cons.1 hi with rfl | hi
      · omega
      · exact h1 i hi
    · show edAt x (k : Int) :: edsL x w = _
      rw [h2]
      have := edAt_mem (x := x) (i := (k : Int)) (by omega)
      rw [Int.toNat_natCast, getElem?_eq_getElem hk, hke] at this
      rw [← Option.some.inj this]
def canE (x : La) (c : Can) : Int × List Ed := (c.cost, edsL x c.links)
theorem all_mem {x : La} {A : List Can} (hA : IsAll (grX x) A) (q : Int × List Ed) : q ∈ A.map (canE x) ↔ q.1 = sumE q.2 ∧ pathE x.n 0 q.2 ∧ ∀ e ∈ q.2, e ∈ x.es := by
  rw [mem_map]
  constructor
  · rintro ⟨c, hc, rfl⟩
    obtain ⟨h1, h2⟩ := (hA.2 c).1 hc
    obtain ⟨h3, h4⟩ := (way_path _ _).1 h1
    refine ⟨by show c.cost = _; rw [h2, sum_edges _ h3]; rfl, h4, fun e he => ?_⟩
    obtain ⟨i, hi, rfl⟩ := mem_map.1 he
    exact mem_of_getElem? (edAt_mem (h3 i hi))
  · rintro ⟨h1, h2, h3⟩
    obtain ⟨w, hw, he⟩ := eds_ex q.2 h3
    refine ⟨⟨w, q.1⟩, (hA.2 _).2 ⟨(way_path _ _).2 ⟨hw, by rw [he]; exact h2⟩, by show q.1 = _; rw [h1, sum_edges w hw, he]⟩, ?_⟩
    unfold canE
    rw [he]

theorem tp_lessE_iff {a b : Ed} : lessE a b = true ↔ a.fr < b.fr ∨ a.fr = b.fr ∧ (a.to < b.to ∨ a.to = b.to ∧ a.wd < b.wd) := by unfold lessE; simp
theorem tp_lessE_trans {a b c : Ed} (h1 : lessE a b = true) (h2 : lessE b c = true) : lessE a c = true := by rw [tp_lessE_iff] at *; omega
theorem lessE_asym {a b : Ed} (h1 : lessE a b = true) (h2 : lessE b a = true) : False := by rw [tp_lessE_iff] at *; omega
theorem incE_pair : ∀ {l : List Ed}, incE l = true → l.Pairwise (fun a b => lessE a b = true)
  | [], _ => Pairwise.nil
  | [a], _ => pairwise_singleton _ _
  | a :: b :: l, h => by
    have h' : (lessE a b && incE (b :: l)) = true := h
    rw [Bool.and_eq_true] at h'
    have ih := incE_pair h'.2
    refine pairwise_cons.2 ⟨fun c hc => ?_, ih⟩
    rcases mem_cons.1 hc with rfl | hc
    · exact h'.1
    · exact tp_lessE_trans h'.1 ((pairwise_cons.1 ih).1 c hc)
theorem pair_incE : ∀ {l : List Ed}, l.Pairwise (fun a b => lessE a b = true) → incE l = true
  | [], _ => rfl
  | [a], _ => rfl
  | a :: b :: l, h => by
    show (lessE a b && incE (b :: l)) = true
    rw [Bool.and_eq_true]
    exact ⟨(pairwise_cons.1 h).1 b (by simp), pair_incE (pairwise_cons.1 h).2⟩
theorem pinL_ok {x : La} (hx : LaOK x) (ps : List Pn) : LaOK (pinL x ps) := by
  obtain ⟨h1, h2, h3, h4⟩ := hx
  exact ⟨h1, Nat.le_trans (length_filter_le _ _) h2, fun e he => h3 e (mem_filter.1 he).1, pair_incE ((incE_pair h4).filter _)⟩
def lexE : List Ed → List Ed → Prop
  | [], [] => False
  | [], _ :: _ => True
  | _ :: _, [] => False
  | a :: x, b :: y => lessE a b = true ∨ a = b ∧ lexE x y
theorem lexE_asym : ∀ {x y : List Ed}, lexE x y → lexE y x → False
  | [], [], h, _ => h
  | [], _ :: _, _, h => h
  | _ :: _, [], h, _ => h
  | a :: x, b :: y, h1, h2 => by
    rcases h1 with h1 | ⟨rfl, h1⟩
    · rcases h2 with h2 | ⟨rfl, _⟩
      · exact lessE_asym h1 h2
      · exact lessE_asym h1 h1
    · rcases h2 with h2 | ⟨_, h2⟩
      · exact lessE_asym h2 h2
      · exact lexE_asym h1 h2
def ltE (p q : Int × List Ed) : Prop := p.1 < q.1 ∨ p.1 = q.1 ∧ lexE p.2 q.2
theorem ltE_asym {p q : Int × List Ed} (h1 : ltE p q) (h2 : ltE q p) : False := by
  rcases h1 with h1 | ⟨h1, h3⟩
  · rcases h2 with h2 | ⟨h2, _⟩ <;> omega
  · rcases h2 with h2 | ⟨_, h4⟩
    · omega
    · exact lexE_asym h3 h4
theorem ed_less {x : La} (hx : LaOK x) {i j : Int} (hi : 0 ≤ i ∧ i < (x.es.length : Int)) (hj : 0 ≤ j ∧ j < (x.es.length : Int)) (h : i < j) : lessE (edAt x i) (edAt x j) = true := by
  have h1 := edAt_mem hi
  have h2 := edAt_mem hj
  obtain ⟨l1, e1⟩ := List.getElem?_eq_some_iff.1 h1
  obtain ⟨l2, e2⟩ := List.getElem?_eq_some_iff.1 h2
  rw [← e1, ← e2]
  exact pairwise_iff_getElem.1 (incE_pair hx.2.2.2) _ _ l1 l2 (by omega)
theorem lex_edges {x : La} (hx : LaOK x) : ∀ {a b : List Int}, (∀ i ∈ a, 0 ≤ i ∧ i < (x.es.length : Int)) → (∀ i ∈ b, 0 ≤ i ∧ i < (x.es.length : Int)) → lexLt a b = true → lexE (edsL x a) (edsL x b)
  | [], [], _, _, h => by simp [lexLt] at h
  | [], _ :: _, _, _, _ => trivial
  | _ :: _, [], _, _, h => by simp [lexLt] at h
  | i :: a, j :: b, ha, hb, h => by
    show lessE (edAt x i) (edAt x j) = true ∨ edAt x i = edAt x j ∧ lexE (edsL x a) (edsL x b)
    unfold lexLt at h
    split at h
    · rename_i h1
      exact .inl (ed_less hx (ha i (by simp)) (hb j (by simp)) h1)
    · split at h
      · cases h
      · rename_i h1 h2
        obtain rfl : i = j := by omega
        exact .inr ⟨rfl, lex_edges hx (fun k hk => ha k (by simp [hk])) (fun k hk => hb k (by simp [hk])) h⟩
theorem all_sorted {x : La} (hx : LaOK x) {A : List Can} (hA : IsAll (grX x) A) : (A.map (canE x)).Pairwise ltE := by
  rw [pairwise_map]
  refine hA.1.imp_of_mem fun {a b} ha hb h => ?_
  have h1 := ((way_path _ _).1 ((hA.2 a).1 ha).1).1
  have h2 := ((way_path _ _).1 ((hA.2 b).1 hb).1).1
  rw [canLt_iff] at h
  rcases h with h | ⟨h, h3⟩
  · exact .inl h
  · exact .inr ⟨h, lex_edges hx h1 h2 h3⟩
theorem ltE_nodup {A : List (Int × List Ed)} (h : A.Pairwise ltE) : A.Nodup := h.imp fun {_ _} hab e => by subst e; exact ltE_asym hab hab
theorem ltE_same {A B : List (Int × List Ed)} (hA : A.Pairwise ltE) (hB : B.Pairwise ltE) (h : ∀ c, c ∈ A ↔ c ∈ B) : A = B :=
  ((perm_ext_iff_of_nodup (ltE_nodup hA) (ltE_nodup hB)).2 h).eq_of_pairwise (fun _ _ _ _ h1 h2 => (ltE_asym h1 h2).elim) hA hB

theorem path_cover {n : Int} : ∀ (E : List Ed) (v : Int), pathE n v E → (∀ e ∈ E, e.fr < e.to) → ∀ t, v ≤ t → t < n → ∃ e ∈ E, e.fr ≤ t ∧ t < e.to
  | [], v, h, _, t, h1, h2 => by have h : v = n := h; omega
  | e :: E, v, h, ho, t, h1, h2 => by
    obtain ⟨h3, h4⟩ := h
    by_cases ht : t < e.to
    · exact ⟨e, by simp, by omega, ht⟩
    · obtain ⟨f, hf, h5⟩ := path_cover E e.to h4 (fun f hf => ho f (by simp [hf])) t (by omega) h2
      exact ⟨f, by simp [hf], h5⟩
theorem path_ge {n : Int} : ∀ (E : List Ed) (v : Int), pathE n v E → (∀ e ∈ E, e.fr < e.to) → ∀ e ∈ E, v ≤ e.fr
  | [], _, _, _, e, he => (not_mem_nil he).elim
  | e :: E, v, h, ho, f, hf => by
    obtain ⟨h3, h4⟩ := h
    rcases mem_cons.1 hf with rfl | hf
    · omega
    · have h5 := path_ge E e.to h4 (fun f hf => ho f (by simp [hf])) f hf
      have := ho e (by simp)
      omega
theorem path_disj {n : Int} : ∀ (E : List Ed) (v : Int), pathE n v E → (∀ e ∈ E, e.fr < e.to) → ∀ e ∈ E, ∀ f ∈ E, e = f ∨ e.to ≤ f.fr ∨ f.to ≤ e.fr
  | [], _, _, _, e, he, _, _ => (not_mem_nil he).elim
  | a :: E, v, h, ho, e, he, f, hf => by
    obtain ⟨h3, h4⟩ := h
    have ho' : ∀ e ∈ E, e.fr < e.to := fun g hg => ho g (by simp [hg])
    rcases mem_cons.1 he with h5 | h5
    · rcases mem_cons.1 hf with h6 | h6
      · exact .inl (h5.trans h6.symm)
      · exact .inr (.inl (h5 ▸ path_ge E _ h4 ho' f h6))
    · rcases mem_cons.1 hf with h6 | h6
      · exact .inr (.inr (h6 ▸ path_ge E _ h4 ho' e h5))
      · exact path_disj E _ h4 ho' e h5 f h6
theorem agB_iff {e : Ed} {p : Pn} : agB e p = true ↔ if e.fr = p.fr ∧ e.to = p.en then ¬ p.wd = -1 ∧ ¬ p.wd = e.wd else e.fr < p.en ∧ p.fr < e.to := by
  unfold agB
  by_cases h : e.fr = p.fr ∧ e.to = p.en
  · rw [if_pos h, if_pos (by simp [h.1, h.2])]; simp
  · rw [if_neg h, if_neg (by simpa using h)]; simp
theorem hasE_iff {e : Ed} {p : Pn} : hasE e p = true ↔ (e.fr = p.fr ∧ e.to = p.en) ∧ (p.wd = -1 ∨ p.wd = e.wd) := by unfold hasE; simp
theorem path_pins {n : Int} {E : List Ed} (h : pathE n 0 E) (ho : ∀ e ∈ E, e.fr < e.to) {ps : List Pn} (hps : ∀ p ∈ ps, PnOK n p) : (∀ e ∈ E, freeB ps e = true) ↔ (ps.all fun p => E.any fun e => hasE e p) = true := by
  rw [all_eq_true]
  constructor
  · intro hf p hp
    obtain ⟨⟨h1, h2, h3⟩, _⟩ := hps p hp
    obtain ⟨e, he, h4, h5⟩ := path_cover E 0 h ho p.fr h1 (by omega)
    have hfe := hf e he
    unfold freeB at hfe
    rw [Bool.not_eq_true', any_eq_false] at hfe
    have hag := hfe p hp
    rw [agB_iff] at hag
    rw [any_eq_true]
    refine ⟨e, he, hasE_iff.2 ?_⟩
    split at hag
    · rename_i h6
      exact ⟨h6, by omega⟩
    · exfalso
      omega
  · intro hk e he
    unfold freeB
    rw [Bool.not_eq_true', any_eq_false]
    intro p hp hag
    obtain ⟨⟨h1, h2, h3⟩, _⟩ := hps p hp
    obtain ⟨f, hf, hfp⟩ := any_eq_true.1 (hk p hp)
    rw [hasE_iff] at hfp
    rw [agB_iff] at hag
    rcases path_disj E 0 h ho e he f hf with rfl | hd
    · rw [if_pos hfp.1] at hag
      omega
    · have h5 := ho f hf
      have h6 := ho e he
      split at hag <;> omega
theorem keepC_eds (x : La) (ps : List Pn) (c : Can) : keepC x ps c = ps.all fun p => (edsL x c.links).any fun e => hasE e p := by
  unfold keepC edsL
  congr 1
  funext p
  rw [any_map]
  rfl
theorem pinned_all {x : La} (hx : LaOK x) {ps : List Pn} (hps : ∀ p ∈ ps, PnOK x.n p) {A B : List Can} (hA : IsAll (grX x) A) (hB : IsAll (grX (pinL x ps)) B) : B.map (canE (pinL x ps)) = (A.filter (keepC x ps)).map (canE x) := by
  refine ltE_same (all_sorted (pinL_ok hx ps) hB) ?_ fun q => ?_
  · have h := all_sorted hx hA
    rw [pairwise_map] at h ⊢
    exact h.filter _
  · have ho : ∀ e ∈ x.es, e.fr < e.to := fun e he => (hx.2.2.1 e he).1.2.1
    rw [all_mem hB]
    constructor
    · rintro ⟨h1, h2, h3⟩
      have h3' : ∀ e ∈ q.2, e ∈ x.es ∧ freeB ps e = true := fun e he => mem_filter.1 (h3 e he)
      obtain ⟨c, hc, rfl⟩ := mem_map.1 ((all_mem hA q).2 ⟨h1, h2, fun e he => (h3' e he).1⟩)
      refine mem_map.2 ⟨c, mem_filter.2 ⟨hc, ?_⟩, rfl⟩
      rw [keepC_eds]
      exact (path_pins h2 (fun e he => ho e (h3' e he).1) hps).1 fun e he => (h3' e he).2
    · intro hq
      obtain ⟨c, hc, rfl⟩ := mem_map.1 hq
      obtain ⟨hc, hk⟩ := mem_filter.1 hc
      obtain ⟨h1, h2, h3⟩ := (all_mem hA (canE x c)).1 (mem_map.2 ⟨c, hc, rfl⟩)
      rw [keepC_eds] at hk
      have hf := (path_pins h2 (fun e he => ho e (h3 e he)) hps).2 hk
      exact ⟨h1, h2, fun e he => mem_filter.2 ⟨h3 e he, hf e he⟩⟩
theorem pinned_list {x : La} (hx : LaOK x) {ps : List Pn} (hps : ∀ p ∈ ps, PnOK x.n p) {A B : List Can} (hA : IsList (grX x) 50 A) (hB : IsList (grX (pinL x ps)) 50 B) (h50 : A.length ≠ 50) : B.map (canE (pinL x ps)) = (A.filter (keepC x ps)).map (canE x) := by
  have gA := grX_ok hx
  have gB := grX_ok (pinL_ok hx ps)
  have e1 := isList_allG gA hA
  have e2 := isList_allG gB hB
  have l1 : A.length = min 50 (allG (grX x)).length := by rw [e1, length_take]
  have hm := pinned_all hx hps (allG_is gA) (allG_is gB)
  have hl : (allG (grX (pinL x ps))).length ≤ (allG (grX x)).length := by
    have := congrArg List.length hm
    rw [length_map, length_map] at this
    rw [this]
    exact length_filter_le _ _
  rw [take_of_length_le (by omega)] at e1
  rw [take_of_length_le (by omega)] at e2
  rw [e1, e2]
  exact hm
end Go.Proofs.YtfjkmgjjifhdkaaGreat

/-
  The walks of package pin: whether an edge is against a pin, and against one of a list.
-/
namespace Go.Proofs.YtfjkmgjjifhdkaaGreat
open Go Go.RowKit

def encPn (p : Pn) : List Value := [.int .i64 p.fr, .int .i64 p.en, .int .i64 p.wd]
abbrev vPn (p : Pn) : Value := .agg #[.int .i64 p.fr, .int .i64 p.en, .int .i64 p.wd]
def RPn (_ : World) (p : Pn) (vs : List Value) : Prop := vs = [.int .i64 p.fr, .int .i64 p.en, .int .i64 p.wd]
theorem keeps_pn : Keeps RPn := fun _ _ _ _ _ h => h
theorem SlR.pn {w : World} {A : Option Addr} {k : Nat} {xs : List Pn} (h : SlR 3 RPn w A xs) (hk : k < xs.length) : ∃ b off x, A = some ⟨b, off, none⟩ ∧ b < w.heap.size ∧ xs[k]? = some x ∧
    w.cell? ⟨b, off + k * 3, none⟩ = some (.int .i64 x.fr) ∧ w.cell? ⟨b, off + k * 3 + 1, none⟩ = some (.int .i64 x.en) ∧ w.cell? ⟨b, off + k * 3 + 2, none⟩ = some (.int .i64 x.wd) := by
  obtain ⟨b, off, x, vs, hA, hlt, hx, hr, _, hv⟩ := h.at_ hk
  exact ⟨b, off, x, hA, hlt, hx, hv 0 _ (by rw [hr]; rfl), hv 1 _ (by rw [hr]; rfl), hv 2 _ (by rw [hr]; rfl)⟩
set_option maxRecDepth 100000 in
set_option maxHeartbeats 4000000 in
theorem against_any (e : Ed) (p : Pn) (w : World) : Calls Tryz.prog 32 #[vEd e, vPn p] w fun r w' => r = .returned (.bool (agB e p)) ∧ Below w.heap.size w w' := by
  obtain ⟨w2, hw2⟩ : ∃ w2, (w.alloc (.cells #[.int .i64 e.fr, .int .i64 e.to, .int .i64 e.wd, .int .i64 e.co] 44)).alloc (.cells #[.int .i64 p.fr, .int .i64 p.en, .int .i64 p.wd] 46) = w2 := ⟨_, rfl⟩
  have hb2 : Below w.heap.size w w2 := by rw [← hw2]; exact nw _ (nw _ (Below.refl _ _))
  have hE : Blk w2 w.heap.size 44 #[.int .i64 e.fr, .int .i64 e.to, .int .i64 e.wd, .int .i64 e.co] := by rw [← hw2]; exact (Blk.new _ _ _).alloc _
  have hP : Blk w2 (w.heap.size + 1) 46 #[.int .i64 p.fr, .int .i64 p.en, .int .i64 p.wd] := by rw [← hw2]; exact Blk.new_ (by simp)
  have HW2 := Lib.hid hw2
  have e0 := hE.cell 0
  have e1 := hE.cell 1
  have e2 := hE.cell 2
  have el := hE.lt
  have p0 := hP.cell 0
  have p1 := hP.cell 1
  have p2 := hP.cell 2
  have pl := hP.lt
  simp at e0 e1 e2 p0 p1 p2
  have HAG : Hid (agB e p = if (e.fr == p.fr && e.to == p.en) = true then !(p.wd == -1) && !(p.wd == e.wd) else decide (e.fr < p.en) && decide (p.fr < e.to)) := rfl
  obtain ⟨v, hv⟩ : ∃ v, agB e p = v := ⟨_, rfl⟩
  rw [hv] at HAG ⊢
  clear hw2 hE hP hv
  cases z1 : (e.fr == p.fr) with
  | false =>
    rw [z1] at HAG
    cases z5 : decide (e.fr < p.en) <;> cases z6 : decide (p.fr < e.to) <;>
    (rw [z5, z6] at HAG
     go_enter Tryz.func32, Tryz.ntmps32
     go_upto_region 1 with fail
     rw [HW2.out]
     go_wp2_with fail
     go_ret
     exact ⟨by rw [HAG.out]; rfl, hb2⟩)
  | true =>
    rw [z1] at HAG
    cases z2 : (e.to == p.en) with
    | false =>
      rw [z2] at HAG
      cases z5 : decide (e.fr < p.en) <;> cases z6 : decide (p.fr < e.to) <;>
      (rw [z5, z6] at HAG
       go_enter Tryz.func32, Tryz.ntmps32
       go_upto_region 1 with fail
       rw [HW2.out]
       go_wp2_with fail
       go_ret
       exact ⟨by rw [HAG.out]; rfl, hb2⟩)
    | true =>
      rw [z2] at HAG
      cases z3 : (p.wd == -1) with
      | true =>
        rw [z3] at HAG
        have y3 : (p.wd != -1) = false := by rw [bne, z3]; rfl
        clear z3
        go_enter Tryz.func32, Tryz.ntmps32
        go_upto_region 1 with fail
        rw [HW2.out]
        go_wp2_with fail
        go_ret
        exact ⟨by rw [HAG.out]; rfl, hb2⟩
      | false =>
        rw [z3] at HAG
        have y3 : (p.wd != -1) = true := by rw [bne, z3]; rfl
        clear z3
        cases z4 : (p.wd == e.wd) with
        | true =>
          rw [z4] at HAG
          have y4 : (p.wd != e.wd) = false := by rw [bne, z4]; rfl
          clear z4
          go_enter Tryz.func32, Tryz.ntmps32
          go_upto_region 1 with fail
          rw [HW2.out]
          go_wp2_with fail
          go_ret
          exact ⟨by rw [HAG.out]; rfl, hb2⟩
        | false =>
          rw [z4] at HAG
          have y4 : (p.wd != e.wd) = true := by rw [bne, z4]; rfl
          clear z4
          go_enter Tryz.func32, Tryz.ntmps32
          go_upto_region 1 with fail
          rw [HW2.out]
          go_wp2_with fail
          go_ret
          exact ⟨by rw [HAG.out]; rfl, hb2⟩
/-- The first pin that an edge is against, or -1. -/
def ixP (e : Ed) (ps : List Pn) : Int := if ps.any (agB e) = true then (ps.findIdx (agB e) : Int) else -1
theorem ixP_neg {e : Ed} {ps : List Pn} (h : ps.any (agB e) = false) : ixP e ps = -1 := if_neg (by rw [h]; decide)
theorem ixP_at {e : Ed} {ps : List Pn} {k : Nat} {p : Pn} (h : (ps.take k).any (agB e) = false) (hp : ps[k]? = some p) (ha : agB e p = true) : ixP e ps = (k : Int) := by
  obtain ⟨hk, rfl⟩ := List.getElem?_eq_some_iff.1 hp
  unfold ixP
  rw [if_pos (List.any_eq_true.2 ⟨_, List.getElem_mem hk, ha⟩)]
  congr 1
  rw [List.findIdx_eq hk]
  refine ⟨ha, fun j hj => ?_⟩
  rw [List.any_eq_false] at h
  have := h ps[j] (List.mem_take_iff_getElem.2 ⟨j, by omega, rfl⟩)
  simpa using this
theorem ixP_iff {e : Ed} {ps : List Pn} : 0 ≤ ixP e ps ↔ ps.any (agB e) = true := by
  unfold ixP
  split
  · rename_i h; simp [h]
  · rename_i h; constructor
    · intro h2; omega
    · intro h2; exact absurd h2 h
set_option maxRecDepth 100000 in
set_option maxHeartbeats 4000000 in
theorem pclo_any (e : Ed) (p : Pn) (bE : Nat) (w : World) (hE : Blk w bE 44 #[.int .i64 e.fr, .int .i64 e.to, .int .i64 e.wd, .int .i64 e.co]) :
    Calls Tryz.prog 31 #[vPn p, .pointer (some ⟨bE, 0, none⟩)] w fun r w' => r = .returned (.bool (agB e p)) ∧ Below w.heap.size w w' := by
  obtain ⟨w1, hw1⟩ : ∃ w1, w.alloc (.cells #[.int .i64 p.fr, .int .i64 p.en, .int .i64 p.wd] 46) = w1 := ⟨_, rfl⟩
  have hb1 : Below w.heap.size w w1 := by rw [← hw1]; exact nw _ (Below.refl _ _)
  have hP : Blk w1 w.heap.size 46 #[.int .i64 p.fr, .int .i64 p.en, .int .i64 p.wd] := by rw [← hw1]; exact Blk.new _ _ _
  have hE1 := hE.below hb1 hE.lt
  have HW1 := Lib.hid hw1
  have e0 := hE1.cell 0
  have e1 := hE1.cell 1
  have e2 := hE1.cell 2
  have e3 := hE1.cell 3
  have el := hE1.lt
  have p0 := hP.cell 0
  have p1 := hP.cell 1
  have p2 := hP.cell 2
  have pl := hP.lt
  simp at e0 e1 e2 e3 p0 p1 p2
  have HC : Hid (Calls Tryz.prog 32 #[vEd e, vPn p] w1 fun r w' => r = .returned (.bool (agB e p)) ∧ Below w1.heap.size w1 w') := against_any e p w1
  generalize agB e p = v at *
  clear hw1 hE1 hP hE
  go_enter Tryz.func31, Tryz.ntmps31
  go_upto_region 1 with fail
  rw [HW1.out]
  go_wp2_with (go_at_call 32; go_loud (refine HC.out.mono ?_; rintro r w' ⟨rfl, hb2⟩))
  go_ret
  exact ⟨rfl, bthen hb1 hb2⟩
set_option maxRecDepth 100000 in
set_option maxHeartbeats 4000000 in
theorem indexP_any (A : Option Addr) (ps : List Pn) (c bE : Nat) (e : Ed) (w : World) (hx : SlR 3 RPn w A ps) (hl : ps.length ≤ maxLen) (hE : Blk w bE 44 #[.int .i64 e.fr, .int .i64 e.to, .int .i64 e.wd, .int .i64 e.co]) :
    Calls Tryz.prog 67 #[.slice A ps.length c, .func (.func 31) #[] #[.pointer (some ⟨bE, 0, none⟩)]] w fun r w' => r = .returned (.int .i64 (ixP e ps)) ∧ Below w.heap.size w w' := by
  unfold maxLen at hl
  have HC : Hid (∀ (W : World) (p : Pn), Below w.heap.size w W → Calls Tryz.prog 31 #[vPn p, .pointer (some ⟨bE, 0, none⟩)] W fun r w' => r = .returned (.bool (agB e p)) ∧ Below W.heap.size W w') :=
    fun W p hW => pclo_any e p bE W (hE.below hW hE.lt)
  clear hE
  go_enter Tryz.func67, Tryz.ntmps67
  go_wp2_with fail
  go_loopw [8] (fun i wr => ∃ k : Nat, k ≤ ps.length ∧ Hid ((ps.take k).any (agB e) = false) ∧ i = .int .i64 k ∧ Below w.heap.size w wr) (fun i _ => ps.length - (intOf i).toNat)
  case atStart => exact ⟨0, by omega, (by show (ps.take 0).any _ = _; simp), rfl, Below.refl _ _⟩
  case round =>
    obtain ⟨k, hk, HS, rfl, hbr⟩ := hrel
    by_cases hlt : k < ps.length
    · obtain ⟨b, off, p, rfl, hbb, hee, d0, d1, d2⟩ := (hx.below keeps_pn hbr).pn hlt
      have HL := Lib.hid hee
      have HC2 := Lib.hid (HC.out wr p hbr)
      obtain ⟨v, hv⟩ : ∃ v, agB e p = v := ⟨_, rfl⟩
      rw [hv] at HC2
      have HV := Lib.hid hv
      have HBr := Lib.hid hbr
      clear hee hv hbr
      cases v with
      | true =>
        have HR : Hid (ixP e ps = (k : Int)) := ixP_at HS.out HL.out HV.out
        go_wp2_with (go_at_call 31; go_loud (refine HC2.out.mono ?_; rintro e' w3 ⟨rfl, hb3⟩))
        go_ret
        exact ⟨by rw [HR.out]; rfl, bthen HBr.out hb3⟩
      | false =>
        have HES : Hid ((ps.take (k + 1)).any (agB e) = false) := by
          show _ = _
          rw [take_snoc_of HL.out, List.any_append, HS.out]
          simp [HV.out]
        go_wp2_with (go_at_call 31; go_loud (refine HC2.out.mono ?_; rintro e' w3 ⟨rfl, hb3⟩))
        go_roundw
        case rel => exact ⟨k + 1, by omega, HES.out, by go_num, bthen HBr.out hb3⟩
        case measure => simp [intOf]; omega
    · have HR : Hid (ixP e ps = -1) := by
        show _ = _
        have := HS.out
        rw [List.take_of_length_le (by omega)] at this
        exact ixP_neg this
      go_wp2_with fail
      go_ret
      exact ⟨by rw [HR.out]; rfl, hbr⟩
set_option maxRecDepth 100000 in
set_option maxHeartbeats 4000000 in
theorem containsP_any (A : Option Addr) (ps : List Pn) (c bE : Nat) (e : Ed) (w : World) (hx : SlR 3 RPn w A ps) (hl : ps.length ≤ maxLen) (hE : Blk w bE 44 #[.int .i64 e.fr, .int .i64 e.to, .int .i64 e.wd, .int .i64 e.co]) :
    Calls Tryz.prog 30 #[.slice A ps.length c, .func (.func 31) #[] #[.pointer (some ⟨bE, 0, none⟩)]] w fun r w' => r = .returned (.bool (ps.any (agB e))) ∧ Below w.heap.size w w' := by
  have HC := Lib.hid (indexP_any A ps c bE e w hx hl hE)
  have hi := ixP_iff (e := e) (ps := ps)
  obtain ⟨v, hv⟩ : ∃ v, ps.any (agB e) = v := ⟨_, rfl⟩
  rw [hv] at hi ⊢
  generalize ixP e ps = q at *
  clear hx hE hv
  by_cases hq : 0 ≤ q
  · have hv : v = true := hi.1 hq
    subst hv
    clear hi
    have z1 : decide (0 ≤ q) = true := decide_eq_true hq
    go_enter Tryz.func30, Tryz.ntmps30
    go_wp2_with (go_at_call 67; go_loud (refine HC.out.mono ?_; rintro e' w3 ⟨rfl, hb3⟩))
    go_ret
    exact ⟨by first | rfl | simp [z1], hb3⟩
  · have hv : v = false := by cases v with | false => rfl | true => exact absurd (hi.2 rfl) hq
    subst hv
    clear hi
    have z1 : decide (0 ≤ q) = false := decide_eq_false hq
    go_enter Tryz.func30, Tryz.ntmps30
    go_wp2_with (go_at_call 67; go_loud (refine HC.out.mono ?_; rintro e' w3 ⟨rfl, hb3⟩))
    go_ret
    exact ⟨by first | rfl | simp [z1], hb3⟩
end Go.Proofs.YtfjkmgjjifhdkaaGreat

/-
  The walk of package pin: the lattice without the edges that are against a pin.
-/
namespace Go.Proofs.YtfjkmgjjifhdkaaGreat
open Go Go.RowKit

theorem edge_inf : (Tryz.prog.info? 44).map (fun i => (i.zero, i.size, i.bytes)) = some (some (.agg #[.int .i64 0, .int .i64 0, .int .i64 0, .int .i64 0]), 4, 32) := by kernel_rfl
/-- A lattice that a call gives back. -/
def GivesLat (x : La) (w : World) (r : Ending) (w' : World) : Prop := ∃ (B : Option Addr) (c : Nat), r = .returned (.agg #[.int .i64 x.n, .slice B x.es.length c]) ∧ SlR 4 REd w' B x.es ∧ (x.es.length ≤ c ∧ c ≤ maxLen) ∧ Below w.heap.size w w'
theorem tp_snocE (L : List Ed) (p : Ed) : (L ++ [p]).flatMap encEd = L.flatMap encEd ++ [.int .i64 p.fr, .int .i64 p.to, .int .i64 p.wd, .int .i64 p.co] := by simp [encEd]
theorem filt_snoc {ps : List Pn} {l : List Ed} {k : Nat} {e : Ed} (h : l[k]? = some e) : (l.take (k + 1)).filter (freeB ps) = if freeB ps e = true then (l.take k).filter (freeB ps) ++ [e] else (l.take k).filter (freeB ps) := by
  rw [take_snoc_of h, List.filter_append]
  by_cases hf : freeB ps e = true
  · rw [if_pos hf]; simp [hf]
  · rw [if_neg hf]; simp [hf]
set_option maxRecDepth 100000 in
set_option maxHeartbeats 8000000 in
theorem restrict_any (x : La) (A : Option Addr) (c : Nat) (ps : List Pn) (B : Option Addr) (d : Nat) (w : World) (hx : SlR 4 REd w A x.es) (hl : x.es.length ≤ 1000) (hp : SlR 3 RPn w B ps) (hpl : ps.length ≤ maxLen) :
    Calls Tryz.prog 9 #[.agg #[.int .i64 x.n, .slice A x.es.length c], .slice B ps.length d] w (GivesLat (pinL x ps) w) := by
  obtain ⟨i0, hi, hz0, hz1, hz2⟩ := info_parts edge_inf
  obtain ⟨w3, hw3⟩ : ∃ w3, ((w.alloc (.cells #[.int .i64 x.n, .slice A x.es.length c] 27)).alloc (.cells #[.int .i64 0, .slice none 0 0] 27)).alloc (.cells #[.int .i64 x.n, .slice none 0 0] 27) = w3 := ⟨_, rfl⟩
  have hb3 : Below w.heap.size w w3 := by rw [← hw3]; exact nw _ (nw _ (nw _ (Below.refl _ _)))
  have hB0 : Blk w3 w.heap.size 27 #[.int .i64 x.n, .slice A x.es.length c] := by rw [← hw3]; exact ((Blk.new _ _ _).alloc _).alloc _
  have hB1 : Blk w3 (w.heap.size + 1) 27 #[.int .i64 0, .slice none 0 0] := by rw [← hw3]; exact (Blk.new_ (by simp)).alloc _
  have hB2 : Blk w3 (w.heap.size + 1 + 1) 27 #[.int .i64 x.n, .slice none 0 0] := by rw [← hw3]; exact Blk.new_ (by simp)
  have hsz : w3.heap.size = w.heap.size + 1 + 1 + 1 := by rw [← hw3]; simp
  have HW3 := Lib.hid hw3
  obtain ⟨b1, hb1e⟩ : ∃ b, w.heap.size + 1 = b := ⟨_, rfl⟩
  rw [hb1e] at hB1 hB2 hsz
  obtain ⟨b2, hb2e⟩ : ∃ b, b1 + 1 = b := ⟨_, rfl⟩
  rw [hb2e] at hB2 hsz
  have HE1 := Lib.hid hb1e
  have HE2 := Lib.hid hb2e
  have hlt1 : w.heap.size < b1 := by omega
  have hlt2 : b1 < b2 := by omega
  have hle3 : b2 + 1 ≤ w3.heap.size := by omega
  have hn02 : w.heap.size ≠ b2 := by omega
  have hn12 : b1 ≠ b2 := by omega
  clear hw3 hb1e hb2e hsz
  have HX : Hid (∀ W, Below b2 w3 W → SlR 4 REd W A x.es) := fun W hW => hx.below keeps_ed (hb3.trans (hW.mono (by omega)))
  have HP : Hid (∀ W, Below b2 w3 W → SlR 3 RPn W B ps) := fun W hW => hp.below keeps_pn (hb3.trans (hW.mono (by omega)))
  have HAb : Hid (∀ b off, A = some ⟨b, off, none⟩ → x.es ≠ [] → b < w.heap.size) := fun b off hA hne => by
    obtain ⟨b', off', hA', hb', _⟩ := hx hne
    rw [hA] at hA'
    obtain ⟨rfl, _⟩ : b = b' ∧ off = off' := by simpa using hA'
    exact hb'
  have q0 := hB0.cell 0
  have q1 := hB0.cell 1
  have ql := hB0.lt
  simp at q0 q1
  have HB0 := Lib.hid hB0
  have HB1 := Lib.hid hB1
  have HBW := Lib.hid hb3
  clear hB0 hB1 hb3 hx hp
  go_enter Tryz.func9, Tryz.ntmps9
  go_upto_region 2 with fail
  rw [HW3.out, HE1.out, HE2.out]
  go_wp2_with fail
  go_loopw [14] (fun i wr => ∃ (k : Nat) (v : Value) (O : List Ed), k ≤ x.es.length ∧ Hid (O = (x.es.take k).filter (freeB ps)) ∧ O.length ≤ k ∧ i = .int .i64 k ∧ wr.ownsRow (b2 + 1) 44 4 v O.length (O.flatMap encEd) ∧ Blk wr b2 27 #[.int .i64 x.n, v] ∧ Below b2 w3 wr) (fun i _ => x.es.length - (intOf i).toNat)
  case atStart => exact ⟨0, .slice none 0 0, [], by omega, (by show [] = (x.es.take 0).filter _; simp), by simp, rfl, own_nil _ _ _ _, hB2, Below.refl _ _⟩
  case round =>
    obtain ⟨k, v, O, hk, HS, hol, rfl, hown, hB, hbr⟩ := hrel
    have hsr := hbr.size
    by_cases hlt : k < x.es.length
    · obtain ⟨b, off, e, hA, hbb, hee, d0, d1, d2, d3⟩ := (HX.out _ hbr).ed hlt
      have hbw := HAb.out b off hA (by intro h; rw [h] at hlt; simp at hlt)
      subst hA
      have HFS := Lib.hid (filt_snoc (ps := ps) hee)
      have hvne : v.ownBlock ≠ some b2 := fun e => by have := own_block_le hown _ e; omega
      clear hee
      go_upto_region 5 with fail
      obtain ⟨W4, hW4⟩ : ∃ V, wr.alloc (.cells #[.int .i64 e.fr, .int .i64 e.to, .int .i64 e.wd, .int .i64 e.co] 44) = V := ⟨_, rfl⟩
      have hb4 : Below wr.heap.size wr W4 := by rw [← hW4]; exact nw _ (Below.refl _ _)
      have hE4 : Blk W4 wr.heap.size 44 #[.int .i64 e.fr, .int .i64 e.to, .int .i64 e.wd, .int .i64 e.co] := by rw [← hW4]; exact Blk.new _ _ _
      have hbr4 := hbr.trans (hb4.mono (by omega))
      have hB4 := hB.below hb4 hB.lt
      have hown4 := own_below hown hb4
      have HC := Lib.hid (containsP_any B ps d wr.heap.size e W4 (HP.out _ hbr4) hpl hE4)
      have hs4 := hb4.size
      rw [hW4]
      obtain ⟨bE, hbE⟩ : ∃ b, wr.heap.size = b := ⟨_, rfl⟩
      rw [hbE] at hE4 HC hsr hs4 ⊢
      obtain ⟨u, hu⟩ : ∃ u, ps.any (agB e) = u := ⟨_, rfl⟩
      have hfr : freeB ps e = !u := by rw [← hu]; rfl
      rw [hu] at HC
      rw [hfr] at HFS
      clear hW4 hbE hu hfr hb4 hbr hB hown d0 d1 d2 d3 hbb
      have hEl := hE4.lt
      cases u with
      | true =>
        have HN : Hid ((x.es.take (k + 1)).filter (freeB ps) = O) := by show _ = _; rw [HFS.out, HS.out]; rfl
        have HO4 := Lib.hid hown4
        have HB4 := Lib.hid hB4
        have HR4 := Lib.hid hbr4
        clear hown4 hB4 hbr4 hE4
        go_wp2_with (go_at_call 30; go_loud (refine HC.out.mono ?_; rintro r w5 ⟨rfl, hb5⟩))
        go_roundw
        case rel => exact ⟨k + 1, v, O, by omega, HN.out.symm, by omega, by go_num, own_below HO4.out hb5, HB4.out.below hb5 HB4.out.lt, HR4.out.trans (hb5.mono (by omega))⟩
        case measure => simp [intOf]; omega
      | false =>
        have HN : Hid ((x.es.take (k + 1)).filter (freeB ps) = O ++ [e]) := by show _ = _; rw [HFS.out, HS.out]; rfl
        have hn1 : O.length ≤ 1000000 := by omega
        have HO4 := Lib.hid hown4
        have HB4 := Lib.hid hB4
        have HR4 := Lib.hid hbr4
        have HE4 := Lib.hid hE4
        clear hown4 hB4 hbr4 hE4
        go_upto_region 6 with (go_at_call 30; go_loud (refine HC.out.mono ?_; rintro r w5 ⟨rfl, hb5⟩))
        have hB5 := HB4.out.below hb5 HB4.out.lt
        have hE5 := HE4.out.below hb5 HE4.out.lt
        have HO5 := Lib.hid (own_below HO4.out hb5)
        have HR5 := Lib.hid (HR4.out.trans (hb5.mono (by omega)))
        have hs5 := hb5.size
        have s1 := hB5.cell 1
        have sl := hB5.lt
        have e0 := hE5.cell 0
        have e1 := hE5.cell 1
        have e2 := hE5.cell 2
        have e3 := hE5.cell 3
        have el := hE5.lt
        simp at s1 e0 e1 e2 e3
        have HB5 := Lib.hid hB5
        clear hB5 hE5 hb5
        go_wp2_with (first | (at_builtin; refine wpList_app1 rfl _ _ 25 rfl (b2 + 1) 44 i0 _ 4 32 Tryz.underlying25 hi hz0 hz1 hz2 rfl (by decide) v _ _ rfl w5 [.int .i64 e.fr, .int .i64 e.to, .int .i64 e.wd, .int .i64 e.co] rfl HO5.out _ rfl (by simp) rfl (by simp [Value.oneCell']) hn1 (by decide) (by omega) ?_; intro v6 w6 hown6 hb6 ha6; obtain ⟨A6, c6, rfl, hc6, hcm6, _⟩ := own_slr (R := REd) (xs := O ++ [e]) (enc := encEd) (by rw [tp_snocE]; exact hown6) (fun _ => rfl) (fun _ => rfl) (by simp); have hB6 := HB5.out.apps ha6 hvne; have t1 := hB6.frozen 1; have u1 := hB6.cell 1; have tl := hB6.lt; have HB6 := Lib.hid hB6; have HO6 := Lib.hid hown6; have HR6 := Lib.hid (HR5.out.trans (hb6.mono (by omega))); simp at u1; clear hB6 hown6 ha6 hb6))
        go_roundw
        case rel => exact ⟨k + 1, .slice A6 (O.length + 1) c6, O ++ [e], by omega, HN.out.symm, by simp; omega, by go_num, by rw [List.length_append, tp_snocE]; exact own_set HO6.out (fun e => by have := own_block_le HO6.out _ e; simp at this; omega) _, (by have := HB6.out.set_ 1 (.slice A6 (O.length + 1) c6); simpa using this), HR6.out.setCell (by show _ ≤ b2; omega) _⟩
        case measure => simp [intOf]; omega
    · obtain rfl : k = x.es.length := by omega
      have hF : O = (pinL x ps).es := by
        have := HS.out
        rw [List.take_length] at this
        exact this
      subst hF
      have hbase1 : ∀ q, v.ownBlock = some q → b1 < q := fun q e => by have := own_block_le hown _ e; omega
      obtain ⟨A3, cap, rfl, hcap, hcm, hslr⟩ := own_slr (R := REd) (enc := encEd) hown (fun _ => rfl) (fun _ => rfl) rfl
      have hB1 := HB1.out.below hbr hlt2
      have s0 := hB.cell 0
      have s1 := hB.cell 1
      have sl := hB.lt
      have r0 := hB1.cell 0
      have r1 := hB1.cell 1
      have f0 := hB1.frozen 0
      have f1 := hB1.frozen 1
      have rl := hB1.lt
      simp at s0 s1 r0 r1
      have HBr := Lib.hid hbr
      have HB := Lib.hid hB
      have HB1 := Lib.hid hB1
      have HO := Lib.hid hown
      clear hbr hB hB1 hslr hown HS
      go_wp2_with fail
      refine ret_cell (t := 27) (cs := #[.int .i64 x.n, .slice A3 (pinL x ps).es.length cap]) (by have := (HB1.out.set_ 0 (.int .i64 x.n)).set_ 1 (.slice A3 (pinL x ps).es.length cap); simpa using this) rfl rfl Tryz.underlying27 rfl (by kernel_rfl) rfl ?_
      refine ⟨A3, cap, rfl, ?_, ⟨hcap, hcm⟩, (HBW.out.trans (HBr.out.mono (by omega))).setCell (p := ⟨b1, 0, none⟩) (by show _ ≤ b1; omega) _ |>.setCell (p := ⟨b1, 1, none⟩) (by show _ ≤ b1; omega) _⟩
      obtain ⟨A4, cap4, hv, _, _, hs⟩ := own_slr (R := REd) (enc := encEd) (own_set (own_set HO.out (a := ⟨b1, 0, none⟩) (fun e => by have := hbase1 _ e; simp at this) (.int .i64 x.n)) (a := ⟨b1, 1, none⟩) (fun e => by have := hbase1 _ e; simp at this) (.slice A3 (pinL x ps).es.length cap)) (fun _ => rfl) (fun _ => rfl) rfl
      injection hv with e1 e2 e3
      subst e1
      exact hs
end Go.Proofs.YtfjkmgjjifhdkaaGreat
