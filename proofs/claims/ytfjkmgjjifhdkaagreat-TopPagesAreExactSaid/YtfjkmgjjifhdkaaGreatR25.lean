/-
  The plain law of layer 20: lattices, the nodes of their graphs, words for orders of pairs. No program in sight; no conditions.
-/

namespace Go.Proofs.YtfjkmgjjifhdkaaGreat
open List

structure Ed where
  fr : Int
  to : Int
  wd : Int
  co : Int
deriving DecidableEq
structure La where
  n : Int
  es : List Ed
def lessE (a b : Ed) : Bool := decide (a.fr < b.fr) || (a.fr == b.fr && (decide (a.to < b.to) || (a.to == b.to && decide (a.wd < b.wd))))
def EdOK (n : Int) (e : Ed) : Prop := (0 ≤ e.fr ∧ e.fr < e.to ∧ e.to ≤ n) ∧ (0 ≤ e.wd ∧ e.wd < 200) ∧ 0 ≤ e.co ∧ e.co ≤ 1000000
instance (n : Int) (e : Ed) : Decidable (EdOK n e) := by unfold EdOK; infer_instance
def incE : List Ed → Bool
  | a :: b :: l => lessE a b && incE (b :: l)
  | _ => true
def LaOK (x : La) : Prop := (0 ≤ x.n ∧ x.n ≤ 40) ∧ x.es.length ≤ 20000 ∧ (∀ e ∈ x.es, EdOK x.n e) ∧ incE x.es = true
instance (x : La) : Decidable (LaOK x) := by unfold LaOK; infer_instance

/-- What a round over the edges has seen: the first k of them are as they should be. -/
structure EsTo (n : Int) (es : List Ed) (k : Nat) : Prop where
  ok : ∀ e ∈ es.take k, EdOK n e
  inc : incE (es.take k) = true
theorem EsTo.zero (n : Int) (es : List Ed) : EsTo n es 0 := ⟨by simp, by simp [incE]⟩
theorem incE_snoc (l : List Ed) (y : Ed) : incE (l ++ [y]) = (incE l && match l.getLast? with | none => true | some x => lessE x y) := by
  induction l with
  | nil => rfl
  | cons a l ih =>
    cases l with
    | nil => simp [incE]
    | cons b l =>
      rw [cons_append, cons_append]
      show (lessE a b && incE (b :: l ++ [y])) = _
      rw [ih]
      simp [incE, Bool.and_assoc, getLast?_cons_cons]
theorem getLast_take {α : Type} {l : List α} {k : Nat} {x : α} (h : l[k]? = some x) : (l.take (k + 1)).getLast? = some x := by
  obtain ⟨hk, rfl⟩ := List.getElem?_eq_some_iff.1 h
  rw [take_succ_eq_append_getElem hk, getLast?_concat]
theorem take_snoc_of {α : Type} {l : List α} {k : Nat} {x : α} (h : l[k]? = some x) : l.take (k + 1) = l.take k ++ [x] := by
  obtain ⟨hk, rfl⟩ := List.getElem?_eq_some_iff.1 h
  rw [take_succ_eq_append_getElem hk]
theorem EsTo.first {n : Int} {es : List Ed} {y : Ed} (hy : es[0]? = some y) (hr : EdOK n y) : EsTo n es 1 := by
  refine ⟨fun e he => ?_, ?_⟩
  · rw [take_snoc_of hy] at he
    simp at he
    rw [he]; exact hr
  · rw [take_snoc_of hy]
    rfl
theorem EsTo.succ {n : Int} {es : List Ed} {k : Nat} {x y : Ed} (h : EsTo n es (k + 1)) (hx : es[k]? = some x) (hy : es[k + 1]? = some y) (hr : EdOK n y) (hl : lessE x y = true) : EsTo n es (k + 1 + 1) := by
  refine ⟨fun e he => ?_, ?_⟩
  · rw [take_snoc_of hy] at he
    rcases mem_append.1 he with he | he
    · exact h.ok e he
    · rw [mem_singleton.1 he]; exact hr
  · rw [take_snoc_of hy, incE_snoc, h.inc, getLast_take hx]
    exact hl
theorem incE_at {l : List Ed} (h : incE l = true) : ∀ (k : Nat) (x y : Ed), l[k]? = some x → l[k + 1]? = some y → lessE x y = true := by
  induction l with
  | nil => intro k x y hx; simp at hx
  | cons a l ih =>
    intro k x y hx hy
    cases l with
    | nil => simp at hy
    | cons b l =>
      simp only [incE, Bool.and_eq_true] at h
      cases k with
      | zero => simp at hx hy; rw [← hx, ← hy]; exact h.1
      | succ k => exact ih h.2 k x y (by simpa using hx) (by simpa using hy)
theorem EsTo.all {n : Int} {es : List Ed} (h : EsTo n es es.length) (hn : 0 ≤ n ∧ n ≤ 40) (hl : es.length ≤ 20000) : LaOK ⟨n, es⟩ := by
  have h1 := h.ok
  have h2 := h.inc
  rw [take_length] at h1 h2
  exact ⟨hn, hl, h1, h2⟩
theorem LaOK.to {x : La} (h : LaOK x) (k : Nat) : EsTo x.n x.es k := by
  refine ⟨fun e he => h.2.2.1 e (mem_of_mem_take he), ?_⟩
  have hi := h.2.2.2
  clear h
  revert hi
  generalize x.es = l
  induction k with
  | zero => simp [incE]
  | succ k ih =>
    intro hi
    cases hk : l[k]? with
    | none =>
      have := ih hi
      rw [take_of_length_le (by have := getElem?_eq_none_iff.1 hk; omega)] at this ⊢
      exact this
    | some y =>
      rw [take_snoc_of hk, incE_snoc, ih hi]
      cases k with
      | zero => rfl
      | succ k =>
        cases hk2 : l[k]? with
        | none => have := getElem?_eq_none_iff.1 hk2; have := (List.getElem?_eq_some_iff.1 hk).1; omega
        | some x =>
          rw [getLast_take hk2]
          exact incE_at hi k x y hk2 hk
theorem LaOK.not_ok {x : La} {k : Nat} {e : Ed} (he : x.es[k]? = some e) (h : ¬ EdOK x.n e) : ¬ LaOK x := fun hok => h (hok.2.2.1 e (mem_of_getElem? he))
theorem LaOK.not_inc {x : La} {k : Nat} {a b : Ed} (ha : x.es[k]? = some a) (hb : x.es[k + 1]? = some b) (h : lessE a b = false) : ¬ LaOK x := fun hok => by
  rw [incE_at hok.2.2.2 k a b ha hb] at h; cases h

/-- A lattice that fits a model of nw words, after the word prev. -/
def FitsL (x : La) (nw : Nat) : Prop := LaOK x ∧ ∀ e ∈ x.es, e.wd < nw
instance (x : La) (nw : Nat) : Decidable (FitsL x nw) := by unfold FitsL; infer_instance

/-! Pairs in order. -/
def ltP (a b : Int × Int) : Bool := decide (a.1 < b.1) || (a.1 == b.1 && decide (a.2 < b.2))
theorem ltP_iff {a b : Int × Int} : ltP a b = true ↔ a.1 < b.1 ∨ a.1 = b.1 ∧ a.2 < b.2 := by simp [ltP]
theorem ltP_irr (a : Int × Int) : ltP a a = false := by
  cases h : ltP a a
  · rfl
  · rw [ltP_iff] at h; omega
theorem ltP_trans {a b c : Int × Int} (h1 : ltP a b = true) (h2 : ltP b c = true) : ltP a c = true := by
  rw [ltP_iff] at *; omega
theorem ltP_total (a b : Int × Int) : ltP a b = true ∨ a = b ∨ ltP b a = true := by
  rw [ltP_iff, ltP_iff]
  rcases a with ⟨a1, a2⟩
  rcases b with ⟨b1, b2⟩
  simp only [Prod.mk.injEq]
  omega
abbrev SortP (l : List (Int × Int)) : Prop := l.Pairwise fun a b => ltP a b = true
/-- Ordered lists with the same members are one. -/
theorem sortP_ext : ∀ {l m : List (Int × Int)}, SortP l → SortP m → (∀ p, p ∈ l ↔ p ∈ m) → l = m
  | [], [], _, _, _ => rfl
  | [], b :: m, _, _, h => absurd ((h b).2 mem_cons_self) (by simp)
  | a :: l, [], _, _, h => absurd ((h a).1 mem_cons_self) (by simp)
  | a :: l, b :: m, hl, hm, h => by
    obtain ⟨l1, l2⟩ := pairwise_cons.1 hl
    obtain ⟨m1, m2⟩ := pairwise_cons.1 hm
    have hab : a = b := by
      rcases mem_cons.1 ((h a).1 mem_cons_self) with e | e
      · exact e
      · rcases mem_cons.1 ((h b).2 mem_cons_self) with e' | e'
        · exact e'.symm
        · have h1 := m1 a e
          have h2 := l1 b e'
          have := ltP_trans h1 h2
          rw [ltP_irr] at this; cases this
    subst hab
    rw [sortP_ext l2 m2 fun p => ⟨fun hp => by
      rcases mem_cons.1 ((h p).1 (mem_cons_of_mem _ hp)) with e | e
      · subst e; have := l1 p hp; rw [ltP_irr] at this; cases this
      · exact e, fun hp => by
      rcases mem_cons.1 ((h p).2 (mem_cons_of_mem _ hp)) with e | e
      · subst e; have := m1 p hp; rw [ltP_irr] at this; cases this
      · exact e⟩]
/-- An ordered list with one more, unless it has it. -/
def insU (p : Int × Int) : List (Int × Int) → List (Int × Int)
  | [] => [p]
  | q :: l => if ltP p q then p :: q :: l else if p = q then q :: l else q :: insU p l
theorem insU_mem (p q : Int × Int) : ∀ l, q ∈ insU p l ↔ q = p ∨ q ∈ l
  | [] => by simp [insU]
  | r :: l => by
    unfold insU
    split
    · simp
    · split
      · rename_i h; subst h; simp
      · rw [mem_cons, insU_mem p q l, mem_cons]
        constructor
        · rintro (h | h | h)
          · exact .inr (.inl h)
          · exact .inl h
          · exact .inr (.inr h)
        · rintro (h | h | h)
          · exact .inr (.inl h)
          · exact .inl h
          · exact .inr (.inr h)
theorem insU_sort (p : Int × Int) : ∀ l, SortP l → SortP (insU p l)
  | [], _ => by simp [insU]
  | r :: l, h => by
    obtain ⟨h1, h2⟩ := pairwise_cons.1 h
    unfold insU
    split
    · rename_i hpr
      refine pairwise_cons.2 ⟨fun q hq => ?_, h⟩
      rcases mem_cons.1 hq with rfl | hq
      · exact hpr
      · exact ltP_trans hpr (h1 q hq)
    · rename_i hpr
      split
      · exact h
      · rename_i hne
        refine pairwise_cons.2 ⟨fun q hq => ?_, insU_sort p l h2⟩
        rcases (insU_mem p q l).1 hq with rfl | hq
        · rcases ltP_total q r with h3 | h3 | h3
          · exact absurd h3 hpr
          · exact absurd h3 hne
          · exact h3
        · exact h1 q hq
def sortU (l : List (Int × Int)) : List (Int × Int) := l.foldr insU []
theorem sortU_sort : ∀ l, SortP (sortU l)
  | [] => Pairwise.nil
  | p :: l => insU_sort p _ (sortU_sort l)
theorem sortU_mem (q : Int × Int) : ∀ l, q ∈ sortU l ↔ q ∈ l
  | [] => by simp [sortU]
  | p :: l => by
    show q ∈ insU p (sortU l) ↔ _
    rw [insU_mem, sortU_mem q l, mem_cons]
theorem insU_len (p : Int × Int) : ∀ l, (insU p l).length ≤ l.length + 1
  | [] => by simp [insU]
  | r :: l => by
    unfold insU
    split
    · simp
    · split
      · simp
      · have := insU_len p l; simp; omega
theorem sortU_len : ∀ l, (sortU l).length ≤ l.length
  | [] => Nat.le_refl _
  | p :: l => by
    have h1 := insU_len p (sortU l)
    have h2 := sortU_len l
    show (insU p (sortU l)).length ≤ l.length + 1
    omega

/-! The nodes of a lattice. -/
def arrL (n : Int) (e : Ed) : Int × Int := if e.to = n then (n, -1) else (e.to, e.wd)
def allL (x : La) : List (Int × Int) := (x.n, -1) :: x.es.map (arrL x.n)
def tailL (x : La) : List (Int × Int) := if x.n = 0 then [] else sortU (allL x)
def nodesL (x : La) (prev : Int) : List (Int × Int) := (0, prev) :: tailL x
theorem nodesL_len (x : La) (prev : Int) : 1 ≤ (nodesL x prev).length ∧ (nodesL x prev).length ≤ x.es.length + 2 := by
  unfold nodesL tailL
  have := sortU_len (allL x)
  have h2 : (allL x).length = x.es.length + 1 := by simp [allL]
  split <;> simp <;> omega

/-- What is left of an ordered list with doubles when each is taken that differs from the one before. -/
def ddp : List (Int × Int) → List (Int × Int) → List (Int × Int)
  | acc, [] => acc
  | acc, p :: l => ddp (if acc.getLast? = some p then acc else acc ++ [p]) l
theorem ddp_snoc (acc l : List (Int × Int)) (p : Int × Int) : ddp acc (l ++ [p]) = if (ddp acc l).getLast? = some p then ddp acc l else ddp acc l ++ [p] := by
  induction l generalizing acc with
  | nil => rfl
  | cons q l ih => exact ih _
def LeP (a b : Int × Int) : Prop := ltP b a = false
theorem leP_lt {a b : Int × Int} (h : LeP a b) (hne : a ≠ b) : ltP a b = true := by
  unfold LeP at h
  rcases ltP_total a b with h1 | h1 | h1
  · exact h1
  · exact absurd h1 hne
  · rw [h1] at h; cases h
theorem ddp_sort : ∀ (l acc : List (Int × Int)), SortP acc → l.Pairwise LeP → (∀ a ∈ acc, ∀ b ∈ l, LeP a b) → acc ≠ [] → SortP (ddp acc l) ∧ (∀ q, q ∈ ddp acc l ↔ q ∈ acc ∨ q ∈ l) ∧ ∃ r, ddp acc l = acc ++ r
  | [], acc, h1, _, _, _ => ⟨h1, fun q => by simp [ddp], [], by simp [ddp]⟩
  | p :: l, acc, h1, h2, h3, h4 => by
    obtain ⟨p1, p2⟩ := pairwise_cons.1 h2
    unfold ddp
    split
    · rename_i hl
      have hm : p ∈ acc := mem_of_getLast? hl
      obtain ⟨i1, i2, r, i3⟩ := ddp_sort l acc h1 p2 (fun a ha b hb => h3 a ha b (mem_cons_of_mem _ hb)) h4
      refine ⟨i1, fun q => ?_, r, i3⟩
      rw [i2, mem_cons]
      constructor
      · rintro (h | h)
        · exact .inl h
        · exact .inr (.inr h)
      · rintro (h | h | h)
        · exact .inl h
        · exact .inl (h ▸ hm)
        · exact .inr h
    · rename_i hl
      have hs : SortP (acc ++ [p]) := by
        refine pairwise_append.2 ⟨h1, pairwise_singleton _ _, fun a ha b hb => ?_⟩
        rw [mem_singleton.1 hb]
        have hle := h3 a ha p mem_cons_self
        refine leP_lt hle fun e => ?_
        subst e
        -- a is in acc, and the last one is not less than it
        obtain ⟨z, hz⟩ : ∃ z, acc.getLast? = some z := by
          cases h : acc.getLast? with
          | none => exact absurd (getLast?_eq_none_iff.1 h) h4
          | some z => exact ⟨z, rfl⟩
        obtain ⟨ys, hys⟩ := getLast?_eq_some_iff.1 hz
        have hzp : z ≠ a := fun e => hl (by rw [hz, e])
        have h5 : ltP a z = true := by
          rw [hys] at ha h1
          rcases mem_append.1 ha with h6 | h6
          · exact (pairwise_append.1 h1).2.2 a h6 z (by simp)
          · exact absurd (mem_singleton.1 h6).symm hzp
        have h7 := h3 z (by rw [hys]; simp) a mem_cons_self
        unfold LeP at h7
        rw [h5] at h7; cases h7
      obtain ⟨i1, i2, r, i3⟩ := ddp_sort l (acc ++ [p]) hs p2 (fun a ha b hb => by
        rcases mem_append.1 ha with h | h
        · exact h3 a h b (mem_cons_of_mem _ hb)
        · rw [mem_singleton.1 h]; exact p1 b hb) (by simp)
      refine ⟨i1, fun q => ?_, p :: r, by rw [i3]; simp⟩
      rw [i2, mem_append, mem_singleton, mem_cons, or_assoc]
/-- What the program's loop makes of the sorted arrivals. -/
theorem nodes_of {x : La} {prev : Int} {l : List (Int × Int)} (hn : x.n ≠ 0) (hpos : ∀ p ∈ allL x, 0 < p.1) (hp : l.Perm (allL x)) (hs : l.Pairwise LeP) : ddp [(0, prev)] l = nodesL x prev := by
  obtain ⟨h1, h2, r, h3⟩ := ddp_sort l [(0, prev)] (pairwise_singleton _ _) hs (fun a ha b hb => by
    rw [mem_singleton.1 ha]
    have := hpos b (hp.mem_iff.1 hb)
    unfold LeP
    cases h : ltP b (0, prev)
    · rfl
    · rw [ltP_iff] at h; simp only at h; omega) (by simp)
  rw [h3]
  rw [h3] at h1 h2
  unfold nodesL tailL
  rw [if_neg hn]
  show (0, prev) :: r = _
  congr 1
  refine sortP_ext (pairwise_cons.1 h1).2 (sortU_sort _) fun p => ?_
  rw [sortU_mem, ← hp.mem_iff]
  have h4 := h2 p
  simp only [singleton_append, mem_cons, not_mem_nil, or_false] at h4
  constructor
  · intro h
    rcases h4.1 (.inr h) with h5 | h5
    · rw [h5] at h
      have h6 := (pairwise_cons.1 h1).1 _ h
      rw [ltP_irr] at h6; cases h6
    · exact h5
  · intro h
    rcases h4.2 (.inr h) with h5 | h5
    · have := hpos p (hp.mem_iff.1 h)
      rw [h5] at this
      exact absurd this (by simp)
    · exact h5
theorem allL_pos {x : La} (h : LaOK x) (hn : x.n ≠ 0) : ∀ p ∈ allL x, 0 < p.1 := by
  intro p hp
  rcases mem_cons.1 hp with rfl | hp
  · have := h.1.1; show 0 < x.n; omega
  · obtain ⟨e, he, rfl⟩ := mem_map.1 hp
    have := (h.2.2.1 e he).1
    unfold arrL
    split <;> simp <;> omega
end Go.Proofs.YtfjkmgjjifhdkaaGreat
