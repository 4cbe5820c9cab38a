/-
  CxLat, Lib, GrMath, GrLaw, joined. No conditions.
-/
import Derived.WalkKit
import Derived.OwnWalk
import Derived.Below
import Derived.Lib.Hide
import Derived.Deep.Draws
import Derived.Deep.QuietTactic
/-
  The plain law of layer 20: lattices, the nodes of their graphs, words for orders of pairs. No program in sight; no conditions.
-/
namespace Go.Proofs.Ytcimnkijpifkjaa
open List

structure Ed where
  fr : Int
  to : Int
  wd : Int
  co : Int
deriving DecidableEq
structure La where
  n : Int
  es : List Ed
def lessE (a b : Ed) : Bool := decide (a.fr < b.fr) || (a.fr == b.fr && (decide (a.to < b.to) || (a.to == b.to && decide (a.wd < b.wd))))
def EdOK (n : Int) (e : Ed) : Prop := (0 ≤ e.fr ∧ e.fr < e.to ∧ e.to ≤ n) ∧ (0 ≤ e.wd ∧ e.wd < 200) ∧ 0 ≤ e.co ∧ e.co ≤ 1000000
instance (n : Int) (e : Ed) : Decidable (EdOK n e) := by unfold EdOK; infer_instance
def incE : List Ed → Bool
  | a :: b :: l => lessE a b && incE (b :: l)
  | _ => true
def LaOK (x : La) : Prop := (0 ≤ x.n ∧ x.n ≤ 40) ∧ x.es.length ≤ 20000 ∧ (∀ e ∈ x.es, EdOK x.n e) ∧ incE x.es = true
instance (x : La) : Decidable (LaOK x) := by unfold LaOK; infer_instance

/-- What a round over the edges has seen: the first k of them are as they should be. -/
structure EsTo (n : Int) (es : List Ed) (k : Nat) : Prop where
  ok : ∀ e ∈ es.take k, EdOK n e
  inc : incE (es.take k) = true
theorem EsTo.zero (n : Int) (es : List Ed) : EsTo n es 0 := ⟨by simp, by simp [incE]⟩
theorem incE_snoc (l : List Ed) (y : Ed) : incE (l ++ [y]) = (incE l && match l.getLast? with | none => true | some x => lessE x y) := by
  induction l with
  | nil => rfl
  | cons a l ih =>
    cases l with
    | nil => simp [incE]
    | cons b l =>
      rw [cons_append, cons_append]
      show (lessE a b && incE (b :: l ++ [y])) = _
      rw [ih]
      simp [incE, Bool.and_assoc, getLast?_cons_cons]
theorem getLast_take {α : Type} {l : List α} {k : Nat} {x : α} (h : l[k]? = some x) : (l.take (k + 1)).getLast? = some x := by
  obtain ⟨hk, rfl⟩ := List.getElem?_eq_some_iff.1 h
  rw [take_succ_eq_append_getElem hk, getLast?_concat]
theorem take_snoc_of {α : Type} {l : List α} {k : Nat} {x : α} (h : l[k]? = some x) : l.take (k + 1) = l.take k ++ [x] := by
  obtain ⟨hk, rfl⟩ := List.getElem?_eq_some_iff.1 h
  rw [take_succ_eq_append_getElem hk]
theorem EsTo.first {n : Int} {es : List Ed} {y : Ed} (hy : es[0]? = some y) (hr : EdOK n y) : EsTo n es 1 := by
  refine ⟨fun e he => ?_, ?_⟩
  · rw [take_snoc_of hy] at he
    simp at he
    rw [he]; exact hr
  · rw [take_snoc_of hy]
    rfl
theorem EsTo.succ {n : Int} {es : List Ed} {k : Nat} {x y : Ed} (h : EsTo n es (k + 1)) (hx : es[k]? = some x) (hy : es[k + 1]? = some y) (hr : EdOK n y) (hl : lessE x y = true) : EsTo n es (k + 1 + 1) := by
  refine ⟨fun e he => ?_, ?_⟩
  · rw [take_snoc_of hy] at he
    rcases mem_append.1 he with he | he
    · exact h.ok e he
    · rw [mem_singleton.1 he]; exact hr
  · rw [take_snoc_of hy, incE_snoc, h.inc, getLast_take hx]
    exact hl
theorem incE_at {l : List Ed} (h : incE l = true) : ∀ (k : Nat) (x y : Ed), l[k]? = some x → l[k + 1]? = some y → lessE x y = true := by
  induction l with
  | nil => intro k x y hx; simp at hx
  | cons a l ih =>
    intro k x y hx hy
    cases l with
    | nil => simp at hy
    | cons b l =>
      simp only [incE, Bool.and_eq_true] at h
      cases k with
      | zero => simp at hx hy; rw [← hx, ← hy]; exact h.1
      | succ k => exact ih h.2 k x y (by simpa using hx) (by simpa using hy)
theorem EsTo.all {n : Int} {es : List Ed} (h : EsTo n es es.length) (hn : 0 ≤ n ∧ n ≤ 40) (hl : es.length ≤ 20000) : LaOK ⟨n, es⟩ := by
  have h1 := h.ok
  have h2 := h.inc
  rw [take_length] at h1 h2
  exact ⟨hn, hl, h1, h2⟩
theorem LaOK.to {x : La} (h : LaOK x) (k : Nat) : EsTo x.n x.es k := by
  refine ⟨fun e he => h.2.2.1 e (mem_of_mem_take he), ?_⟩
  have hi := h.2.2.2
  clear h
  revert hi
  generalize x.es = l
  induction k with
  | zero => simp [incE]
  | succ k ih =>
    intro hi
    cases hk : l[k]? with
    | none =>
      have := ih hi
      rw [take_of_length_le (by have := getElem?_eq_none_iff.1 hk; omega)] at this ⊢
      exact this
    | some y =>
      rw [take_snoc_of hk, incE_snoc, ih hi]
      cases k with
      | zero => rfl
      | succ k =>
        cases hk2 : l[k]? with
        | none => have := getElem?_eq_none_iff.1 hk2; have := (List.getElem?_eq_some_iff.1 hk).1; omega
        | some x =>
          rw [getLast_take hk2]
          exact incE_at hi k x y hk2 hk
theorem LaOK.not_ok {x : La} {k : Nat} {e : Ed} (he : x.es[k]? = some e) (h : ¬ EdOK x.n e) : ¬ LaOK x := fun hok => h (hok.2.2.1 e (mem_of_getElem? he))
theorem LaOK.not_inc {x : La} {k : Nat} {a b : Ed} (ha : x.es[k]? = some a) (hb : x.es[k + 1]? = some b) (h : lessE a b = false) : ¬ LaOK x := fun hok => by
  rw [incE_at hok.2.2.2 k a b ha hb] at h; cases h

/-- A lattice that fits a model of nw words, after the word prev. -/
def FitsL (x : La) (nw : Nat) : Prop := LaOK x ∧ ∀ e ∈ x.es, e.wd < nw
instance (x : La) (nw : Nat) : Decidable (FitsL x nw) := by unfold FitsL; infer_instance

/-! Pairs in order. -/
def ltP (a b : Int × Int) : Bool := decide (a.1 < b.1) || (a.1 == b.1 && decide (a.2 < b.2))
theorem ltP_iff {a b : Int × Int} : ltP a b = true ↔ a.1 < b.1 ∨ a.1 = b.1 ∧ a.2 < b.2 := by simp [ltP]
theorem ltP_irr (a : Int × Int) : ltP a a = false := by
  cases h : ltP a a
  · rfl
  · rw [ltP_iff] at h; omega
theorem ltP_trans {a b c : Int × Int} (h1 : ltP a b = true) (h2 : ltP b c = true) : ltP a c = true := by
  rw [ltP_iff] at *; omega
theorem ltP_total (a b : Int × Int) : ltP a b = true ∨ a = b ∨ ltP b a = true := by
  rw [ltP_iff, ltP_iff]
  rcases a with ⟨a1, a2⟩
  rcases b with ⟨b1, b2⟩
  simp only [Prod.mk.injEq]
  omega
abbrev SortP (l : List (Int × Int)) : Prop := l.Pairwise fun a b => ltP a b = true
/-- Ordered lists with the same members are one. -/
theorem sortP_ext : ∀ {l m : List (Int × Int)}, SortP l → SortP m → (∀ p, p ∈ l ↔ p ∈ m) → l = m
  | [], [], _, _, _ => rfl
  | [], b :: m, _, _, h => absurd ((h b).2 mem_cons_self) (by simp)
  | a :: l, [], _, _, h => absurd ((h a).1 mem_cons_self) (by simp)
  | a :: l, b :: m, hl, hm, h => by
    obtain ⟨l1, l2⟩ := pairwise_cons.1 hl
    obtain ⟨m1, m2⟩ := pairwise_cons.1 hm
    have hab : a = b := by
      rcases mem_cons.1 ((h a).1 mem_cons_self) with e | e
      · exact e
      · rcases mem_cons.1 ((h b).2 mem_cons_self) with e' | e'
        · exact e'.symm
        · have h1 := m1 a e
          have h2 := l1 b e'
          have := ltP_trans h1 h2
          rw [ltP_irr] at this; cases this
    subst hab
    rw [sortP_ext l2 m2 fun p => ⟨fun hp => by
      rcases mem_cons.1 ((h p).1 (mem_cons_of_mem _ hp)) with e | e
      · subst e; have := l1 p hp; rw [ltP_irr] at this; cases this
      · exact e, fun hp => by
      rcases mem_cons.1 ((h p).2 (mem_cons_of_mem _ hp)) with e | e
      · subst e; have := m1 p hp; rw [ltP_irr] at this; cases this
      · exact e⟩]
/-- An ordered list with one more, unless it has it. -/
def insU (p : Int × Int) : List (Int × Int) → List (Int × Int)
  | [] => [p]
  | q :: l => if ltP p q then p :: q :: l else if p = q then q :: l else q :: insU p l
theorem insU_mem (p q : Int × Int) : ∀ l, q ∈ insU p l ↔ q = p ∨ q ∈ l
  | [] => by simp [insU]
  | r :: l => by
    unfold insU
    split
    · simp
    · split
      · rename_i h; subst h; simp
      · rw [mem_cons, insU_mem p q l, mem_cons]
        constructor
        · rintro (h | h | h)
          · exact .inr (.inl h)
          · exact .inl h
          · exact .inr (.inr h)
        · rintro (h | h | h)
          · exact .inr (.inl h)
          · exact .inl h
          · exact .inr (.inr h)
theorem insU_sort (p : Int × Int) : ∀ l, SortP l → SortP (insU p l)
  | [], _ => by simp [insU]
  | r :: l, h => by
    obtain ⟨h1, h2⟩ := pairwise_cons.1 h
    unfold insU
    split
    · rename_i hpr
      refine pairwise_cons.2 ⟨fun q hq => ?_, h⟩
      rcases mem_cons.1 hq with rfl | hq
      · exact hpr
      · exact ltP_trans hpr (h1 q hq)
    · rename_i hpr
      split
      · exact h
      · rename_i hne
        refine pairwise_cons.2 ⟨fun q hq => ?_, insU_sort p l h2⟩
        rcases (insU_mem p q l).1 hq with rfl | hq
        · rcases ltP_total q r with h3 | h3 | h3
          · exact absurd h3 hpr
          · exact absurd h3 hne
          · exact h3
        · exact h1 q hq
def sortU (l : List (Int × Int)) : List (Int × Int) := l.foldr insU []
theorem sortU_sort : ∀ l, SortP (sortU l)
  | [] => Pairwise.nil
  | p :: l => insU_sort p _ (sortU_sort l)
theorem sortU_mem (q : Int × Int) : ∀ l, q ∈ sortU l ↔ q ∈ l
  | [] => by simp [sortU]
  | p :: l => by
    show q ∈ insU p (sortU l) ↔ _
    rw [insU_mem, sortU_mem q l, mem_cons]
theorem insU_len (p : Int × Int) : ∀ l, (insU p l).length ≤ l.length + 1
  | [] => by simp [insU]
  | r :: l => by
    unfold insU
    split
    · simp
    · split
      · simp
      · have := insU_len p l; simp; omega
theorem sortU_len : ∀ l, (sortU l).length ≤ l.length
  | [] => Nat.le_refl _
  | p :: l => by
    have h1 := insU_len p (sortU l)
    have h2 := sortU_len l
    show (insU p (sortU l)).length ≤ l.length + 1
    omega

/-! The nodes of a lattice. -/
def arrL (n : Int) (e : Ed) : Int × Int := if e.to = n then (n, -1) else (e.to, e.wd)
def allL (x : La) : List (Int × Int) := (x.n, -1) :: x.es.map (arrL x.n)
def tailL (x : La) : List (Int × Int) := if x.n = 0 then [] else sortU (allL x)
def nodesL (x : La) (prev : Int) : List (Int × Int) := (0, prev) :: tailL x
theorem nodesL_len (x : La) (prev : Int) : 1 ≤ (nodesL x prev).length ∧ (nodesL x prev).length ≤ x.es.length + 2 := by
  unfold nodesL tailL
  have := sortU_len (allL x)
  have h2 : (allL x).length = x.es.length + 1 := by simp [allL]
  split <;> simp <;> omega

/-- What is left of an ordered list with doubles when each is taken that differs from the one before. -/
def ddp : List (Int × Int) → List (Int × Int) → List (Int × Int)
  | acc, [] => acc
  | acc, p :: l => ddp (if acc.getLast? = some p then acc else acc ++ [p]) l
theorem ddp_snoc (acc l : List (Int × Int)) (p : Int × Int) : ddp acc (l ++ [p]) = if (ddp acc l).getLast? = some p then ddp acc l else ddp acc l ++ [p] := by
  induction l generalizing acc with
  | nil => rfl
  | cons q l ih => exact ih _
def LeP (a b : Int × Int) : Prop := ltP b a = false
theorem leP_lt {a b : Int × Int} (h : LeP a b) (hne : a ≠ b) : ltP a b = true := by
  unfold LeP at h
  rcases ltP_total a b with h1 | h1 | h1
  · exact h1
  · exact absurd h1 hne
  · rw [h1] at h; cases h
theorem ddp_sort : ∀ (l acc : List (Int × Int)), SortP acc → l.Pairwise LeP → (∀ a ∈ acc, ∀ b ∈ l, LeP a b) → acc ≠ [] → SortP (ddp acc l) ∧ (∀ q, q ∈ ddp acc l ↔ q ∈ acc ∨ q ∈ l) ∧ ∃ r, ddp acc l = acc ++ r
  | [], acc, h1, _, _, _ => ⟨h1, fun q => by simp [ddp], [], by simp [ddp]⟩
  | p :: l, acc, h1, h2, h3, h4 => by
    obtain ⟨p1, p2⟩ := pairwise_cons.1 h2
    unfold ddp
    split
    · rename_i hl
      have hm : p ∈ acc := mem_of_getLast? hl
      obtain ⟨i1, i2, r, i3⟩ := ddp_sort l acc h1 p2 (fun a ha b hb => h3 a ha b (mem_cons_of_mem _ hb)) h4
      refine ⟨i1, fun q => ?_, r, i3⟩
      rw [i2, mem_cons]
      constructor
      · rintro (h | h)
        · exact .inl h
        · exact .inr (.inr h)
      · rintro (h | h | h)
        · exact .inl h
        · exact .inl (h ▸ hm)
        · exact .inr h
    · rename_i hl
      have hs : SortP (acc ++ [p]) := by
        refine pairwise_append.2 ⟨h1, pairwise_singleton _ _, fun a ha b hb => ?_⟩
        rw [mem_singleton.1 hb]
        have hle := h3 a ha p mem_cons_self
        refine leP_lt hle fun e => ?_
        subst e
        -- a is in acc, and the last one is not less than it
        obtain ⟨z, hz⟩ : ∃ z, acc.getLast? = some z := by
          cases h : acc.getLast? with
          | none => exact absurd (getLast?_eq_none_iff.1 h) h4
          | some z => exact ⟨z, rfl⟩
        obtain ⟨ys, hys⟩ := getLast?_eq_some_iff.1 hz
        have hzp : z ≠ a := fun e => hl (by rw [hz, e])
        have h5 : ltP a z = true := by
          rw [hys] at ha h1
          rcases mem_append.1 ha with h6 | h6
          · exact (pairwise_append.1 h1).2.2 a h6 z (by simp)
          · exact absurd (mem_singleton.1 h6).symm hzp
        have h7 := h3 z (by rw [hys]; simp) a mem_cons_self
        unfold LeP at h7
        rw [h5] at h7; cases h7
      obtain ⟨i1, i2, r, i3⟩ := ddp_sort l (acc ++ [p]) hs p2 (fun a ha b hb => by
        rcases mem_append.1 ha with h | h
        · exact h3 a h b (mem_cons_of_mem _ hb)
        · rw [mem_singleton.1 h]; exact p1 b hb) (by simp)
      refine ⟨i1, fun q => ?_, p :: r, by rw [i3]; simp⟩
      rw [i2, mem_append, mem_singleton, mem_cons, or_assoc]
/-- What the program's loop makes of the sorted arrivals. -/
theorem nodes_of {x : La} {prev : Int} {l : List (Int × Int)} (hn : x.n ≠ 0) (hpos : ∀ p ∈ allL x, 0 < p.1) (hp : l.Perm (allL x)) (hs : l.Pairwise LeP) : ddp [(0, prev)] l = nodesL x prev := by
  obtain ⟨h1, h2, r, h3⟩ := ddp_sort l [(0, prev)] (pairwise_singleton _ _) hs (fun a ha b hb => by
    rw [mem_singleton.1 ha]
    have := hpos b (hp.mem_iff.1 hb)
    unfold LeP
    cases h : ltP b (0, prev)
    · rfl
    · rw [ltP_iff] at h; simp only at h; omega) (by simp)
  rw [h3]
  rw [h3] at h1 h2
  unfold nodesL tailL
  rw [if_neg hn]
  show (0, prev) :: r = _
  congr 1
  refine sortP_ext (pairwise_cons.1 h1).2 (sortU_sort _) fun p => ?_
  rw [sortU_mem, ← hp.mem_iff]
  have h4 := h2 p
  simp only [singleton_append, mem_cons, not_mem_nil, or_false] at h4
  constructor
  · intro h
    rcases h4.1 (.inr h) with h5 | h5
    · rw [h5] at h
      have h6 := (pairwise_cons.1 h1).1 _ h
      rw [ltP_irr] at h6; cases h6
    · exact h5
  · intro h
    rcases h4.2 (.inr h) with h5 | h5
    · have := hpos p (hp.mem_iff.1 h)
      rw [h5] at this
      exact absurd this (by simp)
    · exact h5
theorem allL_pos {x : La} (h : LaOK x) (hn : x.n ≠ 0) : ∀ p ∈ allL x, 0 < p.1 := by
  intro p hp
  rcases mem_cons.1 hp with rfl | hp
  · have := h.1.1; show 0 < x.n; omega
  · obtain ⟨e, he, rfl⟩ := mem_map.1 hp
    have := (h.2.2.1 e he).1
    unfold arrL
    split <;> simp <;> omega
end Go.Proofs.Ytcimnkijpifkjaa

/-
  Words for memory that all walks of this seat use: a slice that reads as a list of things, whatever memory lies beside it.
-/
namespace Go.Proofs.Ytcimnkijpifkjaa
open Go Go.RowKit

/-- A slice at A reads as the list xs: element k lies in s cells, which R holds to x. -/
def SlR {α : Type} (s : Nat) (R : World → α → List Value → Prop) (w : World) (A : Option Addr) (xs : List α) : Prop :=
  xs ≠ [] → ∃ b off, A = some ⟨b, off, none⟩ ∧ b < w.heap.size ∧
    ∀ k x, xs[k]? = some x → ∃ vs, R w x vs ∧ vs.length = s ∧ ∀ j v, vs[j]? = some v → w.cell? ⟨b, off + k * s + j, none⟩ = some v

/-- What R says stays true while the old blocks stay. -/
def Keeps {α : Type} (R : World → α → List Value → Prop) : Prop := ∀ w w' x vs, Below w.heap.size w w' → R w x vs → R w' x vs

def RInt (_ : World) (x : Int) (vs : List Value) : Prop := vs = [.int .i64 x]
def RU8 (_ : World) (x : Int) (vs : List Value) : Prop := vs = [.int .u8 x]
def RStr (_ : World) (x : ByteArray) (vs : List Value) : Prop := vs = [.string x]
theorem keeps_int : Keeps RInt := fun _ _ _ _ _ h => h
theorem keeps_u8 : Keeps RU8 := fun _ _ _ _ _ h => h
theorem keeps_str : Keeps RStr := fun _ _ _ _ _ h => h

section
variable {α : Type} {s : Nat} {R : World → α → List Value → Prop} {w w' : World} {A : Option Addr} {xs : List α}

theorem SlR.nil : SlR s R w A ([] : List α) := fun h => absurd rfl h
theorem SlR.below (hR : Keeps R) (h : SlR s R w A xs) (hb : Below w.heap.size w w') : SlR s R w' A xs := fun hn => by
  obtain ⟨b, off, rfl, hlt, hc⟩ := h hn
  refine ⟨b, off, rfl, Nat.lt_of_lt_of_le hlt hb.size, fun k x hx => ?_⟩
  obtain ⟨vs, hr, hl, hv⟩ := hc k x hx
  exact ⟨vs, hR _ _ _ _ hb hr, hl, fun j v hj => (hb.cell (p := ⟨b, _, none⟩) hlt).trans (hv j v hj)⟩
theorem SlR.at_ (h : SlR s R w A xs) {k : Nat} (hk : k < xs.length) : ∃ b off x vs, A = some ⟨b, off, none⟩ ∧ b < w.heap.size ∧ xs[k]? = some x ∧ R w x vs ∧ vs.length = s ∧
    ∀ j v, vs[j]? = some v → w.cell? ⟨b, off + k * s + j, none⟩ = some v := by
  obtain ⟨b, off, hA, hlt, hc⟩ := h (by intro e; subst e; simp at hk)
  obtain ⟨vs, hr, hl, hv⟩ := hc k xs[k] (List.getElem?_eq_getElem hk)
  exact ⟨b, off, xs[k], vs, hA, hlt, List.getElem?_eq_getElem hk, hr, hl, hv⟩
end

/-- All that is known of an int slice's element k. -/
theorem SlR.int {w : World} {A : Option Addr} {xs : List Int} (h : SlR 1 RInt w A xs) {k : Nat} (hk : k < xs.length) :
    ∃ b off x, A = some ⟨b, off, none⟩ ∧ b < w.heap.size ∧ xs[k]? = some x ∧ w.cell? ⟨b, off + k, none⟩ = some (.int .i64 x) := by
  obtain ⟨b, off, x, vs, hA, hlt, hx, hr, _, hv⟩ := h.at_ hk
  have h0 := hv 0 (.int .i64 x) (by rw [hr]; rfl)
  simp only [Nat.mul_one, Nat.add_zero] at h0
  exact ⟨b, off, x, hA, hlt, hx, h0⟩
theorem SlR.u8 {w : World} {A : Option Addr} {xs : List Int} (h : SlR 1 RU8 w A xs) {k : Nat} (hk : k < xs.length) :
    ∃ b off x, A = some ⟨b, off, none⟩ ∧ b < w.heap.size ∧ xs[k]? = some x ∧ w.cell? ⟨b, off + k, none⟩ = some (.int .u8 x) := by
  obtain ⟨b, off, x, vs, hA, hlt, hx, hr, _, hv⟩ := h.at_ hk
  have h0 := hv 0 (.int .u8 x) (by rw [hr]; rfl)
  simp only [Nat.mul_one, Nat.add_zero] at h0
  exact ⟨b, off, x, hA, hlt, hx, h0⟩
theorem SlR.str {w : World} {A : Option Addr} {xs : List ByteArray} (h : SlR 1 RStr w A xs) {k : Nat} (hk : k < xs.length) :
    ∃ b off x, A = some ⟨b, off, none⟩ ∧ b < w.heap.size ∧ xs[k]? = some x ∧ w.cell? ⟨b, off + k, none⟩ = some (.string x) := by
  obtain ⟨b, off, x, vs, hA, hlt, hx, hr, _, hv⟩ := h.at_ hk
  have h0 := hv 0 (.string x) (by rw [hr]; rfl)
  simp only [Nat.mul_one, Nat.add_zero] at h0
  exact ⟨b, off, x, hA, hlt, hx, h0⟩

theorem ret_int {k : IntKind} {a b : Int} (h : a = b) : Ending.returned (.int k a) = .returned (.int k b) := by rw [h]
theorem ret_bool {a b : Bool} (h : a = b) : Ending.returned (.bool a) = .returned (.bool b) := by rw [h]
theorem vint {k : IntKind} {a b : Int} (h : a = b) : Value.int k a = .int k b := by rw [h]
theorem vbool {a b : Bool} (h : a = b) : Value.bool a = .bool b := by rw [h]
theorem bcell {W w1 : World} (hb : Below W.heap.size W w1) : (∀ b o, b < W.heap.size → w1.cell? ⟨b, o, none⟩ = W.cell? ⟨b, o, none⟩) ∧ (∀ b o, b < W.heap.size → w1.frozen? ⟨b, o, none⟩ = W.frozen? ⟨b, o, none⟩) :=
  ⟨fun b o h => hb.cell (p := ⟨b, o, none⟩) h, fun b o h => hb.frozen (p := ⟨b, o, none⟩) h⟩
theorem new_cell (w : World) (cs : Array Value) (t : TypeId) (i : Nat) : (w.alloc (.cells cs t)).cell? ⟨w.heap.size, i, none⟩ = cs[i]? := by
  have h : (w.alloc (.cells cs t)).heap[w.heap.size]? = some (.cells cs t) := heap_alloc_new w _
  unfold World.cell?
  simp only [h]
  rfl
theorem new_lt (w : World) (o : Obj) : w.heap.size < (w.alloc o).heap.size := by simp
/-- What a box of the call's own still holds behind whatever left it alone. -/
theorem box_cell {w wr : World} {cs : Array Value} {t : TypeId} (hb : Below (w.heap.size + 1) (w.alloc (.cells cs t)) wr) (i : Nat) : wr.cell? ⟨w.heap.size, i, none⟩ = cs[i]? :=
  (hb.cell (p := ⟨w.heap.size, i, none⟩) (by show w.heap.size < _; omega)).trans (new_cell _ _ _ _)
theorem box_frozen {w wr : World} {cs : Array Value} {t : TypeId} (hb : Below (w.heap.size + 1) (w.alloc (.cells cs t)) wr) (i : Nat) : wr.frozen? ⟨w.heap.size, i, none⟩ = false :=
  (hb.frozen (p := ⟨w.heap.size, i, none⟩) (by show w.heap.size < _; omega)).trans (by
    have h : (w.alloc (.cells cs t)).heap[w.heap.size]? = some (.cells cs t) := heap_alloc_new w _
    unfold World.frozen?
    simp only [h]
    simp)
theorem box_size {w wr : World} {o : Obj} (hb : Below (w.heap.size + 1) (w.alloc o) wr) : w.heap.size < wr.heap.size := by
  have := hb.size; simp at this; omega
theorem unbox {w wr : World} {o : Obj} (hb : Below (w.heap.size + 1) (w.alloc o) wr) : Below w.heap.size w wr :=
  ((Below.refl _ _).alloc (Nat.le_refl _) o).trans (hb.mono (by omega))
theorem rebox (w : World) (o : Obj) : Below (w.heap.size + 1) (w.alloc o) (w.alloc o) := Below.refl _ _
theorem below_drewN {B : Nat} {a w : World} (h : Below B a w) (n : Nat) : Below B a (w.drewN n) := ⟨h.os, h.tape, h.output, h.size, h.block⟩
/-- A quiet callee in a region that draws, its contract in the form 'w = w''. -/
theorem quiet_l {P : Program} {f : FuncId} {args : Array Value} {w : World} {n : Nat} {v : Value}
    (h : Calls P f args (w.drewN n) fun e w' => e = .returned v ∧ w.drewN n = w') : Calls P f args (w.drewN n) fun e w'' => e = .returned v ∧ ∃ m, w'' = w.drewN m :=
  h.mono fun _ _ ⟨he, hm⟩ => ⟨he, n, hm.symm⟩
/-- The same behind draws. -/
theorem quiet_al {P : Program} {f : FuncId} {args : Array Value} {w : World} {a n : Nat} {v : Value}
    (h : Calls P f args (w.drewN (a + n)) fun e w' => e = .returned v ∧ w.drewN (a + n) = w') :
    Calls P f args (w.drewN (a + n)) fun e w'' => e = .returned v ∧ ∃ m, w'' = w.drewN (a + m) :=
  h.mono fun _ _ ⟨he, hm⟩ => ⟨he, n, hm.symm⟩
theorem take_succ_of {α : Type} {xs : List α} {k : Nat} {x : α} (h : xs[k]? = some x) : xs.take (k + 1) = xs.take k ++ [x] := by
  obtain ⟨hk, rfl⟩ := List.getElem?_eq_some_iff.1 h
  rw [List.take_succ_eq_append_getElem hk]
end Go.Proofs.Ytcimnkijpifkjaa

/-
  The plain things of layers 15 and 16: graphs, links, candidates; potentials.
-/
namespace Go.Proofs.Ytcimnkijpifkjaa
open Go Go.RowKit

structure Lk where
  fr : Int
  to : Int
  lb : Int
  cost : Int
deriving DecidableEq, Inhabited
structure Gr where
  n : Int
  ls : List Lk
deriving DecidableEq, Inhabited
structure Can where
  links : List Int
  cost : Int
deriving DecidableEq, Inhabited

def lkB (n : Int) (l : Lk) : Bool :=
  !(decide (l.fr < 0) || decide (l.to ≤ l.fr) || decide (n ≤ l.to)) && !(decide (l.lb < 0) || decide (1000000 < l.lb) || decide (l.cost < 0) || decide (1000000 < l.cost))
def grB (g : Gr) : Bool := !(decide (g.n < 1) || decide (2000 < g.n) || decide (20000 < g.ls.length)) && g.ls.all (lkB g.n)
/-- What a valid link is. -/
structure LkOK (n : Int) (l : Lk) : Prop where
  fr : 0 ≤ l.fr
  lt : l.fr < l.to
  to : l.to < n
  lb : 0 ≤ l.lb ∧ l.lb ≤ 1000000
  cost : 0 ≤ l.cost ∧ l.cost ≤ 1000000
structure GrOK (g : Gr) : Prop where
  n : 1 ≤ g.n ∧ g.n ≤ 2000
  len : g.ls.length ≤ 20000
  ls : ∀ l ∈ g.ls, LkOK g.n l
theorem lkB_iff {n : Int} {l : Lk} : lkB n l = true ↔ LkOK n l := by
  unfold lkB
  constructor
  · intro h
    simp at h
    exact ⟨by omega, by omega, by omega, by omega, by omega⟩
  · rintro ⟨h1, h2, h3, h4, h5⟩
    simp
    omega
theorem grB_iff {g : Gr} : grB g = true ↔ GrOK g := by
  unfold grB
  rw [Bool.and_eq_true, List.all_eq_true]
  constructor
  · rintro ⟨h1, h2⟩
    simp at h1
    exact ⟨by omega, by omega, fun l hl => lkB_iff.1 (h2 l hl)⟩
  · rintro ⟨h1, h2, h3⟩
    exact ⟨by simp; omega, fun l hl => lkB_iff.2 (h3 l hl)⟩

/-- The indices of the links that leave a node, in increasing order. -/
def lvTo (ls : List Lk) (v : Int) : Nat → List Int
  | 0 => []
  | k + 1 => match ls[k]? with
    | some l => if l.fr = v then lvTo ls v k ++ [(k : Int)] else lvTo ls v k
    | none => lvTo ls v k
def lvs (g : Gr) (v : Int) : List Int := lvTo g.ls v g.ls.length
theorem lvTo_succ {ls : List Lk} {v : Int} {k : Nat} {l : Lk} (h : ls[k]? = some l) : lvTo ls v (k + 1) = if l.fr = v then lvTo ls v k ++ [(k : Int)] else lvTo ls v k := by
  show (match ls[k]? with | some l => if l.fr = v then lvTo ls v k ++ [(k : Int)] else lvTo ls v k | none => lvTo ls v k) = _
  rw [h]
theorem lvTo_mem {ls : List Lk} {v : Int} : ∀ k, k ≤ ls.length → ∀ i, i ∈ lvTo ls v k ↔ ∃ j : Nat, j < k ∧ i = (j : Int) ∧ ∃ l, ls[j]? = some l ∧ l.fr = v := by
  intro k
  induction k with
  | zero => intro _ i; simp [lvTo]
  | succ k ih =>
    intro hk i
    have hl : ls[k]? = some ls[k] := List.getElem?_eq_getElem (by omega)
    rw [lvTo_succ hl]
    have h := ih (by omega) i
    constructor
    · intro hi
      split at hi
      · rename_i hf
        rcases List.mem_append.1 hi with h1 | h1
        · obtain ⟨j, hj, r⟩ := h.1 h1
          exact ⟨j, by omega, r⟩
        · obtain rfl := List.mem_singleton.1 h1
          exact ⟨k, by omega, rfl, _, hl, hf⟩
      · obtain ⟨j, hj, r⟩ := h.1 hi
        exact ⟨j, by omega, r⟩
    · rintro ⟨j, hj, hij, l, hlj, hf⟩
      rcases Nat.lt_or_ge j k with h1 | h1
      · have := h.2 ⟨j, h1, hij, l, hlj, hf⟩
        split
        · exact List.mem_append.2 (.inl this)
        · exact this
      · obtain rfl : j = k := by omega
        rw [hl] at hlj
        rw [if_pos (by rw [Option.some.inj hlj]; exact hf)]
        exact List.mem_append.2 (.inr (by simp [hij]))
theorem lvs_mem {g : Gr} {v i : Int} : i ∈ lvs g v ↔ ∃ (j : Nat) (l : Lk), i = (j : Int) ∧ g.ls[j]? = some l ∧ l.fr = v := by
  unfold lvs
  rw [lvTo_mem _ (Nat.le_refl _)]
  constructor
  · rintro ⟨j, _, h1, l, h2, h3⟩; exact ⟨j, l, h1, h2, h3⟩
  · rintro ⟨j, l, h1, h2, h3⟩; exact ⟨j, (List.getElem?_eq_some_iff.1 h2).1, h1, l, h2, h3⟩
theorem lvTo_inc {ls : List Lk} {v : Int} : ∀ k, k ≤ ls.length → (lvTo ls v k).Pairwise (· < ·) := by
  intro k
  induction k with
  | zero => intro _; exact List.Pairwise.nil
  | succ k ih =>
    intro hk
    have hl : ls[k]? = some ls[k] := List.getElem?_eq_getElem (by omega)
    rw [lvTo_succ hl]
    split
    · rw [List.pairwise_append]
      refine ⟨ih (by omega), List.pairwise_singleton _ _, fun a ha b hb => ?_⟩
      obtain rfl := List.mem_singleton.1 hb
      obtain ⟨j, hj, rfl, _⟩ := (lvTo_mem k (by omega) a).1 ha
      omega
    · exact ih (by omega)
theorem lvs_inc (g : Gr) (v : Int) : (lvs g v).Pairwise (· < ·) := lvTo_inc _ (Nat.le_refl _)

/-- The link of an index. -/
def lkAt (g : Gr) (i : Int) : Lk := g.ls.getD i.toNat default
/-- One step of a potential: the link i, where tail has the potentials of the nodes behind v. -/
def potStep (g : Gr) (v : Int) (tail : List Int) (acc i : Int) : Int :=
  let l := lkAt g i
  let t := tail.getD (l.to - v - 1).toNat 0
  if 0 ≤ t ∧ (acc < 0 ∨ l.cost + t < acc) then l.cost + t else acc
/-- The potentials of the last k nodes. -/
def potS (g : Gr) : Nat → List Int
  | 0 => []
  | 1 => [0]
  | k + 2 => (lvs g (g.n - (k + 2))).foldl (potStep g (g.n - (k + 2)) (potS g (k + 1))) (-1) :: potS g (k + 1)
theorem potS_len (g : Gr) : ∀ k, (potS g k).length = k
  | 0 => rfl
  | 1 => rfl
  | k + 2 => by simp [potS, potS_len g (k + 1)]
def potL (g : Gr) : List Int := potS g g.n.toNat
def potsOf (g : Gr) : List Int × Int := if grB g = true then (potL g, 0) else ([], 150)
end Go.Proofs.Ytcimnkijpifkjaa

/-
  The plain law of layers 15 and 16: ways, their order, potentials as least costs, the first of the cheapest ways.
-/
namespace Go.Proofs.Ytcimnkijpifkjaa
open List

/-- Go's order of lists: at the first place at which they differ. -/
def lexLt : List Int → List Int → Bool
  | [], [] => false
  | [], _ :: _ => true
  | _ :: _, [] => false
  | a :: x, b :: y => if a < b then true else if b < a then false else lexLt x y
theorem lex_irrefl (a : List Int) : lexLt a a = false := by
  induction a with
  | nil => rfl
  | cons x a ih => unfold lexLt; simp [ih]
theorem lex_trans : ∀ {a b c : List Int}, lexLt a b = true → lexLt b c = true → lexLt a c = true
  | [], [], _, h, _ => by simp [lexLt] at h
  | [], _ :: _, [], _, h => by simp [lexLt] at h
  | [], _ :: _, _ :: _, _, _ => rfl
  | _ :: _, [], _, h, _ => by simp [lexLt] at h
  | _ :: _, _ :: _, [], _, h => by simp [lexLt] at h
  | x :: a, y :: b, z :: c, h1, h2 => by
    unfold lexLt at h1 h2 ⊢
    by_cases h3 : x < y
    · by_cases h4 : y < z
      · rw [if_pos (by omega)]
      · by_cases h5 : z < y
        · rw [if_neg h4, if_pos h5] at h2; cases h2
        · rw [if_pos (by omega)]
    · by_cases h4 : y < x
      · rw [if_neg h3, if_pos h4] at h1; cases h1
      · rw [if_neg h3, if_neg h4] at h1
        have : x = y := by omega
        subst this
        by_cases h5 : x < z
        · rw [if_pos h5]
        · by_cases h6 : z < x
          · rw [if_neg h5, if_pos h6] at h2; cases h2
          · rw [if_neg h5, if_neg h6] at h2 ⊢
            exact lex_trans h1 h2
theorem lex_total : ∀ (a b : List Int), lexLt a b = true ∨ a = b ∨ lexLt b a = true
  | [], [] => .inr (.inl rfl)
  | [], _ :: _ => .inl rfl
  | _ :: _, [] => .inr (.inr rfl)
  | x :: a, y :: b => by
    unfold lexLt
    by_cases h1 : x < y
    · left; rw [if_pos h1]
    · by_cases h2 : y < x
      · right; right; rw [if_pos h2]
      · have : x = y := by omega
        subst this
        simp only [Int.lt_irrefl, if_false]
        rcases lex_total a b with h | h | h
        · left; exact h
        · right; left; rw [h]
        · right; right; exact h
theorem lex_asymm {a b : List Int} (h : lexLt a b = true) : lexLt b a = false := by
  cases hb : lexLt b a with
  | false => rfl
  | true => have := lex_trans h hb; rw [lex_irrefl] at this; cases this
theorem lex_pre (p a b : List Int) : lexLt (p ++ a) (p ++ b) = lexLt a b := by
  induction p with
  | nil => rfl
  | cons x p ih => rw [cons_append, cons_append]; conv => lhs; unfold lexLt
                   rw [if_neg (by omega), if_neg (by omega), ih]

/-- A way from a node to the last one. -/
def wayB (g : Gr) : Int → List Int → Bool
  | v, [] => decide (v = g.n - 1)
  | v, i :: r => decide (0 ≤ i ∧ i < g.ls.length ∧ (lkAt g i).fr = v) && wayB g (lkAt g i).to r
def sumC (g : Gr) : List Int → Int
  | [] => 0
  | i :: r => (lkAt g i).cost + sumC g r
theorem lkAt_mem {g : Gr} {i : Int} (h : 0 ≤ i ∧ i < g.ls.length) : g.ls[i.toNat]? = some (lkAt g i) := by
  unfold lkAt
  rw [List.getD_eq_getElem?_getD, List.getElem?_eq_getElem (by omega)]
  rfl
theorem lkAt_ok {g : Gr} (hg : GrOK g) {i : Int} (h : 0 ≤ i ∧ i < g.ls.length) : LkOK g.n (lkAt g i) := hg.ls _ (List.mem_of_getElem? (lkAt_mem h))
theorem lvs_iff {g : Gr} {v i : Int} : i ∈ lvs g v ↔ 0 ≤ i ∧ i < g.ls.length ∧ (lkAt g i).fr = v := by
  rw [lvs_mem]
  constructor
  · rintro ⟨j, l, rfl, h2, h3⟩
    have hj := (List.getElem?_eq_some_iff.1 h2).1
    have := lkAt_mem (g := g) (i := (j : Int)) (by omega)
    rw [Int.toNat_natCast] at this
    rw [h2] at this
    exact ⟨by omega, by omega, by rw [← Option.some.inj this]; exact h3⟩
  · rintro ⟨h1, h2, h3⟩
    exact ⟨i.toNat, lkAt g i, by omega, lkAt_mem ⟨h1, h2⟩, h3⟩
theorem way_cons {g : Gr} {v i : Int} {r : List Int} : wayB g v (i :: r) = true ↔ i ∈ lvs g v ∧ wayB g (lkAt g i).to r = true := by
  rw [lvs_iff]
  conv => lhs; unfold wayB
  simp

/-- The potential of a node, in the list of all. -/
def hAt (g : Gr) (v : Int) : Int := (potL g).getD v.toNat 0
/-- The least cost by the link i, or -1. -/
def viaOf (g : Gr) (i : Int) : Int := if 0 ≤ hAt g (lkAt g i).to then (lkAt g i).cost + hAt g (lkAt g i).to else -1
def minStep (f : Int → Int) (acc i : Int) : Int := if 0 ≤ f i ∧ (acc < 0 ∨ f i < acc) then f i else acc
theorem min_spec_ (f : Int → Int) : ∀ (L : List Int) (a : Int), (a < 0 → a = -1) →
    (L.foldl (minStep f) a = a ∧ ∀ i ∈ L, 0 ≤ f i → 0 ≤ a ∧ a ≤ f i) ∨ ((∃ i ∈ L, f i = L.foldl (minStep f) a ∧ 0 ≤ f i) ∧ (∀ i ∈ L, 0 ≤ f i → L.foldl (minStep f) a ≤ f i) ∧ (0 ≤ a → L.foldl (minStep f) a ≤ a)) := by
  intro L
  induction L with
  | nil => intro a _; exact .inl ⟨rfl, by simp⟩
  | cons x L ih =>
    intro a ha
    rw [foldl_cons]
    by_cases hx : 0 ≤ f x ∧ (a < 0 ∨ f x < a)
    · have e : minStep f a x = f x := by unfold minStep; rw [if_pos hx]
      rw [e]
      rcases ih (f x) (by omega) with ⟨h1, h2⟩ | ⟨⟨i, hi, h1, h2⟩, h3, h4⟩
      · right
        refine ⟨⟨x, by simp, h1.symm, hx.1⟩, fun i hi hf => ?_, fun _ => by omega⟩
        rcases mem_cons.1 hi with rfl | hi
        · omega
        · have := h2 i hi hf; omega
      · right
        refine ⟨⟨i, by simp [hi], h1, h2⟩, fun j hj hf => ?_, fun h0 => by have := h4 hx.1; omega⟩
        rcases mem_cons.1 hj with rfl | hj
        · exact h4 hx.1
        · exact h3 j hj hf
    · have e : minStep f a x = a := by unfold minStep; rw [if_neg hx]
      rw [e]
      rcases ih a ha with ⟨h1, h2⟩ | ⟨⟨i, hi, h1, h2⟩, h3, h4⟩
      · left
        refine ⟨h1, fun i hi hf => ?_⟩
        rcases mem_cons.1 hi with rfl | hi
        · omega
        · exact h2 i hi hf
      · right
        refine ⟨⟨i, by simp [hi], h1, h2⟩, fun j hj hf => ?_, h4⟩
        rcases mem_cons.1 hj with rfl | hj
        · have := h4 (by omega); omega
        · exact h3 j hj hf
theorem min_spec (f : Int → Int) (L : List Int) : (L.foldl (minStep f) (-1) = -1 ∧ ∀ i ∈ L, f i < 0) ∨
    ((∃ i ∈ L, f i = L.foldl (minStep f) (-1)) ∧ 0 ≤ L.foldl (minStep f) (-1) ∧ ∀ i ∈ L, 0 ≤ f i → L.foldl (minStep f) (-1) ≤ f i) := by
  rcases min_spec_ f L (-1) (fun _ => rfl) with ⟨h1, h2⟩ | ⟨⟨i, hi, h1, h2⟩, h3, _⟩
  · left
    refine ⟨h1, fun i hi => ?_⟩
    rcases Int.lt_or_le (f i) 0 with h | h
    · exact h
    · have := h2 i hi h; omega
  · exact .inr ⟨⟨i, hi, h1⟩, by omega, h3⟩

theorem potS_drop (g : Gr) : ∀ k m, k ≤ m → (potS g m).drop (m - k) = potS g k := by
  intro k m
  induction m with
  | zero => intro h; obtain rfl : k = 0 := by omega
            rfl
  | succ m ih =>
    intro h
    rcases Nat.lt_or_ge k (m + 1) with h1 | h1
    · cases m with
      | zero => obtain rfl : k = 0 := by omega
                rfl
      | succ m =>
        have e : potS g (m + 2) = (lvs g (g.n - (m + 2))).foldl (potStep g (g.n - (m + 2)) (potS g (m + 1))) (-1) :: potS g (m + 1) := rfl
        rw [show m + 1 + 1 - k = (m + 1 - k) + 1 by omega, e, drop_succ_cons]
        exact ih (by omega)
    · obtain rfl : k = m + 1 := by omega
      simp
theorem hAt_eq {g : Gr} (hg : GrOK g) {k : Nat} (hk : k ≤ g.n.toNat) {v : Int} (h0 : g.n - k ≤ v) (_h1 : v < g.n) : (potS g k).getD (v - (g.n - k)).toNat 0 = hAt g v := by
  have hn := hg.n
  unfold hAt potL
  rw [← potS_drop g k g.n.toNat hk, List.getD_eq_getElem?_getD, List.getD_eq_getElem?_getD, getElem?_drop]
  congr 2
  omega
theorem hAt_last {g : Gr} (hg : GrOK g) : hAt g (g.n - 1) = 0 := by
  have hn := hg.n
  rw [← hAt_eq hg (k := 1) (by omega) (by omega) (by omega)]
  have : (g.n - 1 - (g.n - (1 : Nat))).toNat = 0 := by omega
  rw [this]
  rfl
theorem hAt_step {g : Gr} (hg : GrOK g) {v : Int} (h0 : 0 ≤ v) (h1 : v < g.n - 1) : hAt g v = (lvs g v).foldl (minStep (viaOf g)) (-1) := by
  have hn := hg.n
  obtain ⟨k, hk⟩ : ∃ k : Nat, g.n - v = (k : Int) + 2 := ⟨(g.n - v - 2).toNat, by omega⟩
  rw [← hAt_eq hg (k := k + 2) (by omega) (v := v) (by omega) (by omega)]
  have e1 : (v - (g.n - ((k + 2 : Nat) : Int))).toNat = 0 := by omega
  rw [e1]
  unfold potS
  rw [List.getD_cons_zero]
  have e2 : g.n - ((k : Int) + 2) = v := by omega
  rw [e2]
  have : ∀ (L : List Int) (a : Int), (∀ i ∈ L, i ∈ lvs g v) → L.foldl (potStep g v (potS g (k + 1))) a = L.foldl (minStep (viaOf g)) a := by
    intro L
    induction L with
    | nil => intro a _; rfl
    | cons x L ih =>
      intro a h
      rw [foldl_cons, foldl_cons]
      have hx := lvs_iff.1 (h x (by simp))
      have hok := lkAt_ok hg ⟨hx.1, hx.2.1⟩
      have e : potStep g v (potS g (k + 1)) a x = minStep (viaOf g) a x := by
        unfold potStep minStep viaOf
        dsimp only
        have hto := hok.to
        have hlt := hok.lt
        have hcost := hok.cost
        have hh := hAt_eq hg (k := k + 1) (by omega) (v := (lkAt g x).to) (by omega) (by omega)
        have e3 : ((lkAt g x).to - (g.n - ((k + 1 : Nat) : Int))).toNat = ((lkAt g x).to - v - 1).toNat := by omega
        rw [e3] at hh
        rw [hh]
        by_cases h1 : 0 ≤ hAt g (lkAt g x).to
        · rw [if_pos h1]
          by_cases h2 : a < 0 ∨ (lkAt g x).cost + hAt g (lkAt g x).to < a
          · rw [if_pos ⟨h1, h2⟩, if_pos ⟨by omega, h2⟩]
          · rw [if_neg (fun h => h2 h.2), if_neg (fun h => h2 h.2)]
        · rw [if_neg (fun h => h1 h.1), if_neg h1, if_neg (by omega)]
      rw [e]
      exact ih _ fun i hi => h i (by simp [hi])
  exact this _ _ fun _ h => h
/-- No way costs less than the potential. -/
theorem way_h {g : Gr} (hg : GrOK g) : ∀ (w : List Int) (v : Int), 0 ≤ v → v < g.n → wayB g v w = true → 0 ≤ hAt g v ∧ hAt g v ≤ sumC g w := by
  intro w
  induction w with
  | nil =>
    intro v h0 h1 h
    unfold wayB at h
    have : v = g.n - 1 := by simpa using h
    rw [this, hAt_last hg]
    exact ⟨by omega, by unfold sumC; omega⟩
  | cons i w ih =>
    intro v h0 h1 h
    obtain ⟨hi, hw⟩ := way_cons.1 h
    have hi' := lvs_iff.1 hi
    have hok := lkAt_ok hg ⟨hi'.1, hi'.2.1⟩
    have hto := hok.to
    have hlt := hok.lt
    have hcost := hok.cost
    obtain ⟨h2, h3⟩ := ih (lkAt g i).to (by omega) (by omega) hw
    have hv : v < g.n - 1 := by omega
    have hvia : viaOf g i = (lkAt g i).cost + hAt g (lkAt g i).to := by unfold viaOf; rw [if_pos h2]
    unfold sumC
    rw [hAt_step hg h0 hv]
    rcases min_spec (viaOf g) (lvs g v) with ⟨h4, h5⟩ | ⟨_, h4, h5⟩
    · have := h5 i hi; omega
    · have := h5 i hi (by omega); omega
/-- The first of the cheapest ways from a node. -/
def bestW (g : Gr) : Nat → Int → List Int
  | 0, _ => []
  | k + 1, v => if v = g.n - 1 then [] else match (lvs g v).find? (fun i => decide (viaOf g i = hAt g v)) with
    | some i => i :: bestW g k (lkAt g i).to
    | none => []
theorem best_way {g : Gr} (hg : GrOK g) : ∀ (k : Nat) (v : Int), 0 ≤ v → v < g.n → g.n - v ≤ (k : Int) + 1 → 0 ≤ hAt g v → wayB g v (bestW g k v) = true ∧ sumC g (bestW g k v) = hAt g v := by
  intro k
  induction k with
  | zero =>
    intro v h0 h1 h2 _
    have : v = g.n - 1 := by omega
    unfold bestW
    rw [this, hAt_last hg]
    exact ⟨by unfold wayB; simp, rfl⟩
  | succ k ih =>
    intro v h0 h1 h2 h3
    unfold bestW
    by_cases hv : v = g.n - 1
    · rw [if_pos hv, hv, hAt_last hg]
      exact ⟨by unfold wayB; simp, rfl⟩
    · rw [if_neg hv]
      have hst := hAt_step hg h0 (by omega)
      rcases min_spec (viaOf g) (lvs g v) with ⟨h4, _⟩ | ⟨⟨i0, hi0, h5⟩, h4, _⟩
      · omega
      · cases hf : (lvs g v).find? (fun i => decide (viaOf g i = hAt g v)) with
        | none =>
          have := find?_eq_none.1 hf i0 hi0
          simp at this
          omega
        | some i =>
          have hi := mem_of_find?_eq_some hf
          have hvi := find?_some hf
          simp at hvi
          have hi' := lvs_iff.1 hi
          have hok := lkAt_ok hg ⟨hi'.1, hi'.2.1⟩
          have hto := hok.to
          have hlt := hok.lt
          have ht : 0 ≤ hAt g (lkAt g i).to := by
            rcases Int.lt_or_le (hAt g (lkAt g i).to) 0 with h | h
            · unfold viaOf at hvi; rw [if_neg (by omega)] at hvi; omega
            · exact h
          obtain ⟨h6, h7⟩ := ih (lkAt g i).to (by omega) (by omega) (by omega) ht
          have hvia : viaOf g i = (lkAt g i).cost + hAt g (lkAt g i).to := by unfold viaOf; rw [if_pos ht]
          exact ⟨way_cons.2 ⟨hi, h6⟩, by show (lkAt g i).cost + sumC g _ = _; omega⟩
theorem find_first {p : Int → Bool} : ∀ {L : List Int}, L.Pairwise (· < ·) → ∀ {i j : Int}, L.find? p = some i → j ∈ L → p j = true → i = j ∨ i < j := by
  intro L
  induction L with
  | nil => intro _ i j h; simp at h
  | cons x L ih =>
    intro hp i j h hj hpj
    obtain ⟨h1, h2⟩ := pairwise_cons.1 hp
    rw [find?_cons] at h
    cases hx : p x with
    | true =>
      rw [hx] at h
      obtain rfl := Option.some.inj h
      rcases mem_cons.1 hj with rfl | hj
      · exact .inl rfl
      · exact .inr (h1 j hj)
    | false =>
      rw [hx] at h
      rcases mem_cons.1 hj with rfl | hj
      · rw [hx] at hpj; cases hpj
      · exact ih h2 h hj hpj
theorem best_first {g : Gr} (hg : GrOK g) : ∀ (k : Nat) (v : Int), 0 ≤ v → v < g.n → g.n - v ≤ (k : Int) + 1 → ∀ w, wayB g v w = true → sumC g w = hAt g v → bestW g k v = w ∨ lexLt (bestW g k v) w = true := by
  intro k
  induction k with
  | zero =>
    intro v h0 h1 h2 w hw _
    cases w with
    | nil => exact .inl rfl
    | cons i w =>
      obtain ⟨hi, _⟩ := way_cons.1 hw
      have hi' := lvs_iff.1 hi
      have hok := lkAt_ok hg ⟨hi'.1, hi'.2.1⟩
      have hto := hok.to
      have hlt := hok.lt
      omega
  | succ k ih =>
    intro v h0 h1 h2 w hw hs
    unfold bestW
    by_cases hv : v = g.n - 1
    · rw [if_pos hv]
      cases w with
      | nil => exact .inl rfl
      | cons i w => exact .inr rfl
    · rw [if_neg hv]
      cases w with
      | nil => unfold wayB at hw; simp at hw; omega
      | cons j w =>
        obtain ⟨hj, hw'⟩ := way_cons.1 hw
        have hj' := lvs_iff.1 hj
        have hok := lkAt_ok hg ⟨hj'.1, hj'.2.1⟩
        have hto := hok.to
        have hlt := hok.lt
        obtain ⟨h3, h4⟩ := way_h hg w _ (by omega) (by omega) hw'
        have hst := hAt_step hg h0 (by omega)
        have hvia : viaOf g j = (lkAt g j).cost + hAt g (lkAt g j).to := by unfold viaOf; rw [if_pos h3]
        have hs' : (lkAt g j).cost + sumC g w = hAt g v := hs
        have hcost := hok.cost
        have hmin : hAt g v ≤ viaOf g j := by
          rcases min_spec (viaOf g) (lvs g v) with ⟨_, h5⟩ | ⟨_, _, h5⟩
          · have := h5 j hj; omega
          · have := h5 j hj (by omega); omega
        have hje : viaOf g j = hAt g v := by omega
        have hse : sumC g w = hAt g (lkAt g j).to := by omega
        cases hf : (lvs g v).find? (fun i => decide (viaOf g i = hAt g v)) with
        | none =>
          have := find?_eq_none.1 hf j hj
          simp at this
          omega
        | some i =>
          dsimp only
          rcases find_first (lvs_inc g v) hf hj (by simpa using hje) with rfl | hij
          · rcases ih (lkAt g i).to (by omega) (by omega) (by omega) w hw' hse with h | h
            · left; rw [h]
            · right; unfold lexLt; rw [if_neg (by omega), if_neg (by omega)]; exact h
          · right; unfold lexLt; rw [if_pos hij]
end Go.Proofs.Ytcimnkijpifkjaa
