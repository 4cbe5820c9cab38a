/-
  OuPlain, OuExec, CostMath, OuRes, OuSound, joined. No conditions.
-/
import Derived.Test.YtfpnhgahkjglgaaGreatProg
import Derived.Lib.BitFns
import Derived.Lib.ItoaNum
import Derived.IntWalk
import GoSem.Op.String
import Derived.Lib.Strings
namespace Go.Proofs.YtfpnhgahkjglgaaGreat
open Go
theorem zA (l : List Value) (i : Nat) (a : Value) : l.toArray.setIfInBounds i a = (l.set i a).toArray := List.setIfInBounds_toArray ..
theorem zB (a b : Value) (l : List Value) : (a :: l).set 0 b = b :: l := rfl
theorem zC (a b : Value) (l : List Value) (n : Nat) : (a :: l).set (n + 1) b = a :: l.set n b := rfl
open List
structure Ru where
 fr : Int
 to : Int
 inp : ByteArray
 out : ByteArray
 co : Int
 deriving DecidableEq
instance : Inhabited Ru := ⟨⟨0, 0, ByteArray.empty, ByteArray.empty, 0⟩⟩
structure Sc where
 n : Int
 acc : Int
 rs : List Ru
def bl (s : ByteArray) : List UInt8 := s.data.toList
theorem bl_inj {a b : ByteArray} (h : bl a = bl b) : a = b := by
 cases a with | mk a => cases b with | mk b => cases a; cases b; unfold bl at h; simp at h; subst h; rfl
theorem bl_len (a : ByteArray) : (bl a).length = a.size := rfl
theorem bl_app (a b : ByteArray) : bl (a ++ b) = bl a ++ bl b := by unfold bl; rw [ByteArray.data_append, Array.toList_append]
theorem bl_empty : bl ByteArray.empty = [] := rfl
def Ru.mute (r : Ru) : Bool := decide (r.inp.size = 0)
theorem mute_bl {r : Ru} : r.mute = true ↔ bl r.inp = [] := by
 unfold Ru.mute
 rw [decide_eq_true_iff, ← bl_len]
 exact length_eq_zero_iff
structure Sys (K : Type) where
 rs : List Ru
 mode : K → Int
 step : K → Ru → Option K
section
variable {K : Type}
inductive Rch (S : Sys K) (st : K) (inp : List UInt8) : Nat → K → Int → Prop
 | start : Rch S st inp 0 st 0
 | step {i : Nat} {k k' : K} {c : Int} {r : Ru} : Rch S st inp i k c → r ∈ S.rs → r.fr = S.mode k → bl r.inp <+: inp.drop i → S.step k r = some k' → Rch S st inp (i + r.inp.size) k' (c + r.co)
def Hop (S : Sys K) (A : K → Int → Prop) (k : K) (c : Int) : Prop := ∃ k0 c0 r, A k0 c0 ∧ r ∈ S.rs ∧ r.mute = true ∧ r.fr = S.mode k0 ∧ S.step k0 r = some k ∧ c = c0 + r.co
def Leap (S : Sys K) (inp : List UInt8) (A : K → Int → Prop) (i j : Nat) (k : K) (c : Int) : Prop := ∃ k0 c0 r, A k0 c0 ∧ r ∈ S.rs ∧ r.mute = false ∧ r.fr = S.mode k0 ∧ bl r.inp <+: inp.drop i ∧ j = i + r.inp.size ∧ S.step k0 r = some k ∧ c = c0 + r.co
def Arr (S : Sys K) (st : K) (inp : List UInt8) (at_ j : Nat) (k : K) (c : Int) : Prop := (j = 0 ∧ k = st ∧ c = 0) ∨ ∃ i, i < at_ ∧ Leap S inp (Rch S st inp i) i j k c
def Flat (S : Sys K) (st : K) (inp : List UInt8) : Prop := ∀ i k c r k' r', Rch S st inp i k c → r ∈ S.rs → r.mute = true → r.fr = S.mode k → S.step k r = some k' → r' ∈ S.rs → r'.mute = true → r'.fr ≠ S.mode k'
theorem size_pos {r : Ru} (h : r.mute = false) : 0 < r.inp.size := by
 unfold Ru.mute at h
 have := of_decide_eq_false h
 omega
theorem mute_size {r : Ru} (h : r.mute = true) : r.inp.size = 0 := of_decide_eq_true h
variable {S : Sys K} {st : K} {inp : List UInt8}
theorem arr_rch {at_ j : Nat} {k : K} {c : Int} (h : Arr S st inp at_ j k c) : Rch S st inp j k c := by
 rcases h with ⟨rfl, rfl, rfl⟩ | ⟨i, _, k0, c0, r, h1, h2, _, h4, h5, rfl, h7, rfl⟩
 ·exact .start
 ·exact .step h1 h2 h4 h5 h7
theorem rch_split (hF : Flat S st inp) {i : Nat} {k : K} {c : Int} (h : Rch S st inp i k c) : Arr S st inp i i k c ∨ Hop S (Arr S st inp i i) k c := by
 induction h with
 | start => exact .inl (.inl ⟨rfl, rfl, rfl⟩)
 | @step i k k' c r h1 h2 h3 h4 h5 ih =>
  cases hm : r.mute with
  | false =>
   have := size_pos hm
   exact .inl (.inr ⟨i, by omega, k, c, r, h1, h2, hm, h3, h4, rfl, h5, rfl⟩)
  | true =>
   rw [mute_size hm, Nat.add_zero]
   rcases ih with ih | ⟨k0, c0, r0, g1, g2, g3, g4, g5, rfl⟩
   ·exact .inr ⟨k, c, r, ih, h2, hm, h3, h5, rfl⟩
   ·exact absurd h3 (hF i k0 c0 r0 k r (arr_rch g1) g2 g3 g4 g5 h2 hm)
theorem hop_rch {at_ i : Nat} {k : K} {c : Int} (h : Hop S (Arr S st inp at_ i) k c) : Rch S st inp i k c := by
 obtain ⟨k0, c0, r, h1, h2, h3, h4, h5, rfl⟩ := h
 have := Rch.step (arr_rch h1) h2 h4 (by rw [mute_bl.1 h3]; exact nil_prefix) h5
 rwa [mute_size h3, Nat.add_zero] at this
theorem rch_iff (hF : Flat S st inp) {i : Nat} {k : K} {c : Int} : Rch S st inp i k c ↔ Arr S st inp i i k c ∨ Hop S (Arr S st inp i i) k c :=
 ⟨rch_split hF, fun h => h.elim arr_rch hop_rch⟩
theorem arr_zero {at_ : Nat} {k : K} {c : Int} : Arr S st inp at_ 0 k c ↔ k = st ∧ c = 0 := by
 constructor
 ·rintro (⟨_, h1, h2⟩ | ⟨i, _, k0, c0, r, _, _, h3, _, _, h6, _⟩)
  ·exact ⟨h1, h2⟩
  ·have := size_pos h3; omega
 ·rintro ⟨h1, h2⟩; exact .inl ⟨rfl, h1, h2⟩
theorem arr_succ {at_ j : Nat} {k : K} {c : Int} : Arr S st inp (at_ + 1) j k c ↔ Arr S st inp at_ j k c ∨ Leap S inp (Rch S st inp at_) at_ j k c := by
 constructor
 ·rintro (h | ⟨i, h1, h2⟩)
  ·exact .inl (.inl h)
  ·rcases Nat.lt_or_ge i at_ with h | h
   ·exact .inl (.inr ⟨i, h, h2⟩)
   ·obtain rfl : i = at_ := by omega
    exact .inr h2
 ·rintro ((h | ⟨i, h1, h2⟩) | h)
  ·exact .inl h
  ·exact .inr ⟨i, by omega, h2⟩
  ·exact .inr ⟨at_, by omega, h⟩
theorem rch_cost (hc : ∀ r ∈ S.rs, 0 ≤ r.co) {i : Nat} {k : K} {c : Int} (h : Rch S st inp i k c) : 0 ≤ c := by
 induction h with
 | start => exact Int.le_refl 0
 | step _ h2 _ _ _ ih => have := hc _ h2; omega
theorem rch_place {i : Nat} {k : K} {c : Int} (h : Rch S st inp i k c) : i ≤ inp.length := by
 induction h with
 | start => exact Nat.zero_le _
 | @step i k k' c r _ _ _ h4 _ ih =>
  have h := h4.length_le
  rw [bl_len, length_drop] at h
  omega
def Holds (M : K → Option Int) (A : K → Int → Prop) : Prop := ∀ k, (∀ c, M k = some c → A k c ∧ ∀ c', A k c' → c ≤ c') ∧ (M k = none → ∀ c, ¬ A k c)
variable [DecidableEq K]
def relaxT (M : K → Option Int) (k : K) (c : Int) : K → Option Int := fun x => if x = k then (match M k with | some o => some (min o c) | none => some c) else M x
theorem relax_le {M : K → Option Int} {k : K} {c o : Int} (h : M k = some o) (ho : o ≤ c) : relaxT M k c = M := by
 funext x
 unfold relaxT
 split
 ·rename_i e; subst e; rw [h]; show some (min o c) = some o; congr 1; omega
 ·rfl
theorem relax_gt {M : K → Option Int} {k : K} {c : Int} (h : ∀ o, M k = some o → c < o) : relaxT M k c = fun x => if x = k then some c else M x := by
 funext x
 unfold relaxT
 split
 ·cases e : M k with
  | none => rfl
  | some o => have := h o e; show some (min o c) = some c; congr 1; omega
 ·rfl
theorem holds_relax {M : K → Option Int} {A : K → Int → Prop} (h : Holds M A) (k : K) (c : Int) : Holds (relaxT M k c) (fun x d => A x d ∨ (x = k ∧ d = c)) := fun x => by
 obtain ⟨h1, h2⟩ := h x
 unfold relaxT
 by_cases e : x = k
 ·subst e
  rw [if_pos rfl]
  cases hM : M x with
  | none =>
   refine ⟨fun d hd => ?_, fun hd => by cases hd⟩
   obtain rfl := Option.some.inj hd
   exact ⟨.inr ⟨rfl, rfl⟩, fun c' hc' => hc'.elim (fun hc' => absurd hc' (h2 hM c')) (fun hc' => by omega)⟩
  | some o =>
   obtain ⟨h3, h4⟩ := h1 o hM
   refine ⟨fun d hd => ?_, fun hd => by cases hd⟩
   have hd : min o c = d := Option.some.inj hd
   refine ⟨?_, fun c' hc' => ?_⟩
   ·by_cases ho : o ≤ c
    ·left; rw [show d = o by omega]; exact h3
    ·right; exact ⟨rfl, by omega⟩
   ·rcases hc' with hc' | ⟨_, rfl⟩
    ·have := h4 c' hc'; omega
    ·omega
 ·rw [if_neg e]
  exact ⟨fun d hd => ⟨.inl (h1 d hd).1, fun c' hc' => hc'.elim ((h1 d hd).2 c') (fun hc' => absurd hc'.1 e)⟩, fun hd c' hc' => hc'.elim (h2 hd c') (fun hc' => e hc'.1)⟩
omit [DecidableEq K] in
theorem holds_iff {M : K → Option Int} {A B : K → Int → Prop} (h : Holds M A) (e : ∀ k c, A k c ↔ B k c) : Holds M B := fun k => by
 obtain ⟨h1, h2⟩ := h k
 exact ⟨fun c hc => ⟨(e k c).1 (h1 c hc).1, fun c' hc' => (h1 c hc).2 c' ((e k c').2 hc')⟩, fun hn c hc => h2 hn c ((e k c).2 hc)⟩
omit [DecidableEq K] in
theorem Holds.some_ {M : K → Option Int} {A : K → Int → Prop} (h : Holds M A) {k : K} {c : Int} (ha : A k c) : ∃ d, M k = some d ∧ d ≤ c := by
 cases hM : M k with
 | none => exact absurd ha ((h k).2 hM c)
 | some d => exact ⟨d, rfl, ((h k).1 d hM).2 c ha⟩
def TooMany (n : Nat) (A : K → Int → Prop) : Prop := ∃ l : List K, l.Nodup ∧ n < l.length ∧ ∀ k ∈ l, ∃ c, A k c
theorem nodup_le : ∀ {l m : List K}, l.Nodup → (∀ k ∈ l, k ∈ m) → l.length ≤ m.length
 | [], _, _, _ => Nat.zero_le _
 | a :: l, m, h, hs => by
  obtain ⟨h1, h2⟩ := nodup_cons.1 h
  have h3 := nodup_le (m := m.erase a) h2 fun k hk => (List.mem_erase_of_ne (fun e => h1 (by rw [← e]; exact hk))).2 (hs k (mem_cons_of_mem _ hk))
  rw [length_erase_of_mem (hs a (mem_cons_self ..))] at h3
  have h4 := length_pos_of_mem (hs a (mem_cons_self ..))
  rw [length_cons]
  omega
def KeysOf (M : K → Option Int) (l : List K) : Prop := l.Nodup ∧ ∀ k, k ∈ l ↔ M k ≠ none
theorem keys_tooMany {M : K → Option Int} {A : K → Int → Prop} (h : Holds M A) {l : List K} (hl : KeysOf M l) {n : Nat} : n < l.length ↔ TooMany n A := by
 constructor
 ·intro hn
  refine ⟨l, hl.1, hn, fun k hk => ?_⟩
  cases hM : M k with
  | none => exact absurd hM ((hl.2 k).1 hk)
  | some c => exact ⟨c, ((h k).1 c hM).1⟩
 ·rintro ⟨l', h1, h2, h3⟩
  have : l'.length ≤ l.length := by
   refine nodup_le h1 fun k hk => ?_
   obtain ⟨c, hc⟩ := h3 k hk
   obtain ⟨d, hd, _⟩ := h.some_ hc
   exact (hl.2 k).2 (by rw [hd]; simp)
  omega
end
section
variable {K : Type}
def hopL (S : Sys K) (L : List (K × Int)) : List (K × Int) := L.flatMap fun p => S.rs.filterMap fun r => if r.mute && decide (r.fr = S.mode p.1) then (S.step p.1 r).map fun k => (k, p.2 + r.co) else none
def leapL (S : Sys K) (inp : List UInt8) (i j : Nat) (L : List (K × Int)) : List (K × Int) := L.flatMap fun p => S.rs.filterMap fun r => if !r.mute && decide (r.fr = S.mode p.1) && (bl r.inp).isPrefixOf (inp.drop i) && decide (j = i + r.inp.size) then (S.step p.1 r).map fun k => (k, p.2 + r.co) else none
def arrL (S : Sys K) (st : K) (inp : List UInt8) (P : List (List (K × Int))) (j : Nat) : List (K × Int) := (if j = 0 then [(st, 0)] else []) ++ (range j).flatMap fun i => leapL S inp i j (P.getD i [])
def fullP (S : Sys K) (st : K) (inp : List UInt8) : Nat → List (List (K × Int))
 | 0 => []
 | n + 1 => fullP S st inp n ++ [arrL S st inp (fullP S st inp n) n ++ hopL S (arrL S st inp (fullP S st inp n) n)]
def fullL (S : Sys K) (st : K) (inp : List UInt8) (n : Nat) : List (K × Int) := arrL S st inp (fullP S st inp n) n ++ hopL S (arrL S st inp (fullP S st inp n) n)
variable {S : Sys K} {st : K} {inp : List UInt8}
theorem fullP_len : ∀ n, (fullP S st inp n).length = n
 | 0 => rfl
 | n + 1 => by unfold fullP; rw [length_append, fullP_len n]; rfl
theorem fullP_get : ∀ (n i : Nat), i < n → (fullP S st inp n).getD i [] = fullL S st inp i
 | 0, _, h => by omega
 | n + 1, i, h => by
  unfold fullP
  rw [getD_eq_getElem?_getD]
  rcases Nat.lt_or_ge i n with h1 | h1
  ·rw [getElem?_append_left (by rw [fullP_len]; exact h1), ← getD_eq_getElem?_getD]
   exact fullP_get n i h1
  ·obtain rfl : i = n := by omega
   rw [getElem?_append_right (by rw [fullP_len]; exact Nat.le_refl _), fullP_len, Nat.sub_self]
   rfl
theorem mem_hopL {L : List (K × Int)} {k : K} {c : Int} : (k, c) ∈ hopL S L ↔ Hop S (fun k c => (k, c) ∈ L) k c := by
 unfold hopL Hop
 simp only [mem_flatMap, mem_filterMap]
 constructor
 ·rintro ⟨⟨k0, c0⟩, h1, r, h2, h3⟩
  split at h3
  ·rename_i h4
   rw [Bool.and_eq_true, decide_eq_true_iff] at h4
   obtain ⟨k', h5, h6⟩ := Option.map_eq_some_iff.1 h3
   injection h6 with h6 h7
   subst h6 h7
   exact ⟨k0, c0, r, h1, h2, h4.1, h4.2, h5, rfl⟩
  ·cases h3
 ·rintro ⟨k0, c0, r, h1, h2, h3, h4, h5, rfl⟩
  refine ⟨(k0, c0), h1, r, h2, ?_⟩
  rw [if_pos (by rw [h3, decide_eq_true h4]; rfl), h5]
  rfl
theorem mem_leapL {L : List (K × Int)} {i j : Nat} {k : K} {c : Int} : (k, c) ∈ leapL S inp i j L ↔ Leap S inp (fun k c => (k, c) ∈ L) i j k c := by
 unfold leapL Leap
 simp only [mem_flatMap, mem_filterMap]
 constructor
 ·rintro ⟨⟨k0, c0⟩, h1, r, h2, h3⟩
  split at h3
  ·rename_i h4
   simp only [Bool.and_eq_true, decide_eq_true_iff, Bool.not_eq_true', isPrefixOf_iff_prefix] at h4
   obtain ⟨⟨⟨g1, g2⟩, g3⟩, g4⟩ := h4
   obtain ⟨k', h5, h6⟩ := Option.map_eq_some_iff.1 h3
   injection h6 with h6 h7
   subst h6 h7
   exact ⟨k0, c0, r, h1, h2, g1, g2, g3, g4, h5, rfl⟩
  ·cases h3
 ·rintro ⟨k0, c0, r, h1, h2, h3, h4, h5, h6, h7, rfl⟩
  refine ⟨(k0, c0), h1, r, h2, ?_⟩
  rw [if_pos (by simp only [Bool.and_eq_true, decide_eq_true_iff, Bool.not_eq_true', isPrefixOf_iff_prefix]; exact ⟨⟨⟨h3, h4⟩, h5⟩, h6⟩), h7]
  rfl
theorem hop_congr {A B : K → Int → Prop} (h : ∀ k c, A k c ↔ B k c) {k : K} {c : Int} : Hop S A k c ↔ Hop S B k c :=
 ⟨fun ⟨a, b, r, h1, h2⟩ => ⟨a, b, r, (h _ _).1 h1, h2⟩, fun ⟨a, b, r, h1, h2⟩ => ⟨a, b, r, (h _ _).2 h1, h2⟩⟩
theorem leap_congr {A B : K → Int → Prop} {i j : Nat} (h : ∀ k c, A k c ↔ B k c) {k : K} {c : Int} : Leap S inp A i j k c ↔ Leap S inp B i j k c :=
 ⟨fun ⟨a, b, r, h1, h2⟩ => ⟨a, b, r, (h _ _).1 h1, h2⟩, fun ⟨a, b, r, h1, h2⟩ => ⟨a, b, r, (h _ _).2 h1, h2⟩⟩
theorem mem_arrL {n : Nat} (h : ∀ i, i < n → ∀ k c, (k, c) ∈ fullL S st inp i ↔ Rch S st inp i k c) {k : K} {c : Int} : (k, c) ∈ arrL S st inp (fullP S st inp n) n ↔ Arr S st inp n n k c := by
 unfold arrL Arr
 rw [mem_append, mem_flatMap]
 refine or_congr ?_ ?_
 ·split
  ·rename_i h0
   rw [mem_singleton, Prod.mk.injEq]
   exact ⟨fun ⟨a, b⟩ => ⟨h0, a, b⟩, fun ⟨_, a, b⟩ => ⟨a, b⟩⟩
  ·rename_i h0
   exact ⟨fun h => (nomatch h), fun h => absurd h.1 h0⟩
 ·constructor
  ·rintro ⟨i, hi, h1⟩
   have hi := mem_range.1 hi
   rw [fullP_get n i hi, mem_leapL] at h1
   exact ⟨i, hi, (leap_congr (h i hi)).1 h1⟩
  ·rintro ⟨i, hi, h1⟩
   refine ⟨i, mem_range.2 hi, ?_⟩
   rw [fullP_get n i hi, mem_leapL]
   exact (leap_congr (h i hi)).2 h1
theorem mem_full (hF : Flat S st inp) : ∀ (n : Nat) (k : K) (c : Int), (k, c) ∈ fullL S st inp n ↔ Rch S st inp n k c := by
 intro n
 induction n using Nat.strongRecOn with
 | _ n ih =>
  intro k c
  have hA : ∀ k c, (k, c) ∈ arrL S st inp (fullP S st inp n) n ↔ Arr S st inp n n k c := fun k c => mem_arrL ih
  unfold fullL
  rw [mem_append, mem_hopL, rch_iff hF, hA]
  exact or_congr Iff.rfl (hop_congr hA)
end
inductive Rte (s : Sc) : Int → ByteArray → ByteArray → Int → Prop
 | nil : Rte s 0 ByteArray.empty ByteArray.empty 0
 | snoc {m : Int} {i o : ByteArray} {c : Int} {r : Ru} : Rte s m i o c → r ∈ s.rs → r.fr = m → Rte s r.to (i ++ r.inp) (o ++ r.out) (c + r.co)
def pairS (s : Sc) : Sys (Int × ByteArray) := ⟨s.rs, (·.1), fun k r => some (r.to, k.2 ++ r.out)⟩
def spotS (s : Sc) (out : List UInt8) : Sys (Int × Int) := ⟨s.rs, (·.1), fun k r => if bl r.out <+: out.drop k.2.toNat then some (r.to, k.2 + r.out.size) else none⟩
theorem ba_len (a b : ByteArray) : (a ++ b).size = a.size + b.size := by rw [← bl_len, bl_app, length_append, bl_len, bl_len]
theorem pre_step {l p : List UInt8} {i : Nat} (h : p <+: l.drop i) : l.take (i + p.length) = l.take i ++ p := by
 obtain ⟨t, ht⟩ := h
 rw [take_add, ← ht]
 simp
theorem pair_rte {s : Sc} {inp : List UInt8} {i : Nat} {k : Int × ByteArray} {c : Int} (h : Rch (pairS s) (0, ByteArray.empty) inp i k c) : ∃ t, bl t = inp.take i ∧ Rte s k.1 t k.2 c := by
 induction h with
 | start => exact ⟨ByteArray.empty, by rw [bl_empty, take_zero], .nil⟩
 | @step i k k' c r h1 h2 h3 h4 h5 ih =>
  obtain ⟨t, ht, hr⟩ := ih
  obtain rfl := Option.some.inj h5
  refine ⟨t ++ r.inp, ?_, .snoc hr h2 h3⟩
  rw [bl_app, ht, ← bl_len, pre_step h4]
theorem rte_pair {s : Sc} {inp : List UInt8} {m : Int} {t o : ByteArray} {c : Int} (h : Rte s m t o c) (ht : bl t <+: inp) : Rch (pairS s) (0, ByteArray.empty) inp t.size (m, o) c := by
 induction h with
 | nil => exact .start
 | @snoc m i o c r h1 h2 h3 ih =>
  rw [bl_app] at ht
  have hp : bl i <+: inp := (prefix_append _ _).trans ht
  rw [ba_len]
  refine .step (k := (m, o)) (ih hp) h2 h3 ?_ rfl
  obtain ⟨u, hu⟩ := ht
  exact ⟨u, by rw [← hu, append_assoc, ← bl_len, drop_left]⟩
theorem pair_iff {s : Sc} {inp : ByteArray} {m : Int} {o : ByteArray} {c : Int} : Rch (pairS s) (0, ByteArray.empty) (bl inp) inp.size (m, o) c ↔ Rte s m inp o c := by
 constructor
 ·intro h
  obtain ⟨t, ht, hr⟩ := pair_rte h
  rw [← bl_len, take_length] at ht
  obtain rfl := bl_inj ht
  exact hr
 ·intro h
  exact rte_pair h (prefix_refl _)
theorem spot_rte {s : Sc} {inp : List UInt8} {out : List UInt8} {i : Nat} {k : Int × Int} {c : Int} (h : Rch (spotS s out) (0, 0) inp i k c) : 0 ≤ k.2 ∧ k.2 ≤ out.length ∧ ∃ t o, bl t = inp.take i ∧ bl o = out.take k.2.toNat ∧ Rte s k.1 t o c := by
 induction h with
 | start => exact ⟨Int.le_refl 0, by show (0 : Int) ≤ _; omega, ByteArray.empty, ByteArray.empty, by rw [bl_empty, take_zero], by rw [bl_empty]; rfl, .nil⟩
 | @step i k k' c r h1 h2 h3 h4 h5 ih =>
  obtain ⟨g1, g2, t, o, ht, ho, hr⟩ := ih
  have h5 : (if bl r.out <+: out.drop k.2.toNat then some (r.to, k.2 + r.out.size) else none) = some k' := h5
  split at h5
  ·rename_i hp
   obtain rfl := Option.some.inj h5
   have hl := hp.length_le
   rw [bl_len, length_drop] at hl
   refine ⟨by show 0 ≤ k.2 + (r.out.size : Int); omega, by show k.2 + (r.out.size : Int) ≤ _; omega, t ++ r.inp, o ++ r.out, ?_, ?_, .snoc hr h2 h3⟩
   ·rw [bl_app, ht, ← bl_len, pre_step h4]
   ·rw [bl_app, ho, ← pre_step hp]
    show take _ _ = take (k.2 + (r.out.size : Int)).toNat _
    rw [bl_len]
    congr 1
    omega
  ·cases h5
theorem rte_spot {s : Sc} {inp : List UInt8} {out : List UInt8} {m : Int} {t o : ByteArray} {c : Int} (h : Rte s m t o c) (ht : bl t <+: inp) (ho : bl o <+: out) : Rch (spotS s out) (0, 0) inp t.size (m, (o.size : Int)) c := by
 induction h with
 | nil => exact .start
 | @snoc m i o c r h1 h2 h3 ih =>
  rw [bl_app] at ht ho
  have hp : bl i <+: inp := (prefix_append _ _).trans ht
  have hq : bl o <+: out := (prefix_append _ _).trans ho
  rw [ba_len, ba_len]
  refine .step (k := (m, (o.size : Int))) (ih hp hq) h2 h3 ?_ ?_
  ·obtain ⟨u, hu⟩ := ht
   exact ⟨u, by rw [← hu, append_assoc, ← bl_len, drop_left]⟩
  ·show (if bl r.out <+: out.drop (o.size : Int).toNat then some (r.to, (o.size : Int) + r.out.size) else none) = _
   rw [if_pos]
   ·congr 2
   ·obtain ⟨u, hu⟩ := ho
    rw [Int.toNat_natCast]
    exact ⟨u, by rw [← hu, append_assoc, ← bl_len, drop_left]⟩
theorem spot_iff {s : Sc} {inp out : ByteArray} {m : Int} {c : Int} : Rch (spotS s (bl out)) (0, 0) (bl inp) inp.size (m, (out.size : Int)) c ↔ Rte s m inp out c := by
 constructor
 ·intro h
  obtain ⟨_, _, t, o, ht, ho, hr⟩ := spot_rte h
  rw [← bl_len, take_length] at ht
  have ho : bl o = (bl out).take (out.size : Int).toNat := ho
  rw [Int.toNat_natCast, ← bl_len, take_length] at ho
  obtain rfl := bl_inj ht
  obtain rfl := bl_inj ho
  exact hr
 ·intro h
  exact rte_spot h (prefix_refl _) (prefix_refl _)
theorem rte_cost {s : Sc} (hs : ∀ r ∈ s.rs, 0 ≤ r.co) {m : Int} {i o : ByteArray} {c : Int} (h : Rte s m i o c) : 0 ≤ c := by
 induction h with
 | nil => exact Int.le_refl 0
 | snoc _ h2 _ ih => have := hs _ h2; omega
end Go.Proofs.YtfpnhgahkjglgaaGreat
namespace Go.Proofs.YtfpnhgahkjglgaaGreat
def lgN (n : Nat) : Nat := if n = 0 then 0 else 8 * n.log2 + 8 * (n - 2 ^ n.log2) / 2 ^ n.log2
def lg (n : Int) : Int := (lgN n.toNat : Int)
open Go Go.RowKit
/-! Sums and models. -/
def Within (B : Int) (l : List Int) : Prop := ∀ x ∈ l, -B ≤ x ∧ x ≤ B
/-! Models: what is valid. -/
def ltS (x y : ByteArray) : Bool := Op.bytesLess x.toList y.toList
/-! Which pairs are valid. -/
end Go.Proofs.YtfpnhgahkjglgaaGreat
namespace Go.Proofs.YtfpnhgahkjglgaaGreat
open Go List
theorem ou_trans : ∀ (x y z : List UInt8), Op.bytesLess x y = true → Op.bytesLess y z = true → Op.bytesLess x z = true
 | _, [], _, h, _ => by cases ‹List UInt8› <;> simp [Op.bytesLess] at h
 | [], _ :: _, [], _, h => by simp [Op.bytesLess] at h
 | [], _ :: _, _ :: _, _, _ => by simp [Op.bytesLess]
 | _ :: _, _ :: _, [], _, h => by simp [Op.bytesLess] at h
 | a :: x, b :: y, c :: z, h1, h2 => by
  simp only [Op.bytesLess, Bool.or_eq_true, Bool.and_eq_true, decide_eq_true_eq, beq_iff_eq, UInt8.lt_iff_toNat_lt] at *
  rcases h1 with h1 | ⟨rfl, h1⟩
  ·rcases h2 with h2 | ⟨rfl, _⟩
   ·exact .inl (by omega)
   ·exact .inl h1
  ·rcases h2 with h2 | ⟨rfl, h2⟩
   ·exact .inl h2
   ·exact .inr ⟨rfl, ou_trans x y z h1 h2⟩
theorem ou_tri : ∀ (x y : List UInt8), Op.bytesLess x y = true ∨ x = y ∨ Op.bytesLess y x = true
 | [], [] => .inr (.inl rfl)
 | [], _ :: _ => .inl rfl
 | _ :: _, [] => .inr (.inr rfl)
 | a :: x, b :: y => by
  have h := ou_tri x y
  simp only [Op.bytesLess, Bool.or_eq_true, Bool.and_eq_true, decide_eq_true_eq, beq_iff_eq, UInt8.lt_iff_toNat_lt, List.cons.injEq]
  by_cases e : a = b
  ·subst e
   rcases h with h | h | h
   ·exact .inl (.inr ⟨rfl, h⟩)
   ·exact .inr (.inl ⟨rfl, h⟩)
   ·exact .inr (.inr (.inr ⟨rfl, h⟩))
  ·have : a.toNat ≠ b.toNat := fun h => e (UInt8.toNat_inj.1 h)
   rcases Nat.lt_or_ge a.toNat b.toNat with h1 | h1
   ·exact .inl (.inl h1)
   ·exact .inr (.inr (.inl (by omega)))
theorem ou_irr : ∀ (x : List UInt8), Op.bytesLess x x = false
 | [] => rfl
 | a :: x => by simp [Op.bytesLess, ou_irr x]
theorem toL_inj {x y : ByteArray} (h : x.toList = y.toList) : x = y := by
 rw [Lib.toList_data, Lib.toList_data] at h
 exact bl_inj h
theorem ouS_trans {x y z : ByteArray} (h1 : ltS x y = true) (h2 : ltS y z = true) : ltS x z = true := ou_trans _ _ _ h1 h2
theorem ouS_tri (x y : ByteArray) : ltS x y = true ∨ x = y ∨ ltS y x = true := by
 rcases ou_tri x.toList y.toList with h | h | h
 ·exact .inl h
 ·exact .inr (.inl (toL_inj h))
 ·exact .inr (.inr h)
theorem ouS_irr (x : ByteArray) : ltS x x = false := ou_irr _
structure Rs where
 tx : ByteArray
 co : Int
 deriving DecidableEq
def befR (a b : Rs) : Bool := decide (a.co < b.co) || (decide (a.co = b.co) && ltS a.tx b.tx)
theorem befR_iff {a b : Rs} : befR a b = true ↔ a.co < b.co ∨ a.co = b.co ∧ ltS a.tx b.tx = true := by
 unfold befR
 simp
theorem befR_irr (a : Rs) : befR a a = false := by
 unfold befR
 rw [ouS_irr]
 simp
theorem befR_trans {a b c : Rs} (h1 : befR a b = true) (h2 : befR b c = true) : befR a c = true := by
 rw [befR_iff] at *
 rcases h1 with h1 | ⟨h1, h3⟩
 ·left; rcases h2 with h2 | ⟨h2, _⟩ <;> omega
 ·rcases h2 with h2 | ⟨h2, h4⟩
  ·left; omega
  ·exact .inr ⟨by omega, ouS_trans h3 h4⟩
theorem befR_tri (a b : Rs) : befR a b = true ∨ a = b ∨ befR b a = true := by
 simp only [befR_iff]
 rcases Int.lt_trichotomy a.co b.co with h | h | h
 ·exact .inl (.inl h)
 ·rcases ouS_tri a.tx b.tx with h1 | h1 | h1
  ·exact .inl (.inr ⟨h, h1⟩)
  ·right; left; cases a; cases b; simp only at h h1; subst h h1; rfl
  ·exact .inr (.inr (.inr ⟨h.symm, h1⟩))
 ·exact .inr (.inr (.inl h))
theorem befR_asym {a b : Rs} (h : befR a b = true) : befR b a = false := by
 cases h2 : befR b a with
 | false => rfl
 | true => have := befR_trans h h2; rw [befR_irr] at this; cases this
theorem befR_same {a b : Rs} (h : a.tx = b.tx) : befR a b = decide (a.co < b.co) := by
 unfold befR
 rw [h, ouS_irr]
 simp
structure IsRes (A : ByteArray → Int → Prop) (L : List Rs) : Prop where
 sorted : L.Pairwise (fun a b => befR a b = true)
 texts : L.Pairwise (fun a b => a.tx ≠ b.tx)
 is_ : ∀ y ∈ L, A y.tx y.co
 least : ∀ t c, A t c → ∃ y ∈ L, y.tx = t ∧ y.co ≤ c
theorem texts_eq {L : List Rs} (h : L.Pairwise (fun a b => a.tx ≠ b.tx)) {y z : Rs} (hy : y ∈ L) (hz : z ∈ L) (e : y.tx = z.tx) : y = z := by
 induction L with
 | nil => cases hy
 | cons a l ih =>
  obtain ⟨h1, h2⟩ := pairwise_cons.1 h
  rcases mem_cons.1 hy with rfl | hy'
  ·rcases mem_cons.1 hz with rfl | hz'
   ·rfl
   ·exact absurd e (h1 _ hz')
  ·rcases mem_cons.1 hz with rfl | hz'
   ·exact absurd e.symm (h1 _ hy')
   ·exact ih h2 hy' hz'
theorem IsRes.mem {A : ByteArray → Int → Prop} {L : List Rs} (h : IsRes A L) {y : Rs} : y ∈ L ↔ A y.tx y.co ∧ ∀ c, A y.tx c → y.co ≤ c := by
 constructor
 ·intro hy
  refine ⟨h.is_ y hy, fun c hc => ?_⟩
  obtain ⟨z, hz, h1, h2⟩ := h.least _ _ hc
  obtain rfl := texts_eq h.texts hz hy h1
  exact h2
 ·rintro ⟨h1, h2⟩
  obtain ⟨z, hz, h3, h4⟩ := h.least _ _ h1
  have h5 := h2 z.co (by rw [← h3]; exact h.is_ z hz)
  have : y = z := by cases y; cases z; simp only at h3 h4 h5; subst h3; congr 1; omega
  rw [this]
  exact hz
theorem sorted_nodup {L : List Rs} (h : L.Pairwise (fun a b => befR a b = true)) : L.Nodup := h.imp fun {a b} h e => by subst e; rw [befR_irr] at h; cases h
theorem sorted_unique {L M : List Rs} (h1 : L.Pairwise (fun a b => befR a b = true)) (h2 : M.Pairwise (fun a b => befR a b = true)) (h : ∀ y, y ∈ L ↔ y ∈ M) : L = M :=
 ((perm_ext_iff_of_nodup (sorted_nodup h1) (sorted_nodup h2)).2 h).eq_of_pairwise (fun a b _ _ h3 h4 => by rw [befR_asym h3] at h4; cases h4) h1 h2
theorem IsRes.unique {A : ByteArray → Int → Prop} {L M : List Rs} (h1 : IsRes A L) (h2 : IsRes A M) : L = M :=
 sorted_unique h1.sorted h2.sorted fun y => by rw [h1.mem, h2.mem]
theorem IsRes.congr {A B : ByteArray → Int → Prop} {L : List Rs} (h : IsRes A L) (h1 : ∀ t c, A t c → B t c) (h2 : ∀ t c, B t c → ∃ d, A t d ∧ d ≤ c) : IsRes B L :=
 ⟨h.sorted, h.texts, fun y hy => h1 _ _ (h.is_ y hy), fun t c hc => by
  obtain ⟨d, hd, hdc⟩ := h2 t c hc
  obtain ⟨y, hy, h3, h4⟩ := h.least t d hd
  exact ⟨y, hy, h3, by omega⟩⟩
def insR (L : List Rs) (x : Rs) : List Rs :=
 if L.any (fun y => decide (y.tx = x.tx) && !befR x y) then L else (L.filter fun y => !befR x y && !decide (y.tx = x.tx)) ++ x :: (L.filter fun y => befR x y && !decide (y.tx = x.tx))
theorem isRes_ins {A : ByteArray → Int → Prop} {L : List Rs} (h : IsRes A L) (x : Rs) : IsRes (fun t c => A t c ∨ (t = x.tx ∧ c = x.co)) (insR L x) := by
 unfold insR
 split
 ·rename_i h1
  obtain ⟨y, hy, h2⟩ := any_eq_true.1 h1
  rw [Bool.and_eq_true, decide_eq_true_iff, Bool.not_eq_true'] at h2
  obtain ⟨h2, h3⟩ := h2
  rw [befR_same h2.symm, decide_eq_false_iff_not] at h3
  refine ⟨h.sorted, h.texts, fun z hz => .inl (h.is_ z hz), fun t c hc => ?_⟩
  rcases hc with hc | ⟨rfl, rfl⟩
  ·exact h.least t c hc
  ·exact ⟨y, hy, h2, by omega⟩
 ·rename_i h1
  have h2 : ∀ y ∈ L, y.tx = x.tx → x.co < y.co := fun y hy e => by
   have := fun h3 => h1 (any_eq_true.2 ⟨y, hy, h3⟩)
   rw [decide_eq_true e, befR_same e.symm] at this
   simpa using this
  have hx1 : ∀ y ∈ L, (befR x y && !decide (y.tx = x.tx)) = true → befR x y = true ∧ y.tx ≠ x.tx := fun y _ h => by simpa using h
  have hx2 : ∀ y ∈ L, (!befR x y && !decide (y.tx = x.tx)) = true → befR y x = true ∧ y.tx ≠ x.tx := fun y _ h => by
   rw [Bool.and_eq_true, Bool.not_eq_true', Bool.not_eq_true', decide_eq_false_iff_not] at h
   obtain ⟨h3, h4⟩ := h
   rcases befR_tri x y with h5 | h5 | h5
   ·rw [h3] at h5; cases h5
   ·exact absurd (by rw [h5]) h4
   ·exact ⟨h5, h4⟩
  refine ⟨?_, ?_, fun y hy => ?_, fun t c hc => ?_⟩
  ·refine pairwise_append.2 ⟨h.sorted.filter _, pairwise_cons.2 ⟨fun y hy => ?_, h.sorted.filter _⟩, fun a ha b hb => ?_⟩
   ·obtain ⟨h3, h4⟩ := mem_filter.1 hy
    exact (hx1 y h3 h4).1
   ·obtain ⟨h3, h4⟩ := mem_filter.1 ha
    have h5 := (hx2 a h3 h4).1
    rcases mem_cons.1 hb with rfl | hb
    ·exact h5
    ·obtain ⟨h6, h7⟩ := mem_filter.1 hb
     exact befR_trans h5 (hx1 b h6 h7).1
  ·have hd : ∀ a ∈ L.filter (fun y => !befR x y && !decide (y.tx = x.tx)), ∀ b ∈ L.filter (fun y => befR x y && !decide (y.tx = x.tx)), a.tx ≠ b.tx := fun a ha b hb e => by
    obtain ⟨h3, h4⟩ := mem_filter.1 ha
    obtain ⟨h6, h7⟩ := mem_filter.1 hb
    obtain rfl := texts_eq h.texts h3 h6 e
    have h8 := (hx1 a h6 h7).1
    rw [befR_asym (hx2 a h3 h4).1] at h8
    cases h8
   refine pairwise_append.2 ⟨h.texts.filter _, pairwise_cons.2 ⟨fun y hy => ?_, h.texts.filter _⟩, fun a ha b hb => ?_⟩
   ·obtain ⟨h3, h4⟩ := mem_filter.1 hy
    exact (hx1 y h3 h4).2.symm
   ·rcases mem_cons.1 hb with rfl | hb
    ·obtain ⟨h3, h4⟩ := mem_filter.1 ha
     exact (hx2 a h3 h4).2
    ·exact hd a ha b hb
  ·rcases mem_append.1 hy with hy | hy
   ·exact .inl (h.is_ y (mem_filter.1 hy).1)
   ·rcases mem_cons.1 hy with rfl | hy
    ·exact .inr ⟨rfl, rfl⟩
    ·exact .inl (h.is_ y (mem_filter.1 hy).1)
  ·rcases hc with hc | ⟨rfl, rfl⟩
   ·obtain ⟨y, hy, h3, h4⟩ := h.least t c hc
    by_cases e : y.tx = x.tx
    ·have := h2 y hy e
     exact ⟨x, by simp, by rw [← h3, e], by omega⟩
    ·refine ⟨y, mem_append.2 ?_, h3, h4⟩
     cases hb : befR x y with
     | true => exact .inr (mem_cons_of_mem _ (mem_filter.2 ⟨hy, by simp [hb, e]⟩))
     | false => exact .inl (mem_filter.2 ⟨hy, by simp [hb, e]⟩)
   ·exact ⟨x, by simp, rfl, Int.le_refl _⟩
def resL (l : List Rs) : List Rs := l.foldl insR []
theorem isRes_nil : IsRes (fun _ _ => False) [] := ⟨Pairwise.nil, Pairwise.nil, fun _ h => (nomatch h), fun _ _ h => h.elim⟩
theorem isRes_resL (l : List Rs) : IsRes (fun t c => ⟨t, c⟩ ∈ l) (resL l) := by
 have key : ∀ (l : List Rs) (A : ByteArray → Int → Prop) (L : List Rs), IsRes A L → IsRes (fun t c => A t c ∨ ⟨t, c⟩ ∈ l) (l.foldl insR L) := by
  intro l
  induction l with
  | nil => intro A L h; exact h.congr (fun t c hc => .inl hc) (fun t c hc => ⟨c, hc.elim id (fun h => nomatch h), Int.le_refl _⟩)
  | cons x l ih =>
   intro A L h
   refine (ih _ _ (isRes_ins h x)).congr (fun t c hc => ?_) (fun t c hc => ⟨c, ?_, Int.le_refl _⟩)
   ·rcases hc with (hc | ⟨rfl, rfl⟩) | hc
    ·exact .inl hc
    ·exact .inr (mem_cons_self ..)
    ·exact .inr (mem_cons_of_mem _ hc)
   ·rcases hc with hc | hc
    ·exact .inl (.inl hc)
    ·rcases mem_cons.1 hc with rfl | hc
     ·exact .inl (.inr ⟨rfl, rfl⟩)
     ·exact .inr hc
 exact (key l _ _ isRes_nil).congr (fun t c hc => hc.elim (fun h => h.elim) id) (fun t c hc => ⟨c, .inr hc, Int.le_refl _⟩)
end Go.Proofs.YtfpnhgahkjglgaaGreat
namespace Go.Proofs.YtfpnhgahkjglgaaGreat
open List
inductive Pth (E : List (Int × Int)) (F : Int → Prop) : Int → Prop
 | base {a : Int} : F a → Pth E F a
 | step {e : Int × Int} : Pth E F e.1 → e ∈ E → Pth E F e.2
def addB (f : Int → Bool) (m : Int) : Int → Bool := fun x => decide (x = m) || f x
def hopB (f : Int → Bool) (e : Int × Int) : Int → Bool := if f e.1 = true then addB f e.2 else f
def cloB (E : List (Int × Int)) (f : Int → Bool) : Int → Bool := E.foldl hopB f
def cloN (E : List (Int × Int)) (f : Int → Bool) : Nat → Int → Bool
 | 0 => f
 | k + 1 => cloB E (cloN E f k)
theorem hopB_mono {f : Int → Bool} {e : Int × Int} {x : Int} (h : f x = true) : hopB f e x = true := by
 unfold hopB
 split
 ·unfold addB; rw [h, Bool.or_true]
 ·exact h
theorem fold_mono : ∀ {E : List (Int × Int)} {f : Int → Bool} {x : Int}, f x = true → E.foldl hopB f x = true
 | [], _, _, h => h
 | _ :: E, _, _, h => fold_mono (E := E) (hopB_mono h)
theorem fold_in : ∀ {E : List (Int × Int)} {f : Int → Bool} {e : Int × Int}, e ∈ E → f e.1 = true → E.foldl hopB f e.2 = true
 | [], _, _, h, _ => by cases h
 | a :: E, f, e, h, hf => by
  rcases mem_cons.1 h with rfl | h
  ·refine fold_mono (E := E) ?_
   unfold hopB
   rw [if_pos hf]
   unfold addB
   simp
  ·exact fold_in (E := E) h (hopB_mono hf)
theorem fold_pth {F : Int → Prop} {E0 : List (Int × Int)} : ∀ {E : List (Int × Int)} {f : Int → Bool}, (∀ e ∈ E, e ∈ E0) → (∀ x, f x = true → Pth E0 F x) → ∀ x, E.foldl hopB f x = true → Pth E0 F x
 | [], _, _, hf, x, h => hf x h
 | a :: E, f, hE, hf, x, h => by
  refine fold_pth (E := E) (f := hopB f a) (fun e he => hE e (mem_cons_of_mem _ he)) (fun y hy => ?_) x h
  unfold hopB at hy
  split at hy
  ·rename_i h1
   unfold addB at hy
   rw [Bool.or_eq_true, decide_eq_true_iff] at hy
   rcases hy with rfl | hy
   ·exact .step (hf _ h1) (hE a (mem_cons_self ..))
   ·exact hf y hy
  ·exact hf y hy
theorem cloN_pth {E : List (Int × Int)} {f : Int → Bool} : ∀ (k : Nat) (x : Int), cloN E f k x = true → Pth E (fun a => f a = true) x
 | 0, _, h => .base h
 | k + 1, x, h => fold_pth (E := E) (fun _ h => h) (cloN_pth k) x h
theorem cloN_mono {E : List (Int × Int)} {f : Int → Bool} {x : Int} (k : Nat) (h : cloN E f k x = true) : cloN E f (k + 1) x = true := fold_mono h
def cntB (n : Nat) (f : Int → Bool) : Nat := (range n).countP fun i : Nat => f (i : Int)
theorem cnt_lt {n : Nat} {f g : Int → Bool} (h : ∀ x, f x = true → g x = true) {m : Int} (hm : 0 ≤ m ∧ m < (n : Int)) (h1 : f m = false) (h2 : g m = true) : cntB n f < cntB n g := by
 induction n with
 | zero => omega
 | succ n ih =>
  unfold cntB at *
  rw [range_succ, countP_append, countP_append]
  by_cases e : m = (n : Int)
  ·subst e
   have := countP_mono_left (l := range n) (p := fun i : Nat => f (i : Int)) (q := fun i : Nat => g (i : Int)) fun _ _ hi => h _ hi
   simp only [countP_cons, countP_nil, h1, h2]
   simp
   omega
  ·have := ih (by omega)
   have h3 := countP_mono_left (l := [n]) (p := fun i : Nat => f (i : Int)) (q := fun i : Nat => g (i : Int)) fun _ _ hi => h _ hi
   omega
def Shut_ (E : List (Int × Int)) (f : Int → Bool) : Prop := ∀ e ∈ E, f e.1 = true → f e.2 = true
theorem shut_pth {E : List (Int × Int)} {f : Int → Bool} (h : Shut_ E f) {F : Int → Prop} (hF : ∀ x, F x → f x = true) {x : Int} (hx : Pth E F x) : f x = true := by
 induction hx with
 | base h => exact hF _ h
 | step _ h2 ih => exact h _ h2 ih
theorem clo_grow {E : List (Int × Int)} {f : Int → Bool} {n : Nat} (hE : ∀ e ∈ E, 0 ≤ e.2 ∧ e.2 < (n : Int)) : ∀ k, Shut_ E (cloN E f k) ∨ k + cntB n f ≤ cntB n (cloN E f k)
 | 0 => .inr (by rw [Nat.zero_add]; exact Nat.le_refl _)
 | k + 1 => by
  rcases Classical.em (Shut_ E (cloN E f k)) with h | h
  ·left
   have key : ∀ (D : List (Int × Int)) (g : Int → Bool), (∀ e ∈ D, e ∈ E) → Shut_ E g → ∀ x, D.foldl hopB g x = g x := by
    intro D
    induction D with
    | nil => intro g _ _ x; rfl
    | cons a D ih =>
     intro g hD hg x
     have e : hopB g a = g := by
      funext y
      unfold hopB
      split
      ·rename_i h1
       unfold addB
       by_cases e : y = a.2
       ·subst e; rw [hg a (hD a (mem_cons_self ..)) h1]; simp
       ·simp [e]
      ·rfl
     rw [foldl_cons, e]
     exact ih g (fun e he => hD e (mem_cons_of_mem _ he)) hg x
   have e : cloN E f (k + 1) = cloN E f k := funext fun x => key E _ (fun _ h => h) h x
   rw [e]
   exact h
  ·right
   have ⟨e, he, h1, h2⟩ : ∃ e, e ∈ E ∧ cloN E f k e.1 = true ∧ ¬ cloN E f k e.2 = true := by
    refine Classical.byContradiction fun hn => h fun e he h1 => Classical.byContradiction fun h2 => hn ⟨e, he, h1, h2⟩
   rcases clo_grow hE k with hk | hk
   ·exact absurd (hk e he h1) h2
   ·have := cnt_lt (f := cloN E f k) (g := cloN E f (k + 1)) (fun x hx => cloN_mono k hx) (hE e he) (by simpa using h2) (fold_in he h1)
    omega
theorem cnt_bound (n : Nat) (f : Int → Bool) : cntB n f ≤ n := by
 have := countP_le_length (l := range n) (p := fun i : Nat => f (i : Int))
 rw [length_range] at this
 exact this
theorem cnt_full {n : Nat} {f : Int → Bool} (h : n ≤ cntB n f) {m : Int} (hm : 0 ≤ m ∧ m < (n : Int)) : f m = true := by
 cases hf : f m with
 | true => rfl
 | false =>
  have h1 := cnt_lt (n := n) (f := f) (g := fun _ => true) (fun _ _ => rfl) hm hf rfl
  have h2 := cnt_bound n (fun _ => true)
  omega
theorem cloN_iff {E : List (Int × Int)} {f : Int → Bool} {n : Nat} (hE : ∀ e ∈ E, 0 ≤ e.2 ∧ e.2 < (n : Int)) {x : Int} : cloN E f n x = true ↔ Pth E (fun a => f a = true) x := by
 refine ⟨cloN_pth n x, fun h => ?_⟩
 have hbase : ∀ k y, f y = true → cloN E f k y = true := by
  intro k
  induction k with
  | zero => exact fun y hy => hy
  | succ k ih => exact fun y hy => cloN_mono k (ih y hy)
 rcases clo_grow (f := f) hE n with h1 | h1
 ·exact shut_pth h1 (hbase n) h
 ·have hsh : Shut_ E (cloN E f n) := fun e he _ => cnt_full (by omega) (hE e he)
  exact shut_pth hsh (hbase n) h
def accB (acc : Int) (m : Int) : Bool := decide (0 ≤ m) && acc.toNat.testBit m.toNat
def Sc.edges (s : Sc) : List (Int × Int) := s.rs.map fun r => (r.fr, r.to)
def Sc.backs (s : Sc) : List (Int × Int) := s.rs.map fun r => (r.to, r.fr)
def RM (s : Sc) (m : Int) : Prop := Pth s.edges (fun a => a = 0) m
def LV (s : Sc) (m : Int) : Prop := Pth s.backs (fun a => accB s.acc a = true) m
inductive Mt (s : Sc) (a : Int) : Int → Prop
 | one {r : Ru} : r ∈ s.rs → r.mute = true → r.fr = a → Mt s a r.to
 | more {b : Int} {r : Ru} : Mt s a b → r ∈ s.rs → r.mute = true → r.fr = b → Mt s a r.to
theorem rm_step {s : Sc} {r : Ru} (h : RM s r.fr) (hr : r ∈ s.rs) : RM s r.to := Pth.step (e := (r.fr, r.to)) h (mem_map.2 ⟨r, hr, rfl⟩)
theorem lv_step {s : Sc} {r : Ru} (h : LV s r.to) (hr : r ∈ s.rs) : LV s r.fr := Pth.step (e := (r.to, r.fr)) h (mem_map.2 ⟨r, hr, rfl⟩)
theorem lv_of_path {s : Sc} {m k : Int} (h : Pth s.edges (fun a => a = m) k) (hk : LV s k) : LV s m := by
 induction h with
 | base h => rw [h] at hk; exact hk
 | @step e _ h2 ih =>
  obtain ⟨r, hr, rfl⟩ := mem_map.1 h2
  exact ih (lv_step hk hr)
theorem path_cons {s : Sc} {r : Ru} (hr : r ∈ s.rs) {k : Int} (h : Pth s.edges (fun a => a = r.to) k) : Pth s.edges (fun a => a = r.fr) k := by
 induction h with
 | base h => rw [h]; exact Pth.step (e := (r.fr, r.to)) (.base rfl) (mem_map.2 ⟨r, hr, rfl⟩)
 | step _ h2 ih => exact .step ih h2
theorem lv_iff {s : Sc} {m : Int} : LV s m ↔ ∃ k, Pth s.edges (fun a => a = m) k ∧ accB s.acc k = true := by
 constructor
 ·intro h
  unfold LV at h
  induction h with
  | @base a h => exact ⟨a, .base rfl, h⟩
  | @step e _ h2 ih =>
   obtain ⟨r, hr, rfl⟩ := mem_map.1 h2
   obtain ⟨k, h3, h4⟩ := ih
   exact ⟨k, path_cons hr h3, h4⟩
 ·rintro ⟨k, h1, h2⟩
  exact lv_of_path h1 (.base h2)
structure SoundP (s : Sc) : Prop where
 live : LV s 0
 stuck : ∀ m, RM s m → LV s m
 endl : ∀ m, RM s m → LV s m → ¬ Mt s m m
section
variable {K : Type} {S : Sys K} {st : K} {inp : List UInt8} {s : Sc}
def Goes_ (S : Sys K) : Prop := ∀ k r k', S.step k r = some k' → S.mode k' = r.to
theorem rch_rm (hs : S.rs = s.rs) (hg : Goes_ S) (h0 : S.mode st = 0) {i : Nat} {k : K} {c : Int} (h : Rch S st inp i k c) : RM s (S.mode k) := by
 induction h with
 | start => rw [h0]; exact .base rfl
 | step _ h2 h3 _ h5 ih => rw [hg _ _ _ h5]; exact rm_step (by rw [h3]; exact ih) (by rw [← hs]; exact h2)
theorem flat_of (hs : S.rs = s.rs) (hg : Goes_ S) (h0 : S.mode st = 0) (hF : ∀ r r', r ∈ s.rs → r' ∈ s.rs → r.mute = true → r'.mute = true → RM s r.fr → r'.fr ≠ r.to) : Flat S st inp := fun i k c r k' r' h1 h2 h3 h4 h5 h6 h7 h8 => by
 rw [hs] at h2 h6
 exact hF r r' h2 h6 h3 h7 (by rw [h4]; exact rch_rm hs hg h0 h1) (by rw [h8, hg _ _ _ h5])
theorem flat_two (h : SoundP s) (hn : s.n ≤ 2) (hr : ∀ r ∈ s.rs, (0 ≤ r.fr ∧ r.fr < s.n) ∧ 0 ≤ r.to ∧ r.to < s.n) : ∀ r r', r ∈ s.rs → r' ∈ s.rs → r.mute = true → r'.mute = true → RM s r.fr → r'.fr ≠ r.to := fun r r' h1 h2 h3 h4 h5 h6 => by
 have a := hr r h1
 have b := hr r' h2
 have no := fun m hm => h.endl m hm (h.stuck m hm)
 have hto := rm_step h5 h1
 have m1 := Mt.one h1 h3 rfl
 have m2 := Mt.more m1 h2 h4 h6
 by_cases e1 : r.to = r.fr
 ·rw [e1] at m1; exact no _ h5 m1
 ·by_cases e2 : r'.to = r'.fr
  ·have m3 : Mt s r'.fr r'.to := Mt.one h2 h4 rfl
   rw [e2] at m3
   exact no _ (by rw [h6]; exact hto) m3
  ·have : r'.to = r.fr := by omega
   rw [this] at m2
   exact no _ h5 m2
end
end Go.Proofs.YtfpnhgahkjglgaaGreat
