/-
  SiSch, SiLaw, OuRun, OuTab, OuOut, joined. No conditions.
-/
import Derived.Test.YtfpnhgahkjglgaaGreatF02
import Derived.Maps.RangeWalk
import Derived.Maps.Ext
namespace Go.Proofs.YtfpnhgahkjglgaaGreat
open List
abbrev Pl := Int × List UInt8
def schA (s : Sc) : Aut Pl := ⟨(0, []), fun p x q => p.2 = [] ∧ ∃ r ∈ s.rs, r.fr = p.1 ∧ x = bl r.out ∧ q = (r.to, bl r.inp), fun p c x q => x = [] ∧ p.2 = c :: q.2 ∧ q.1 = p.1, fun p => decide (p.2 = []) && accB s.acc p.1⟩
def ba (l : List UInt8) : ByteArray := ⟨⟨l⟩⟩
theorem bl_ba (l : List UInt8) : bl (ba l) = l := rfl
theorem ba_bl (s : ByteArray) : ba (bl s) = s := bl_inj rfl
theorem prt_takes {s : Sc} {m : Int} {o : List UInt8} : ∀ (l : List UInt8) {u : List UInt8}, Prt (schA s) u (m, l) o → Prt (schA s) (u ++ l) (m, []) o
 | [], u, h => by rw [append_nil]; exact h
 | c :: l, u, h => by
  have h1 := Prt.take (c := c) (x := []) (q := (m, l)) h ⟨rfl, rfl, rfl⟩
  rw [append_nil] at h1
  have := prt_takes l h1
  rwa [append_assoc] at this
theorem prt_of_rte {s : Sc} {m : Int} {i o : ByteArray} {c : Int} (h : Rte s m i o c) : Prt (schA s) (bl i) (m, []) (bl o) := by
 induction h with
 | nil => exact .start
 | snoc _ h2 h3 ih =>
  rw [bl_app, bl_app]
  exact prt_takes _ (.opn ih ⟨rfl, _, h2, h3, rfl, rfl⟩)
theorem rte_of_prt {s : Sc} {u o : List UInt8} {p : Pl} (h : Prt (schA s) u p o) : ∃ c, Rte s p.1 (ba (u ++ p.2)) (ba o) c := by
 induction h with
 | start => exact ⟨0, .nil⟩
 | @opn u o x p q _ h2 ih =>
  obtain ⟨c, ih⟩ := ih
  obtain ⟨h1, r, h3, h4, rfl, rfl⟩ := h2
  have h5 := Rte.snoc ih h3 h4
  have e1 : ba (u ++ p.2) ++ r.inp = ba (u ++ bl r.inp) := bl_inj (by rw [bl_app, bl_ba, bl_ba, h1, append_nil])
  have e2 : ba o ++ r.out = ba (o ++ bl r.out) := bl_inj (by rw [bl_app, bl_ba, bl_ba])
  rw [e1, e2] at h5
  exact ⟨_, h5⟩
 | @take u o x p q c _ h2 ih =>
  obtain ⟨d, ih⟩ := ih
  obtain ⟨rfl, h3, h4⟩ := h2
  refine ⟨d, ?_⟩
  rw [append_nil, h4, append_assoc]
  rw [h3] at ih
  exact ih
theorem isOut_iff {s : Sc} {inp out : ByteArray} : IsOut (schA s) (bl inp) (bl out) ↔ ∃ c, Whole s inp out c := by
 constructor
 ·rintro ⟨⟨m, l⟩, h1, h2⟩
  obtain ⟨c, h3⟩ := rte_of_prt h2
  have h1 : (decide (l = []) && accB s.acc m) = true := h1
  rw [Bool.and_eq_true, decide_eq_true_iff] at h1
  obtain ⟨rfl, h1⟩ := h1
  simp only [append_nil, ba_bl] at h3
  exact ⟨c, m, h1, h3⟩
 ·rintro ⟨c, m, h1, h2⟩
  exact ⟨(m, []), by show (decide (([] : List UInt8) = []) && accB s.acc m) = true; simp [h1], prt_of_rte h2⟩
theorem twice_iff {s : Sc} {inp : ByteArray} : Twice (schA s) (bl inp) ↔ ∃ x y c d, Whole s inp x c ∧ Whole s inp y d ∧ x ≠ y := by
 constructor
 ·rintro ⟨x, y, h1, h2, h3⟩
  obtain ⟨c, hc⟩ := isOut_iff.1 (show IsOut (schA s) (bl inp) (bl (ba x)) from h1)
  obtain ⟨d, hd⟩ := isOut_iff.1 (show IsOut (schA s) (bl inp) (bl (ba y)) from h2)
  exact ⟨ba x, ba y, c, d, hc, hd, fun e => h3 (by have := congrArg bl e; exact this)⟩
 ·rintro ⟨x, y, c, d, h1, h2, h3⟩
  exact ⟨bl x, bl y, isOut_iff.2 ⟨c, h1⟩, isOut_iff.2 ⟨d, h2⟩, fun e => h3 (bl_inj e)⟩
theorem prt_more {s : Sc} {u o : List UInt8} {p : Pl} (h : Prt (schA s) u p o) : p.2 = [] ∨ ∃ r ∈ s.rs, ∃ k, p.2 = (bl r.inp).drop k := by
 induction h with
 | start => exact .inl rfl
 | opn _ h2 _ =>
  obtain ⟨_, r, h3, _, _, rfl⟩ := h2
  exact .inr ⟨r, h3, 0, rfl⟩
 | @take u o x p q c _ h2 ih =>
  obtain ⟨_, h3, _⟩ := h2
  rcases ih with ih | ⟨r, hr, k, hk⟩
  ·rw [ih] at h3; cases h3
  ·refine .inr ⟨r, hr, k + 1, ?_⟩
   rw [← tail_drop, ← hk, h3]
   rfl
theorem small_sch {s : Sc} (hL : ∀ r ∈ s.rs, ∀ a ∈ bl r.inp, 97 ≤ a.toNat ∧ a.toNat ≤ 122) : SmallA (schA s) := fun u p o c x q hp hl => by
 obtain ⟨_, h3, _⟩ := hl
 rcases prt_more hp with h | ⟨r, hr, k, hk⟩
 ·rw [h] at h3; cases h3
 ·refine hL r hr c (mem_of_mem_drop (i := k) ?_)
  rw [← hk, h3]
  exact mem_cons_self ..
theorem twice_best {s : Sc} {inp : ByteArray} (hF : FlatS s inp) : Twice (schA s) (bl inp) ↔ 2 ≤ (bestL s inp).length := by
 have hI := best_is hF
 rw [twice_iff]
 constructor
 ·rintro ⟨x, y, c, d, h1, h2, h3⟩
  obtain ⟨a, ha, ha1, _⟩ := hI.least _ _ h1
  obtain ⟨b, hb, hb1, _⟩ := hI.least _ _ h2
  cases hL : bestL s inp with
  | nil => rw [hL] at ha; cases ha
  | cons e l => cases l with
   | nil =>
    rw [hL] at ha hb
    have e1 := mem_singleton.1 ha
    have e2 := mem_singleton.1 hb
    exact absurd (by rw [← ha1, ← hb1, e1, e2]) h3
   | cons f l => simp only [length_cons]; omega
 ·intro h
  have ht := hI.texts
  have hm := hI.is_
  cases hL : bestL s inp with
  | nil => rw [hL] at h; simp at h
  | cons e l => cases l with
   | nil => rw [hL] at h; simp at h
   | cons f l =>
    rw [hL] at ht hm
    exact ⟨e.tx, f.tx, e.co, f.co, hm e (by simp), hm f (by simp), (pairwise_cons.1 ht).1 f (by simp)⟩
def FirstTo (s : Sc) : Option (List UInt8) → Prop
 | some u => IsFirst (schA s) u ∧ u.length ≤ 40
 | none => ∀ U, U.length ≤ 40 → ¬ Twice (schA s) U
theorem firstTo_unique {s : Sc} : ∀ {a b : Option (List UInt8)}, FirstTo s a → FirstTo s b → a = b
 | some _, some _, h1, h2 => by rw [isFirst_unique h1.1 h2.1]
 | none, none, _, _ => rfl
 | some _, none, h1, h2 => absurd h1.1.1 (h2 _ h1.2)
 | none, some _, h1, h2 => absurd h2.1.1 (h1 _ h2.2)
/-! With a rule more that puts out something else there are two outputs. -/
section
variable {K : Type} {S : Sys K} {st : K} {inp : List UInt8}
def Low (M : K → Option Int) (k : K) (c : Int) : Prop := M k = some c
theorem low_hop {M M' : K → Option Int} {A : K → Int → Prop} (h : Holds M A) (h' : Holds M' (fun k c => Low M k c ∨ Hop S (Low M) k c)) : Holds M' (fun k c => A k c ∨ Hop S A k c) := fun k => by
 obtain ⟨h1, h2⟩ := h' k
 have hop : ∀ c, Hop S A k c → ∃ d, Hop S (Low M) k d ∧ d ≤ c := by
  rintro c ⟨k0, c0, r, g1, g2, g3, g4, g5, rfl⟩
  obtain ⟨d, hd, hdc⟩ := h.some_ g1
  exact ⟨d + r.co, ⟨k0, d, r, hd, g2, g3, g4, g5, rfl⟩, by omega⟩
 have hop2 : ∀ c, Hop S (Low M) k c → Hop S A k c := by
  rintro c ⟨k0, c0, r, g1, g2⟩
  exact ⟨k0, c0, r, ((h k0).1 c0 g1).1, g2⟩
 refine ⟨fun c hc => ?_, fun hn c hc => ?_⟩
 ·obtain ⟨h3, h4⟩ := h1 c hc
  refine ⟨h3.imp (fun h3 => ((h k).1 c h3).1) (hop2 c), fun c' hc' => ?_⟩
  rcases hc' with hc' | hc'
  ·obtain ⟨d, hd, hdc⟩ := h.some_ hc'
   have := h4 d (.inl hd)
   omega
  ·obtain ⟨d, hd, hdc⟩ := hop c' hc'
   have := h4 d (.inr hd)
   omega
 ·rcases hc with hc | hc
  ·obtain ⟨d, hd, _⟩ := h.some_ hc
   exact h2 hn d (.inl hd)
  ·obtain ⟨d, hd, _⟩ := hop c hc
   exact h2 hn d (.inr hd)
theorem low_leap {M M' : K → Option Int} {A B : K → Int → Prop} {i j : Nat} (h : Holds M A) (h' : Holds M' (fun k c => B k c ∨ Leap S inp (Low M) i j k c)) : Holds M' (fun k c => B k c ∨ Leap S inp A i j k c) := fun k => by
 obtain ⟨h1, h2⟩ := h' k
 have hop : ∀ c, Leap S inp A i j k c → ∃ d, Leap S inp (Low M) i j k d ∧ d ≤ c := by
  rintro c ⟨k0, c0, r, g1, g2, g3, g4, g5, g6, g7, rfl⟩
  obtain ⟨d, hd, hdc⟩ := h.some_ g1
  exact ⟨d + r.co, ⟨k0, d, r, hd, g2, g3, g4, g5, g6, g7, rfl⟩, by omega⟩
 have hop2 : ∀ c, Leap S inp (Low M) i j k c → Leap S inp A i j k c := by
  rintro c ⟨k0, c0, r, g1, g2⟩
  exact ⟨k0, c0, r, ((h k0).1 c0 g1).1, g2⟩
 refine ⟨fun c hc => ?_, fun hn c hc => ?_⟩
 ·obtain ⟨h3, h4⟩ := h1 c hc
  refine ⟨h3.imp id (hop2 c), fun c' hc' => ?_⟩
  rcases hc' with hc' | hc'
  ·exact h4 c' (.inl hc')
  ·obtain ⟨d, hd, hdc⟩ := hop c' hc'
   have := h4 d (.inr hd)
   omega
 ·rcases hc with hc | hc
  ·exact h2 hn c (.inl hc)
  ·obtain ⟨d, hd, _⟩ := hop c hc
   exact h2 hn d (.inr hd)
theorem settled (hF : Flat S st inp) {M M' : K → Option Int} {i : Nat} (h : Holds M (Arr S st inp i i)) (h' : Holds M' (fun k c => Low M k c ∨ Hop S (Low M) k c)) : Holds M' (Rch S st inp i) :=
 holds_iff (low_hop h h') fun _ _ => (rch_iff hF).symm
theorem leapt {M M' : K → Option Int} {i j : Nat} (h : Holds M (Rch S st inp i)) (h' : Holds M' (fun k c => Arr S st inp i j k c ∨ Leap S inp (Low M) i j k c)) : Holds M' (Arr S st inp (i + 1) j) :=
 holds_iff (low_leap h h') fun _ _ => arr_succ.symm
theorem arr_start {j : Nat} (hj : j ≠ 0) : ∀ (k : K) (c : Int), ¬ Arr S st inp 0 j k c := fun _ _ h => by
 rcases h with ⟨h1, _⟩ | ⟨i, h1, _⟩
 ·exact hj h1
 ·omega
variable [DecidableEq K]
theorem holds_step {M : K → Option Int} {A : K → Int → Prop} (h : Holds M A) {k : K} {c : Int} {B : K → Int → Prop} (hB : ∀ x d, B x d ↔ A x d ∨ (x = k ∧ d = c)) : Holds (relaxT M k c) B := holds_iff (holds_relax h k c) fun x d => (hB x d).symm
theorem keys_relax_new {M : K → Option Int} {l : List K} (h : KeysOf M l) {k : K} (hk : M k = none) (c : Int) : KeysOf (relaxT M k c) (l ++ [k]) := by
 refine ⟨nodup_append.2 ⟨h.1, pairwise_singleton _ _, fun a ha b hb e => ?_⟩, fun x => ?_⟩
 ·obtain rfl := mem_singleton.1 hb
  subst e
  exact (h.2 _).1 ha hk
 ·rw [mem_append, mem_singleton, h.2]
  unfold relaxT
  split
  ·rename_i e; subst e; rw [hk]; simp
  ·rename_i e; simp [e]
end
end Go.Proofs.YtfpnhgahkjglgaaGreat
namespace Go.Proofs.YtfpnhgahkjglgaaGreat
open Go Go.RowKit Go.Maps
structure KT {K : Type} (P : Program) (t kt et : TypeId) (enc : K → Value) : Prop where
 law : Keyed P kt
 und : P.underlying t = some (.map kt et)
 elt : P.underlying et = some (.int .i64)
 zero : ∀ w : World, (zeroValue et).run P w = .ok (.int .i64 0) w
 inj : ∀ k k', enc k = enc k' → k = k'
 inv : ∀ key kl, keyOf P kt key = some kl → ∃ k, key = enc k
section
variable {K : Type} [DecidableEq K] {P : Program} {t kt et : TypeId} {enc : K → Value}
def KOk (P : Program) (kt : TypeId) (enc : K → Value) (k : K) : Prop := ∃ kl, keyOf P kt (enc k) = some kl
structure Reads (P : Program) (kt : TypeId) (enc : K → Value) (D : DataW Unit) (M : K → Option Int) : Prop where
 ok : ∀ k, M k ≠ none → KOk P kt enc k
 has_ : ∀ k kl, keyOf P kt (enc k) = some kl → Maps.has D kl = (M k).isSome
 at_ : ∀ k kl c, keyOf P kt (enc k) = some kl → M k = some c → ∀ z, D.atKey kl z = .lit (.int .i64 c)
 len : ∃ l, KeysOf M l ∧ l.length = Maps.size D
def Tab (P : Program) (kt et : TypeId) (enc : K → Value) (w : World) (b n : Nat) (M : K → Option Int) : Prop := ∃ D : DataW Unit, w.ownsMap P kt (plainElem P et) b n D ∧ Reads P kt enc D M
omit [DecidableEq K] in
theorem Tab.made (w : World) : Tab P kt et enc (w.alloc (.map #[] 0)) w.heap.size 0 (fun _ : K => none) :=
 ⟨_, World.ownsMap_made w _ _ _, fun _ h => absurd rfl h, fun _ _ _ => rfl, fun _ _ _ _ h => (nomatch h), [], ⟨List.Pairwise.nil, fun _ => by simp⟩, rfl⟩
omit [DecidableEq K] in
theorem Tab.lt {w : World} {b n : Nat} {M : K → Option Int} (h : Tab P kt et enc w b n M) : b < w.heap.size := by
 obtain ⟨D, h1, _⟩ := h
 exact h1.lt
omit [DecidableEq K] in
theorem Tab.keep {w w' : World} {b n : Nat} {M : K → Option Int} (h : Tab P kt et enc w b n M) (hb : w'.heap[b]? = w.heap[b]?) : Tab P kt et enc w' b n M := by
 obtain ⟨D, ⟨es, clock, h1, h2, h3, h4⟩, h5⟩ := h
 exact ⟨D, ⟨es, clock, hb.trans h1, h2, h3, h4⟩, h5⟩
omit [DecidableEq K] in
theorem Tab.mono {w : World} {b n n' : Nat} {M : K → Option Int} (h : Tab P kt et enc w b n M) (hn : n ≤ n') : Tab P kt et enc w b n' M := by
 obtain ⟨D, h1, h2⟩ := h
 exact ⟨D, h1.mono hn, h2⟩
omit [DecidableEq K] in
theorem Tab.keys {w : World} {b n : Nat} {M : K → Option Int} (h : Tab P kt et enc w b n M) : ∃ l, KeysOf M l ∧ l.length ≤ n := by
 obtain ⟨D, h1, h2⟩ := h
 obtain ⟨l, h3, h4⟩ := h2.len
 exact ⟨l, h3, by rw [h4]; exact h1.size_le⟩
def putT (M : K → Option Int) (k : K) (c : Int) : K → Option Int := fun x => if x = k then some c else M x
theorem relaxT_new {M : K → Option Int} {k : K} {c : Int} (h : ∀ o, M k = some o → c < o) : relaxT M k c = putT M k c := relax_gt h
theorem Reads.put {D : DataW Unit} {M : K → Option Int} (hT : KT P t kt et enc) (h : Reads P kt enc D M) (hD : Tidy D) {k : K} {kl : Lit} (hk : keyOf P kt (enc k) = some kl) (c : Int) : Reads P kt enc (D.put kl (.lit (.int .i64 c))) (putT M k c) := by
 have hne : ∀ k' kl', keyOf P kt (enc k') = some kl' → k' ≠ k → kl' ≠ kl := fun k' kl' h1 h2 e => by
  subst e
  exact h2 (hT.inj _ _ (hT.law.inj h1 hk))
 refine ⟨fun k' hk' => ?_, fun k' kl' hk' => ?_, fun k' kl' c' hk' hc' z => ?_, ?_⟩
 ·by_cases e : k' = k
  ·subst e; exact ⟨kl, hk⟩
  ·unfold putT at hk'; rw [if_neg e] at hk'; exact h.ok k' hk'
 ·unfold putT
  by_cases e : k' = k
  ·subst e
   rw [hk] at hk'
   obtain rfl := Option.some.inj hk'
   rw [if_pos rfl, has_put_same hD.isMap (hT.law.key hk)]
   rfl
  ·rw [if_neg e, has_put_other (hne k' kl' hk' e)]
   exact h.has_ k' kl' hk'
 ·unfold putT at hc'
  by_cases e : k' = k
  ·subst e
   rw [hk] at hk'
   obtain rfl := Option.some.inj hk'
   rw [if_pos rfl] at hc'
   obtain rfl := Option.some.inj hc'
   exact atKey_put_same hD.isMap (hT.law.key hk) _ _
  ·rw [if_neg e] at hc'
   rw [atKey_put_other (hne k' kl' hk' e)]
   exact h.at_ k' kl' c' hk' hc' z
 ·obtain ⟨l, h1, h2⟩ := h.len
  rw [size_put hD, h.has_ k kl hk]
  cases hM : M k with
  | none =>
   refine ⟨l ++ [k], ?_, ?_⟩
   ·have := keys_relax_new h1 hM c
    rwa [relaxT_new (by intro o ho; rw [hM] at ho; cases ho)] at this
   ·simp [h2]
  | some o =>
   refine ⟨l, ⟨h1.1, fun x => ?_⟩, ?_⟩
   ·rw [h1.2]
    unfold putT
    split
    ·rename_i e; subst e; rw [hM]; simp
    ·exact Iff.rfl
   ·simp [h2]
def RTab (P : Program) (kt et : TypeId) (enc : K → Value) (w : World) (b r n : Nat) (M : K → Option Int) (L : K → Bool) (cnt : Nat) : Prop :=
 ∃ (D : DataW Unit) (left : Lit → Bool), w.ranges P kt (plainElem P et) b r n D left cnt ∧ Reads P kt enc D M ∧ ∀ k kl, keyOf P kt (enc k) = some kl → left kl = L k
omit [DecidableEq K] in
theorem RTab.tab {w : World} {b r n cnt : Nat} {M : K → Option Int} {L : K → Bool} (h : RTab P kt et enc w b r n M L cnt) : Tab P kt et enc w b n M := by
 obtain ⟨D, left, h1, h2, _⟩ := h
 exact ⟨D, h1.owns, h2⟩
omit [DecidableEq K] in
theorem RTab.left_eq {w : World} {b r n cnt : Nat} {M : K → Option Int} {L : K → Bool} (h : RTab P kt et enc w b r n M L cnt) : w.rangeLeft b r = cnt := by
 obtain ⟨D, left, h1, _⟩ := h
 exact h1.left_eq
omit [DecidableEq K] in
theorem RTab.keep {w w' : World} {b r n cnt : Nat} {M : K → Option Int} {L : K → Bool} (h : RTab P kt et enc w b r n M L cnt) (hb : w'.heap[b]? = w.heap[b]?) (hr : w'.heap[r]? = w.heap[r]?) : RTab P kt et enc w' b r n M L cnt := by
 obtain ⟨D, left, ⟨es, clock, since, seen, c0, h1, h2, h3, h4, h5, h6⟩, h7⟩ := h
 exact ⟨D, left, ⟨es, clock, since, seen, c0, hb.trans h1, h2, h3, h4, hr.trans h5, h6⟩, h7⟩
omit [DecidableEq K] in
theorem RTab.ne {w : World} {b r n cnt : Nat} {M : K → Option Int} {L : K → Bool} (h : RTab P kt et enc w b r n M L cnt) : r ≠ b ∧ b < w.heap.size ∧ r < w.heap.size := by
 obtain ⟨D, left, h1, _⟩ := h
 exact ⟨h1.ne, h1.owns.lt, h1.lt⟩
end
section
variable {K : Type} [DecidableEq K] {P : Program} {t kt et : TypeId} {enc : K → Value} (hT : KT P t kt et enc) (w : World) {ops : Array Oper} {rest : List Oper} {o : Oper} {a : Act} {Q : Exit → Act → World → Prop}
include hT
omit [DecidableEq K] in
theorem tab_lookup_ok (hg : o.guard = none) (m x : Operand) (hop : o.op = Op.lookup t m x true) {b n : Nat} {M : K → Option Int} (hm : a.eval m = .map (some b)) (h : Tab P kt et enc w b n M) (k : K) (hx : a.eval x = enc k) (hk : KOk P kt enc k)
 (hK : wpList P ops Q rest (a.put o.dst (.tuple #[.int .i64 ((M k).getD 0), .bool (M k).isSome])) w) : wpList P ops Q (o :: rest) a w := by
 obtain ⟨D, h1, h2⟩ := h
 obtain ⟨kl, hk⟩ := hk
 refine wpList_lookup_own_ok_int w hg m x t hop kt et .i64 hT.law hT.und hT.elt (hT.zero w) b n D hm h1 (enc k) kl hx hk fun c hc _ => ?_
 have e : c = (M k).getD 0 := by
  cases hM : M k with
  | none =>
   have h3 := h2.has_ k kl hk
   rw [hM] at h3
   rw [atKey_of_not_has h3] at hc
   injection hc with hc
   injection hc with _ hc
   exact hc.symm
  | some d =>
   rw [h2.at_ k kl d hk hM] at hc
   injection hc with hc
   injection hc with _ hc
   exact hc.symm
 rw [e, h2.has_ k kl hk]
 exact hK
theorem tab_put (hg : o.guard = none) (m x v : Operand) (hop : o.op = Op.mapUpdate t m x v) {b n : Nat} {M : K → Option Int} (hm : a.eval m = .map (some b)) (h : Tab P kt et enc w b n M) (hn : n < maxLen) (k : K) (c : Int) (hx : a.eval x = enc k) (hv : a.eval v = .int .i64 c) (hk : KOk P kt enc k) (hc : (Lit.int .i64 c).wf = true)
 (hK : ∀ w', Tab P kt et enc w' b (n + 1) (putT M k c) → w.grownBy w' (some b) → w'.heap.size = w.heap.size → wpList P ops Q rest (a.put o.dst undef) w') : wpList P ops Q (o :: rest) a w := by
 obtain ⟨D, h1, h2⟩ := h
 obtain ⟨kl, hk⟩ := hk
 refine wpList_mapUpdate_in w hg m x v t hop kt et hT.law hT.und (plainElem P et) b n D hm h1 hn (enc k) (.int .i64 c) kl hx hv hk (.lit (.int .i64 c)) [] (plainElem_int hT.elt hc) fun w' h3 h4 => ?_
 refine hK w' ⟨_, h3, h2.put hT (h1.tidy hT.law) hk c⟩ h4.grown ?_
 obtain ⟨es, clock, es', clock', _, rfl⟩ := h4
 simp [ChangeMaps.setBlock]
omit [DecidableEq K] in
theorem tab_len (hg : o.guard = none) (m : Operand) (hop : o.op = Op.call { callee := Callee.builtin Builtin.len, args := #[m], argTypes := #[t] }) {b n : Nat} {M : K → Option Int} (hm : a.eval m = .map (some b)) (h : Tab P kt et enc w b n M)
 (hK : ∀ l, KeysOf M l → wpList P ops Q rest (a.put o.dst (.int .i64 (l.length : Nat))) w) : wpList P ops Q (o :: rest) a w := by
 obtain ⟨D, h1, h2⟩ := h
 obtain ⟨l, h3, h4⟩ := h2.len
 refine wpList_len_own w hg m t hop kt et hT.und (plainElem P et) b n D hm h1 ?_
 rw [← h4]
 exact hK l h3
omit [DecidableEq K] in
theorem tab_range (hg : o.guard = none) (m : Operand) (hop : o.op = Op.range t m) {b n : Nat} {M : K → Option Int} (hm : a.eval m = .map (some b)) (h : Tab P kt et enc w b n M)
 (hK : ∀ w' cnt, RTab P kt et enc w' b w.heap.size n M (fun k => (M k).isSome) cnt → w.grownBy w' none → w'.heap.size = w.heap.size + 1 → wpList P ops Q rest (a.put o.dst (.pointer (some ⟨w.heap.size, 0, none⟩))) w') : wpList P ops Q (o :: rest) a w := by
 obtain ⟨D, h1, h2⟩ := h
 refine wpList_range_own w hg m t hop kt et hT.law hT.und (plainElem P et) b n D hm h1 fun w' h3 h4 h5 => ?_
 exact hK w' _ ⟨D, _, h3, h2, fun k kl hk => h2.has_ k kl hk⟩ h4 h5
theorem tab_next (hg : o.guard = none) (it : Operand) (hop : o.op = Op.next it false) {b r n cnt : Nat} {M : K → Option Int} {L : K → Bool} (hit : a.eval it = .pointer (some ⟨r, 0, none⟩)) (h : RTab P kt et enc w b r n M L cnt)
 (hDone : (∀ k, KOk P kt enc k → L k = false) → wpList P ops Q rest (a.put o.dst (.tuple #[.bool false])) w)
 (hMore : ∀ (k : K) (c : Int) (w' : World) (cnt' : Nat), KOk P kt enc k → M k = some c → L k = true → RTab P kt et enc w' b r n M (fun x => L x && !decide (x = k)) cnt' → cnt' < cnt → w.grownBy w' (some r) → w'.heap.size = w.heap.size →
  (Instr.entry (.pointer (some ⟨r, 0, none⟩))).run P w' = .ok (.tuple #[enc k, .int .i64 c]) w' → wpList P ops Q rest (a.put o.dst (.tuple #[.bool true, enc k, .int .i64 c])) w') : wpList P ops Q (o :: rest) a w := by
 obtain ⟨D, left, h1, h2, h3⟩ := h
 refine wpList_next_ranges w hg it hop kt hT.law (plainElem P et) enc (Value.int .i64) hT.inv (fun v y hv => by obtain ⟨c, rfl, _⟩ := plainElem_int_inv hT.elt hv; exact ⟨c, rfl⟩) b r n D left cnt hit h1 (fun _ hl => hDone fun k ⟨kl, hk⟩ => by rw [← h3 k kl hk]; exact hl kl) ?_
 intro k c kl y w' cnt' hk hl hy hat hrg hlt hgr hsz hen
 obtain ⟨c', ec, hy2, _⟩ := plainElem_int_inv hT.elt hy
 cases ec
 have hM : M k = some c := by
  have hh : Maps.has D kl = true := has_true_of_atKey hat
  rw [h2.has_ k kl hk] at hh
  cases hM : M k with
  | none => rw [hM] at hh; cases hh
  | some d =>
   have h4 := h2.at_ k kl d hk hM (.lit (.int .i64 0))
   rw [hat, hy2] at h4
   injection h4 with h4
   injection h4 with _ h4
   rw [h4]
 refine hMore k c w' cnt' ⟨kl, hk⟩ hM (by rw [← h3 k kl hk]; exact hl) ⟨D, _, hrg, h2, fun x xl hx => ?_⟩ hlt hgr hsz hen
 by_cases e : x = k
 ·subst e
  rw [hk] at hx
  obtain rfl := Option.some.inj hx
  have : kl.sameKey kl = true := WideAt.sameKey_self (hT.law.key hk)
  simp [this]
 ·have hne : xl ≠ kl := fun e2 => by
   subst e2
   exact e (hT.inj _ _ (hT.law.inj hx hk))
  rw [sameKey_ne hne, h3 x xl hx]
  simp [e]
end
def refE (v : Value) : Option (DataW Unit × List MemPlace) := match v with
 | .map none => some (.nil, [])
 | .map (some b) => some (.lit (.int .i64 (b : Int)), [])
 | _ => none
def refD (o : Option Nat) : DataW Unit := match o with
 | none => .nil
 | some g => .lit (.int .i64 (g : Int))
theorem refE_mk (o : Option Nat) : refE (.map o) = some (refD o, []) := by cases o <;> rfl
theorem refE_inv {v : Value} {o : Option Nat} {ps : List MemPlace} (h : refE v = some (refD o, ps)) : v = .map o := by
 unfold refE at h
 split at h
 ·cases o with
  | none => rfl
  | some g => injection h with h; injection h with h _; cases h
 ·rename_i b
  cases o with
  | none => injection h with h; injection h with h _; cases h
  | some g =>
   injection h with h
   injection h with h _
   injection h with h
   injection h with _ h
   have : b = g := by omega
   rw [this]
 ·cases h
structure PT (P : Program) (t kt et : TypeId) : Prop where
 law : Keyed P kt
 und : P.underlying t = some (.map kt et)
 kin : P.underlying kt = some (.int .i64)
 zero : ∀ w : World, (zeroValue et).run P w = .ok (.map none) w
def Plc (P : Program) (kt : TypeId) (w : World) (b n lo hi : Nat) (F : Nat → Option Nat) : Prop := hi ≤ 1000 ∧ ∃ D : DataW Unit, w.ownsMap P kt refE b n D ∧ ∀ i : Nat, lo ≤ i → i ≤ hi → D.atKey (.int .i64 (i : Int)) .nil = refD (F i)
section
variable {P : Program} {t kt et : TypeId}
theorem place_wf {i hi : Nat} (hh : hi ≤ 1000) (hi : i ≤ hi) : (Lit.int .i64 (i : Int)).wf = true := by
 have h1 : (i : Int) ≤ 1000 := by omega
 have h2 : (0 : Int) ≤ (i : Int) := by omega
 show (decide (IntKind.i64.min ≤ (i : Int)) && decide ((i : Int) ≤ IntKind.i64.max)) = true
 simp only [Bool.and_eq_true, decide_eq_true_eq]
 have h3 : IntKind.i64.min ≤ 0 := by decide
 have h4 : (1000 : Int) ≤ IntKind.i64.max := by decide
 omega
theorem Plc.made {w : World} {hi : Nat} (hh : hi ≤ 1000) : Plc P kt (w.alloc (.map #[] 0)) w.heap.size 0 0 hi (fun _ => none) :=
 ⟨hh, _, World.ownsMap_made w _ _ _, fun _ _ _ => rfl⟩
theorem Plc.lt {w : World} {b n lo hi : Nat} {F : Nat → Option Nat} (h : Plc P kt w b n lo hi F) : b < w.heap.size := by
 obtain ⟨_, D, h1, _⟩ := h
 exact h1.lt
theorem Plc.keep {w w' : World} {b n lo hi : Nat} {F : Nat → Option Nat} (h : Plc P kt w b n lo hi F) (hb : w'.heap[b]? = w.heap[b]?) : Plc P kt w' b n lo hi F := by
 obtain ⟨hh, D, ⟨es, clock, h1, h2, h3, h4⟩, h5⟩ := h
 exact ⟨hh, D, ⟨es, clock, hb.trans h1, h2, h3, h4⟩, h5⟩
theorem Plc.isMap {w : World} {b n lo hi : Nat} {F : Nat → Option Nat} (h : Plc P kt w b n lo hi F) : ∃ es clock, w.heap[b]? = some (.map es clock) := by
 obtain ⟨_, D, ⟨es, clock, h1, _⟩, _⟩ := h
 exact ⟨es, clock, h1⟩
theorem key_ne {i j : Nat} (h : i ≠ j) : (Lit.int .i64 (i : Int)) ≠ .int .i64 (j : Int) := fun e => by
 injection e with _ e
 omega
end
section
variable {P : Program} {t kt et : TypeId} (hT : PT P t kt et) (w : World) {ops : Array Oper} {rest : List Oper} {o : Oper} {a : Act} {Q : Exit → Act → World → Prop}
include hT
theorem plc_lookup (hg : o.guard = none) (m x : Operand) (hop : o.op = Op.lookup t m x false) {b n lo hi : Nat} {F : Nat → Option Nat} (hm : a.eval m = .map (some b)) (h : Plc P kt w b n lo hi F) (i : Nat) (hx : a.eval x = .int .i64 (i : Int)) (h1 : lo ≤ i) (h2 : i ≤ hi)
 (hK : wpList P ops Q rest (a.put o.dst (.map (F i))) w) : wpList P ops Q (o :: rest) a w := by
 obtain ⟨hh, D, h3, h4⟩ := h
 have hkey := keyOf_int_mk hT.kin (place_wf hh h2)
 refine wpList_plain hg fun K' hK' => ?_
 obtain ⟨es, clock, hb, FF, _, hD⟩ := h3
 obtain ⟨v, hrun, hv⟩ : ∃ v, (Instr.lookup t (.map (some b)) (.int .i64 (i : Int)) false).run P w = .ok v w ∧ ∃ ps, refE v = some (D.atKey (.int .i64 (i : Int)) .nil, ps) := by
  subst hD
  rcases Maps.fit_look false hT.law hT.und (hT.zero w) hb FF hkey with ⟨hrun, _, hat⟩ | ⟨e0, y, _, _, hrun, hRv, hat, _⟩
  ·exact ⟨.map none, hrun, [], by rw [hat]; rfl⟩
  ·exact ⟨e0.val, hrun, y.2, by rw [hat]; exact hRv⟩
 obtain ⟨ps, hv⟩ := hv
 rw [h4 i h1 h2] at hv
 obtain rfl := refE_inv hv
 unfold Oper.wp
 simp [execOp, hop, hm, hx, hrun, Result.andThen]
 exact hK' _ _ hK
theorem plc_put (hg : o.guard = none) (m x v : Operand) (hop : o.op = Op.mapUpdate t m x v) {b n lo hi : Nat} {F : Nat → Option Nat} (hm : a.eval m = .map (some b)) (h : Plc P kt w b n lo hi F) (hn : n < maxLen) (i g : Nat) (hx : a.eval x = .int .i64 (i : Int)) (hv : a.eval v = .map (some g)) (h2 : i ≤ hi)
 (hK : ∀ w', Plc P kt w' b (n + 1) lo hi (fun j => if j = i then some g else F j) → w.grownBy w' (some b) → w'.heap.size = w.heap.size → wpList P ops Q rest (a.put o.dst undef) w') : wpList P ops Q (o :: rest) a w := by
 obtain ⟨hh, D, h3, h4⟩ := h
 have hkey := keyOf_int_mk hT.kin (place_wf hh h2)
 have hT1 := h3.tidy hT.law
 refine wpList_mapUpdate_in w hg m x v t hop kt et hT.law hT.und refE b n D hm h3 hn (.int .i64 (i : Int)) (.map (some g)) _ hx hv hkey (refD (some g)) [] (refE_mk _) fun w' h5 h6 => ?_
 refine hK w' ⟨hh, _, h5, fun j h7 h8 => ?_⟩ h6.grown ?_
 ·by_cases e : j = i
  ·subst e
   rw [atKey_put_same hT1.isMap (hT.law.key hkey)]
   show _ = refD (if j = j then some g else F j)
   rw [if_pos rfl]
  ·rw [atKey_put_other (key_ne e)]
   show _ = refD (if j = i then some g else F j)
   rw [if_neg e]
   exact h4 j h7 h8
 ·obtain ⟨es, clock, es', clock', _, rfl⟩ := h6
  simp [ChangeMaps.setBlock]
theorem plc_delete (hg : o.guard = none) (m x : Operand) (hop : o.op = Op.call { callee := Callee.builtin Builtin.delete, args := #[m, x], argTypes := #[t, kt] }) {b n lo hi : Nat} {F : Nat → Option Nat} (hm : a.eval m = .map (some b)) (h : Plc P kt w b n lo hi F) (hx : a.eval x = .int .i64 (lo : Int)) (h2 : lo ≤ hi)
 (hK : ∀ w', Plc P kt w' b n (lo + 1) hi F → w.grownBy w' (some b) → w'.heap.size = w.heap.size → wpList P ops Q rest (a.put o.dst (.tuple #[])) w') : wpList P ops Q (o :: rest) a w := by
 obtain ⟨hh, D, h3, h4⟩ := h
 have hkey := keyOf_int_mk hT.kin (place_wf hh h2)
 refine wpList_delete_own w hg m x t kt hop et hT.law hT.und refE b n D hm h3 (.int .i64 (lo : Int)) _ hx hkey fun w' h5 h6 => ?_
 refine hK w' ⟨hh, _, h5, fun j h7 h8 => ?_⟩ h6.grown ?_
 ·rw [atKey_del_other (key_ne (by omega))]
  exact h4 j (by omega) h8
 ·obtain ⟨es, clock, es', clock', _, rfl⟩ := h6
  simp [ChangeMaps.setBlock]
end
def TabO {K : Type} (P : Program) (kt et : TypeId) (enc : K → Value) (w : World) (o : Option Nat) (n : Nat) (M : K → Option Int) : Prop := match o with
 | none => ∀ k, M k = none
 | some b => Tab P kt et enc w b n M
def RTabO {K : Type} (P : Program) (kt et : TypeId) (enc : K → Value) (w : World) (o : Option Nat) (r n : Nat) (M : K → Option Int) (L : K → Bool) (cnt : Nat) : Prop := match o with
 | none => (∃ a s c, w.heap[r]? = some (.mapIter none a s c)) ∧ (∀ k, M k = none) ∧ (∀ k, L k = false) ∧ cnt = 0
 | some b => RTab P kt et enc w b r n M L cnt
def leftO (w : World) (o : Option Nat) (r : Nat) : Nat := match o with
 | none => 0
 | some b => w.rangeLeft b r
section
variable {K : Type} {P : Program} {t kt et : TypeId} {enc : K → Value} {w w' : World} {o : Option Nat} {r n cnt : Nat} {M : K → Option Int} {L : K → Bool}
theorem TabO.keep (h : TabO P kt et enc w o n M) (hb : ∀ b, o = some b → w'.heap[b]? = w.heap[b]?) : TabO P kt et enc w' o n M := by
 cases o with
 | none => exact h
 | some b => exact Tab.keep h (hb b rfl)
theorem TabO.keys (h : TabO P kt et enc w o n M) : ∃ l, KeysOf M l ∧ l.length ≤ n := by
 cases o with
 | none => exact ⟨[], ⟨List.Pairwise.nil, fun k => by simp [show M k = none from h k]⟩, Nat.zero_le _⟩
 | some b => exact Tab.keys h
theorem TabO.lt (h : TabO P kt et enc w o n M) : ∀ b, o = some b → b < w.heap.size := by
 rintro b rfl
 exact Tab.lt h
theorem TabO.ok (h : TabO P kt et enc w o n M) {k : K} (hk : M k ≠ none) : KOk P kt enc k := by
 cases o with
 | none => exact absurd (h k) hk
 | some b => obtain ⟨D, _, h2⟩ := h; exact h2.ok k hk
theorem RTabO.tab (h : RTabO P kt et enc w o r n M L cnt) : TabO P kt et enc w o n M := by
 cases o with
 | none => exact h.2.1
 | some b => exact RTab.tab h
theorem RTabO.left_eq (h : RTabO P kt et enc w o r n M L cnt) : leftO w o r = cnt := by
 cases o with
 | none => exact h.2.2.2.symm
 | some b => exact RTab.left_eq h
theorem RTabO.keep (h : RTabO P kt et enc w o r n M L cnt) (hb : ∀ b, o = some b → w'.heap[b]? = w.heap[b]?) (hr : w'.heap[r]? = w.heap[r]?) : RTabO P kt et enc w' o r n M L cnt := by
 cases o with
 | none =>
  obtain ⟨⟨a, s, c, h1⟩, h2⟩ := h
  exact ⟨⟨a, s, c, hr.trans h1⟩, h2⟩
 | some b => exact RTab.keep h (hb b rfl) hr
theorem RTabO.iter (h : RTabO P kt et enc w o r n M L cnt) : ∃ m a s c, w.heap[r]? = some (.mapIter m a s c) := by
 cases o with
 | none => obtain ⟨⟨a, s, c, h1⟩, _⟩ := h; exact ⟨none, a, s, c, h1⟩
 | some b =>
  obtain ⟨D, left, ⟨es, clock, since, seen, c0, _, _, _, _, h5, _⟩, _⟩ := h
  exact ⟨some b, since, seen, c0, h5⟩
theorem Tab.isMap {b : Nat} (h : Tab P kt et enc w b n M) : ∃ es clock, w.heap[b]? = some (.map es clock) := by
 obtain ⟨D, ⟨es, clock, h1, _⟩, _⟩ := h
 exact ⟨es, clock, h1⟩
theorem Tab.tight [DecidableEq K] {b : Nat} (h : Tab P kt et enc w b n M) {l : List K} (hl : KeysOf M l) : Tab P kt et enc w b l.length M := by
 obtain ⟨D, ⟨es, clock, h1, h2, h3, h4⟩, h5⟩ := h
 obtain ⟨l', h6, h7⟩ := h5.len
 have e : l'.length = l.length := Nat.le_antisymm (nodup_le h6.1 fun k hk => (hl.2 k).2 ((h6.2 k).1 hk)) (nodup_le hl.1 fun k hk => (h6.2 k).2 ((hl.2 k).1 hk))
 refine ⟨D, ⟨es, clock, h1, h2, ?_, h4⟩, h5⟩
 rw [← e, h7, h4]
 simp [Maps.size, length_sorted]
end
section
variable {K : Type} [DecidableEq K] {P : Program} {t kt et : TypeId} {enc : K → Value} (hT : KT P t kt et enc) (w : World) {ops : Array Oper} {rest : List Oper} {o : Oper} {a : Act} {Q : Exit → Act → World → Prop}
include hT
omit [DecidableEq K] in
theorem tabO_len (hg : o.guard = none) (m : Operand) (hop : o.op = Op.call { callee := Callee.builtin Builtin.len, args := #[m], argTypes := #[t] }) {b : Option Nat} {n : Nat} {M : K → Option Int} (hm : a.eval m = .map b) (h : TabO P kt et enc w b n M)
 (hK : ∀ l, KeysOf M l → wpList P ops Q rest (a.put o.dst (.int .i64 (l.length : Nat))) w) : wpList P ops Q (o :: rest) a w := by
 cases b with
 | some b => exact tab_len hT w hg m hop hm h hK
 | none =>
  refine wpList_plain hg fun K' hK' => ?_
  unfold Oper.wp
  simp [execOp, hop, resolve, invoke, builtin, hm, Maps.len_nil hT.und o.type, Result.andThen]
  exact hK' _ _ (hK [] ⟨List.Pairwise.nil, fun k => by simp [show M k = none from h k]⟩)
omit [DecidableEq K] in
theorem tabO_range (hg : o.guard = none) (m : Operand) (hop : o.op = Op.range t m) {b : Option Nat} {n : Nat} {M : K → Option Int} (hm : a.eval m = .map b) (h : TabO P kt et enc w b n M)
 (hK : ∀ w' cnt, RTabO P kt et enc w' b w.heap.size n M (fun k => (M k).isSome) cnt → w.grownBy w' none → w'.heap.size = w.heap.size + 1 → wpList P ops Q rest (a.put o.dst (.pointer (some ⟨w.heap.size, 0, none⟩))) w') : wpList P ops Q (o :: rest) a w := by
 cases b with
 | some b => exact tab_range hT w hg m hop hm h fun w' cnt h1 h2 h3 => hK w' cnt h1 h2 h3
 | none =>
  refine wpList_plain hg fun K' hK' => ?_
  unfold Oper.wp
  simp [execOp, hop, hm, run_range_nilMap w t kt et hT.und, Result.andThen]
  refine hK' _ _ (hK _ 0 ⟨⟨0, #[], 0, (MapKept.heap_alloc w _).1⟩, h, fun k => by show (M k).isSome = false; rw [show M k = none from h k]; rfl, rfl⟩ (World.grownBy_alloc w _ none) (by simp))
theorem tabO_next (hg : o.guard = none) (it : Operand) (hop : o.op = Op.next it false) {b : Option Nat} {r n cnt : Nat} {M : K → Option Int} {L : K → Bool} (hit : a.eval it = .pointer (some ⟨r, 0, none⟩)) (h : RTabO P kt et enc w b r n M L cnt)
 (hDone : (∀ k, KOk P kt enc k → L k = false) → wpList P ops Q rest (a.put o.dst (.tuple #[.bool false])) w)
 (hMore : ∀ (k : K) (c : Int) (w' : World) (cnt' : Nat), KOk P kt enc k → M k = some c → L k = true → RTabO P kt et enc w' b r n M (fun x => L x && !decide (x = k)) cnt' → cnt' < cnt → w.grownBy w' (some r) → w'.heap.size = w.heap.size →
  (Instr.entry (.pointer (some ⟨r, 0, none⟩))).run P w' = .ok (.tuple #[enc k, .int .i64 c]) w' → wpList P ops Q rest (a.put o.dst (.tuple #[.bool true, enc k, .int .i64 c])) w') : wpList P ops Q (o :: rest) a w := by
 cases b with
 | some b => exact tab_next hT w hg it hop hit h hDone hMore
 | none =>
  obtain ⟨⟨a1, s, c, h1⟩, h2, h3, h4⟩ := h
  refine wpList_plain hg fun K' hK' => ?_
  have hrun : (Instr.next (.pointer (some ⟨r, 0, none⟩)) false o.type).run P w = .ok (.tuple #[.bool false]) w := by
   simp only [Instr.next, getObj, Sem.run_bind, Sem.run, h1, Result.andThen]
   rfl
  unfold Oper.wp
  simp [execOp, hop, hit, hrun, Result.andThen]
  exact hK' _ _ (hDone fun k _ => h3 k)
end
section
variable {H : Type} {P : Program} (w : World) {ops : Array Oper} {rest : List Oper} {o : Oper} {a : Act} {Q : Exit → Act → World → Prop}
theorem wpList_insert_in (hg : o.guard = none) (m x v : Operand) (t : TypeId) (hop : o.op = Op.insert t m x v)
 (k e : TypeId) (K : Keyed P k) (ht : P.underlying t = some (.map k e)) (R : Value → Option (DataW H × List MemPlace)) (b n : Nat) (D : DataW H)
 (hm : a.eval m = .map (some b)) (hown : w.ownsMap P k R b n D) (hn : n < maxLen) (key val : Value) (kl : Lit) (hx : a.eval x = key) (hv : a.eval v = val) (hkey : keyOf P k key = some kl)
 (d : DataW H) (ps : List MemPlace) (hval : R val = some (d, ps))
 (hK : ∀ w', w'.ownsMap P k R b (n + 1) (D.put kl d) → w.mapTurned w' b → wpList P ops Q rest (a.put o.dst undef) w') :
 wpList P ops Q (o :: rest) a w := by
 refine wpList_plain hg fun K' hK' => ?_
 obtain ⟨w', hrun, r1, r2⟩ := hown.store K ht hn hkey hval
 unfold Oper.wp
 simp [execOp, hop, hm, hx, hv, hrun, Result.andThen]
 exact hK' _ _ (hK w' r1 r2)
end
section
variable {K : Type} [DecidableEq K] {P : Program} {t kt et : TypeId} {enc : K → Value} (hT : KT P t kt et enc) (w : World) {ops : Array Oper} {rest : List Oper} {o : Oper} {a : Act} {Q : Exit → Act → World → Prop}
include hT
theorem tab_ins (hg : o.guard = none) (m x v : Operand) (hop : o.op = Op.insert t m x v) {b n : Nat} {M : K → Option Int} (hm : a.eval m = .map (some b)) (h : Tab P kt et enc w b n M) (hn : n < maxLen) (k : K) (c : Int) (hx : a.eval x = enc k) (hv : a.eval v = .int .i64 c) (hk : KOk P kt enc k) (hc : (Lit.int .i64 c).wf = true)
 (hK : ∀ w', Tab P kt et enc w' b (n + 1) (putT M k c) → w.grownBy w' (some b) → w'.heap.size = w.heap.size → wpList P ops Q rest (a.put o.dst undef) w') : wpList P ops Q (o :: rest) a w := by
 obtain ⟨D, h1, h2⟩ := h
 obtain ⟨kl, hk⟩ := hk
 refine wpList_insert_in w hg m x v t hop kt et hT.law hT.und (plainElem P et) b n D hm h1 hn (enc k) (.int .i64 c) kl hx hv hk (.lit (.int .i64 c)) [] (plainElem_int hT.elt hc) fun w' h3 h4 => ?_
 refine hK w' ⟨_, h3, h2.put hT (h1.tidy hT.law) hk c⟩ h4.grown ?_
 obtain ⟨es, clock, es', clock', _, rfl⟩ := h4
 simp [ChangeMaps.setBlock]
end
section
variable {P : Program} {t kt et : TypeId} (hT : PT P t kt et) (w : World) {ops : Array Oper} {rest : List Oper} {o : Oper} {a : Act} {Q : Exit → Act → World → Prop}
include hT
theorem plc_ins (hg : o.guard = none) (m x v : Operand) (hop : o.op = Op.insert t m x v) {b n lo hi : Nat} {F : Nat → Option Nat} (hm : a.eval m = .map (some b)) (h : Plc P kt w b n lo hi F) (hn : n < maxLen) (i g : Nat) (hx : a.eval x = .int .i64 (i : Int)) (hv : a.eval v = .map (some g)) (h2 : i ≤ hi)
 (hK : ∀ w', Plc P kt w' b (n + 1) lo hi (fun j => if j = i then some g else F j) → w.grownBy w' (some b) → w'.heap.size = w.heap.size → wpList P ops Q rest (a.put o.dst undef) w') : wpList P ops Q (o :: rest) a w := by
 obtain ⟨hh, D, h3, h4⟩ := h
 have hkey := keyOf_int_mk hT.kin (place_wf hh h2)
 have hT1 := h3.tidy hT.law
 refine wpList_insert_in w hg m x v t hop kt et hT.law hT.und refE b n D hm h3 hn (.int .i64 (i : Int)) (.map (some g)) _ hx hv hkey (refD (some g)) [] (refE_mk _) fun w' h5 h6 => ?_
 refine hK w' ⟨hh, _, h5, fun j h7 h8 => ?_⟩ h6.grown ?_
 ·by_cases e : j = i
  ·subst e
   rw [atKey_put_same hT1.isMap (hT.law.key hkey)]
   show _ = refD (if j = j then some g else F j)
   rw [if_pos rfl]
  ·rw [atKey_put_other (key_ne e)]
   show _ = refD (if j = i then some g else F j)
   rw [if_neg e]
   exact h4 j h7 h8
 ·obtain ⟨es, clock, es', clock', _, rfl⟩ := h6
  simp [ChangeMaps.setBlock]
end
end Go.Proofs.YtfpnhgahkjglgaaGreat
