/-
  Layer 05's reference: a place's rules followed once. Plain laws. No conditions.
-/
import Derived.Test.YtkjfdjcagfkdhaaGreatPOuGoP
import Derived.Test.YtkjfdjcagfkdhaaGreatPOuAdd
namespace Go.Proofs.YtkjfdjcagfkdhaaGreat
open Go List

theorem addR_L {rows rows' : List PRow} {i : Nat} {r : PRow} {x : Pq} {big big' fresh : Bool} (h : AddR rows i r x rows' big big' fresh) (hi : rows[i]? = some r) : AddL (rows.map (·.ps)) i x (rows'.map (·.ps)) big big' fresh := by
  refine ⟨r.ps, by rw [getElem?_map, hi]; rfl, ?_⟩
  rcases h with ⟨k, p, h1, h2, h3, h4, h5, A', c', rfl⟩ | ⟨_, h2, rfl, h4, h5⟩ | ⟨_, h2, h3, h4, A', c', rfl⟩
  · exact .inl ⟨k, p, h1, h2, h3, h4, h5, by rw [map_set]⟩
  · exact .inr (.inl ⟨h2, rfl, h4, h5⟩)
  · exact .inr (.inr ⟨h2, h3, h4, by rw [map_set]⟩)
theorem AddL.le {L L' : List (List Pq)} {i : Nat} {x : Pq} {big big' fresh : Bool} (h : AddL L i x L' big big' fresh) (hx : 0 ≤ x.c ∧ x.c ≤ 1000000) (j : Nat) : mu L' j ≤ mu L j := by
  by_cases e : j = i
  · subst e
    cases hf : fresh with
    | true => exact Nat.le_of_lt (h.less hx hf)
    | false => rw [h.old hf]; exact Nat.le_refl _
  · unfold mu
    rw [h.other e]
    exact Nat.le_refl _
structure StepI (s : Sc) (inp : ByteArray) (i : Nat) (L0 : List (List Pq)) (big0 : Bool) (L : List (List Pq)) (big ch : Bool) (k n : Nat) : Prop where
  inv : InvG s inp L
  low : ∀ j, j < i → L[j]? = L0[j]?
  keys : ∀ j m o, HasK L0 j m o → HasK L j m o
  bigger : big0 = true → big = true
  chg : ch = true → mu L i < mu L0 i
  old : ch = false → L[i]? = L0[i]?
  le : mu L i ≤ mu L0 i
  done : ch = false → big = false → ∀ ps, L[i]? = some ps → ∀ (k' : Nat) (p : Pq), ps[k']? = some p → ∀ (n' : Nat) (r : Ru), s.rs[n']? = some r → (k' < k ∨ (k' = k ∧ n' < n)) → SuccK s inp L i p r
/-- What following a place's rules does. -/
def StepR (s : Sc) (inp : ByteArray) (i : Nat) (L : List (List Pq)) (big : Bool) (L' : List (List Pq)) (big' ch : Bool) : Prop :=
  InvG s inp L' ∧ (∀ j, j < i → L'[j]? = L[j]?) ∧ (∀ j m o, HasK L j m o → HasK L' j m o) ∧ (big = true → big' = true) ∧ ((ch = true ∧ mu L' i < mu L i) ∨ (ch = false ∧ (big' = false → ClosedK s inp L' i)))
section
variable {s : Sc} {inp : ByteArray} {i k n : Nat} {L0 L L' : List (List Pq)} {big0 big big' ch fresh : Bool} {ps : List Pq} {p : Pq} {r : Ru}
theorem StepI.start (h : InvG s inp L) : StepI s inp i L big L big false 0 0 :=
  ⟨h, fun _ _ => rfl, fun _ _ _ h => h, fun h => h, fun h => (by cases h), fun _ => rfl, Nat.le_refl _, fun _ _ ps _ k' p _ n' r _ h => absurd h (by omega)⟩
theorem StepI.skip (h : StepI s inp i L0 big0 L big ch k n) (hps : L[i]? = some ps) (hp : ps[k]? = some p) (hr : s.rs[n]? = some r) (hno : ¬ (r.fr = p.m ∧ bl r.inp <+: (bl inp).drop i)) : StepI s inp i L0 big0 L big ch k (n + 1) :=
  ⟨h.inv, h.low, h.keys, h.bigger, h.chg, h.old, h.le, fun h1 h2 ps' h3 k' p' h4 n' r' h5 h6 => by
    by_cases e : k' = k ∧ n' = n
    · obtain ⟨rfl, rfl⟩ := e
      obtain rfl := Option.some.inj (hps.symm.trans h3)
      obtain rfl := Option.some.inj (hp.symm.trans h4)
      obtain rfl := Option.some.inj (hr.symm.trans h5)
      exact fun a b => absurd ⟨a, b⟩ hno
    · exact h.done h1 h2 ps' h3 k' p' h4 n' r' h5 (by omega)⟩
theorem step_rch (hI : InvG s inp L) (hps : L[i]? = some ps) (hp : ps[k]? = some p) (hr : s.rs[n]? = some r) (h1 : r.fr = p.m) (h2 : bl r.inp <+: (bl inp).drop i) : Rch (pairS s) (0, ByteArray.empty) (bl inp) (i + r.inp.size) (r.to, p.o ++ r.out) (p.c + r.co) :=
  Rch.step (k' := (r.to, p.o ++ r.out)) (hI.rch i ps hps p (mem_of_getElem? hp)) (mem_of_getElem? hr) h1 h2 rfl
theorem StepI.add (h : StepI s inp i L0 big0 L big ch k n) (hps : L[i]? = some ps) (hp : ps[k]? = some p) (hr : s.rs[n]? = some r) (h1 : r.fr = p.m) (h2 : bl r.inp <+: (bl inp).drop i) (hx : 0 ≤ p.c + r.co ∧ p.c + r.co ≤ 1000000)
    (ha : AddL L (i + r.inp.size) ⟨r.to, p.o ++ r.out, p.c + r.co⟩ L' big big' fresh) : StepI s inp i L0 big0 L' big' (ch || (fresh && decide (i + r.inp.size = i))) k (n + 1) := by
  have hle := ha.le hx i
  refine ⟨ha.inv h.inv (step_rch h.inv hps hp hr h1 h2), fun j hj => (ha.other (by omega)).trans (h.low j hj), fun j m o hk => ha.keys (h.keys j m o hk), fun hb => ha.bigger (h.bigger hb), fun hc => ?_, fun hc => ?_, Nat.le_trans hle h.le, fun hc hb ps' hps' k' p' hp' n' r' hr' hkn => ?_⟩
  · cases hch : ch with
    | true => exact Nat.lt_of_le_of_lt hle (h.chg hch)
    | false =>
      rw [hch, Bool.false_or, Bool.and_eq_true, decide_eq_true_iff] at hc
      have := ha.less hx hc.1
      rw [hc.2] at this
      exact Nat.lt_of_lt_of_le this h.le
  · rw [Bool.or_eq_false_iff] at hc
    by_cases e : i + r.inp.size = i
    · have hf : fresh = false := by simpa [e] using hc.2
      rw [ha.old hf]
      exact h.old hc.1
    · rw [ha.other (fun e' => e e'.symm)]
      exact h.old hc.1
  · rw [Bool.or_eq_false_iff] at hc
    have hsame : L'[i]? = L[i]? := by
      by_cases e : i + r.inp.size = i
      · have hf : fresh = false := by simpa [e] using hc.2
        rw [ha.old hf]
      · exact ha.other (fun e' => e e'.symm)
    rw [hsame] at hps'
    have hbig : big = false := by
      cases hb2 : big with
      | true => rw [ha.bigger hb2] at hb; cases hb
      | false => rfl
    by_cases e : k' = k ∧ n' = n
    · obtain ⟨rfl, rfl⟩ := e
      obtain rfl := Option.some.inj (hps.symm.trans hps')
      obtain rfl := Option.some.inj (hp.symm.trans hp')
      obtain rfl := Option.some.inj (hr.symm.trans hr')
      intro _ _
      rcases ha.put with h3 | h3
      · exact h3
      · rw [h3] at hb; cases hb
    · intro a b
      exact ha.keys (h.done hc.1 hbig ps' hps' k' p' hp' n' r' hr' (by omega) a b)
theorem StepI.next (h : StepI s inp i L0 big0 L big ch k s.rs.length) : StepI s inp i L0 big0 L big ch (k + 1) 0 :=
  ⟨h.inv, h.low, h.keys, h.bigger, h.chg, h.old, h.le, fun h1 h2 ps' h3 k' p' h4 n' r' h5 h6 => h.done h1 h2 ps' h3 k' p' h4 n' r' h5 (by have := (List.getElem?_eq_some_iff.1 h5).1; omega)⟩
theorem StepI.fin (h : StepI s inp i L0 big0 L big ch k 0) (hps : L[i]? = some ps) (hk : ps.length ≤ k) : StepR s inp i L0 big0 L big ch := by
  refine ⟨h.inv, h.low, h.keys, h.bigger, ?_⟩
  cases hc : ch with
  | true => exact .inl ⟨rfl, h.chg hc⟩
  | false =>
    refine .inr ⟨rfl, fun hb ps' hps' p hp r hr => ?_⟩
    obtain rfl := Option.some.inj (hps.symm.trans hps')
    obtain ⟨k', hk'⟩ := getElem?_of_mem hp
    obtain ⟨n', hn'⟩ := getElem?_of_mem hr
    exact h.done hc hb ps hps k' p hk' n' r hn' (by have := (List.getElem?_eq_some_iff.1 hk').1; omega)
end
end Go.Proofs.YtkjfdjcagfkdhaaGreat
