/-
  Layer 05's reference: the pairs at all places, as lists. Plain laws. No conditions.
-/
import Derived.Test.YtkjfdjcagfkdhaaGreatPOuPl
namespace Go.Proofs.YtkjfdjcagfkdhaaGreat
open Go List

def HasK (L : List (List Pq)) (j : Nat) (m : Int) (o : ByteArray) : Prop := ∃ ps p, L[j]? = some ps ∧ p ∈ ps ∧ p.m = m ∧ p.o = o
/-- What a pair more does. -/
def AddL (L : List (List Pq)) (i : Nat) (x : Pq) (L' : List (List Pq)) (big big' fresh : Bool) : Prop :=
  ∃ ps, L[i]? = some ps ∧ ((∃ k p, ps[k]? = some p ∧ p.m = x.m ∧ p.o = x.o ∧ big' = big ∧ fresh = decide (x.c < p.c) ∧ L' = L.set i (ps.set k ⟨p.m, p.o, if x.c < p.c then x.c else p.c⟩)) ∨
    (150 ≤ ps.length ∧ L' = L ∧ big' = true ∧ fresh = false) ∨ (ps.length < 150 ∧ big' = big ∧ fresh = true ∧ L' = L.set i (ps ++ [x])))
structure InvG (s : Sc) (inp : ByteArray) (L : List (List Pq)) : Prop where
  len : L.length = inp.size + 1
  le : ∀ (i : Nat) (ps : List Pq), L[i]? = some ps → ps.length ≤ 150
  rch : ∀ (i : Nat) (ps : List Pq), L[i]? = some ps → ∀ p ∈ ps, Rch (pairS s) (0, ByteArray.empty) (bl inp) i (p.m, p.o) p.c
def sumPq (ps : List Pq) : Nat := (ps.map fun p => p.c.toNat).sum
def muL (ps : List Pq) : Nat := (150 - ps.length) * 1000000000 + sumPq ps
def mu (L : List (List Pq)) (i : Nat) : Nat := muL ((L[i]?).getD [])
theorem sumPq_set : ∀ (ps : List Pq) (k : Nat) (p q : Pq), ps[k]? = some p → sumPq (ps.set k q) + p.c.toNat = sumPq ps + q.c.toNat
  | [], k, p, q, h => by simp at h
  | a :: l, 0, p, q, h => by
    simp at h
    subst h
    simp [sumPq]
    omega
  | a :: l, k + 1, p, q, h => by
    have ih := sumPq_set l k p q (by simpa using h)
    simp [sumPq] at ih ⊢
    omega
theorem sumPq_app (ps : List Pq) (x : Pq) : sumPq (ps ++ [x]) = sumPq ps + x.c.toNat := by simp [sumPq]
theorem set_samePq {α : Type} {l : List α} {k : Nat} {x : α} (h : l[k]? = some x) : l.set k x = l := by
  refine ext_getElem? fun j => ?_
  by_cases e : k = j
  · subst e
    rw [getElem?_set_self (List.getElem?_eq_some_iff.1 h).1, h]
  · rw [getElem?_set_ne e]
section
variable {s : Sc} {inp : ByteArray} {L L' : List (List Pq)} {i : Nat} {x : Pq} {big big' fresh : Bool}
/-- The old state, or one place's list is another. -/
theorem AddL.form (h : AddL L i x L' big big' fresh) : ∃ ps ps', L[i]? = some ps ∧ L' = L.set i ps' ∧ (∀ p ∈ ps, ∃ q ∈ ps', q.m = p.m ∧ q.o = p.o) := by
  obtain ⟨ps, h1, h⟩ := h
  rcases h with ⟨k, p, hk, hm, ho, _, _, rfl⟩ | ⟨_, rfl, _⟩ | ⟨_, _, _, rfl⟩
  · refine ⟨ps, _, h1, rfl, fun q hq => ?_⟩
    obtain ⟨j, hj⟩ := getElem?_of_mem hq
    by_cases e : k = j
    · subst e
      obtain rfl := Option.some.inj (hk.symm.trans hj)
      exact ⟨_, mem_of_getElem? (getElem?_set_self (List.getElem?_eq_some_iff.1 hk).1), rfl, rfl⟩
    · exact ⟨q, mem_of_getElem? (by rw [getElem?_set_ne e]; exact hj), rfl, rfl⟩
  · exact ⟨ps, ps, h1, (set_samePq h1).symm, fun q hq => ⟨q, hq, rfl, rfl⟩⟩
  · exact ⟨ps, _, h1, rfl, fun q hq => ⟨q, mem_append_left _ hq, rfl, rfl⟩⟩
theorem AddL.length_ (h : AddL L i x L' big big' fresh) : L'.length = L.length := by
  obtain ⟨_, _, _, rfl, _⟩ := h.form
  exact length_set
theorem AddL.other (h : AddL L i x L' big big' fresh) {j : Nat} (hj : j ≠ i) : L'[j]? = L[j]? := by
  obtain ⟨_, _, _, rfl, _⟩ := h.form
  exact getElem?_set_ne (fun e => hj e.symm)
theorem AddL.keys (h : AddL L i x L' big big' fresh) {j : Nat} {m : Int} {o : ByteArray} (hk : HasK L j m o) : HasK L' j m o := by
  obtain ⟨ps, ps', h1, rfl, h2⟩ := h.form
  obtain ⟨qs, p, h3, h4, h5, h6⟩ := hk
  by_cases e : i = j
  · subst e
    obtain rfl := Option.some.inj (h1.symm.trans h3)
    obtain ⟨q, hq, hm, ho⟩ := h2 p h4
    exact ⟨ps', q, getElem?_set_self (List.getElem?_eq_some_iff.1 h1).1, hq, hm.trans h5, ho.trans h6⟩
  · exact ⟨qs, p, by rw [getElem?_set_ne e]; exact h3, h4, h5, h6⟩
theorem AddL.put (h : AddL L i x L' big big' fresh) : HasK L' i x.m x.o ∨ big' = true := by
  obtain ⟨ps, h1, h⟩ := h
  have hl := (List.getElem?_eq_some_iff.1 h1).1
  rcases h with ⟨k, p, hk, hm, ho, _, _, rfl⟩ | ⟨_, rfl, hb, _⟩ | ⟨_, _, _, rfl⟩
  · exact .inl ⟨_, _, getElem?_set_self hl, mem_of_getElem? (getElem?_set_self (List.getElem?_eq_some_iff.1 hk).1), hm, ho⟩
  · exact .inr hb
  · exact .inl ⟨_, x, getElem?_set_self hl, mem_append_right _ (mem_singleton.2 rfl), rfl, rfl⟩
theorem AddL.bigger (h : AddL L i x L' big big' fresh) (hb : big = true) : big' = true := by
  obtain ⟨ps, h1, h⟩ := h
  rcases h with ⟨k, p, _, _, _, h2, _⟩ | ⟨_, _, h2, _⟩ | ⟨_, h2, _⟩
  · rw [h2]; exact hb
  · exact h2
  · rw [h2]; exact hb
theorem AddL.old (h : AddL L i x L' big big' fresh) (hf : fresh = false) : L' = L := by
  obtain ⟨ps, h1, h⟩ := h
  rcases h with ⟨k, p, hk, _, _, _, h2, rfl⟩ | ⟨_, rfl, _⟩ | ⟨_, _, h2, _⟩
  · have hn : ¬ x.c < p.c := by rw [hf] at h2; exact of_decide_eq_false h2.symm
    rw [if_neg hn, set_samePq (x := (⟨p.m, p.o, p.c⟩ : Pq)) hk, set_samePq h1]
  · rfl
  · rw [hf] at h2; cases h2
theorem AddL.less (h : AddL L i x L' big big' fresh) (hx : 0 ≤ x.c ∧ x.c ≤ 1000000) (hf : fresh = true) : mu L' i < mu L i := by
  obtain ⟨ps, h1, h⟩ := h
  have hl := (List.getElem?_eq_some_iff.1 h1).1
  unfold mu
  rw [h1]
  rcases h with ⟨k, p, hk, _, _, _, h2, rfl⟩ | ⟨_, _, _, h2⟩ | ⟨hlen, _, _, rfl⟩
  · have hlt : x.c < p.c := by rw [hf] at h2; exact of_decide_eq_true h2.symm
    rw [getElem?_set_self hl, if_pos hlt]
    show muL (ps.set k ⟨p.m, p.o, x.c⟩) < muL ps
    have := sumPq_set ps k p ⟨p.m, p.o, x.c⟩ hk
    have e : (⟨p.m, p.o, x.c⟩ : Pq).c.toNat = x.c.toNat := rfl
    unfold muL
    rw [length_set]
    omega
  · rw [hf] at h2; cases h2
  · rw [getElem?_set_self hl]
    show muL (ps ++ [x]) < muL ps
    unfold muL
    rw [sumPq_app, length_append, length_singleton]
    have e : 150 - ps.length = (150 - (ps.length + 1)) + 1 := by omega
    rw [e, Nat.add_mul]
    omega
theorem AddL.inv (h : AddL L i x L' big big' fresh) (hI : InvG s inp L) (hr : Rch (pairS s) (0, ByteArray.empty) (bl inp) i (x.m, x.o) x.c) : InvG s inp L' := by
  refine ⟨h.length_.trans hI.len, fun j ps' hj => ?_, fun j ps' hj p hp => ?_⟩
  · by_cases e : j = i
    · subst e
      obtain ⟨ps, h1, h⟩ := h
      have hl := (List.getElem?_eq_some_iff.1 h1).1
      have h150 := hI.le j ps h1
      rcases h with ⟨k, p, hk, _, _, _, _, rfl⟩ | ⟨_, rfl, _⟩ | ⟨hlen, _, _, rfl⟩
      · rw [getElem?_set_self hl] at hj
        obtain rfl := Option.some.inj hj
        rw [length_set]; exact h150
      · exact hI.le j ps' hj
      · rw [getElem?_set_self hl] at hj
        obtain rfl := Option.some.inj hj
        rw [length_append, length_singleton]; omega
    · rw [h.other e] at hj
      exact hI.le j ps' hj
  · by_cases e : j = i
    · subst e
      obtain ⟨ps, h1, h⟩ := h
      have hl := (List.getElem?_eq_some_iff.1 h1).1
      rcases h with ⟨k, q, hk, hm, ho, _, _, rfl⟩ | ⟨_, rfl, _⟩ | ⟨hlen, _, _, rfl⟩
      · rw [getElem?_set_self hl] at hj
        obtain rfl := Option.some.inj hj
        rcases mem_or_eq_of_mem_set hp with hp | rfl
        · exact hI.rch j ps h1 p hp
        · show Rch _ _ _ _ (q.m, q.o) (if x.c < q.c then x.c else q.c)
          split
          · rw [hm, ho]; exact hr
          · exact hI.rch j ps h1 q (mem_of_getElem? hk)
      · exact hI.rch j ps' hj p hp
      · rw [getElem?_set_self hl] at hj
        obtain rfl := Option.some.inj hj
        rcases mem_append.1 hp with hp | hp
        · exact hI.rch j ps h1 p hp
        · rw [mem_singleton.1 hp]; exact hr
    · rw [h.other e] at hj
      exact hI.rch j ps' hj p hp
/-- All rules that go on from a pair at a place have been followed. -/
def SuccK (s : Sc) (inp : ByteArray) (L : List (List Pq)) (j : Nat) (p : Pq) (r : Ru) : Prop := r.fr = p.m → bl r.inp <+: (bl inp).drop j → HasK L (j + r.inp.size) r.to (p.o ++ r.out)
def ClosedK (s : Sc) (inp : ByteArray) (L : List (List Pq)) (j : Nat) : Prop := ∀ ps, L[j]? = some ps → ∀ p ∈ ps, ∀ r ∈ s.rs, SuccK s inp L j p r
theorem ClosedK.mono {j : Nat} (h : ClosedK s inp L j) (he : L'[j]? = L[j]?) (hk : ∀ k m o, HasK L k m o → HasK L' k m o) : ClosedK s inp L' j := fun ps hps p hp r hr h1 h2 => hk _ _ _ (h ps (he ▸ hps) p hp r hr h1 h2)
theorem all_keys (hc : ∀ j, j ≤ inp.size → ClosedK s inp L j) (h0 : HasK L 0 0 ByteArray.empty) {j : Nat} {k : Int × ByteArray} {c : Int} (h : Rch (pairS s) (0, ByteArray.empty) (bl inp) j k c) : j ≤ inp.size ∧ HasK L j k.1 k.2 := by
  induction h with
  | start => exact ⟨Nat.zero_le _, h0⟩
  | @step i k k' c r _ h2 h3 h4 h5 ih =>
    obtain rfl := Option.some.inj h5
    obtain ⟨hi, ps, p, hps, hp, hm, ho⟩ := ih
    have hle : i + r.inp.size ≤ inp.size := by
      have := h4.length_le
      rw [bl_len, length_drop, bl_len] at this
      omega
    refine ⟨hle, ?_⟩
    have := hc i hi ps hps p hp r h2 (by rw [hm]; exact h3) h4
    rw [ho] at this
    exact this
theorem not_many (hI : InvG s inp L) (hc : ∀ j, j ≤ inp.size → ClosedK s inp L j) (h0 : HasK L 0 0 ByteArray.empty) : ¬ Big 2000 s inp := by
  rintro ⟨i, hi, l, h1, h2, h3⟩
  have hin : ∀ k ∈ l, ∃ ps p, L[i]? = some ps ∧ p ∈ ps ∧ (p.m, p.o) = k := fun k hk => by
    obtain ⟨c, hc'⟩ := h3 k hk
    obtain ⟨_, ps, p, hps, hp, hm, ho⟩ := all_keys hc h0 hc'
    exact ⟨ps, p, hps, hp, by rw [hm, ho]⟩
  obtain ⟨ps, hps⟩ : ∃ ps, L[i]? = some ps := ⟨_, getElem?_eq_getElem (by rw [hI.len]; omega)⟩
  have hsub : l.length ≤ (ps.map fun p => (p.m, p.o)).length := nodup_le h1 fun k hk => by
    obtain ⟨ps', p, hps', hp, e⟩ := hin k hk
    obtain rfl := Option.some.inj (hps.symm.trans hps')
    exact mem_map.2 ⟨p, hp, e⟩
  have := hI.le i ps hps
  rw [length_map] at hsub
  omega
end
end Go.Proofs.YtkjfdjcagfkdhaaGreat
