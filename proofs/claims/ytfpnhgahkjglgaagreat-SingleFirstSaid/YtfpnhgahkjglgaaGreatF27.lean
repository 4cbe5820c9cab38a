/-
  OuGoP, OuRow, OuAdd, joined. No conditions.
-/
import Derived.Test.YtfpnhgahkjglgaaGreatF26
import Derived.Test.YtfpnhgahkjglgaaGreatF05
import Derived.Test.YtfpnhgahkjglgaaGreatF14
import Derived.ArgAppend
import Derived.Test.YtfpnhgahkjglgaaGreatF21
import Derived.Test.YtfpnhgahkjglgaaGreatF06
set_option maxRecDepth 100000
namespace Go.Proofs.YtfpnhgahkjglgaaGreat
open Go List
def HasK (L : List (List Pq)) (j : Nat) (m : Int) (o : ByteArray) (c : Int) : Prop := ∃ ps p, L[j]? = some ps ∧ p ∈ ps ∧ p.m = m ∧ p.o = o ∧ p.c ≤ c
def AddL (L : List (List Pq)) (i : Nat) (x : Pq) (L' : List (List Pq)) (big big' fresh : Bool) : Prop :=
 ∃ ps, L[i]? = some ps ∧ ((∃ k p, ps[k]? = some p ∧ p.m = x.m ∧ p.o = x.o ∧ big' = big ∧ fresh = decide (x.c < p.c) ∧ L' = L.set i (ps.set k ⟨p.m, p.o, if x.c < p.c then x.c else p.c⟩)) ∨
  (150 ≤ ps.length ∧ L' = L ∧ big' = true ∧ fresh = false) ∨ (ps.length < 150 ∧ big' = big ∧ fresh = true ∧ L' = L.set i (ps ++ [x])))
structure InvG (s : Sc) (inp : ByteArray) (L : List (List Pq)) : Prop where
 len : L.length = inp.size + 1
 le : ∀ (i : Nat) (ps : List Pq), L[i]? = some ps → ps.length ≤ 150
 rch : ∀ (i : Nat) (ps : List Pq), L[i]? = some ps → ∀ p ∈ ps, Rch (pairS s) (0, ByteArray.empty) (bl inp) i (p.m, p.o) p.c
def sumPq (ps : List Pq) : Nat := (ps.map fun p => p.c.toNat).sum
def muL (ps : List Pq) : Nat := (150 - ps.length) * 1000000000 + sumPq ps
def mu (L : List (List Pq)) (i : Nat) : Nat := muL ((L[i]?).getD [])
theorem sumPq_set : ∀ (ps : List Pq) (k : Nat) (p q : Pq), ps[k]? = some p → sumPq (ps.set k q) + p.c.toNat = sumPq ps + q.c.toNat
 | [], k, p, q, h => by simp at h
 | a :: l, 0, p, q, h => by
  simp at h
  subst h
  simp [sumPq]
  omega
 | a :: l, k + 1, p, q, h => by
  have ih := sumPq_set l k p q (by simpa using h)
  simp [sumPq] at ih ⊢
  omega
theorem sumPq_app (ps : List Pq) (x : Pq) : sumPq (ps ++ [x]) = sumPq ps + x.c.toNat := by simp [sumPq]
theorem set_samePq {α : Type} {l : List α} {k : Nat} {x : α} (h : l[k]? = some x) : l.set k x = l := by
 refine ext_getElem? fun j => ?_
 by_cases e : k = j
 ·subst e
  rw [getElem?_set_self (List.getElem?_eq_some_iff.1 h).1, h]
 ·rw [getElem?_set_ne e]
section
variable {s : Sc} {inp : ByteArray} {L L' : List (List Pq)} {i : Nat} {x : Pq} {big big' fresh : Bool}
theorem AddL.form (h : AddL L i x L' big big' fresh) : ∃ ps ps', L[i]? = some ps ∧ L' = L.set i ps' ∧ (∀ p ∈ ps, ∃ q ∈ ps', q.m = p.m ∧ q.o = p.o ∧ q.c ≤ p.c) := by
 obtain ⟨ps, h1, h⟩ := h
 rcases h with ⟨k, p, hk, hm, ho, _, _, rfl⟩ | ⟨_, rfl, _⟩ | ⟨_, _, _, rfl⟩
 ·refine ⟨ps, _, h1, rfl, fun q hq => ?_⟩
  obtain ⟨j, hj⟩ := getElem?_of_mem hq
  by_cases e : k = j
  ·subst e
   obtain rfl := Option.some.inj (hk.symm.trans hj)
   exact ⟨_, mem_of_getElem? (getElem?_set_self (List.getElem?_eq_some_iff.1 hk).1), rfl, rfl, by show (if x.c < p.c then x.c else p.c) ≤ p.c; split <;> omega⟩
  ·exact ⟨q, mem_of_getElem? (by rw [getElem?_set_ne e]; exact hj), rfl, rfl, Int.le_refl _⟩
 ·exact ⟨ps, ps, h1, (set_samePq h1).symm, fun q hq => ⟨q, hq, rfl, rfl, Int.le_refl _⟩⟩
 ·exact ⟨ps, _, h1, rfl, fun q hq => ⟨q, mem_append_left _ hq, rfl, rfl, Int.le_refl _⟩⟩
theorem AddL.length_ (h : AddL L i x L' big big' fresh) : L'.length = L.length := by
 obtain ⟨_, _, _, rfl, _⟩ := h.form
 exact length_set
theorem AddL.other (h : AddL L i x L' big big' fresh) {j : Nat} (hj : j ≠ i) : L'[j]? = L[j]? := by
 obtain ⟨_, _, _, rfl, _⟩ := h.form
 exact getElem?_set_ne (fun e => hj e.symm)
theorem AddL.keys (h : AddL L i x L' big big' fresh) {j : Nat} {m : Int} {o : ByteArray} {c : Int} (hk : HasK L j m o c) : HasK L' j m o c := by
 obtain ⟨ps, ps', h1, rfl, h2⟩ := h.form
 obtain ⟨qs, p, h3, h4, h5, h6, h7⟩ := hk
 by_cases e : i = j
 ·subst e
  obtain rfl := Option.some.inj (h1.symm.trans h3)
  obtain ⟨q, hq, hm, ho, hc⟩ := h2 p h4
  exact ⟨ps', q, getElem?_set_self (List.getElem?_eq_some_iff.1 h1).1, hq, hm.trans h5, ho.trans h6, Int.le_trans hc h7⟩
 ·exact ⟨qs, p, by rw [getElem?_set_ne e]; exact h3, h4, h5, h6, h7⟩
theorem AddL.put (h : AddL L i x L' big big' fresh) : HasK L' i x.m x.o x.c ∨ big' = true := by
 obtain ⟨ps, h1, h⟩ := h
 have hl := (List.getElem?_eq_some_iff.1 h1).1
 rcases h with ⟨k, p, hk, hm, ho, _, _, rfl⟩ | ⟨_, rfl, hb, _⟩ | ⟨_, _, _, rfl⟩
 ·exact .inl ⟨_, _, getElem?_set_self hl, mem_of_getElem? (getElem?_set_self (List.getElem?_eq_some_iff.1 hk).1), hm, ho, by show (if x.c < p.c then x.c else p.c) ≤ x.c; split <;> omega⟩
 ·exact .inr hb
 ·exact .inl ⟨_, x, getElem?_set_self hl, mem_append_right _ (mem_singleton.2 rfl), rfl, rfl, Int.le_refl _⟩
theorem AddL.bigger (h : AddL L i x L' big big' fresh) (hb : big = true) : big' = true := by
 obtain ⟨ps, h1, h⟩ := h
 rcases h with ⟨k, p, _, _, _, h2, _⟩ | ⟨_, _, h2, _⟩ | ⟨_, h2, _⟩
 ·rw [h2]; exact hb
 ·exact h2
 ·rw [h2]; exact hb
theorem AddL.old (h : AddL L i x L' big big' fresh) (hf : fresh = false) : L' = L := by
 obtain ⟨ps, h1, h⟩ := h
 rcases h with ⟨k, p, hk, _, _, _, h2, rfl⟩ | ⟨_, rfl, _⟩ | ⟨_, _, h2, _⟩
 ·have hn : ¬ x.c < p.c := by rw [hf] at h2; exact of_decide_eq_false h2.symm
  rw [if_neg hn, set_samePq (x := (⟨p.m, p.o, p.c⟩ : Pq)) hk, set_samePq h1]
 ·rfl
 ·rw [hf] at h2; cases h2
theorem AddL.less (h : AddL L i x L' big big' fresh) (hx : 0 ≤ x.c ∧ x.c ≤ 1000000) (hf : fresh = true) : mu L' i < mu L i := by
 obtain ⟨ps, h1, h⟩ := h
 have hl := (List.getElem?_eq_some_iff.1 h1).1
 unfold mu
 rw [h1]
 rcases h with ⟨k, p, hk, _, _, _, h2, rfl⟩ | ⟨_, _, _, h2⟩ | ⟨hlen, _, _, rfl⟩
 ·have hlt : x.c < p.c := by rw [hf] at h2; exact of_decide_eq_true h2.symm
  rw [getElem?_set_self hl, if_pos hlt]
  show muL (ps.set k ⟨p.m, p.o, x.c⟩) < muL ps
  have := sumPq_set ps k p ⟨p.m, p.o, x.c⟩ hk
  have e : (⟨p.m, p.o, x.c⟩ : Pq).c.toNat = x.c.toNat := rfl
  unfold muL
  rw [length_set]
  omega
 ·rw [hf] at h2; cases h2
 ·rw [getElem?_set_self hl]
  show muL (ps ++ [x]) < muL ps
  unfold muL
  rw [sumPq_app, length_append, length_singleton]
  have e : 150 - ps.length = (150 - (ps.length + 1)) + 1 := by omega
  rw [e, Nat.add_mul]
  omega
theorem AddL.inv (h : AddL L i x L' big big' fresh) (hI : InvG s inp L) (hr : Rch (pairS s) (0, ByteArray.empty) (bl inp) i (x.m, x.o) x.c) : InvG s inp L' := by
 refine ⟨h.length_.trans hI.len, fun j ps' hj => ?_, fun j ps' hj p hp => ?_⟩
 ·by_cases e : j = i
  ·subst e
   obtain ⟨ps, h1, h⟩ := h
   have hl := (List.getElem?_eq_some_iff.1 h1).1
   have h150 := hI.le j ps h1
   rcases h with ⟨k, p, hk, _, _, _, _, rfl⟩ | ⟨_, rfl, _⟩ | ⟨hlen, _, _, rfl⟩
   ·rw [getElem?_set_self hl] at hj
    obtain rfl := Option.some.inj hj
    rw [length_set]; exact h150
   ·exact hI.le j ps' hj
   ·rw [getElem?_set_self hl] at hj
    obtain rfl := Option.some.inj hj
    rw [length_append, length_singleton]; omega
  ·rw [h.other e] at hj
   exact hI.le j ps' hj
 ·by_cases e : j = i
  ·subst e
   obtain ⟨ps, h1, h⟩ := h
   have hl := (List.getElem?_eq_some_iff.1 h1).1
   rcases h with ⟨k, q, hk, hm, ho, _, _, rfl⟩ | ⟨_, rfl, _⟩ | ⟨hlen, _, _, rfl⟩
   ·rw [getElem?_set_self hl] at hj
    obtain rfl := Option.some.inj hj
    rcases mem_or_eq_of_mem_set hp with hp | rfl
    ·exact hI.rch j ps h1 p hp
    ·show Rch _ _ _ _ (q.m, q.o) (if x.c < q.c then x.c else q.c)
     split
     ·rw [hm, ho]; exact hr
     ·exact hI.rch j ps h1 q (mem_of_getElem? hk)
   ·exact hI.rch j ps' hj p hp
   ·rw [getElem?_set_self hl] at hj
    obtain rfl := Option.some.inj hj
    rcases mem_append.1 hp with hp | hp
    ·exact hI.rch j ps h1 p hp
    ·rw [mem_singleton.1 hp]; exact hr
  ·rw [h.other e] at hj
   exact hI.rch j ps' hj p hp
def SuccK (s : Sc) (inp : ByteArray) (L : List (List Pq)) (j : Nat) (p : Pq) (r : Ru) : Prop := r.fr = p.m → bl r.inp <+: (bl inp).drop j → HasK L (j + r.inp.size) r.to (p.o ++ r.out) (p.c + r.co)
def ClosedK (s : Sc) (inp : ByteArray) (L : List (List Pq)) (j : Nat) : Prop := ∀ ps, L[j]? = some ps → ∀ p ∈ ps, ∀ r ∈ s.rs, SuccK s inp L j p r
theorem ClosedK.mono {j : Nat} (h : ClosedK s inp L j) (he : L'[j]? = L[j]?) (hk : ∀ k m o c, HasK L k m o c → HasK L' k m o c) : ClosedK s inp L' j := fun ps hps p hp r hr h1 h2 => hk _ _ _ _ (h ps (he ▸ hps) p hp r hr h1 h2)
theorem all_keys (hc : ∀ j, j ≤ inp.size → ClosedK s inp L j) (h0 : HasK L 0 0 ByteArray.empty 0) {j : Nat} {k : Int × ByteArray} {c : Int} (h : Rch (pairS s) (0, ByteArray.empty) (bl inp) j k c) : j ≤ inp.size ∧ HasK L j k.1 k.2 c := by
 induction h with
 | start => exact ⟨Nat.zero_le _, h0⟩
 | @step i k k' c r _ h2 h3 h4 h5 ih =>
  obtain rfl := Option.some.inj h5
  obtain ⟨hi, ps, p, hps, hp, hm, ho, hc'⟩ := ih
  have hle : i + r.inp.size ≤ inp.size := by
   have := h4.length_le
   rw [bl_len, length_drop, bl_len] at this
   omega
  refine ⟨hle, ?_⟩
  have := hc i hi ps hps p hp r h2 (by rw [hm]; exact h3) h4
  rw [ho] at this
  obtain ⟨qs, q, h6, h7, h8, h9, h10⟩ := this
  exact ⟨qs, q, h6, h7, h8, h9, by omega⟩
theorem not_many (hI : InvG s inp L) (hc : ∀ j, j ≤ inp.size → ClosedK s inp L j) (h0 : HasK L 0 0 ByteArray.empty 0) : ¬ Big 2000 s inp := by
 rintro ⟨i, hi, l, h1, h2, h3⟩
 have hin : ∀ k ∈ l, ∃ ps p, L[i]? = some ps ∧ p ∈ ps ∧ (p.m, p.o) = k := fun k hk => by
  obtain ⟨c, hc'⟩ := h3 k hk
  obtain ⟨_, ps, p, hps, hp, hm, ho, _⟩ := all_keys hc h0 hc'
  exact ⟨ps, p, hps, hp, by rw [hm, ho]⟩
 obtain ⟨ps, hps⟩ : ∃ ps, L[i]? = some ps := ⟨_, getElem?_eq_getElem (by rw [hI.len]; omega)⟩
 have hsub : l.length ≤ (ps.map fun p => (p.m, p.o)).length := nodup_le h1 fun k hk => by
  obtain ⟨ps', p, hps', hp, e⟩ := hin k hk
  obtain rfl := Option.some.inj (hps.symm.trans hps')
  exact mem_map.2 ⟨p, hp, e⟩
 have := hI.le i ps hps
 rw [length_map] at hsub
 omega
end
end Go.Proofs.YtfpnhgahkjglgaaGreat
namespace Go.Proofs.YtfpnhgahkjglgaaGreat
open Go Go.RowKit
structure Rw where
 a : List Int
 b : List Int
 A : Option Addr
 B : Option Addr
 c : Nat
 d : Nat
 f : Int
 t : Int
 co : Int
def encRw (x : Rw) : List Value := [.slice x.A x.a.length x.c, .slice x.B x.b.length x.d, .int .u8 x.f, .int .u8 x.t, .int .u8 x.co]
structure RwOK (w : World) (x : Rw) : Prop where
 sa : SlR 1 RU8 w x.A x.a
 sb : SlR 1 RU8 w x.B x.b
 la : x.a.length ≤ maxLen
 lb : x.b.length ≤ maxLen
 ba : ∀ y ∈ x.a, 0 ≤ y ∧ y ≤ 255
 bb : ∀ y ∈ x.b, 0 ≤ y ∧ y ≤ 255
 f : 0 ≤ x.f ∧ x.f ≤ 255
 t : 0 ≤ x.t ∧ x.t ≤ 255
 co : 0 ≤ x.co ∧ x.co ≤ 255
def RRw (w : World) (x : Rw) (vs : List Value) : Prop := vs = encRw x ∧ RwOK w x
theorem RwOK.below {w w' : World} {x : Rw} (h : RwOK w x) (hb : Below w.heap.size w w') : RwOK w' x := ⟨h.sa.below keeps_u8 hb, h.sb.below keeps_u8 hb, h.la, h.lb, h.ba, h.bb, h.f, h.t, h.co⟩
theorem keeps_rw : Keeps RRw := fun _ _ _ _ hb h => ⟨h.1, h.2.below hb⟩
theorem SlR.rw5 {w : World} {A : Option Addr} {k : Nat} {xs : List Rw} (h : SlR 5 RRw w A xs) (hk : k < xs.length) : ∃ b off x, A = some ⟨b, off, none⟩ ∧ b < w.heap.size ∧ xs[k]? = some x ∧ RwOK w x ∧
 w.cell? ⟨b, off + k * 5, none⟩ = some (.slice x.A x.a.length x.c) ∧ w.cell? ⟨b, off + k * 5 + 1, none⟩ = some (.slice x.B x.b.length x.d) ∧ w.cell? ⟨b, off + k * 5 + 2, none⟩ = some (.int .u8 x.f) ∧ w.cell? ⟨b, off + k * 5 + 3, none⟩ = some (.int .u8 x.t) ∧ w.cell? ⟨b, off + k * 5 + 4, none⟩ = some (.int .u8 x.co) := by
 obtain ⟨b, off, x, vs, hA, hlt, hx, ⟨hr, hr2⟩, _, hv⟩ := h.at_ hk
 exact ⟨b, off, x, hA, hlt, hx, hr2, hv 0 _ (by rw [hr]; rfl), hv 1 _ (by rw [hr]; rfl), hv 2 _ (by rw [hr]; rfl), hv 3 _ (by rw [hr]; rfl), hv 4 _ (by rw [hr]; rfl)⟩
def RowG (w : World) (lo hi : Nat) (e : TypeId) (s : Nat) (v : Value) (n : Nat) (xs : List Value) : Prop :=
 w.ownsRow (hi + 1) e s v n xs ∨ ∃ g off, v = .slice (some ⟨g, off, none⟩) n n ∧ (lo ≤ g ∧ g < hi) ∧ xs.length = n * s ∧ ∀ j u, xs[j]? = some u → w.cell? ⟨g, off + j, none⟩ = some u
section
variable {w w' : World} {lo hi : Nat} {e : TypeId} {s n : Nat} {v : Value} {xs : List Value}
theorem RowG.ne (h : RowG w lo hi e s v n xs) {b : Nat} (hb : b = hi ∨ b < lo) (hl : lo ≤ hi) : v.ownBlock ≠ some b := fun e => by
 rcases h with h | ⟨g, off, rfl, hg, _⟩
 ·have := own_block_le h _ e; omega
 ·simp [Value.ownBlock] at e; omega
theorem RowG.below (h : RowG w lo hi e s v n xs) (hh : hi ≤ w.heap.size) (hb : Below w.heap.size w w') : RowG w' lo hi e s v n xs := by
 rcases h with h | ⟨g, off, rfl, hg, hl, hc⟩
 ·exact .inl (own_below h hb)
 ·exact .inr ⟨g, off, rfl, hg, hl, fun j u hj => (hb.cell (p := ⟨g, _, none⟩) (Nat.lt_of_lt_of_le hg.2 hh)).trans (hc j u hj)⟩
theorem RowG.setN (h : RowG w lo hi e s v n xs) {b : Nat} (hb : v.ownBlock ≠ some b) (o : Nat) (u : Value) : RowG (w.setCell ⟨b, o, none⟩ u) lo hi e s v n xs := by
 rcases h with h | ⟨g, off, rfl, hg, hl, hc⟩
 ·exact .inl (own_set h (a := ⟨b, o, none⟩) hb u)
 ·refine .inr ⟨g, off, rfl, hg, hl, fun j x hj => ?_⟩
  rw [World.cell?_of_block (Below.heap_setCell w ⟨b, o, none⟩ u g (fun e => hb (by simp [Value.ownBlock]; exact e)))]
  exact hc j x hj
theorem RowG.set (h : RowG w lo hi e s v n xs) (o : Nat) (u : Value) : RowG (w.setCell ⟨hi, o, none⟩ u) lo hi e s v n xs := by
 rcases h with h | ⟨g, off, rfl, hg, hl, hc⟩
 ·exact .inl (own_set h (a := ⟨hi, o, none⟩) (fun e => absurd (own_block_le h _ e) (Nat.not_succ_le_self _)) u)
 ·refine .inr ⟨g, off, rfl, hg, hl, fun j x hj => ?_⟩
  rw [World.cell?_of_block (Below.heap_setCell w ⟨hi, o, none⟩ u g (by simp; omega))]
  exact hc j x hj
end
theorem info_partsR {t : TypeId} {z : Value} {s b : Nat} (h : (Tryz.prog.info? t).map (fun i => (i.zero, i.size, i.bytes)) = some (some z, s, b)) : ∃ i, Tryz.prog.info? t = some i ∧ i.zero = some z ∧ i.size = s ∧ i.bytes = b := by
 cases hi : Tryz.prog.info? t with
 | none => rw [hi] at h; cases h
 | some i =>
  rw [hi] at h
  simp at h
  exact ⟨i, rfl, h.1, h.2.1, h.2.2⟩
theorem rule_info : (Tryz.prog.info? 61).map (fun i => (i.zero, i.size, i.bytes)) = some (some (.agg #[.int .i64 0, .int .i64 0, .string ⟨#[]⟩, .string ⟨#[]⟩, .int .i64 0]), 5, 56) := by kernel_rfl
theorem news_blk {w : World} {g : Nat} {t : TypeId} {cs : Array Value} (h : Blk w g t cs) : ∀ j u, cs.toList[j]? = some u → w.cell? ((⟨g, 0, none⟩ : Addr).add j) = some u := fun j u hu => by
 rw [Addr.add_lit, Nat.zero_add, h.cell]
 simpa using hu
theorem getG {α : Type} {s : Nat} {enc : α → List Value} (hl : ∀ x, (enc x).length = s) : ∀ (l : List α) (k : Nat) (x : α), l[k]? = some x → ∀ j u, (enc x)[j]? = some u → (l.flatMap enc)[k * s + j]? = some u := by
 intro l
 induction l with
 | nil => intro k x h; simp at h
 | cons y l ih =>
  intro k x hx j u hu
  rw [List.flatMap_cons]
  cases k with
  | zero =>
   simp at hx
   subst hx
   rw [List.getElem?_append_left (by have := (List.getElem?_eq_some_iff.1 hu).1; omega)]
   simpa using hu
  | succ k =>
   rw [List.getElem?_cons_succ] at hx
   rw [List.getElem?_append_right (by rw [hl, Nat.add_mul]; omega), hl, show (k + 1) * s + j - s = k * s + j by rw [Nat.add_mul]; omega]
   exact ih k x hx j u hu
theorem RowG.slr {α : Type} {enc : α → List Value} {R : World → α → List Value → Prop} {w : World} {lo hi : Nat} {e : TypeId} {s : Nat} {v : Value} {ks : List α} (h : RowG w lo hi e s v ks.length (ks.flatMap enc)) (hl : ∀ x, (enc x).length = s) (hR : ∀ w x, R w x (enc x)) (hm : ks.length ≤ maxLen) (hh : hi ≤ w.heap.size) :
 ∃ A c, v = .slice A ks.length c ∧ ks.length ≤ c ∧ c ≤ maxLen ∧ SlR s R w A ks := by
 rcases h with h | ⟨g, off, rfl, hg, _, hc⟩
 ·exact own_slr h hl (hR w) rfl
 ·exact ⟨some ⟨g, off, none⟩, ks.length, rfl, Nat.le_refl _, hm, fun _ => ⟨g, off, rfl, by omega, fun k x hx => ⟨enc x, hR w x, hl x, fun j u hj => by have := hc (k * s + j) u (getG hl ks k x hx j u hj); rw [← Nat.add_assoc] at this; exact this⟩⟩⟩
theorem own_cut {w : World} {base : Nat} {e : TypeId} {s n m : Nat} {A : Option Addr} {c : Nat} {xs ys : List Value} (h : w.ownsRow base e s (.slice A (n + (m + 1)) c) (n + (m + 1)) (xs ++ ys)) (hx : xs.length = n * s) : w.ownsRow base e s (.slice A n c) n xs := by
 obtain ⟨_, h2⟩ := h
 rcases h2 with ⟨_, h0⟩ | ⟨g, cap, cur, hv, hg, hh, hnc, hcm, hcs, htk⟩
 ·omega
 ·injection hv with h1 h2 h3
  subst h1 h3
  refine ⟨hx, .inr ⟨g, c, cur, rfl, hg, hh, by omega, hcm, hcs, ?_⟩⟩
  have h4 : (xs ++ ys).take (n * s) = xs := by rw [← hx]; exact List.take_left
  rw [← h4, ← htk, List.take_take, Nat.min_eq_left (Nat.mul_le_mul_right _ (by omega))]
structure ButR (v : Value) (w w' : World) : Prop where
 size : w.heap.size ≤ w'.heap.size
 block : ∀ b, b < w.heap.size → v.ownBlock ≠ some b → w'.heap[b]? = w.heap[b]?
theorem ButR.of_below {v : Value} {w w' : World} (h : Below w.heap.size w w') : ButR v w w' := ⟨h.size, fun b hb _ => h.block b hb⟩
theorem ButR.cell {v : Value} {w w' : World} (h : ButR v w w') : ∀ b o, b < w.heap.size → v.ownBlock ≠ some b → w'.cell? ⟨b, o, none⟩ = w.cell? ⟨b, o, none⟩ := fun b _ hb hv => World.cell?_of_block (h.block b hb hv)
theorem ButR.apps {v v' : Value} {w w1 w2 : World} (h : ButR v w w1) (hs : w1.heap.size ≤ w2.heap.size) (ha : Apps w1 w2 v v') : ButR v w w2 :=
 ⟨Nat.le_trans h.size hs, fun b hb hv => (ha.keep b (Nat.lt_of_lt_of_le hb h.size) hv).trans (h.block b hb hv)⟩
section
variable {P : Program}
theorem wp_appG {o : Oper} {a : Act} {K : Act → World → Prop} {Q : Exit → Act → World → Prop} {w : World} (s x : Operand) (t : TypeId)
 (ho : o.op = .call { callee := .builtin .append, args := #[s, x], argTypes := #[t, t] })
 (lo hi : Nat) (e : TypeId) (i : TypeInfo) (z : Value) (size bytes : Nat) (ht : P.underlying t = some (.slice e)) (hi' : P.info? e = some i) (hz : i.zero = some z)
 (hsize : i.size = size) (hby : i.bytes = bytes) (hzs : z.cells.size = size) (hsz : 0 < size)
 (v : Value) (n : Nat) (xs : List Value) (hs : a.eval s = v) (hown : RowG w lo hi e size v n xs)
 (ad : Addr) (c : Nat) (news : List Value) (hx : a.eval x = .slice (some ad) 1 c) (hl : news.length = size) (hnews : ∀ j u, news[j]? = some u → w.cell? (ad.add j) = some u) (h1 : ∀ u ∈ news, u.oneCell' = true)
 (hn : n + 1 ≤ 1000000) (hbb : bytes ≤ 1000) (hbase : hi + 1 ≤ w.heap.size)
 (h : ∀ v' w', w'.ownsRow (hi + 1) e size v' (n + 1) (xs ++ news) → Below (hi + 1) w w' → Apps w w' v v' → K (a.put o.dst v') w') : o.wp P a w K Q := by
 have hb1 : (n + 1) * bytes ≤ 1000000 * 1000 := Nat.mul_le_mul hn hbb
 have key : ∃ v' w', (Builtin.append_ #[t, t] o.type #[v, .slice (some ad) 1 c]).run P w = .ok v' w' ∧ w'.ownsRow (hi + 1) e size v' (n + 1) (xs ++ news) ∧ Below (hi + 1) w w' ∧ Apps w w' v v' := by
  rcases hown with hown | ⟨g, off, rfl, hg, hxl, hc⟩
  ·obtain ⟨v', w', hrun, h2, h3, _, h5⟩ := run_append_own_at (P := P) w (hi + 1) t o.type e i z size bytes ht hi' hz hsize hby hzs hsz v n xs hown ad 1 c news (by rw [hl, Nat.one_mul]) hnews h1 (by unfold maxLen; omega) (by omega) hbase
   refine ⟨v', w', hrun, h2, (Below.refl _ _).grown h3 hbase (own_block_le hown), ⟨fun k hk hne => h3.block k hk (fun e => hne e.symm), ?_⟩⟩
   rcases h5 with h5 | h5
   ·exact .inl h5
   ·exact .inr ⟨_, h5, Nat.le_refl _⟩
  ·obtain ⟨v', w', hrun, h2, h3⟩ := run_append_arg_grows (P := P) w t o.type e i z size bytes ht hi' hz hsize hby hzs hsz ⟨g, off, none⟩ n n xs hxl (fun j u hj => by rw [Addr.add_lit]; exact hc j u hj) ad 1 c news (by rw [hl, Nat.one_mul]) hnews (by omega) (by unfold maxLen; omega) (by omega)
   refine ⟨v', w', hrun, own_base h2 hbase, (Below.refl _ _).grown h3 hbase (fun k hk => by cases hk), ⟨fun k hk _ => h3.block k hk (fun e => by cases e), ?_⟩⟩
   rcases h2.2 with ⟨_, h0⟩ | ⟨g', _, _, hv, hg', _⟩
   ·omega
   ·exact .inr ⟨g', by rw [hv]; rfl, hg'⟩
 obtain ⟨v', w', hrun, h2, h3, h5⟩ := key
 unfold Oper.wp execOp
 simp only [ho, resolve, invoke, builtin, Sem.run_bind, Sem.run_pure, Result.andThen_ok, List.map_toArray, List.map_cons, List.map_nil, hs, hx, hrun]
 exact h v' w' h2 h3 h5
end
def AddR (rows : List PRow) (i : Nat) (r : PRow) (x : Pq) (rows' : List PRow) (big big' fresh : Bool) : Prop :=
 (∃ k p, r.ps[k]? = some p ∧ p.m = x.m ∧ p.o = x.o ∧ big' = big ∧ fresh = decide (x.c < p.c) ∧ ∃ A' c', rows' = rows.set i ⟨A', c', r.ps.set k ⟨p.m, p.o, if x.c < p.c then x.c else p.c⟩⟩) ∨
 ((∀ p ∈ r.ps, ¬ (p.m = x.m ∧ p.o = x.o)) ∧ 150 ≤ r.ps.length ∧ rows' = rows ∧ big' = true ∧ fresh = false) ∨
 ((∀ p ∈ r.ps, ¬ (p.m = x.m ∧ p.o = x.o)) ∧ r.ps.length < 150 ∧ big' = big ∧ fresh = true ∧ ∃ A' c', rows' = rows.set i ⟨A', c', r.ps ++ [x]⟩)
def IsAdd (w : World) (gp gL cL : Nat) (s : Sc) (A : Option Addr) (c : Nat) (inp : ByteArray) (rows : List PRow) (big : Bool) (i : Nat) (r : PRow) (x : Pq) (e : Ending) (w' : World) : Prop :=
 ∃ rows' big' fresh, e = .returned (.bool fresh) ∧ PlcI w' gp gL cL s A c inp rows' big' ∧ AddR rows i r x rows' big big' fresh ∧ Below gp w w'
theorem pair_info5 : (Tryz.prog.info? 151).map (fun i => (i.zero, i.size, i.bytes)) = some (some (.agg #[.int .i64 0, .string ⟨#[]⟩, .int .i64 0]), 3, 32) := by kernel_rfl
set_option maxHeartbeats 16000000 in
theorem radd_any (w : World) (gp gL cL : Nat) (s : Sc) (A : Option Addr) (c : Nat) (inp : ByteArray) (rows : List PRow) (big : Bool) (i : Nat) (r : PRow) (x : Pq) (hI : PlcI w gp gL cL s A c inp rows big) (hi : rows[i]? = some r) (h150 : r.ps.length ≤ 150) (_hrl : rows.length ≤ 1000) :
 Calls Tryz.prog 71 #[.pointer (some ⟨gp, 0, none⟩), .int .i64 (i : Int), .agg #[.int .i64 x.m, .string x.o, .int .i64 x.c]] w (IsAdd w gp gL cL s A c inp rows big i r x) := by
 obtain ⟨i0, hinf, hz0, hz1, hz2⟩ := info_partsR pair_info5
 obtain ⟨w1, hw1⟩ : ∃ w1, w.alloc (.cells #[.int .i64 x.m, .string x.o, .int .i64 x.c] 151) = w1 := ⟨_, rfl⟩
 obtain ⟨g5, hg5⟩ : ∃ g, w.heap.size = g := ⟨_, rfl⟩
 have hX5 : Blk w1 g5 151 #[.int .i64 x.m, .string x.o, .int .i64 x.c] := by rw [← hw1]; exact Blk.new_ hg5.symm
 have hb1 : Below w.heap.size w w1 := by rw [← hw1]; exact nw _ (Below.refl _ _)
 have hP1 := hI.below hb1
 have hgl0 := hI.gl
 have hil : i < rows.length := (List.getElem?_eq_some_iff.1 hi).1
 have hgp5 : gp < g5 := by omega
 have hrow := hI.row hi
 have hcL : rows.length ≤ cL := hrow.2.2
 have HW1 := Lib.hid hw1
 have HG5 := Lib.hid hg5
 have HX5 := Lib.hid hX5
 have HP := Lib.hid hP1
 have HB1 : Hid (Below gp w w1) := hb1.mono (by omega)
 have hs1 : g5 < w1.heap.size := hX5.lt
 have HLT : Hid (∀ q, r.val.ownBlock = some q → q < g5 ∧ gp < q) := fun q hq => by have := (hI.own i r hi).lt q hq; omega
 clear hw1 hX5 hP1 hb1 hI hrow hg5
 go_enter Tryz.func71, Tryz.ntmps71
 go_upto_region 1 with fail
 rw [HW1.out, HG5.out]
 go_wp2_with fail
 go_loopw [7] (fun iv wr => ∃ k : Nat, k ≤ r.ps.length ∧ iv = .int .i64 (k : Int) ∧ Hid (∀ p ∈ r.ps.take k, ¬ (p.m = x.m ∧ p.o = x.o)) ∧ Below w1.heap.size w1 wr) (fun iv _ => r.ps.length - (intOf iv).toNat)
 case atStart => exact ⟨0, Nat.zero_le _, rfl, (fun p hp => by cases hp), Below.refl _ _⟩
 case round =>
  obtain ⟨k, hk, rfl, HNO, hbr⟩ := hrel
  have HPR := Lib.hid (HP.out.below hbr)
  have HBW : Hid (Below gp w wr) := HB1.out.trans (hbr.mono (by omega))
  have HBX1 := Lib.hid hbr
  have hp4 := HPR.out.hp.cell 4
  have hpl := HPR.out.hp.lt
  have hrl2 := HPR.out.gl.2
  have hx0 := (HX5.out.below hbr HX5.out.lt).cell 0
  have hx1 := (HX5.out.below hbr HX5.out.lt).cell 1
  have hx2 := (HX5.out.below hbr HX5.out.lt).cell 2
  have hxl := (HX5.out.below hbr HX5.out.lt).lt
  have hrw : wr.cell? ⟨gL, i, none⟩ = some (.slice r.A r.ps.length r.c) := (HPR.out.row hi).1
  simp at hp4 hx0 hx1 hx2
  have hii : (i : Int) < (rows.length : Int) := by omega
  have hi0 : (0 : Int) ≤ (i : Int) := by omega
  clear hbr
  by_cases hlt : k < r.ps.length
  ·have hki : (k : Int) < (r.ps.length : Int) := by omega
   have hk0 : (0 : Int) ≤ (k : Int) := by omega
   obtain ⟨p, hk'⟩ : ∃ p, r.ps[k]? = some p := ⟨_, List.getElem?_eq_getElem hlt⟩
   obtain ⟨gr, hA, hgr, hgr2, hgr3, hgr4⟩ := HPR.out.form hi (by omega)
   have hgr5 : gr < g5 := (HLT.out gr hgr4).1
   rw [hA] at hrw
   have hcc := SlR.pq (HPR.out.slr hi).1 hA hk'
   obtain ⟨q0, q1, q2⟩ := hcc
   have HK' := Lib.hid hk'
   clear hk'
   go_upto_region 5 with fail
   obtain ⟨g8, hg8⟩ : ∃ z, wr.heap.size = z := ⟨_, rfl⟩
   obtain ⟨X1, hX1⟩ : ∃ W, wr.alloc (.cells #[.int .i64 p.m, .string p.o, .int .i64 p.c] 151) = W := ⟨_, rfl⟩
   have hX8 : Blk X1 g8 151 #[.int .i64 p.m, .string p.o, .int .i64 p.c] := by rw [← hX1]; exact Blk.new_ hg8.symm
   have hbX : Below wr.heap.size wr X1 := by rw [← hX1]; exact nw _ (Below.refl _ _)
   rw [hg8, hX1]
   have HP1 := Lib.hid (HPR.out.below hbX)
   have HBX : Hid (Below gp w X1) := HBW.out.trans (hbX.mono (by omega))
   have HBX1 : Hid (Below w1.heap.size w1 X1) := HBX1.out.trans (hbX.mono HBX1.out.size)
   have HX8 := Lib.hid hX8
   have hgX : gr < X1.heap.size := Nat.lt_of_lt_of_le hgr2 hbX.size
   have h58 : g5 < g8 := by rw [← hg8]; exact hxl
   have hx0 := (hbX.cell (p := ⟨g5, _, none⟩) hxl).trans hx0
   have hx1 := (hbX.cell (p := ⟨g5, _, none⟩) hxl).trans hx1
   have hx2 := (hbX.cell (p := ⟨g5, _, none⟩) hxl).trans hx2
   have hxl := Nat.lt_of_lt_of_le hxl hbX.size
   have p0 := hX8.cell 0
   have p1 := hX8.cell 1
   have p2 := hX8.cell 2
   have pl := hX8.lt
   have hp4 := HP1.out.hp.cell 4
   have hpl := HP1.out.hp.lt
   have hrl2 := HP1.out.gl.2
   have hrw : X1.cell? ⟨gL, i, none⟩ = some (.slice r.A r.ps.length r.c) := (HP1.out.row hi).1
   rw [hA] at hrw
   simp at p0 p1 p2 hp4
   clear hX1 hg8 hX8 hbX q0 q1 q2
   go_cut [42] (fun s42 W => s42 = .bool (decide (p.m = x.m ∧ p.o = x.o)) ∧ X1 = W)
   case first =>
    by_cases hm : p.m = x.m
    ·have hm2 : (p.m == x.m) = true := by simpa using hm
     by_cases ho : p.o = x.o
     ·have ho2 : (p.o.toList == x.o.toList) = true := by rw [ho]; simp
      have HD : Hid (decide (p.m = x.m ∧ p.o = x.o) = true) := decide_eq_true ⟨hm, ho⟩
      clear hm ho
      go_wp2_with fail
      go_meet
      exact ⟨by rw [HD.out], rfl⟩
     ·have ho2 : (p.o.toList == x.o.toList) = false := by rw [beq_eq_false_iff_ne]; exact fun e => ho (toL_inj e)
      have HD : Hid (decide (p.m = x.m ∧ p.o = x.o) = false) := decide_eq_false fun h => ho h.2
      clear hm ho
      go_wp2_with fail
      go_meet
      exact ⟨by rw [HD.out], rfl⟩
    ·have hm2 : (p.m == x.m) = false := by simpa using hm
     have HD : Hid (decide (p.m = x.m ∧ p.o = x.o) = false) := decide_eq_false fun h => hm h.1
     clear hm
     go_wp2_with fail
     go_meet
     exact ⟨by rw [HD.out], rfl⟩
   case rest =>
    obtain ⟨rfl, rfl⟩ := hcut
    by_cases hsm : p.m = x.m ∧ p.o = x.o
    ·rw [decide_eq_true hsm]
     have HSM := Lib.hid hsm
     obtain ⟨mn, hmn⟩ : ∃ z, min x.c p.c = z := ⟨_, rfl⟩
     have HMN : Hid (mn = if x.c < p.c then x.c else p.c) := by show mn = _; rw [← hmn]; split <;> omega
     have hne1 : ¬ gp = gr := by omega
     have hne2 : ¬ gL = gr := fun e => hgr3 e.symm
     have hne3 : ¬ g5 = gr := by omega
     have hne4 : ¬ g8 = gr := by omega
     clear hsm
     go_wp2_with fail
     refine ordV_start (fun _ => True) (ButB gr X1) [15] [(0, none), (1, none), (2, none), (3, none), (4, none), (5, none), (6, none), (7, none), (8, none), (9, none), (10, none), (11, none), (12, none), (13, none), (14, none), (15, some true)] (by kernel_rfl) (by kernel_rfl) (by kernel_rfl) (fun _ _ _ _ _ h => h) (ButB.of_below (Below.refl _ _).drew) ?_
     have HD : Below X1.heap.size X1 X1.drew := (Below.refl _ _).drew
     obtain ⟨Wd, hWd⟩ : ∃ Wd, X1.drew = Wd := ⟨_, rfl⟩
     rw [hWd] at HD ⊢
     clear hWd
     refine ordV_takeR (v := ?_) rfl rfl ?_ ?_; rotate_left 1; (focus (intro W hW; have hcW := hW.cell; (go_simp <;> with_reducible rfl))); (try simp only [Act.put, zA, zB, zC])
     refine ordV_takeR (v := ?_) rfl rfl ?_ ?_; rotate_left 1; (focus (intro W hW; have hcW := hW.cell; (go_simp <;> with_reducible rfl))); (try simp only [Act.put, zA, zB, zC])
     refine ordV_takeR (v := ?_) rfl rfl ?_ ?_; rotate_left 1; (focus (intro W hW; have hcW := hW.cell; (go_simp <;> with_reducible rfl))); (try simp only [Act.put, zA, zB, zC])
     refine ordV_takeR (v := ?_) rfl rfl ?_ ?_; rotate_left 1; (focus (intro W hW; have hcW := hW.cell; (go_simp <;> with_reducible rfl))); (try simp only [Act.put, zA, zB, zC])
     refine ordV_takeR (v := ?_) rfl rfl ?_ ?_; rotate_left 1; (focus (intro W hW; have hcW := hW.cell; (go_simp <;> with_reducible rfl))); (try simp only [Act.put, zA, zB, zC])
     refine ordV_takeR (v := ?_) rfl rfl ?_ ?_; rotate_left 1; (focus (intro W hW; have hcW := hW.cell; (go_simp <;> with_reducible rfl))); (try simp only [Act.put, zA, zB, zC])
     refine ordV_takeR (v := ?_) rfl rfl ?_ ?_; rotate_left 1; (focus (intro W hW; have hcW := hW.cell; (go_simp <;> with_reducible rfl))); (try simp only [Act.put, zA, zB, zC])
     refine ordV_takeR (v := ?_) rfl rfl ?_ ?_; rotate_left 1; (focus (intro W hW; have hcW := hW.cell; (go_simp <;> with_reducible rfl))); (try simp only [Act.put, zA, zB, zC])
     refine ordV_takeR (v := ?_) rfl rfl ?_ ?_; rotate_left 1; (focus (intro W hW; have hcW := hW.cell; (go_simp <;> with_reducible rfl))); (try simp only [Act.put, zA, zB, zC])
     refine ordV_takeR (v := ?_) rfl rfl ?_ ?_; rotate_left 1; (focus (intro W hW; have hcW := hW.cell; (go_simp <;> with_reducible rfl))); (try simp only [Act.put, zA, zB, zC])
     refine ordV_takeR (v := ?_) rfl rfl ?_ ?_; rotate_left 1; (focus (intro W hW; have hcW := hW.cell; (go_simp <;> with_reducible rfl))); (try simp only [Act.put, zA, zB, zC])
     refine ordV_takeR (v := ?_) rfl rfl ?_ ?_; rotate_left 1; (focus (intro W hW; have hcW := hW.cell; (go_simp <;> with_reducible rfl))); (try simp only [Act.put, zA, zB, zC])
     refine ordV_takeR (v := ?_) rfl rfl ?_ ?_; rotate_left 1; (focus (intro W hW; have hcW := hW.cell; (go_simp <;> with_reducible rfl))); (try simp only [Act.put, zA, zB, zC])
     refine ordV_takeR (v := ?_) rfl rfl ?_ ?_; rotate_left 1; (focus (intro W hW; have hcW := hW.cell; (go_simp <;> with_reducible rfl))); (try simp only [Act.put, zA, zB, zC])
     refine ordV_takeR (v := ?_) rfl rfl ?_ ?_; rotate_left 1; (focus (intro W hW; have hcW := hW.cell; (go_simp <;> with_reducible rfl))); (try simp only [Act.put, zA, zB, zC])
     have hcl := (HP1.out.below HD).slr hi
     have hc2 := (SlR.pq hcl.1 hA HK'.out).2.2
     have hcf := ((HP1.out.below HD).own i r hi)
     rw [show r.val = .slice (some ⟨gr, 0, none⟩) r.ps.length r.c by unfold PRow.val; rw [hA]] at hcf
     have hff := hcf.frozenAt (k * 3 + 2)
     have hgl := Nat.lt_of_lt_of_le hgX HD.size
     refine ordV_call rfl rfl (fun K hK => ?_)
     go_simp
     refine hK.out _ _ ((ButB.of_below HD).set_ (k * 3 + 2) _) (fun _ _ => trivial) ?_
     clear hK K
     try simp only [Act.put, zA, zB, zC]
     refine ordV_nil ?_
     have HPE := Lib.hid ((HP1.out.below HD).cost hi HK'.out hA mn)
     have HBE : Hid (Below gp w (Wd.setCell ⟨gr, k * 3 + 2, none⟩ (.int .i64 mn))) := (HBX.out.trans (HD.mono (by omega))).setCell (p := ⟨gr, k * 3 + 2, none⟩) (by show gp ≤ gr; omega) _
     have hx5 := (HX5.out.below (HBX1.out.trans (HD.mono HBX1.out.size)) HX5.out.lt).far (p := ⟨gr, k * 3 + 2, none⟩) (by show ¬ g5 = gr; omega) (.int .i64 mn)
     have hx8 := (HX8.out.below HD HX8.out.lt).far (p := ⟨gr, k * 3 + 2, none⟩) (by show ¬ g8 = gr; omega) (.int .i64 mn)
     obtain ⟨XE, hXE⟩ : ∃ W, Wd.setCell ⟨gr, k * 3 + 2, none⟩ (.int .i64 mn) = W := ⟨_, rfl⟩
     rw [hXE] at HPE HBE hx5 hx8 ⊢
     clear hXE
     have a2 := hx5.cell 2
     have al := hx5.lt
     have b2 := hx8.cell 2
     have bl := hx8.lt
     simp at a2 b2
     go_wp2_with fail
     go_ret
     exact ⟨_, big, decide (x.c < p.c), by first | rfl | simp, HPE.out, .inl ⟨k, p, HK'.out, HSM.out.1, HSM.out.2, rfl, rfl, r.A, r.c, by rw [← HMN.out]⟩, HBE.out⟩
    ·rw [decide_eq_false hsm]
     have HSM := Lib.hid hsm
     clear hsm
     go_wp2_with fail
     go_roundw
     case rel => exact ⟨k + 1, by omega, by go_num, take_all HNO.out HK'.out HSM.out, HBX1.out⟩
     case measure => simp [intOf]; omega
  ·obtain rfl : k = r.ps.length := by omega
   have hki : ¬ ((r.ps.length : Nat) : Int) < (r.ps.length : Int) := by omega
   have HNO : Hid (∀ p ∈ r.ps, ¬ (p.m = x.m ∧ p.o = x.o)) := by have := HNO.out; rw [List.take_length] at this; exact this
   by_cases hfull : 150 ≤ r.ps.length
   ·have hfi : (150 : Int) ≤ (r.ps.length : Int) := by omega
    have hp5 := HPR.out.hp.cell 5
    have hpf := HPR.out.hp.frozen 5
    have HPE := Lib.hid HPR.out.big_
    have HBE : Hid (Below gp w (wr.setCell ⟨gp, 5, none⟩ (.bool true))) := HBW.out.setCell (p := ⟨gp, 5, none⟩) (Nat.le_refl _) _
    simp at hp5
    go_wp2_with fail
    go_ret
    exact ⟨rows, true, false, rfl, HPE.out, .inr (.inl ⟨HNO.out, hfull, rfl, rfl, rfl⟩), HBE.out⟩
   ·have hfi : ¬ (150 : Int) ≤ (r.ps.length : Int) := by omega
    have hvb : ∀ q, r.val.ownBlock = some q → q < g5 ∧ gp < q ∧ q ≠ gL := fun q hq => ⟨(HLT.out q hq).1, (HLT.out q hq).2, fun e => own_ne (HPR.out.own i r hi) HPR.out.hL (by decide) q hq (by rw [e]; rfl)⟩
    have hv1 : r.val.ownBlock ≠ some gp := fun e => by have := hvb _ e; omega
    have hv2 : r.val.ownBlock ≠ some gL := fun e => (hvb _ e).2.2 rfl
    have hv3 : r.val.ownBlock ≠ some g5 := fun e => by have := hvb _ e; omega
    clear hvb
    go_wp2_with fail
    refine ordV_start (ButR r.val wr) (fun _ => True) [16] [(0, some false), (1, some false), (2, some false), (3, some false), (4, some false), (5, some false), (6, some false), (7, some false), (8, some false), (9, some false), (10, some false), (11, some false), (12, some false), (13, some true), (14, some true), (15, some false), (16, some true)] (by kernel_rfl) (by kernel_rfl) (by kernel_rfl) (fun _ _ _ _ _ h => h) trivial ?_
    have HD : Below wr.heap.size wr wr.drew := (Below.refl _ _).drew
    obtain ⟨Wd, hWd⟩ : ∃ Wd, wr.drew = Wd := ⟨_, rfl⟩
    rw [hWd] at HD ⊢
    clear hWd
    have HS0 := ButR.of_below (v := r.val) HD
    refine ordV_takeS (v := ?_) rfl rfl HS0 ?_ ?_; rotate_left 1; (focus (intro W hW; have hcW := hW.cell; (go_simp <;> with_reducible rfl))); (try simp only [Act.put, zA, zB, zC])
    refine ordV_takeS (v := ?_) rfl rfl HS0 ?_ ?_; rotate_left 1; (focus (intro W hW; have hcW := hW.cell; (go_simp <;> with_reducible rfl))); (try simp only [Act.put, zA, zB, zC])
    refine ordV_takeS (v := ?_) rfl rfl HS0 ?_ ?_; rotate_left 1; (focus (intro W hW; have hcW := hW.cell; (go_simp <;> with_reducible rfl))); (try simp only [Act.put, zA, zB, zC])
    refine ordV_takeS (v := ?_) rfl rfl HS0 ?_ ?_; rotate_left 1; (focus (intro W hW; have hcW := hW.cell; (go_simp <;> with_reducible rfl))); (try simp only [Act.put, zA, zB, zC])
    refine ordV_takeS (v := ?_) rfl rfl HS0 ?_ ?_; rotate_left 1; (focus (intro W hW; have hcW := hW.cell; (go_simp <;> with_reducible rfl))); (try simp only [Act.put, zA, zB, zC])
    refine ordV_takeS (v := ?_) rfl rfl HS0 ?_ ?_; rotate_left 1; (focus (intro W hW; have hcW := hW.cell; (go_simp <;> with_reducible rfl))); (try simp only [Act.put, zA, zB, zC])
    refine ordV_takeS (v := ?_) rfl rfl HS0 ?_ ?_; rotate_left 1; (focus (intro W hW; have hcW := hW.cell; (go_simp <;> with_reducible rfl))); (try simp only [Act.put, zA, zB, zC])
    refine ordV_takeS (v := ?_) rfl rfl HS0 ?_ ?_; rotate_left 1; (focus (intro W hW; have hcW := hW.cell; (go_simp <;> with_reducible rfl))); (try simp only [Act.put, zA, zB, zC])
    refine ordV_takeS (v := ?_) rfl rfl HS0 ?_ ?_; rotate_left 1; (focus (intro W hW; have hcW := hW.cell; (go_simp <;> with_reducible rfl))); (try simp only [Act.put, zA, zB, zC])
    refine ordV_takeS (v := ?_) rfl rfl HS0 ?_ ?_; rotate_left 1; (focus (intro W hW; have hcW := hW.cell; (go_simp <;> with_reducible rfl))); (try simp only [Act.put, zA, zB, zC])
    refine ordV_takeS (v := ?_) rfl rfl HS0 ?_ ?_; rotate_left 1; (focus (intro W hW; have hcW := hW.cell; (go_simp <;> with_reducible rfl))); (try simp only [Act.put, zA, zB, zC])
    refine ordV_takeS (v := ?_) rfl rfl HS0 ?_ ?_; rotate_left 1; (focus (intro W hW; have hcW := hW.cell; (go_simp <;> with_reducible rfl))); (try simp only [Act.put, zA, zB, zC])
    refine ordV_takeS (v := ?_) rfl rfl HS0 ?_ ?_; rotate_left 1; (focus (intro W hW; have hcW := hW.cell; (go_simp <;> with_reducible rfl))); (try simp only [Act.put, zA, zB, zC])
    refine ordV_call rfl rfl (fun K hK => ?_)
    go_simp
    have HD2 := HD.alloc HD.size (.cells #[.int .i64 x.m, .string x.o, .int .i64 x.c] 151)
    have HS2 := ButR.of_below (v := r.val) HD2
    refine hK.out _ _ trivial (fun _ _ => HS2) ?_
    clear hK K
    try simp only [Act.put, zA, zB, zC]
    refine ordV_call rfl rfl (fun K hK => ?_)
    refine wp_appS (enc := encPq) (R := RPq) _ _ 148 rfl (gp + 1) 151 i0 _ 3 32 Tryz.underlying148 hinf hz0 hz1 hz2 rfl (by decide) r.val _ _ rfl ((HPR.out.below HD2).own i r hi) (some ⟨Wd.heap.size, 0, none⟩) 1 [x] rfl (slr_blkR (enc := encPq) (Blk.new_ rfl) (fun _ => rfl) (fun _ => rfl)) (fun _ _ _ h => h) (fun _ => rfl) (fun u hu => by simp [encPq] at hu; rcases hu with rfl | rfl | rfl <;> rfl) (by simp; omega) (by decide) (by have := HD2.size; have := HPR.out.gl; omega) ?_
    intro v4 w4 hown4 hb4 ha4
    obtain ⟨A4, c4, rfl⟩ := own_form hown4
    have HS3 := HS2.apps hb4.size ha4
    refine hK.out _ _ trivial (fun _ _ => HS3) ?_
    clear hK K
    try simp only [Act.put, zA, zB, zC]
    refine ordV_takeS (v := ?_) rfl rfl HS3 ?_ ?_; rotate_left 1; (focus (intro W hW; have hcW := hW.cell; (go_simp <;> with_reducible rfl))); (try simp only [Act.put, zA, zB, zC])
    have hown5 : w4.ownsRow (gp + 1) 151 3 (.slice A4 (r.ps.length + 1) c4) (r.ps.length + 1) ((r.ps ++ [x]).flatMap encPq) := by rw [List.flatMap_append]; simpa using hown4
    have hPA := (HPR.out.below HD2).app hi hown5 ha4
    have hrow := own_apps (HPR.out.below HD2).hL ((HPR.out.below HD2).own i r hi) (by decide) ha4
    have hci := hrow.cellAt i (by omega)
    have hfi := hrow.frozenAt i
    have hli := (hrow.lt gL rfl).2
    rw [List.getElem?_map, hi] at hci
    have hci : w4.cell? ⟨gL, i, none⟩ = some r.val := hci
    refine ordV_call rfl rfl (fun K hK => ?_)
    go_simp
    refine hK.out _ _ trivial (fun _ h => by cases h) ?_
    clear hK K
    try simp only [Act.put, zA, zB, zC]
    refine ordV_nil ?_
    have hbE : Below gp w (w4.setCell ⟨gL, i, none⟩ (.slice A4 (r.ps.length + 1) c4)) := ((HBW.out.trans (HD2.mono (by have := HPR.out.gl; omega))).trans (hb4.mono (by omega))).setCell (p := ⟨gL, i, none⟩) (by show gp ≤ gL; have := HPR.out.gl; omega) _
    have HPA := Lib.hid hPA
    have HBE := Lib.hid hbE
    go_wp2_with fail
    go_ret
    exact ⟨_, big, true, rfl, HPA.out, .inr (.inr ⟨HNO.out, by omega, rfl, rfl, A4, c4, rfl⟩), HBE.out⟩
end Go.Proofs.YtfpnhgahkjglgaaGreat
