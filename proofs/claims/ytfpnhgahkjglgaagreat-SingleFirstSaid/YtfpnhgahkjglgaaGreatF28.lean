/-
  OuGoQ, OuInsP, SiBnd, SiKey, SiMem, joined. No conditions.
-/
import Derived.Test.YtfpnhgahkjglgaaGreatF27
import Derived.Test.YtfpnhgahkjglgaaGreatF03
import Derived.Test.YtfpnhgahkjglgaaGreatF04
import Derived.Test.YtfpnhgahkjglgaaGreatF21
import Derived.Test.YtfpnhgahkjglgaaGreatF10
set_option maxRecDepth 100000
namespace Go.Proofs.YtfpnhgahkjglgaaGreat
open Go List
theorem addR_L {rows rows' : List PRow} {i : Nat} {r : PRow} {x : Pq} {big big' fresh : Bool} (h : AddR rows i r x rows' big big' fresh) (hi : rows[i]? = some r) : AddL (rows.map (·.ps)) i x (rows'.map (·.ps)) big big' fresh := by
 refine ⟨r.ps, by rw [getElem?_map, hi]; rfl, ?_⟩
 rcases h with ⟨k, p, h1, h2, h3, h4, h5, A', c', rfl⟩ | ⟨_, h2, rfl, h4, h5⟩ | ⟨_, h2, h3, h4, A', c', rfl⟩
 ·exact .inl ⟨k, p, h1, h2, h3, h4, h5, by rw [map_set]⟩
 ·exact .inr (.inl ⟨h2, rfl, h4, h5⟩)
 ·exact .inr (.inr ⟨h2, h3, h4, by rw [map_set]⟩)
theorem AddL.le {L L' : List (List Pq)} {i : Nat} {x : Pq} {big big' fresh : Bool} (h : AddL L i x L' big big' fresh) (hx : 0 ≤ x.c ∧ x.c ≤ 1000000) (j : Nat) : mu L' j ≤ mu L j := by
 by_cases e : j = i
 ·subst e
  cases hf : fresh with
  | true => exact Nat.le_of_lt (h.less hx hf)
  | false => rw [h.old hf]; exact Nat.le_refl _
 ·unfold mu
  rw [h.other e]
  exact Nat.le_refl _
structure StepI (s : Sc) (inp : ByteArray) (i : Nat) (L0 : List (List Pq)) (big0 : Bool) (L : List (List Pq)) (big ch : Bool) (k n : Nat) : Prop where
 inv : InvG s inp L
 low : ∀ j, j < i → L[j]? = L0[j]?
 keys : ∀ j m o c, HasK L0 j m o c → HasK L j m o c
 bigger : big0 = true → big = true
 chg : ch = true → mu L i < mu L0 i
 old : ch = false → L[i]? = L0[i]?
 le : mu L i ≤ mu L0 i
 done : ch = false → big = false → ∀ ps, L[i]? = some ps → ∀ (k' : Nat) (p : Pq), ps[k']? = some p → ∀ (n' : Nat) (r : Ru), s.rs[n']? = some r → (k' < k ∨ (k' = k ∧ n' < n)) → SuccK s inp L i p r
def StepR (s : Sc) (inp : ByteArray) (i : Nat) (L : List (List Pq)) (big : Bool) (L' : List (List Pq)) (big' ch : Bool) : Prop :=
 InvG s inp L' ∧ (∀ j, j < i → L'[j]? = L[j]?) ∧ (∀ j m o c, HasK L j m o c → HasK L' j m o c) ∧ (big = true → big' = true) ∧ ((ch = true ∧ mu L' i < mu L i) ∨ (ch = false ∧ (big' = false → ClosedK s inp L' i)))
section
variable {s : Sc} {inp : ByteArray} {i k n : Nat} {L0 L L' : List (List Pq)} {big0 big big' ch fresh : Bool} {ps : List Pq} {p : Pq} {r : Ru}
theorem StepI.start (h : InvG s inp L) : StepI s inp i L big L big false 0 0 :=
 ⟨h, fun _ _ => rfl, fun _ _ _ _ h => h, fun h => h, fun h => (by cases h), fun _ => rfl, Nat.le_refl _, fun _ _ ps _ k' p _ n' r _ h => absurd h (by omega)⟩
theorem StepI.skip (h : StepI s inp i L0 big0 L big ch k n) (hps : L[i]? = some ps) (hp : ps[k]? = some p) (hr : s.rs[n]? = some r) (hno : ¬ (r.fr = p.m ∧ bl r.inp <+: (bl inp).drop i)) : StepI s inp i L0 big0 L big ch k (n + 1) :=
 ⟨h.inv, h.low, h.keys, h.bigger, h.chg, h.old, h.le, fun h1 h2 ps' h3 k' p' h4 n' r' h5 h6 => by
  by_cases e : k' = k ∧ n' = n
  ·obtain ⟨rfl, rfl⟩ := e
   obtain rfl := Option.some.inj (hps.symm.trans h3)
   obtain rfl := Option.some.inj (hp.symm.trans h4)
   obtain rfl := Option.some.inj (hr.symm.trans h5)
   exact fun a b => absurd ⟨a, b⟩ hno
  ·exact h.done h1 h2 ps' h3 k' p' h4 n' r' h5 (by omega)⟩
theorem step_rch (hI : InvG s inp L) (hps : L[i]? = some ps) (hp : ps[k]? = some p) (hr : s.rs[n]? = some r) (h1 : r.fr = p.m) (h2 : bl r.inp <+: (bl inp).drop i) : Rch (pairS s) (0, ByteArray.empty) (bl inp) (i + r.inp.size) (r.to, p.o ++ r.out) (p.c + r.co) :=
 Rch.step (k' := (r.to, p.o ++ r.out)) (hI.rch i ps hps p (mem_of_getElem? hp)) (mem_of_getElem? hr) h1 h2 rfl
theorem StepI.add (h : StepI s inp i L0 big0 L big ch k n) (hps : L[i]? = some ps) (hp : ps[k]? = some p) (hr : s.rs[n]? = some r) (h1 : r.fr = p.m) (h2 : bl r.inp <+: (bl inp).drop i) (hx : 0 ≤ p.c + r.co ∧ p.c + r.co ≤ 1000000)
 (ha : AddL L (i + r.inp.size) ⟨r.to, p.o ++ r.out, p.c + r.co⟩ L' big big' fresh) : StepI s inp i L0 big0 L' big' (ch || (fresh && decide (i + r.inp.size = i))) k (n + 1) := by
 have hle := ha.le hx i
 refine ⟨ha.inv h.inv (step_rch h.inv hps hp hr h1 h2), fun j hj => (ha.other (by omega)).trans (h.low j hj), fun j m o c hk => ha.keys (h.keys j m o c hk), fun hb => ha.bigger (h.bigger hb), fun hc => ?_, fun hc => ?_, Nat.le_trans hle h.le, fun hc hb ps' hps' k' p' hp' n' r' hr' hkn => ?_⟩
 ·cases hch : ch with
  | true => exact Nat.lt_of_le_of_lt hle (h.chg hch)
  | false =>
   rw [hch, Bool.false_or, Bool.and_eq_true, decide_eq_true_iff] at hc
   have := ha.less hx hc.1
   rw [hc.2] at this
   exact Nat.lt_of_lt_of_le this h.le
 ·rw [Bool.or_eq_false_iff] at hc
  by_cases e : i + r.inp.size = i
  ·have hf : fresh = false := by simpa [e] using hc.2
   rw [ha.old hf]
   exact h.old hc.1
  ·rw [ha.other (fun e' => e e'.symm)]
   exact h.old hc.1
 ·rw [Bool.or_eq_false_iff] at hc
  have hsame : L'[i]? = L[i]? := by
   by_cases e : i + r.inp.size = i
   ·have hf : fresh = false := by simpa [e] using hc.2
    rw [ha.old hf]
   ·exact ha.other (fun e' => e e'.symm)
  rw [hsame] at hps'
  have hbig : big = false := by
   cases hb2 : big with
   | true => rw [ha.bigger hb2] at hb; cases hb
   | false => rfl
  by_cases e : k' = k ∧ n' = n
  ·obtain ⟨rfl, rfl⟩ := e
   obtain rfl := Option.some.inj (hps.symm.trans hps')
   obtain rfl := Option.some.inj (hp.symm.trans hp')
   obtain rfl := Option.some.inj (hr.symm.trans hr')
   intro _ _
   rcases ha.put with h3 | h3
   ·exact h3
   ·rw [h3] at hb; cases hb
  ·intro a b
   exact ha.keys (h.done hc.1 hbig ps' hps' k' p' hp' n' r' hr' (by omega) a b)
theorem StepI.next (h : StepI s inp i L0 big0 L big ch k s.rs.length) : StepI s inp i L0 big0 L big ch (k + 1) 0 :=
 ⟨h.inv, h.low, h.keys, h.bigger, h.chg, h.old, h.le, fun h1 h2 ps' h3 k' p' h4 n' r' h5 h6 => h.done h1 h2 ps' h3 k' p' h4 n' r' h5 (by have := (List.getElem?_eq_some_iff.1 h5).1; omega)⟩
theorem StepI.fin (h : StepI s inp i L0 big0 L big ch k 0) (hps : L[i]? = some ps) (hk : ps.length ≤ k) : StepR s inp i L0 big0 L big ch := by
 refine ⟨h.inv, h.low, h.keys, h.bigger, ?_⟩
 cases hc : ch with
 | true => exact .inl ⟨rfl, h.chg hc⟩
 | false =>
  refine .inr ⟨rfl, fun hb ps' hps' p hp r hr => ?_⟩
  obtain rfl := Option.some.inj (hps.symm.trans hps')
  obtain ⟨k', hk'⟩ := getElem?_of_mem hp
  obtain ⟨n', hn'⟩ := getElem?_of_mem hr
  exact h.done hc hb ps hps k' p hk' n' r hn' (by have := (List.getElem?_eq_some_iff.1 hk').1; omega)
end
def insStep (x : Rs) (a : List Rs × Bool) (y : Rs) : List Rs × Bool :=
 ((if !a.2 && befR x y then a.1 ++ [x] else a.1) ++ (if y.tx = x.tx then [] else [y]), a.2 || befR x y)
def insTo (x : Rs) (L : List Rs) (j : Nat) : List Rs × Bool := (L.take j).foldl (insStep x) ([], false)
def insFin (x : Rs) (a : List Rs × Bool) : List Rs := if a.2 then a.1 else a.1 ++ [x]
def covR (x y : Rs) : Bool := decide (y.tx = x.tx) && !befR x y
theorem insTo_next {x y : Rs} {L : List Rs} {j : Nat} (h : L[j]? = some y) : insTo x L (j + 1) = insStep x (insTo x L j) y := by
 unfold insTo
 rw [take_succ_of h, foldl_append]
 rfl
theorem ins_after (x : Rs) : ∀ (L : List Rs) (out : List Rs), L.foldl (insStep x) (out, true) = (out ++ L.filter (fun y => !decide (y.tx = x.tx)), true)
 | [], out => by simp
 | a :: l, out => by
  rw [foldl_cons]
  have e : insStep x (out, true) a = (out ++ (if a.tx = x.tx then [] else [a]), true) := by simp [insStep]
  rw [e, ins_after x l]
  by_cases h : a.tx = x.tx
  ·simp [h]
  ·simp [h]
theorem ins_before (x : Rs) : ∀ (L : List Rs) (out : List Rs), L.Pairwise (fun a b => befR a b = true) →
 insFin x (L.foldl (insStep x) (out, false)) = out ++ (L.filter (fun y => !befR x y && !decide (y.tx = x.tx)) ++ x :: L.filter fun y => befR x y && !decide (y.tx = x.tx))
 | [], out, _ => by simp [insFin]
 | a :: l, out, h => by
  obtain ⟨h1, h2⟩ := pairwise_cons.1 h
  rw [foldl_cons]
  cases hb : befR x a with
  | true =>
   have e : insStep x (out, false) a = (out ++ [x] ++ (if a.tx = x.tx then [] else [a]), true) := by simp [insStep, hb]
   have hall : ∀ y ∈ a :: l, befR x y = true := fun y hy => by
    rcases mem_cons.1 hy with rfl | hy
    ·exact hb
    ·exact befR_trans hb (h1 y hy)
   have e1 : (a :: l).filter (fun y => !befR x y && !decide (y.tx = x.tx)) = [] := filter_eq_nil_iff.2 fun y hy => by simp [hall y hy]
   have e2 : (a :: l).filter (fun y => befR x y && !decide (y.tx = x.tx)) = (a :: l).filter (fun y => !decide (y.tx = x.tx)) := filter_congr fun y hy => by simp [hall y hy]
   rw [e, ins_after, e1, e2]
   show out ++ [x] ++ _ ++ _ = _
   by_cases h : a.tx = x.tx
   ·simp [h]
   ·simp [h]
  | false =>
   have e : insStep x (out, false) a = (out ++ (if a.tx = x.tx then [] else [a]), false) := by simp [insStep, hb]
   rw [e, ins_before x l _ h2]
   by_cases h : a.tx = x.tx
   ·simp [h, hb]
   ·simp [h, hb]
theorem ins_is {x : Rs} {L : List Rs} (h : L.Pairwise (fun a b => befR a b = true)) (hn : ∀ y ∈ L, covR x y = false) : insR L x = insFin x (insTo x L L.length) := by
 unfold insTo
 rw [take_length, ins_before x L [] h, nil_append]
 unfold insR
 rw [if_neg]
 intro h2
 obtain ⟨y, hy, h3⟩ := any_eq_true.1 h2
 have := hn y hy
 unfold covR at this
 rw [h3] at this
 cases this
theorem ins_cov {x y : Rs} {L : List Rs} (hy : y ∈ L) (h : covR x y = true) : insR L x = L := by
 have e : L.any (fun y => decide (y.tx = x.tx) && !befR x y) = true := any_eq_true.2 ⟨y, hy, h⟩
 unfold insR
 rw [if_pos e]
theorem insTo_len (x : Rs) (L : List Rs) : ∀ (j : Nat), (insTo x L j).1.length ≤ j + (if (insTo x L j).2 then 1 else 0)
 | 0 => by simp [insTo]
 | j + 1 => by
  have ih := insTo_len x L j
  by_cases hj : j < L.length
  ·rw [insTo_next (getElem?_eq_getElem hj)]
   unfold insStep
   simp only [length_append]
   cases h1 : (insTo x L j).2 <;> cases h2 : befR x L[j] <;> by_cases h3 : L[j].tx = x.tx <;> simp [h1, h2, h3] at ih ⊢ <;> omega
  ·have e : insTo x L (j + 1) = insTo x L j := by unfold insTo; rw [take_of_length_le (by omega), take_of_length_le (by omega)]
   rw [e]
   omega
theorem insR_len (x : Rs) (L : List Rs) : (insR L x).length ≤ L.length + 1 := by
 unfold insR
 split
 ·omega
 ·rw [length_append, length_cons]
  have h : ∀ (l : List Rs), (l.filter (fun y => !befR x y && !decide (y.tx = x.tx))).length + (l.filter fun y => befR x y && !decide (y.tx = x.tx)).length ≤ l.length := fun l => by
   induction l with
   | nil => simp
   | cons a l ih =>
    cases hb : befR x a <;> by_cases h : a.tx = x.tx <;> simp [hb, h] <;> omega
  have := h L
  omega
def wholeTo (s : Sc) (ps : List Pq) (j : Nat) : List Rs := (ps.take j).foldl (fun l p => if accB s.acc p.m then insR l ⟨p.o, p.c⟩ else l) []
theorem wholeTo_next {s : Sc} {ps : List Pq} {j : Nat} {p : Pq} (h : ps[j]? = some p) : wholeTo s ps (j + 1) = if accB s.acc p.m then insR (wholeTo s ps j) ⟨p.o, p.c⟩ else wholeTo s ps j := by
 unfold wholeTo
 rw [take_succ_of h, foldl_append]
 rfl
theorem whole_is (s : Sc) (ps : List Pq) : ∀ (j : Nat), j ≤ ps.length → IsRes (fun t c => ∃ p ∈ ps.take j, accB s.acc p.m = true ∧ p.o = t ∧ p.c = c) (wholeTo s ps j)
 | 0, _ => ⟨Pairwise.nil, Pairwise.nil, fun y hy => (by cases hy), fun t c h => (by obtain ⟨p, hp, _⟩ := h; simp at hp)⟩
 | j + 1, h => by
  have ih := whole_is s ps j (by omega)
  have hj : ps[j]? = some ps[j] := getElem?_eq_getElem (by omega)
  rw [wholeTo_next hj, take_succ_of hj]
  cases ha : accB s.acc ps[j].m with
  | true =>
   refine (isRes_ins ih ⟨ps[j].o, ps[j].c⟩).congr (fun t c h => ?_) (fun t c h => ?_)
   ·rcases h with ⟨p, hp, h1, h2, h3⟩ | ⟨rfl, rfl⟩
    ·exact ⟨p, mem_append_left _ hp, h1, h2, h3⟩
    ·exact ⟨_, mem_append_right _ (mem_singleton.2 rfl), ha, rfl, rfl⟩
   ·obtain ⟨p, hp, h1, h2, h3⟩ := h
    rcases mem_append.1 hp with hp | hp
    ·exact ⟨c, .inl ⟨p, hp, h1, h2, h3⟩, Int.le_refl _⟩
    ·rw [mem_singleton.1 hp] at h2 h3
     exact ⟨c, .inr ⟨h2.symm, h3.symm⟩, Int.le_refl _⟩
  | false =>
   refine ih.congr (fun t c h => ?_) (fun t c h => ?_)
   ·obtain ⟨p, hp, h1, h2, h3⟩ := h
    exact ⟨p, mem_append_left _ hp, h1, h2, h3⟩
   ·obtain ⟨p, hp, h1, h2, h3⟩ := h
    rcases mem_append.1 hp with hp | hp
    ·exact ⟨c, ⟨p, hp, h1, h2, h3⟩, Int.le_refl _⟩
    ·rw [mem_singleton.1 hp, ha] at h1; cases h1
theorem wholeTo_len (s : Sc) (ps : List Pq) : ∀ (j : Nat), (wholeTo s ps j).length ≤ j
 | 0 => by simp [wholeTo]
 | j + 1 => by
  have ih := wholeTo_len s ps j
  by_cases hj : j < ps.length
  ·rw [wholeTo_next (getElem?_eq_getElem hj)]
   split
   ·have := insR_len ⟨ps[j].o, ps[j].c⟩ (wholeTo s ps j); omega
   ·omega
  ·have e : wholeTo s ps (j + 1) = wholeTo s ps j := by unfold wholeTo; rw [take_of_length_le (by omega), take_of_length_le (by omega)]
   rw [e]; omega
theorem whole_best {s : Sc} {inp : ByteArray} {L : List (List Pq)} {ps : List Pq} (hF : FlatS s inp) (hI : InvG s inp L) (hc : ∀ j, j ≤ inp.size → ClosedK s inp L j) (h0 : HasK L 0 0 ByteArray.empty 0) (hps : L[inp.size]? = some ps) : wholeTo s ps ps.length = bestL s inp := by
 have h1 := whole_is s ps ps.length (Nat.le_refl _)
 rw [take_length] at h1
 have h2 : IsRes (Whole s inp) (wholeTo s ps ps.length) := h1.congr (fun t c h => by
  obtain ⟨p, hp, h3, rfl, rfl⟩ := h
  exact ⟨p.m, h3, pair_iff.1 (hI.rch inp.size ps hps p hp)⟩) (fun t c h => by
  obtain ⟨m, h3, h4⟩ := h
  obtain ⟨_, ps', p, h5, h6, h7, h8, h9⟩ := all_keys hc h0 (pair_iff.2 h4)
  obtain rfl := Option.some.inj (hps.symm.trans h5)
  exact ⟨p.c, ⟨p, h6, by rw [h7]; exact h3, h8, rfl⟩, h9⟩)
 exact h2.unique (best_is hF)
end Go.Proofs.YtfpnhgahkjglgaaGreat
namespace Go.Proofs.YtfpnhgahkjglgaaGreat
open List
def plcs (s : Sc) : List Pl := (0, []) :: s.rs.flatMap fun r => (List.range (r.inp.size + 1)).map fun k => (r.to, (bl r.inp).drop k)
theorem prt_plcs {s : Sc} {u o : List UInt8} {p : Pl} (h : Prt (schA s) u p o) : p ∈ plcs s := by
 induction h with
 | start => exact mem_cons_self
 | opn _ h2 _ =>
  obtain ⟨_, r, hr, _, _, rfl⟩ := h2
  refine mem_cons_of_mem _ (mem_flatMap.2 ⟨r, hr, mem_map.2 ⟨0, mem_range.2 (by omega), ?_⟩⟩)
  rw [drop_zero]
 | @take u o x p q c _ h2 ih =>
  obtain ⟨_, h3, h4⟩ := h2
  have h3 : p.2 = c :: q.2 := h3
  rcases mem_cons.1 ih with e | hm
  ·rw [e] at h3; cases h3
  ·obtain ⟨r, hr, hm⟩ := mem_flatMap.1 hm
   obtain ⟨k, hk, rfl⟩ := mem_map.1 hm
   have h3 : (bl r.inp).drop k = c :: q.2 := h3
   have hlt : k < (bl r.inp).length := by
    rcases Nat.lt_or_ge k (bl r.inp).length with h | h
    ·exact h
    ·rw [drop_eq_nil_of_le h] at h3; cases h3
   rw [bl_len] at hlt
   refine mem_cons_of_mem _ (mem_flatMap.2 ⟨r, hr, mem_map.2 ⟨k + 1, mem_range.2 (by omega), ?_⟩⟩)
   have e : (bl r.inp).drop (k + 1) = q.2 := by
    have := congrArg tail h3
    rw [tail_drop] at this
    exact this
   rw [e]
   exact Prod.ext h4.symm rfl
theorem flat_len {α β : Type} {f : α → List β} {n : Nat} : ∀ (l : List α), (∀ x ∈ l, (f x).length ≤ n) → (l.flatMap f).length ≤ l.length * n
 | [], _ => by simp
 | x :: l, h => by
  have h1 := flat_len l fun y hy => h y (mem_cons_of_mem _ hy)
  have h2 := h x mem_cons_self
  rw [flatMap_cons, length_append, length_cons, Nat.add_mul]
  omega
theorem plcs_len {s : Sc} (h : ScOK s) : (plcs s).length ≤ 321 := by
 have h1 := flat_len (f := fun r : Ru => (List.range (r.inp.size + 1)).map fun k => (r.to, (bl r.inp).drop k)) (n := 5) s.rs fun r hr => by
  have := (h.2.2.2.1 r hr).2.1.1
  rw [length_map, length_range]
  omega
 have h2 := h.2.1
 unfold plcs
 rw [length_cons]
 omega
def prs (s : Sc) : List (Pl × Pl) := (plcs s).flatMap fun a => (plcs s).map fun b => (a, b)
theorem mem_prs {s : Sc} {a b : Pl} (ha : a ∈ plcs s) (hb : b ∈ plcs s) : (a, b) ∈ prs s := mem_flatMap.2 ⟨a, ha, mem_map.2 ⟨b, hb, rfl⟩⟩
theorem prs_len {s : Sc} (h : ScOK s) : (prs s).length ≤ 103041 := by
 have h1 := flat_len (f := fun a : Pl => (plcs s).map fun b => (a, b)) (n := 321) (plcs s) fun a _ => by rw [length_map]; exact plcs_len h
 have h2 := plcs_len h
 have h3 := Nat.mul_le_mul_right 321 h2
 unfold prs
 omega
section
variable {P : Type} [DecidableEq P]
omit [DecidableEq P] in
theorem len_split {α : Type} (p : α → Bool) : ∀ l : List α, l.length = (l.filter p).length + (l.filter fun x => !p x).length
 | [] => rfl
 | x :: l => by
  have ih := len_split p l
  cases h : p x <;> simp [h] <;> omega
theorem hst_len : ∀ (ks : List (P × P)) (H : Hst P), (∀ p ∈ H, (p.1.l, p.1.r) ∈ ks) → (∀ l r, (gapsAt H l r).length ≤ 2) → H.length ≤ 2 * ks.length
 | [], H, h, _ => by
  cases H with
  | nil => simp
  | cons p H => exact absurd (h p mem_cons_self) (by simp)
 | k :: ks, H, h, hf => by
  have h1 := hst_len ks (H.filter fun p => !(decide (p.1.l = k.1) && decide (p.1.r = k.2))) (fun p hp => by
   obtain ⟨h1, h2⟩ := mem_filter.1 hp
   rcases mem_cons.1 (h p h1) with e | e
   ·exfalso
    rw [← e] at h2
    simp at h2
   ·exact e) (fun l r => by
   refine Nat.le_trans ?_ (hf l r)
   unfold gapsAt
   rw [length_map, length_map]
   exact (filter_sublist.filter _).length_le)
  have h2 := hf k.1 k.2
  unfold gapsAt at h2
  rw [length_map] at h2
  have h3 := len_split (fun p : St P × List UInt8 => decide (p.1.l = k.1) && decide (p.1.r = k.2)) H
  rw [length_cons]
  omega
end
theorem met_len {s : Sc} {H : Hst Pl} {u : List UInt8} (h : ScOK s) (hH : HInv (schA s) H u) : H.length ≤ 206082 := by
 have h1 := hst_len (prs s) H (fun p hp => by
  obtain ⟨⟨l, r, g⟩, v⟩ := p
  obtain ⟨x, y, hx, hy, _⟩ := hH.two _ _ hp
  exact mem_prs (prt_plcs hx) (prt_plcs hy)) hH.few
 have h2 := prs_len h
 omega
def Gp.sz (g : Gp) : Nat := g.a.length + g.b.length
theorem gapOf_sz : ∀ (l m : List UInt8), (gapOf l m).a.length ≤ l.length ∧ (gapOf l m).b.length ≤ m.length
 | [], m => by rw [gapOf_nil_l]; exact ⟨Nat.le_refl _, Nat.le_refl _⟩
 | l, [] => by rw [gapOf_nil_r]; exact ⟨Nat.le_refl _, Nat.le_refl _⟩
 | a :: l, b :: m => by
  show (if a = b then gapOf l m else Gp.part).a.length ≤ _ ∧ (if a = b then gapOf l m else Gp.part).b.length ≤ _
  have := gapOf_sz l m
  simp only [length_cons]
  split
  ·omega
  ·exact ⟨Nat.zero_le _, Nat.zero_le _⟩
theorem widen_sz (g : Gp) (x y : List UInt8) : (widen g x y).sz ≤ g.sz + x.length + y.length := by
 unfold widen
 split
 ·omega
 ·have := gapOf_sz (g.a ++ x) (g.b ++ y)
  rw [length_append, length_append] at this
  unfold Gp.sz
  omega
def SzH {P : Type} (H : Hst P) : Prop := ∀ x v, (x, v) ∈ H → x.g.sz ≤ 8 * H.length
theorem SzH.add {P : Type} [DecidableEq P] {H : Hst P} (h : SzH H) {u : List UInt8} {x : St P} (hx : x.g.sz ≤ 8 * H.length + 8) : SzH (addH H u x) := by
 unfold addH
 split
 ·exact h
 ·intro y v hy
  rw [length_append, length_singleton]
  rcases mem_append.1 hy with hy | hy
  ·have := h y v hy
   omega
  ·obtain ⟨rfl, rfl⟩ := Prod.mk.inj (mem_singleton.1 hy)
   omega
theorem SzH.nil {P : Type} : SzH ([] : Hst P) := fun _ _ h => (nomatch h)
theorem prt_mode {s : Sc} (h : ScOK s) {u o : List UInt8} {p : Pl} (hp : Prt (schA s) u p o) : 0 ≤ p.1 ∧ p.1 < 8 ∧ p.2.length ≤ 4 := by
 have hn := h.1
 rcases mem_cons.1 (prt_plcs hp) with e | hm
 ·rw [e]; exact ⟨Int.le_refl _, by decide, Nat.zero_le _⟩
 ·obtain ⟨r, hr, hm⟩ := mem_flatMap.1 hm
  obtain ⟨k, _, rfl⟩ := mem_map.1 hm
  have h2 := h.2.2.2.1 r hr
  refine ⟨h2.1.2.1, by have := h2.1.2.2; show r.to < 8; omega, ?_⟩
  show ((bl r.inp).drop k).length ≤ 4
  rw [length_drop, bl_len]
  have := h2.2.1.1
  omega
theorem two_modes {s : Sc} (h : ScOK s) {u : List UInt8} {p q : Pl} {g : Gp} (ht : Two (schA s) u p q g) : (0 ≤ p.1 ∧ p.1 < 8 ∧ p.2.length ≤ 4) ∧ 0 ≤ q.1 ∧ q.1 < 8 ∧ q.2.length ≤ 4 := by
 obtain ⟨x, y, hx, hy, _⟩ := ht
 exact ⟨prt_mode h hx, prt_mode h hy⟩
end Go.Proofs.YtfpnhgahkjglgaaGreat
namespace Go.Proofs.YtfpnhgahkjglgaaGreat
open Go Go.RowKit Go.Maps
def encGp (g : Gp) : List Value := [.string (ba g.a), .string (ba g.b), .bool g.p]
def encSt (x : St Pl) : List Value := [.int .i64 x.l.1, .string (ba x.l.2), .int .i64 x.r.1, .string (ba x.r.2), .string (ba x.g.a), .string (ba x.g.b), .bool x.g.p]
def vKey (k : Pl × Pl) : Value := .agg #[.int .i64 k.1.1, .string (ba k.1.2), .int .i64 k.2.1, .string (ba k.2.2)]
def RGp (_ : World) (g : Gp) (vs : List Value) : Prop := vs = [.string (ba g.a), .string (ba g.b), .bool g.p]
def RSt (_ : World) (x : St Pl) (vs : List Value) : Prop := vs = [.int .i64 x.l.1, .string (ba x.l.2), .int .i64 x.r.1, .string (ba x.r.2), .string (ba x.g.a), .string (ba x.g.b), .bool x.g.p]
theorem keeps_gp : Keeps RGp := fun _ _ _ _ _ h => h
theorem keeps_st : Keeps RSt := fun _ _ _ _ _ h => h
theorem ba_inj {a b : List UInt8} (h : ba a = ba b) : a = b := by
 have := congrArg bl h
 rwa [bl_ba, bl_ba] at this
theorem ba_size (l : List UInt8) : (ba l).size = l.length := rfl
theorem vKey_inj {k k' : Pl × Pl} (h : vKey k = vKey k') : k = k' := by
 have h2 := congrArg Array.toList (Value.agg.inj h)
 simp at h2
 obtain ⟨⟨a, b⟩, c, d⟩ := k
 obtain ⟨⟨a', b'⟩, c', d'⟩ := k'
 simp only at h2
 obtain ⟨rfl, h3, rfl, h4⟩ := h2
 rw [ba_inj h3, ba_inj h4]
theorem siPairRow : (118 : TypeId) < Tryz.prog.types.size := of_decide_eq_true (by kernel_rfl)
theorem siPairWide : (match Tryz.prog.underlying 118 with | some (.array _ _) | some (.struct _) => true | _ => false) = true := by kernel_rfl
theorem siPairLaw : Keyed Tryz.prog 118 := Keyed.of_law (deep_law_laid ouLaidOut (m := 3) (by omega) siPairRow (by kernel_rfl) siPairWide)
theorem litPl {n : Nat} {p : Pl} (h1 : (Lit.int .i64 p.1).wf = true) (h2 : p.2.length ≤ maxLen) : ∃ l, Program.keyLits Tryz.prog (n + 1 + 1) 116 [.int .i64 p.1, .string (ba p.2)] = some l := by
 have hc : Tryz.prog.cellsOf 3 = 1 := by kernel_rfl
 have hcs : Tryz.prog.cellsOf 9 = 1 := by kernel_rfl
 have hc2 : Tryz.prog.cellsOf 116 = 2 := by kernel_rfl
 have e1 := litInt (n := n) h1
 have e2 := litStr (n := n) (x := ba p.2) h2
 unfold Program.keyLits
 rw [Tryz.underlying116]
 simp [hc, hcs, hc2, e1, e2]
theorem keySt_ok {k : Pl × Pl} (h1 : (Lit.int .i64 k.1.1).wf = true) (h2 : k.1.2.length ≤ maxLen) (h3 : (Lit.int .i64 k.2.1).wf = true) (h4 : k.2.2.length ≤ maxLen) : ∃ kl, keyOf Tryz.prog 118 (vKey k) = some kl := by
 have hk : Tryz.prog.keyType 118 = true := by kernel_rfl
 have hf : ∀ c0 c1 c2 c3 : Value, (Value.agg #[c0, c1, c2, c3]).formed Tryz.prog 118 = true := fun c0 c1 c2 c3 => by
  unfold Value.formed
  rw [Tryz.underlying118]
  have : Tryz.prog.cellsOf 118 = 4 := by kernel_rfl
  simp [this]
 unfold keyOf
 rw [Tryz.underlying118]
 simp only [vKey, hk, hf, Bool.true_and, if_true]
 obtain ⟨n, hn⟩ : ∃ n, Tryz.prog.types.size = n + 1 + 1 := ⟨Tryz.prog.types.size - 2, by have h : 1 < Tryz.prog.types.size := of_decide_eq_true (by kernel_rfl); omega⟩
 rw [hn]
 have hc2 : Tryz.prog.cellsOf 116 = 2 := by kernel_rfl
 have hc4 : Tryz.prog.cellsOf 118 = 4 := by kernel_rfl
 obtain ⟨l1, e1⟩ := litPl (n := n) h1 h2
 obtain ⟨l2, e2⟩ := litPl (n := n) h3 h4
 have hl : ∃ l, Program.keyLits Tryz.prog (n + 1 + 1 + 1) 118 [.int .i64 k.1.1, .string (ba k.1.2), .int .i64 k.2.1, .string (ba k.2.2)] = some l := by
  unfold Program.keyLits
  rw [Tryz.underlying118]
  simp [hc2, hc4, e1, e2]
 obtain ⟨l, hl⟩ := hl
 show ∃ kl, Option.map _ (Program.keyLits Tryz.prog (n + 1 + 1 + 1) 118 [.int .i64 k.1.1, .string (ba k.1.2), .int .i64 k.2.1, .string (ba k.2.2)]) = some kl
 rw [hl]
 exact ⟨_, rfl⟩
theorem siZero (w : World) : (zeroValue 173).run Tryz.prog w = .ok (.slice none 0 0) w := by kernel_rfl
theorem siGapInfo : (Tryz.prog.info? 120).map (fun i => (i.zero, i.size, i.bytes)) = some (some (.agg #[.string { data := #[] }, .string { data := #[] }, .bool false]), 3, 40) := by kernel_rfl
theorem siStInfo : (Tryz.prog.info? 122).map (fun i => (i.zero, i.size, i.bytes)) = some (some (.agg #[.int .i64 0, .string { data := #[] }, .int .i64 0, .string { data := #[] }, .string { data := #[] }, .string { data := #[] }, .bool false]), 7, 88) := by kernel_rfl
theorem si_look {w : World} {b n : Nat} {D : DataW Unit} {k : Pl × Pl} {kl : Lit} {v : Value} (h : w.ownsMap Tryz.prog 118 slE b n D) (hk : keyOf Tryz.prog 118 (vKey k) = some kl) (ha : D.atKey kl (slD (.slice none 0 0)) = slD v) (hv : slE v = some (slD v, [])) :
 (Instr.lookup 107 (.map (some b)) (vKey k) false).run Tryz.prog w = .ok v w := by
 obtain ⟨es, clock, hb, FF, _, hD⟩ := h
 subst hD
 rcases Maps.fit_look false siPairLaw Tryz.underlying107 (siZero w) hb FF hk with ⟨hrun, _, hat⟩ | ⟨e0, y, _, _, hrun, hRv, hat, _⟩
 ·rw [hat] at ha
  rw [hrun, slE_inj (v := v) hv (by rw [← ha]; rfl : slE (.slice none 0 0) = some (slD v, []))]
  rfl
 ·rw [hat] at ha
  have : e0.val = v := slE_inj (ps := y.2) (by rw [hRv, ← ha]) hv
  rw [hrun, ← this]
  rfl
def NoGap (w : World) (k : Nat) : Prop := ∀ cs f, w.heap[k]? ≠ some (.cells cs 120 f)
theorem NoGap.of_blk {w : World} {g : Nat} {t : TypeId} {cs : Array Value} (h : Blk w g t cs) (ht : t ≠ 120) : NoGap w g := fun cs' f e => by
 unfold Blk at h
 rw [h] at e
 injection e with e
 injection e with _ e2 _
 exact ht e2
theorem NoGap.of_own {w : World} {base : Nat} {e : TypeId} {s n : Nat} {v : Value} {xs : List Value} (h : w.ownsRow base e s v n xs) (he : e ≠ 120) {g : Nat} (hg : v.ownBlock = some g) : NoGap w g := fun cs' f hh => by
 rcases h.2 with ⟨rfl, _⟩ | ⟨g', cap, cur, rfl, _, h2, _⟩
 ·cases hg
 ·obtain rfl := Option.some.inj hg
  rw [h2] at hh
  injection hh with hh
  injection hh with _ e2 _
  exact he e2
structure BelS (gm : Nat) (X : Nat → Prop) (B : Nat) (w w' : World) : Prop where
 os : w'.os = w.os
 tape : w'.tape = w.tape
 output : w'.output = w.output
 size : w.heap.size ≤ w'.heap.size
 block : ∀ k, k < B → ¬ X k → (k < gm ∨ (k ≠ gm ∧ NoGap w k)) → w'.heap[k]? = w.heap[k]?
section
variable {gm B B' : Nat} {X X' : Nat → Prop} {w w' w2 : World}
theorem BelS.of_below (h : Below B w w') : BelS gm X B w w' := ⟨h.os, h.tape, h.output, h.size, fun k hk _ _ => h.block k hk⟩
theorem BelS.refl (gm : Nat) (X : Nat → Prop) (B : Nat) (w : World) : BelS gm X B w w := .of_below (Below.refl _ _)
theorem BelS.trans (h : BelS gm X B w w') (k : BelS gm X B w' w2) : BelS gm X B w w2 :=
 ⟨k.os.trans h.os, k.tape.trans h.tape, k.output.trans h.output, Nat.le_trans h.size k.size, fun i hi hx hg => by
  have e := h.block i hi hx hg
  refine (k.block i hi hx ?_).trans e
  rcases hg with hg | ⟨h1, h2⟩
  ·exact .inl hg
  ·exact .inr ⟨h1, fun cs f hh => h2 cs f (by rw [← e]; exact hh)⟩⟩
theorem BelS.mono (h : BelS gm X B w w') (hB : B' ≤ B) (hX : ∀ k, k < B' → X k → X' k) : BelS gm X' B' w w' :=
 ⟨h.os, h.tape, h.output, h.size, fun k hk hx hg => h.block k (Nat.lt_of_lt_of_le hk hB) (fun e => hx (hX k hk e)) hg⟩
theorem BelS.below (h : BelS gm X B w w') (hB : B' ≤ B) (hg : B' ≤ gm) (hX : ∀ k, k < B' → ¬ X k) : Below B' w w' :=
 ⟨h.os, h.tape, h.output, h.size, fun k hk => h.block k (Nat.lt_of_lt_of_le hk hB) (hX k hk) (.inl (Nat.lt_of_lt_of_le hk hg))⟩
theorem BelS.blk {g : Nat} {t : TypeId} {cs : Array Value} (h : BelS gm X B w w') (hk : Blk w g t cs) (hg : g < B) (hx : ¬ X g) (hn : g ≠ gm) (ht : t ≠ 120) : Blk w' g t cs :=
 (h.block g hg hx (.inr ⟨hn, .of_blk hk ht⟩)).trans hk
theorem BelS.own {base : Nat} {e : TypeId} {s n : Nat} {v : Value} {xs : List Value} (h : BelS gm X B w w') (ho : w.ownsRow base e s v n xs) (he : e ≠ 120) (hx : ∀ g, v.ownBlock = some g → g < B ∧ ¬ X g ∧ g ≠ gm) : w'.ownsRow base e s v n xs :=
 own_keep ho fun g hg _ => h.block g (hx g hg).1 (hx g hg).2.1 (.inr ⟨(hx g hg).2.2, .of_own ho he hg⟩)
theorem BelS.grown (hg : w.grownBy w' (some gm)) (hB : B ≤ w.heap.size) : BelS gm X B w w' :=
 ⟨hg.os, hg.tape, hg.output, hg.size, fun k hk _ hc => hg.block k (Nat.lt_of_lt_of_le hk hB) fun e => by
  have := Option.some.inj e
  rcases hc with hc | ⟨hc, _⟩
  ·omega
  ·exact hc this⟩
theorem BelS.set (a : Addr) (u : Value) (ha : X a.block) : BelS gm X B w (w.setCell a u) :=
 have h := (Below.refl a.block w).setCell (p := a) (Nat.le_refl _) u
 ⟨h.os, h.tape, h.output, h.size, fun k _ hx _ => Below.heap_setCell w a u k fun e => hx (by rw [e]; exact ha)⟩
theorem BelS.apps {e : TypeId} {s n B0 : Nat} {v v' : Value} {xs : List Value} (ho : w.ownsRow (gm + 1) e s v n xs) (hb : Below B0 w w') (ha : Apps w w' v v') (hB : B ≤ w.heap.size) (hx : e = 120 ∨ ∀ k, v.ownBlock = some k → X k) : BelS gm X B w w' :=
 ⟨hb.os, hb.tape, hb.output, hb.size, fun k hk hxk hc => ha.keep k (Nat.lt_of_lt_of_le hk hB) fun e => by
  rcases hx with rfl | hx
  ·have h1 := own_block_le ho k e
   rcases hc with hc | ⟨_, hc⟩
   ·omega
   ·rcases ho.2 with ⟨rfl, _⟩ | ⟨g', cap, cur, rfl, _, h2, _⟩
    ·cases e
    ·obtain rfl := Option.some.inj e
     exact hc _ _ h2
  ·exact hxk (hx k e)⟩
end
structure GpM (w : World) (b n base : Nat) (V : Pl × Pl → Value) (G : Pl × Pl → List Gp) (D : DataW Unit) : Prop where
 own : w.ownsMap Tryz.prog 118 slE b n D
 at_ : ∀ k kl, keyOf Tryz.prog 118 (vKey k) = some kl → D.atKey kl (slD (.slice none 0 0)) = slD (V k)
 row : ∀ k, w.ownsRow base 120 3 (V k) (G k).length ((G k).flatMap encGp)
 apart : ∀ k k', k ≠ k' → ∀ g, (V k).ownBlock = some g → (V k').ownBlock ≠ some g
 below : b < base
section
variable {w w' : World} {b n base : Nat} {V : Pl × Pl → Value} {G : Pl × Pl → List Gp} {D : DataW Unit}
theorem GpM.made (hb : w.heap.size < base) : GpM (w.alloc (.map #[] 0)) w.heap.size 0 base (fun _ => .slice none 0 0) (fun _ => []) (.map []) :=
 ⟨World.ownsMap_made w _ _ _, fun _ _ _ => rfl, fun _ => own_nil _ _ _ _, fun _ _ _ _ h => (by cases h), hb⟩
theorem GpM.lt (h : GpM w b n base V G D) : b < w.heap.size := h.own.lt
theorem GpM.ne {g : Nat} {t : TypeId} {cs : Array Value} (h : GpM w b n base V G D) (hk : Blk w g t cs) : g ≠ b := by
 obtain ⟨es, clock, h1, _⟩ := h.own
 exact map_blk h1 hk
theorem GpM.keep (h : GpM w b n base V G D) (hb : w'.heap[b]? = w.heap[b]?) (hr : ∀ k g, (V k).ownBlock = some g → w'.heap[g]? = w.heap[g]?) : GpM w' b n base V G D := by
 refine ⟨?_, h.at_, fun k => own_keep (h.row k) fun g hg _ => hr k g hg, h.apart, h.below⟩
 obtain ⟨es, clock, h1, h2, h3, h4⟩ := h.own
 exact ⟨es, clock, hb.trans h1, h2, h3, h4⟩
theorem GpM.bel (h : GpM w b n base V G D) (hb : Below w.heap.size w w') : GpM w' b n base V G D :=
 h.keep (hb.block _ h.lt) fun k g hg => hb.block _ ((h.row k).lt g hg).2
theorem GpM.more {w2 w3 : World} {k0 : Pl × Pl} {kl : Lit} {x : Gp} {v' : Value} (h : GpM w b n base V G D) (hk : keyOf Tryz.prog 118 (vKey k0) = some kl) (hown : w2.ownsRow base 120 3 v' ((G k0).length + 1) ((G k0).flatMap encGp ++ encGp x)) (ha : Apps w w2 (V k0) v')
 (ho : w3.ownsMap Tryz.prog 118 slE b (n + 1) (D.put kl (slD v'))) (hg : w2.grownBy w3 (some b)) : GpM w3 b (n + 1) base (fun k => if k = k0 then v' else V k) (fun k => if k = k0 then G k ++ [x] else G k) (D.put kl (slD v')) := by
 have hD := h.own.tidy siPairLaw
 have hbb := h.below
 have hk3 : ∀ {v : Value} {m : Nat} {xs : List Value}, w2.ownsRow base 120 3 v m xs → w3.ownsRow base 120 3 v m xs := fun hr => hr.kept hg (by
  cases hv : Value.ownBlock _ with
  | none => exact .inl rfl
  | some g => exact .inr fun e => by have h5 := own_block_le hr _ hv; have := Option.some.inj e; omega)
 have hkne : ∀ k kl', keyOf Tryz.prog 118 (vKey k) = some kl' → k ≠ k0 → kl' ≠ kl := fun k kl' h1 h2 e => by
  subst e
  exact h2 (vKey_inj (siPairLaw.inj h1 hk))
 refine ⟨ho, fun k kl' hk' => ?_, fun k => ?_, fun k k' hne g hg1 => ?_, hbb⟩
 ·by_cases e : k = k0
  ·subst e
   rw [hk] at hk'
   obtain rfl := Option.some.inj hk'
   rw [atKey_put_same hD.isMap (siPairLaw.key hk), if_pos rfl]
  ·rw [atKey_put_other (hkne k kl' hk' e), if_neg e]
   exact h.at_ k kl' hk'
 ·by_cases e : k = k0
  ·subst e
   rw [if_pos rfl, if_pos rfl]
   refine hk3 ?_
   rw [List.length_append, List.flatMap_append]
   simpa using hown
  ·rw [if_neg e, if_neg e]
   refine hk3 (own_keep (h.row k) fun g hg1 hlt => ha.keep g hlt fun e2 => ?_)
   exact h.apart k k0 e g hg1 e2
 ·have hfar : ∀ z, z ≠ k0 → v'.ownBlock = some g → (V z).ownBlock ≠ some g := fun z hz hv => by
   rcases ha.at_ with h5 | ⟨j, h5, h6⟩
   ·rw [h5] at hv
    exact h.apart k0 z (fun e => hz e.symm) g hv
   ·rw [h5] at hv
    have hv := Option.some.inj hv
    exact own_lt (h.row z) (by omega)
  by_cases ex : k = k0
  ·rw [if_pos ex] at hg1
   rw [if_neg (fun e => hne (ex.trans e.symm))]
   exact hfar k' (fun e => hne (ex.trans e.symm)) hg1
  ·rw [if_neg ex] at hg1
   by_cases ey : k' = k0
   ·rw [if_pos ey]
    intro hv
    exact hfar k ex hv hg1
   ·rw [if_neg ey]
    exact h.apart k k' hne g hg1
end
structure SrI (w : World) (gf gm : Nat) (s : Sc) (A : Option Addr) (c : Nat) (H : Hst Pl) : Prop where
 blk : Blk w gf 109 #[.int .i64 s.n, .int .u8 s.acc, .slice A s.rs.length c, .map (some gm)]
 map : ∃ n V D, n ≤ H.length ∧ GpM w gm n (gm + 1) V (fun k => gapsAt H k.1 k.2) D
 lt : gm < gf
structure GrI (w : World) (gm gg : Nat) (u : List UInt8) (v : Value) (xs : List (St Pl)) : Prop where
 blk : Blk w gg 113 #[.string (ba u), v]
 row : w.ownsRow (gm + 1) 122 7 v xs.length (xs.flatMap encSt)
 lt : gm < gg
section
variable {w w' : World} {gf gm gg c B : Nat} {s : Sc} {A : Option Addr} {H : Hst Pl} {u : List UInt8} {v : Value} {xs : List (St Pl)} {X : Nat → Prop}
theorem SrI.below (h : SrI w gf gm s A c H) (hb : Below w.heap.size w w') : SrI w' gf gm s A c H := by
 obtain ⟨n, V, D, h1, h2⟩ := h.map
 exact ⟨h.blk.below hb h.blk.lt, ⟨n, V, D, h1, h2.bel hb⟩, h.lt⟩
theorem GrI.below (h : GrI w gm gg u v xs) (hb : Below w.heap.size w w') : GrI w' gm gg u v xs := ⟨h.blk.below hb h.blk.lt, own_below h.row hb, h.lt⟩
theorem GrI.belS (h : GrI w gm gg u v xs) (hb : BelS gm X B w w') (hg : gg < B) (hx : ¬ X gg) (ho : ∀ g, v.ownBlock = some g → g < B ∧ ¬ X g) : GrI w' gm gg u v xs :=
 ⟨hb.blk h.blk hg hx (by have := h.lt; omega) (by decide), hb.own h.row (by decide) fun g hv => ⟨(ho g hv).1, (ho g hv).2, by have := own_block_le h.row g hv; omega⟩, h.lt⟩
theorem blk_ne {w : World} {g g' : Nat} {t t' : TypeId} {cs cs' : Array Value} (h : Blk w g t cs) (h' : Blk w g' t' cs') (ht : t ≠ t') : g ≠ g' := fun e => by
 subst e
 unfold Blk at h h'
 rw [h] at h'
 have := Option.some.inj h'
 injection this with _ e2 _
 exact ht e2
theorem SrI.keepX (h : SrI w gf gm s A c H) (hX : ∀ k, X k → k ≠ gf ∧ k ≠ gm ∧ NoGap w k) (hr : ∀ k, k < w.heap.size → ¬ X k → w'.heap[k]? = w.heap[k]?) : SrI w' gf gm s A c H := by
 obtain ⟨n, V, D, h1, h2⟩ := h.map
 refine ⟨(hr gf h.blk.lt fun hx => (hX _ hx).1 rfl).trans h.blk, ⟨n, V, D, h1, h2.keep (hr gm h2.lt fun hx => (hX _ hx).2.1 rfl) fun k g hg => hr g ((h2.row k).lt g hg).2 fun hx => ?_⟩, h.lt⟩
 have hn := (hX _ hx).2.2
 rcases (h2.row k).2 with ⟨e, _⟩ | ⟨g', cap, cur, e, _, h4, _⟩
 ·rw [e] at hg; cases hg
 ·rw [e] at hg
  obtain rfl := Option.some.inj hg
  exact hn _ _ h4
theorem GrI.slr (h : GrI w gm gg u v xs) : ∃ B cap, v = .slice B xs.length cap ∧ xs.length ≤ cap ∧ cap ≤ maxLen ∧ SlR 7 RSt w B xs := own_slr h.row (fun _ => rfl) (fun _ => rfl) rfl
end
theorem own_sl {w : World} {base n k : Nat} {e : TypeId} {v : Value} {xs : List Value} (h : w.ownsRow base e k v n xs) : ∃ A c, v = .slice A n c := by
 rcases h.2 with ⟨rfl, rfl⟩ | ⟨g, cap, cur, rfl, _⟩
 ·exact ⟨none, 0, rfl⟩
 ·exact ⟨_, _, rfl⟩
theorem SlR.sts {w : World} {A : Option Addr} {k : Nat} {xs : List (St Pl)} (h : SlR 7 RSt w A xs) (hk : k < xs.length) : ∃ b off x, A = some ⟨b, off, none⟩ ∧ b < w.heap.size ∧ xs[k]? = some x ∧
 w.cell? ⟨b, off + k * 7, none⟩ = some (.int .i64 x.l.1) ∧ w.cell? ⟨b, off + k * 7 + 1, none⟩ = some (.string (ba x.l.2)) ∧ w.cell? ⟨b, off + k * 7 + 2, none⟩ = some (.int .i64 x.r.1) ∧ w.cell? ⟨b, off + k * 7 + 3, none⟩ = some (.string (ba x.r.2)) ∧
 w.cell? ⟨b, off + k * 7 + 4, none⟩ = some (.string (ba x.g.a)) ∧ w.cell? ⟨b, off + k * 7 + 5, none⟩ = some (.string (ba x.g.b)) ∧ w.cell? ⟨b, off + k * 7 + 6, none⟩ = some (.bool x.g.p) := by
 obtain ⟨b, off, x, vs, hA, hlt, hx, hr, _, hv⟩ := h.at_ hk
 exact ⟨b, off, x, hA, hlt, hx, hv 0 _ (by rw [hr]; rfl), hv 1 _ (by rw [hr]; rfl), hv 2 _ (by rw [hr]; rfl), hv 3 _ (by rw [hr]; rfl), hv 4 _ (by rw [hr]; rfl), hv 5 _ (by rw [hr]; rfl), hv 6 _ (by rw [hr]; rfl)⟩
theorem SlR.gps {w : World} {A : Option Addr} {k : Nat} {xs : List Gp} (h : SlR 3 RGp w A xs) (hk : k < xs.length) : ∃ b off x, A = some ⟨b, off, none⟩ ∧ b < w.heap.size ∧ xs[k]? = some x ∧
 w.cell? ⟨b, off + k * 3, none⟩ = some (.string (ba x.a)) ∧ w.cell? ⟨b, off + k * 3 + 1, none⟩ = some (.string (ba x.b)) ∧ w.cell? ⟨b, off + k * 3 + 2, none⟩ = some (.bool x.p) := by
 obtain ⟨b, off, x, vs, hA, hlt, hx, hr, _, hv⟩ := h.at_ hk
 exact ⟨b, off, x, hA, hlt, hx, hv 0 _ (by rw [hr]; rfl), hv 1 _ (by rw [hr]; rfl), hv 2 _ (by rw [hr]; rfl)⟩
end Go.Proofs.YtfpnhgahkjglgaaGreat
