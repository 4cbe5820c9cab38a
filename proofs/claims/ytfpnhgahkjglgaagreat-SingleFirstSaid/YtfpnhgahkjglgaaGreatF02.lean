/-
  OuBest, SiGap, SiAut, SiFirst, joined. No conditions.
-/
import Derived.Test.YtfpnhgahkjglgaaGreatF01
namespace Go.Proofs.YtfpnhgahkjglgaaGreat
open Go List
abbrev PairAt (s : Sc) (inp : ByteArray) (i : Nat) (k : Int × ByteArray) (c : Int) : Prop := Rch (pairS s) (0, ByteArray.empty) (bl inp) i k c
def FlatS (s : Sc) (inp : ByteArray) : Prop := Flat (pairS s) (0, ByteArray.empty) (bl inp)
def pairsL (s : Sc) (inp : ByteArray) (i : Nat) : List ((Int × ByteArray) × Int) := fullL (pairS s) (0, ByteArray.empty) (bl inp) i
def bestL (s : Sc) (inp : ByteArray) : List Rs := resL (((pairsL s inp inp.size).filter fun p => accB s.acc p.1.1).map fun p => ⟨p.1.2, p.2⟩)
def Whole (s : Sc) (inp out : ByteArray) (c : Int) : Prop := ∃ m, accB s.acc m = true ∧ Rte s m inp out c
theorem best_is {s : Sc} {inp : ByteArray} (hF : FlatS s inp) : IsRes (Whole s inp) (bestL s inp) := by
 have key : ∀ t c, (⟨t, c⟩ : Rs) ∈ ((pairsL s inp inp.size).filter fun p => accB s.acc p.1.1).map (fun p => (⟨p.1.2, p.2⟩ : Rs)) ↔ Whole s inp t c := fun t c => by
  rw [mem_map]
  constructor
  ·rintro ⟨⟨⟨m, o⟩, d⟩, h1, h2⟩
   obtain ⟨h3, h4⟩ := mem_filter.1 h1
   injection h2 with h2 h5
   subst h2 h5
   exact ⟨m, h4, pair_iff.1 ((mem_full hF _ _ _).1 h3)⟩
  ·rintro ⟨m, h1, h2⟩
   exact ⟨((m, t), c), mem_filter.2 ⟨(mem_full hF _ _ _).2 (pair_iff.2 h2), h1⟩, rfl⟩
 exact (isRes_resL _).congr (fun t c h => (key t c).1 h) (fun t c h => ⟨c, (key t c).2 h, Int.le_refl _⟩)
def costL (s : Sc) (inp out : ByteArray) : Int := match (bestL s inp).find? (fun y => decide (y.tx = out)) with
 | some y => y.co
 | none => -1
theorem whole_cost {s : Sc} (hc : ∀ r ∈ s.rs, 0 ≤ r.co) {inp out : ByteArray} {c : Int} (h : Whole s inp out c) : 0 ≤ c := by
 obtain ⟨m, _, h⟩ := h
 exact rte_cost hc h
theorem costL_cases {s : Sc} {inp : ByteArray} (hF : FlatS s inp) (hc : ∀ r ∈ s.rs, 0 ≤ r.co) (out : ByteArray) :
 (costL s inp out = -1 ∧ ∀ c, ¬ Whole s inp out c) ∨ (0 ≤ costL s inp out ∧ (⟨out, costL s inp out⟩ : Rs) ∈ bestL s inp ∧ Whole s inp out (costL s inp out) ∧ ∀ c, Whole s inp out c → costL s inp out ≤ c) := by
 have hI := best_is hF
 unfold costL
 cases h : (bestL s inp).find? (fun y => decide (y.tx = out)) with
 | none =>
  refine .inl ⟨rfl, fun c hc => ?_⟩
  obtain ⟨y, hy, h1, _⟩ := hI.least _ _ hc
  have := find?_eq_none.1 h y hy
  exact this (decide_eq_true h1)
 | some y =>
  have h0 := find?_some h
  have h1 : y.tx = out := of_decide_eq_true h0
  have h2 := mem_of_find?_eq_some h
  obtain ⟨h3, h4⟩ := hI.mem.1 h2
  subst h1
  exact .inr ⟨whole_cost hc h3, h2, h3, h4⟩
def Big (n : Nat) (s : Sc) (inp : ByteArray) : Prop := ∃ i, i ≤ inp.size ∧ TooMany n (PairAt s inp i)
/-! What the laws compare. -/
end Go.Proofs.YtfpnhgahkjglgaaGreat
namespace Go.Proofs.YtfpnhgahkjglgaaGreat
open List
structure Gp where
 a : List UInt8
 b : List UInt8
 p : Bool
 deriving DecidableEq
def Gp.none_ : Gp := ⟨[], [], false⟩
def Gp.part : Gp := ⟨[], [], true⟩
def gapOf : List UInt8 → List UInt8 → Gp
 | x :: l, y :: m => if x = y then gapOf l m else Gp.part
 | l, m => ⟨l, m, false⟩
theorem gapOf_nil_l (m : List UInt8) : gapOf [] m = ⟨[], m, false⟩ := by cases m <;> rfl
theorem gapOf_nil_r (l : List UInt8) : gapOf l [] = ⟨l, [], false⟩ := by cases l <;> rfl
theorem gapOf_app : ∀ (x l m : List UInt8), gapOf (x ++ l) (x ++ m) = gapOf l m
 | [], _, _ => rfl
 | a :: x, l, m => by
  show (if a = a then gapOf (x ++ l) (x ++ m) else Gp.part) = _
  rw [if_pos rfl, gapOf_app x]
def widen (g : Gp) (x y : List UInt8) : Gp := if g.p then g else gapOf (g.a ++ x) (g.b ++ y)
theorem widen_gapOf : ∀ (l m x y : List UInt8), widen (gapOf l m) x y = gapOf (l ++ x) (m ++ y)
 | [], m, x, y => by rw [gapOf_nil_l]; rfl
 | l, [], x, y => by rw [gapOf_nil_r]; rfl
 | a :: l, b :: m, x, y => by
  show widen (if a = b then gapOf l m else Gp.part) x y = (if a = b then gapOf (l ++ x) (m ++ y) else Gp.part)
  split
  ·exact widen_gapOf l m x y
  ·rfl
theorem gapOf_none : ∀ {l m : List UInt8}, gapOf l m = Gp.none_ ↔ l = m
 | [], m => by
  rw [gapOf_nil_l]
  unfold Gp.none_
  constructor
  ·intro h; injection h with _ h _; exact h.symm
  ·intro h; rw [← h]
 | a :: l, [] => by
  rw [gapOf_nil_r]
  unfold Gp.none_
  constructor
  ·intro h; injection h with h _ _
  ·intro h; cases h
 | a :: l, b :: m => by
  show (if a = b then gapOf l m else Gp.part) = _ ↔ _
  split
  ·rename_i h
   subst h
   rw [gapOf_none]
   constructor
   ·intro h; rw [h]
   ·intro h; injection h
  ·rename_i h
   constructor
   ·intro h; unfold Gp.part Gp.none_ at h; injection h with _ _ h; cases h
   ·intro e; injection e with e _; exact absurd e h
def Gp.right (g : Gp) : Prop := g.p = true ∧ g.a = [] ∧ g.b = [] ∨ g.p = false ∧ (g.a = [] ∨ g.b = [])
theorem gapOf_right : ∀ (l m : List UInt8), (gapOf l m).right
 | [], m => by rw [gapOf_nil_l]; exact .inr ⟨rfl, .inl rfl⟩
 | l, [] => by rw [gapOf_nil_r]; exact .inr ⟨rfl, .inr rfl⟩
 | a :: l, b :: m => by
  show (if a = b then gapOf l m else Gp.part).right
  split
  ·exact gapOf_right l m
  ·exact .inl ⟨rfl, rfl, rfl⟩
theorem widen_none {g : Gp} {x y : List UInt8} (h : widen g x y = Gp.none_) : g.p = false ∧ g.a ++ x = g.b ++ y := by
 unfold widen at h
 split at h
 ·rename_i hp
  rw [h] at hp
  cases hp
 ·rename_i hp
  exact ⟨by simpa using hp, gapOf_none.1 h⟩
theorem gaps_differ {g g' : Gp} (hg : g.right) (hg' : g'.right) (hne : g ≠ g') (x y : List UInt8) : widen g x y ≠ Gp.none_ ∨ widen g' x y ≠ Gp.none_ := by
 refine Classical.byContradiction fun hn => hne ?_
 have h1 : widen g x y = Gp.none_ := Classical.byContradiction fun h => hn (.inl h)
 have h2 : widen g' x y = Gp.none_ := Classical.byContradiction fun h => hn (.inr h)
 obtain ⟨p1, e1⟩ := widen_none h1
 obtain ⟨p2, e2⟩ := widen_none h2
 have r1 : g.a = [] ∨ g.b = [] := hg.elim (fun h => by rw [p1] at h; cases h.1) (·.2)
 have r2 : g'.a = [] ∨ g'.b = [] := hg'.elim (fun h => by rw [p2] at h; cases h.1) (·.2)
 have l1 := congrArg length e1
 have l2 := congrArg length e2
 rw [length_append, length_append] at l1 l2
 obtain ⟨a, b, p⟩ := g
 obtain ⟨a', b', p'⟩ := g'
 simp only at *
 subst p1 p2
 rcases r1 with rfl | rfl
 ·rcases r2 with rfl | rfl
  ·have : b ++ y = b' ++ y := by rw [← e1, ← e2]
   rw [append_cancel_right this]
  ·simp only [length_nil] at l1 l2
   have h3 : b = [] := length_eq_zero_iff.1 (by omega)
   have h4 : a' = [] := length_eq_zero_iff.1 (by omega)
   rw [h3, h4]
 ·rcases r2 with rfl | rfl
  ·simp only [length_nil] at l1 l2
   have h3 : a = [] := length_eq_zero_iff.1 (by omega)
   have h4 : b' = [] := length_eq_zero_iff.1 (by omega)
   rw [h3, h4]
  ·have : a ++ x = a' ++ x := by rw [e1, e2]
   rw [append_cancel_right this]
theorem part_differ (x y : List UInt8) : widen Gp.part x y ≠ Gp.none_ := by
 unfold widen Gp.part Gp.none_
 simp
theorem widen_nil {g : Gp} (h : g.right) : widen g [] [] = g := by
 unfold widen
 rcases h with ⟨h1, _⟩ | ⟨h1, h2 | h2⟩
 ·rw [if_pos h1]
 ·rw [if_neg (by rw [h1]; simp), append_nil, append_nil, h2, gapOf_nil_l]
  cases g; simp only at h1 h2; subst h1 h2; rfl
 ·rw [if_neg (by rw [h1]; simp), append_nil, append_nil, h2, gapOf_nil_r]
  cases g; simp only at h1 h2; subst h1 h2; rfl
theorem widen_widen (g : Gp) (a b x y : List UInt8) : widen (widen g a b) x y = widen g (a ++ x) (b ++ y) := by
 cases h : g.p with
 | true => unfold widen; simp [h]
 | false =>
  have e : widen g a b = gapOf (g.a ++ a) (g.b ++ b) := by unfold widen; simp [h]
  have e2 : widen g (a ++ x) (b ++ y) = gapOf (g.a ++ (a ++ x)) (g.b ++ (b ++ y)) := by unfold widen; simp [h]
  rw [e, e2, widen_gapOf, append_assoc, append_assoc]
def code : List UInt8 → Nat := foldl (fun n c => n * 256 + c.toNat + 1) 0
theorem code_snoc (u : List UInt8) (c : UInt8) : code (u ++ [c]) = code u * 256 + c.toNat + 1 := by unfold code; rw [foldl_append]; rfl
theorem code_fold : ∀ (z : List UInt8) (n : Nat), z.foldl (fun n c => n * 256 + c.toNat + 1) n = n * 256 ^ z.length + code z
 | [], n => by show n = n * 256 ^ 0 + 0; omega
 | c :: z, n => by
  have h1 := code_fold z (n * 256 + c.toNat + 1)
  have h2 := code_fold z (0 * 256 + c.toNat + 1)
  show z.foldl (fun n c => n * 256 + c.toNat + 1) (n * 256 + c.toNat + 1) = n * 256 ^ (z.length + 1) + z.foldl (fun n c => n * 256 + c.toNat + 1) (0 * 256 + c.toNat + 1)
  rw [h1, h2, Nat.pow_succ]
  simp only [Nat.add_mul, Nat.zero_mul, Nat.zero_add]
  rw [show n * (256 ^ z.length * 256) = n * 256 * 256 ^ z.length by rw [Nat.mul_assoc, Nat.mul_comm 256]]
  omega
theorem code_app (u z : List UInt8) : code (u ++ z) = code u * 256 ^ z.length + code z := by
 unfold code
 rw [foldl_append]
 exact code_fold z _
theorem code_inj : ∀ (n : Nat) {u v : List UInt8}, u.length ≤ n → code u = code v → u = v
 | 0, u, v, hu, h => by
  obtain rfl := length_eq_zero_iff.1 (Nat.le_zero.1 hu)
  rcases eq_nil_or_concat v with rfl | ⟨v', c, rfl⟩
  ·rfl
  ·rw [concat_eq_append, code_snoc] at h
   have : code ([] : List UInt8) = 0 := rfl
   omega
 | n + 1, u, v, hu, h => by
  rcases eq_nil_or_concat u with rfl | ⟨u', a, rfl⟩
  ·rcases eq_nil_or_concat v with rfl | ⟨v', c, rfl⟩
   ·rfl
   ·rw [concat_eq_append, code_snoc] at h
    have : code ([] : List UInt8) = 0 := rfl
    omega
  ·rcases eq_nil_or_concat v with rfl | ⟨v', c, rfl⟩
   ·rw [concat_eq_append, code_snoc] at h
    have : code ([] : List UInt8) = 0 := rfl
    omega
   ·rw [concat_eq_append, concat_eq_append, code_snoc, code_snoc] at h
    rw [concat_eq_append, length_append, length_singleton] at hu
    have ha := a.toNat_lt
    have hc := c.toNat_lt
    have h1 : code u' = code v' := by omega
    have h2 : a.toNat = c.toNat := by omega
    rw [concat_eq_append, concat_eq_append, code_inj n (by omega) h1, UInt8.toNat_inj.1 h2]
theorem code_eq {u v : List UInt8} (h : code u = code v) : u = v := code_inj _ (Nat.le_refl _) h
theorem code_le_app {u v : List UInt8} (h : code u ≤ code v) (z : List UInt8) : code (u ++ z) ≤ code (v ++ z) := by
 rw [code_app, code_app]
 have := Nat.mul_le_mul_right (256 ^ z.length) h
 omega
def repC : Nat → Nat
 | 0 => 0
 | n + 1 => repC n * 256 + 1
theorem repC_le : ∀ (n : Nat) (u : List UInt8), u.length = n → repC n ≤ code u ∧ code u < repC (n + 1)
 | 0, u, h => by
  obtain rfl := length_eq_zero_iff.1 h
  exact ⟨Nat.le_refl _, by decide⟩
 | n + 1, u, h => by
  rcases eq_nil_or_concat u with rfl | ⟨u', c, rfl⟩
  ·simp at h
  ·rw [concat_eq_append] at h ⊢
   rw [length_append, length_singleton] at h
   obtain ⟨h1, h2⟩ := repC_le n u' (by omega)
   have hc := c.toNat_lt
   rw [code_snoc]
   show repC n * 256 + 1 ≤ _ ∧ _ < repC (n + 1) * 256 + 1
   omega
theorem repC_mono {n m : Nat} (h : n ≤ m) : repC n ≤ repC m := by
 induction h with
 | refl => exact Nat.le_refl _
 | step _ ih => show _ ≤ repC _ * 256 + 1; omega
theorem code_len {u v : List UInt8} (h : u.length < v.length) : code u < code v := by
 have h1 := (repC_le _ u rfl).2
 have h2 := (repC_le _ v rfl).1
 have h3 := repC_mono (show u.length + 1 ≤ v.length by omega)
 omega
theorem len_of_code {u v : List UInt8} (h : code u ≤ code v) : u.length ≤ v.length := by
 refine Nat.le_of_not_lt fun h1 => ?_
 have := code_len h1
 omega
structure Aut (P : Type) where
 st : P
 hush : P → List UInt8 → P → Prop
 let_ : P → UInt8 → List UInt8 → P → Prop
 acc : P → Bool
section
variable {P : Type} {A : Aut P}
inductive Prt (A : Aut P) : List UInt8 → P → List UInt8 → Prop
 | start : Prt A [] A.st []
 | opn {u o x : List UInt8} {p q : P} : Prt A u p o → A.hush p x q → Prt A u q (o ++ x)
 | take {u o x : List UInt8} {p q : P} {c : UInt8} : Prt A u p o → A.let_ p c x q → Prt A (u ++ [c]) q (o ++ x)
def IsOut (A : Aut P) (u o : List UInt8) : Prop := ∃ p, A.acc p = true ∧ Prt A u p o
def Twice (A : Aut P) (u : List UInt8) : Prop := ∃ x y, IsOut A u x ∧ IsOut A u y ∧ x ≠ y
def Two (A : Aut P) (u : List UInt8) (p q : P) (g : Gp) : Prop := ∃ x y, Prt A u p x ∧ Prt A u q y ∧ g = gapOf x y
inductive Fin_ (A : Aut P) : Nat → P → List UInt8 → List UInt8 → Prop
 | stop {p : P} : A.acc p = true → Fin_ A 0 p [] []
 | opn {n : Nat} {p q : P} {z o x : List UInt8} : A.hush p x q → Fin_ A n q z o → Fin_ A (n + 1) p z (x ++ o)
 | take {n : Nat} {p q : P} {c : UInt8} {z o x : List UInt8} : A.let_ p c x q → Fin_ A n q z o → Fin_ A (n + 1) p (c :: z) (x ++ o)
theorem fin_out {n : Nat} {p : P} {z o : List UInt8} (h : Fin_ A n p z o) : ∀ {u x : List UInt8}, Prt A u p x → IsOut A (u ++ z) (x ++ o) := by
 induction h with
 | stop h => intro u x hp; rw [append_nil, append_nil]; exact ⟨_, h, hp⟩
 | opn h1 _ ih => intro u x hp; have := ih (.opn hp h1); rwa [append_assoc] at this
 | take h1 _ ih => intro u x hp; have := ih (.take hp h1); rwa [append_assoc, append_assoc] at this
theorem fin_of_prt {u x : List UInt8} {p : P} (h : Prt A u p x) : ∀ {n : Nat} {z o : List UInt8}, Fin_ A n p z o → ∃ m, Fin_ A m A.st (u ++ z) (x ++ o) := by
 induction h with
 | start => intro n z o h; exact ⟨n, h⟩
 | opn _ h2 ih => intro n z o h; have := ih (.opn h2 h); rwa [← append_assoc] at this
 | take _ h2 ih => intro n z o h; have := ih (.take h2 h); rwa [append_assoc, append_assoc]
theorem fin_start {u x : List UInt8} (h : IsOut A u x) : ∃ n, Fin_ A n A.st u x := by
 obtain ⟨p, h1, h2⟩ := h
 have := fin_of_prt h2 (.stop h1)
 rwa [append_nil, append_nil] at this
theorem two_twice {n m : Nat} {u z a b : List UInt8} {p q : P} {g : Gp} (h : Two A u p q g) (ha : Fin_ A n p z a) (hb : Fin_ A m q z b) (hd : widen g a b ≠ Gp.none_) : Twice A (u ++ z) := by
 obtain ⟨x, y, h1, h2, rfl⟩ := h
 rw [widen_gapOf] at hd
 exact ⟨x ++ a, y ++ b, fin_out ha h1, fin_out hb h2, fun e => hd (gapOf_none.2 e)⟩
theorem two_right {u : List UInt8} {p q : P} {g : Gp} (h : Two A u p q g) : g.right := by
 obtain ⟨x, y, _, _, rfl⟩ := h
 exact gapOf_right x y
structure St (P : Type) where
 l : P
 r : P
 g : Gp
 deriving DecidableEq
abbrev Hst (P : Type) := List (St P × List UInt8)
section
variable [DecidableEq P]
def gapsAt (H : Hst P) (l r : P) : List Gp := (H.filter fun p => decide (p.1.l = l) && decide (p.1.r = r)).map (·.1.g)
theorem mem_gapsAt {H : Hst P} {l r : P} {g : Gp} : g ∈ gapsAt H l r ↔ ∃ v, (⟨l, r, g⟩, v) ∈ H := by
 unfold gapsAt
 rw [mem_map]
 constructor
 ·rintro ⟨⟨⟨l', r', g'⟩, v⟩, h1, h2⟩
  obtain ⟨h3, h4⟩ := mem_filter.1 h1
  rw [Bool.and_eq_true, decide_eq_true_iff, decide_eq_true_iff] at h4
  obtain ⟨h4, h5⟩ := h4
  simp only at h2 h4 h5
  subst h2 h4 h5
  exact ⟨v, h3⟩
 ·rintro ⟨v, h⟩
  exact ⟨(⟨l, r, g⟩, v), mem_filter.2 ⟨h, by simp⟩, rfl⟩
def known (H : Hst P) (x : St P) : Bool := decide (2 ≤ (gapsAt H x.l x.r).length) || (gapsAt H x.l x.r).contains x.g || (gapsAt H x.l x.r).contains Gp.part
def addH (H : Hst P) (u : List UInt8) (x : St P) : Hst P := if known H x then H else H ++ [(x, u)]
theorem grp_add_out {H : Hst P} {u : List UInt8} {x : St P} (h : known H x = true) : addH H u x = H := by
 unfold addH
 rw [if_pos h]
def KnownAt (H : Hst P) (x : St P) (w : List UInt8) : Prop :=
 (∃ v, code v ≤ code w ∧ (x, v) ∈ H) ∨ (∃ v, code v ≤ code w ∧ (⟨x.l, x.r, Gp.part⟩, v) ∈ H) ∨ (∃ g g' v v', g ≠ g' ∧ code v ≤ code w ∧ code v' ≤ code w ∧ (⟨x.l, x.r, g⟩, v) ∈ H ∧ (⟨x.l, x.r, g'⟩, v') ∈ H)
omit [DecidableEq P] in
theorem KnownAt.mono {H H' : Hst P} {x : St P} {w : List UInt8} (h : KnownAt H x w) (hs : ∀ p ∈ H, p ∈ H') : KnownAt H' x w := by
 rcases h with ⟨v, h1, h2⟩ | ⟨v, h1, h2⟩ | ⟨g, g', v, v', h1, h2, h3, h4, h5⟩
 ·exact .inl ⟨v, h1, hs _ h2⟩
 ·exact .inr (.inl ⟨v, h1, hs _ h2⟩)
 ·exact .inr (.inr ⟨g, g', v, v', h1, h2, h3, hs _ h4, hs _ h5⟩)
structure HInv (A : Aut P) (H : Hst P) (cur : List UInt8) : Prop where
 two : ∀ x v, (x, v) ∈ H → Two A v x.l x.r x.g
 upto : ∀ x v, (x, v) ∈ H → code v ≤ code cur
 nodup : (H.map (·.1)).Nodup
 few : ∀ l r, (gapsAt H l r).length ≤ 2
theorem gaps_nodup {H : Hst P} (h : (H.map (·.1)).Nodup) (l r : P) : (gapsAt H l r).Nodup := by
 unfold gapsAt Nodup at *
 rw [pairwise_map] at h
 rw [pairwise_map]
 refine (h.filter _).imp_of_mem fun {a b} ha hb hne e => hne ?_
 have h1 := (mem_filter.1 ha).2
 have h2 := (mem_filter.1 hb).2
 simp only [Bool.and_eq_true, decide_eq_true_iff] at h1 h2
 obtain ⟨⟨a1, a2, a3⟩, a4⟩ := a
 obtain ⟨⟨b1, b2, b3⟩, b4⟩ := b
 simp only at *
 rw [h1.1, h1.2, h2.1, h2.2, e]
theorem known_at {H : Hst P} {cur : List UInt8} (h : HInv A H cur) {x : St P} (hk : known H x = true) : KnownAt H x cur := by
 unfold known at hk
 rw [Bool.or_eq_true, Bool.or_eq_true, decide_eq_true_iff, contains_iff_mem, contains_iff_mem, mem_gapsAt, mem_gapsAt] at hk
 rcases hk with (hk | ⟨v, hk⟩) | ⟨v, hk⟩
 ·have hn := gaps_nodup h.nodup x.l x.r
  have hm : ∀ g ∈ gapsAt H x.l x.r, ∃ v, (⟨x.l, x.r, g⟩, v) ∈ H := fun g hg => mem_gapsAt.1 hg
  cases hg : gapsAt H x.l x.r with
  | nil => rw [hg] at hk; simp at hk
  | cons a l => cases l with
   | nil => rw [hg] at hk; simp at hk
   | cons b l =>
    rw [hg] at hn hm
    obtain ⟨v, hv⟩ := hm a (by simp)
    obtain ⟨v', hv'⟩ := hm b (by simp)
    exact .inr (.inr ⟨a, b, v, v', fun e => (nodup_cons.1 hn).1 (by rw [e]; simp), h.upto _ _ hv, h.upto _ _ hv', hv, hv'⟩)
 ·exact .inl ⟨v, h.upto _ _ hk, hk⟩
 ·exact .inr (.inl ⟨v, h.upto _ _ hk, hk⟩)
theorem gaps_add {H : Hst P} {u : List UInt8} {x : St P} (h : known H x = false) (l r : P) : gapsAt (addH H u x) l r = gapsAt H l r ++ (if x.l = l ∧ x.r = r then [x.g] else []) := by
 unfold addH gapsAt
 rw [if_neg (by rw [h]; simp), filter_append, map_append]
 congr 1
 by_cases e : x.l = l ∧ x.r = r
 ·rw [if_pos e]
  simp [e]
 ·rw [if_neg e]
  have : (decide (x.l = l) && decide (x.r = r)) = false := by
   rw [Bool.and_eq_false_iff, decide_eq_false_iff_not, decide_eq_false_iff_not]
   exact Classical.not_and_iff_not_or_not.1 e
  simp [this]
theorem add_sub {H : Hst P} {u : List UInt8} {x : St P} : ∀ p ∈ H, p ∈ addH H u x := fun p hp => by
 unfold addH
 split
 ·exact hp
 ·exact mem_append_left _ hp
theorem HInv.add {H : Hst P} {cur : List UInt8} (h : HInv A H cur) {x : St P} (hx : Two A cur x.l x.r x.g) : HInv A (addH H cur x) cur ∧ KnownAt (addH H cur x) x cur := by
 cases hk : known H x with
 | true => rw [grp_add_out hk]; exact ⟨h, known_at h hk⟩
 | false =>
  have hmem : ∀ y v, (y, v) ∈ addH H cur x ↔ (y, v) ∈ H ∨ (y = x ∧ v = cur) := fun y v => by
   unfold addH
   rw [if_neg (by rw [hk]; simp), mem_append, mem_singleton, Prod.mk.injEq]
  have hk2 := hk
  unfold known at hk2
  rw [Bool.or_eq_false_iff, Bool.or_eq_false_iff, decide_eq_false_iff_not] at hk2
  obtain ⟨⟨h1, h2⟩, h3⟩ := hk2
  refine ⟨⟨fun y v hy => ?_, fun y v hy => ?_, ?_, fun l r => ?_⟩, .inl ⟨cur, Nat.le_refl _, (hmem _ _).2 (.inr ⟨rfl, rfl⟩)⟩⟩
  ·rcases (hmem y v).1 hy with hy | ⟨rfl, rfl⟩
   ·exact h.two y v hy
   ·exact hx
  ·rcases (hmem y v).1 hy with hy | ⟨rfl, rfl⟩
   ·exact h.upto y v hy
   ·exact Nat.le_refl _
  ·unfold addH
   rw [if_neg (by rw [hk]; simp), map_append]
   refine nodup_append.2 ⟨h.nodup, pairwise_singleton _ _, fun a ha b hb e => ?_⟩
   have hb := mem_singleton.1 hb
   obtain ⟨⟨y, v⟩, hy, e2⟩ := mem_map.1 ha
   have e3 : y = x := e2.trans (e.trans hb)
   have : x.g ∈ gapsAt H x.l x.r := mem_gapsAt.2 ⟨v, by rw [e3] at hy; exact hy⟩
   rw [← contains_iff_mem, h2] at this
   cases this
  ·rw [gaps_add hk, length_append]
   have := h.few l r
   split
   ·rename_i e
    rw [← e.1, ← e.2]
    simp only [length_singleton]
    omega
   ·simp only [length_nil]
    omega
end
def SucO (A : Aut P) (x y : St P) : Prop := (∃ o, A.hush x.l o y.l ∧ y.r = x.r ∧ y.g = widen x.g o []) ∨ (∃ o, A.hush x.r o y.r ∧ y.l = x.l ∧ y.g = widen x.g [] o)
def SucT (A : Aut P) (c : UInt8) (x y : St P) : Prop := ∃ a b, A.let_ x.l c a y.l ∧ A.let_ x.r c b y.r ∧ y.g = widen x.g a b
theorem sucT_two {v : List UInt8} {c : UInt8} {x y : St P} (h : Two A v x.l x.r x.g) (hy : SucT A c x y) : Two A (v ++ [c]) y.l y.r y.g := by
 obtain ⟨a, b, g1, g2, hg⟩ := h
 obtain ⟨o, o', h1, h2, h3⟩ := hy
 exact ⟨a ++ o, b ++ o', .take g1 h1, .take g2 h2, by rw [h3, hg, widen_gapOf]⟩
theorem sucO_two {v : List UInt8} {x y : St P} (h : Two A v x.l x.r x.g) (hy : SucO A x y) : Two A v y.l y.r y.g := by
 obtain ⟨a, b, g1, g2, hg⟩ := h
 rcases hy with ⟨o, h1, h2, h3⟩ | ⟨o, h1, h2, h3⟩
 ·exact ⟨a ++ o, b, .opn g1 h1, by rw [h2]; exact g2, by rw [h3, hg, widen_gapOf, append_nil]⟩
 ·exact ⟨a, b ++ o, by rw [h2]; exact g1, .opn g2 h1, by rw [h3, hg, widen_gapOf, append_nil]⟩
def ends (A : Aut P) (x : St P) : Bool := !decide (x.g = Gp.none_) && A.acc x.l && A.acc x.r
theorem ends_twice {u : List UInt8} {x : St P} (h : Two A u x.l x.r x.g) (he : ends A x = true) : Twice A u := by
 unfold ends at he
 simp only [Bool.and_eq_true, Bool.not_eq_true', decide_eq_false_iff_not] at he
 obtain ⟨⟨h1, h2⟩, h3⟩ := he
 obtain ⟨a, b, g1, g2, hg⟩ := h
 exact ⟨a, b, ⟨_, h2, g1⟩, ⟨_, h3, g2⟩, fun e => h1 (by rw [hg]; exact gapOf_none.2 e)⟩
def Both (A : Aut P) (y : St P) : Prop := ∃ n m z a b, Fin_ A n y.l z a ∧ Fin_ A m y.r z b
structure Followed (A : Aut P) (H : Hst P) (cur : List UInt8) : Prop where
 two : ∀ x v, (x, v) ∈ H → Two A v x.l x.r x.g
 start : (⟨A.st, A.st, Gp.none_⟩, []) ∈ H
 opn : ∀ x v, (x, v) ∈ H → code v ≤ code cur → ∀ y, SucO A x y → Both A y → KnownAt H y v
 take : ∀ x v, (x, v) ∈ H → ∀ c, code (v ++ [c]) ≤ code cur → ∀ y, SucT A c x y → Both A y → KnownAt H y (v ++ [c])
theorem known_here {H : Hst P} {n m : Nat} {w z a b : List UInt8} {y : St P} (h : ∀ x v, (x, v) ∈ H → Two A v x.l x.r x.g) (hk : KnownAt H y w) (hno : ∀ U, code U < code (w ++ z) → ¬ Twice A U) (ha : Fin_ A n y.l z a) (hb : Fin_ A m y.r z b) (hd : widen y.g a b ≠ Gp.none_) :
 ∃ g, (⟨y.l, y.r, g⟩, w) ∈ H ∧ widen g a b ≠ Gp.none_ := by
 have key : ∀ g v, (⟨y.l, y.r, g⟩, v) ∈ H → code v ≤ code w → widen g a b ≠ Gp.none_ → v = w := fun g v hv hle hw => by
  have ht := two_twice (h _ _ hv) ha hb hw
  have h1 := code_le_app hle z
  have h2 : ¬ code (v ++ z) < code (w ++ z) := fun hlt => hno _ hlt ht
  exact append_cancel_right (code_eq (by omega : code (v ++ z) = code (w ++ z)))
 rcases hk with ⟨v, h1, h2⟩ | ⟨v, h1, h2⟩ | ⟨g, g', v, v', h1, h2, h3, h4, h5⟩
 ·obtain rfl := key y.g v h2 h1 hd
  exact ⟨y.g, h2, hd⟩
 ·obtain rfl := key _ v h2 h1 (part_differ a b)
  exact ⟨_, h2, part_differ a b⟩
 ·rcases gaps_differ (two_right (h _ _ h4)) (two_right (h _ _ h5)) h1 a b with hw | hw
  ·obtain rfl := key g v h4 h2 hw
   exact ⟨g, h4, hw⟩
  ·obtain rfl := key g' v' h5 h3 hw
   exact ⟨g', h5, hw⟩
theorem code_pre (u z : List UInt8) : code u ≤ code (u ++ z) := by
 rw [code_app]
 have := Nat.le_mul_of_pos_right (code u) (Nat.pow_pos (n := z.length) (show 0 < 256 by omega))
 omega
theorem follow {H : Hst P} {cur U : List UInt8} (h : Followed A H cur) (hU : code U ≤ code cur) (hno : ∀ V, code V < code U → ¬ Twice A V) :
 ∀ (N n m : Nat), n + m ≤ N → ∀ (x : St P) (w z a b : List UInt8), (x, w) ∈ H → U = w ++ z → Fin_ A n x.l z a → Fin_ A m x.r z b → widen x.g a b ≠ Gp.none_ → ∃ y, (y, U) ∈ H ∧ ends A y = true := by
 intro N
 induction N with
 | zero =>
  intro n m hN x w z a b hx hw ha hb hd
  obtain ⟨l, r, g⟩ := x
  have hn : n = 0 := by omega
  have hm : m = 0 := by omega
  subst hn hm
  cases ha with
  | stop h1 => cases hb with
   | stop h2 =>
    rw [append_nil] at hw
    subst hw
    rw [widen_nil (two_right (h.two _ _ hx))] at hd
    exact ⟨_, hx, by unfold ends; simp [h1, h2, hd]⟩
 | succ N ih =>
  intro n m hN x w z a b hx hw ha hb hd
  obtain ⟨l, r, g⟩ := x
  subst hw
  have hwU : code w ≤ code cur := Nat.le_trans (code_pre w z) hU
  have openL : ∀ {n' : Nat} {q : P} {o t : List UInt8}, n = n' + 1 → a = t ++ o → A.hush l t q → Fin_ A n' q z o → ∃ y, (y, w ++ z) ∈ H ∧ ends A y = true := by
   intro n' q o t e1 e3 ht hfin
   subst e1 e3
   have hdd : widen (widen g t []) o b ≠ Gp.none_ := by rw [widen_widen, nil_append]; exact hd
   have hk := h.opn _ _ hx hwU ⟨q, r, widen g t []⟩ (.inl ⟨t, ht, rfl, rfl⟩) ⟨_, _, z, _, _, hfin, hb⟩
   obtain ⟨g', hg', hd'⟩ := known_here h.two hk hno hfin hb hdd
   exact ih n' m (by omega) ⟨q, r, g'⟩ w z o b hg' rfl hfin hb hd'
  have openR : ∀ {m' : Nat} {q : P} {o t : List UInt8}, m = m' + 1 → b = t ++ o → A.hush r t q → Fin_ A m' q z o → ∃ y, (y, w ++ z) ∈ H ∧ ends A y = true := by
   intro m' q o t e1 e3 ht hfin
   subst e1 e3
   have hdd : widen (widen g [] t) a o ≠ Gp.none_ := by rw [widen_widen, nil_append]; exact hd
   have hk := h.opn _ _ hx hwU ⟨l, q, widen g [] t⟩ (.inr ⟨t, ht, rfl, rfl⟩) ⟨_, _, z, _, _, ha, hfin⟩
   obtain ⟨g', hg', hd'⟩ := known_here h.two hk hno ha hfin hdd
   exact ih n m' (by omega) ⟨l, q, g'⟩ w z a o hg' rfl ha hfin hd'
  cases ha with
  | opn h1 h3 => exact openL rfl rfl h1 h3
  | stop h1 => cases hb with
   | stop h2 =>
    rw [append_nil]
    rw [widen_nil (two_right (h.two _ _ hx))] at hd
    exact ⟨_, hx, by unfold ends; simp [h1, h2, hd]⟩
   | opn h1' h3 => exact openR rfl rfl h1' h3
  | @take n' _ q c z' o t h1 hf => cases hb with
   | opn h1' h3 => exact openR rfl rfl h1' h3
   | @take m' _ q' _ _ o' t' h2 hf' =>
    have e : w ++ c :: z' = (w ++ [c]) ++ z' := by simp
    have hle : code (w ++ [c]) ≤ code cur := by
     rw [e] at hU
     exact Nat.le_trans (code_pre _ z') hU
    have hk := h.take _ _ hx c hle ⟨q, q', widen g t t'⟩ ⟨t, t', h1, h2, rfl⟩ ⟨_, _, z', _, _, hf, hf'⟩
    rw [e] at hno ⊢
    obtain ⟨g', hg', hd'⟩ := known_here h.two hk hno hf hf' (by rw [widen_widen]; exact hd)
    have := ih n' m' (by omega) ⟨q, q', g'⟩ (w ++ [c]) z' o o' hg' e hf hf' hd'
    rw [e] at this
    exact this
theorem followed_none {H : Hst P} {cur : List UInt8} (h : Followed A H cur) (hno : ∀ x v, (x, v) ∈ H → ends A x = false) : ∀ (N : Nat) (U : List UInt8), code U ≤ N → code U ≤ code cur → ¬ Twice A U := by
 intro N
 induction N using Nat.strongRecOn with
 | _ N ih =>
  rintro U hN hU ⟨a, b, ha, hb, hne⟩
  obtain ⟨n, fa⟩ := fin_start ha
  obtain ⟨m, fb⟩ := fin_start hb
  obtain ⟨y, hy, he⟩ := follow h hU (fun V hV => ih (code V) (by omega) V (Nat.le_refl _) (by omega)) (n + m) n m (Nat.le_refl _) _ [] U a b h.start rfl fa fb (fun e => hne (by
   have e : widen Gp.none_ a b = Gp.none_ := e
   exact gapOf_none.1 e))
  rw [hno y U hy] at he
  cases he
def IsFirst (A : Aut P) (u : List UInt8) : Prop := Twice A u ∧ ∀ V, code V < code u → ¬ Twice A V
theorem isFirst_unique {u v : List UInt8} (hu : IsFirst A u) (hv : IsFirst A v) : u = v := by
 refine code_eq ?_
 have h1 : ¬ code u < code v := fun h => hv.2 u h hu.1
 have h2 : ¬ code v < code u := fun h => hu.2 v h hv.1
 omega
end
section
variable {P : Type} {A : Aut P} [DecidableEq P]
def SmallA (A : Aut P) : Prop := ∀ u p o c x q, Prt A u p o → A.let_ p c x q → 97 ≤ c.toNat ∧ c.toNat ≤ 122
omit [DecidableEq P] in
theorem sucT_letter (hL : SmallA A) {v : List UInt8} {x y : St P} (h : Two A v x.l x.r x.g) {c : UInt8} (hy : SucT A c x y) : 97 ≤ c.toNat ∧ c.toNat ≤ 122 := by
 obtain ⟨a, b, h1, _, _⟩ := h
 obtain ⟨o, _, h2, _⟩ := hy
 exact hL _ _ _ _ _ _ h1 h2
structure LevI (A : Aut P) (H : Hst P) (n : Nat) (lv lg : List (List UInt8)) (i c : Nat) : Prop where
 two : ∀ x v, (x, v) ∈ H → Two A v x.l x.r x.g
 nodup : (H.map (·.1)).Nodup
 few : ∀ l r, (gapsAt H l r).length ≤ 2
 lvs : lv.Pairwise (fun a b => code a < code b)
 lvl : ∀ v ∈ lv, v.length = n
 lgl : ∀ v ∈ lg, v.length = n + 1
 lgs : lg.Pairwise (fun a b => code a < code b)
 lgb : ∀ u ∈ lg, ∃ j w, ∃ d : UInt8, u = w ++ [d] ∧ lv[j]? = some w ∧ (j < i ∨ j = i ∧ d.toNat < c)
 at_ : ∀ x v, (x, v) ∈ H → v.length < n ∨ v ∈ lv ∨ v ∈ lg
 start : (⟨A.st, A.st, Gp.none_⟩, []) ∈ H
 opn : ∀ x v, (x, v) ∈ H → ∀ y, SucO A x y → KnownAt H y v
 take : ∀ x v, (x, v) ∈ H → ∀ (d : UInt8) y, SucT A d x y → (v.length < n ∨ ∃ j, lv[j]? = some v ∧ (j < i ∨ j = i ∧ d.toNat < c)) → KnownAt H y (v ++ [d])
 noend : ∀ x v, (x, v) ∈ H → ends A x = false
section
variable {H H' : Hst P} {n i c : Nat} {lv lg lg' : List (List UInt8)} {v : List UInt8}
theorem code_lt_next {a b : List UInt8} (h : code a < code b) (d e : UInt8) : code (a ++ [d]) < code (b ++ [e]) := by
 rw [code_snoc, code_snoc]
 have := d.toNat_lt
 omega
theorem LevI.before (h : LevI A H n lv lg i c) (hi : lv[i]? = some v) {cu : UInt8} (hcu : cu.toNat = c) : ∀ u ∈ lg, code u < code (v ++ [cu]) := fun u hu => by
 obtain ⟨j, w, d, rfl, hj, hlt⟩ := h.lgb u hu
 rcases hlt with hlt | ⟨rfl, hlt⟩
 ·have hl := h.lvs
  obtain ⟨h1, h2⟩ := List.getElem?_eq_some_iff.1 hj
  obtain ⟨h3, h4⟩ := List.getElem?_eq_some_iff.1 hi
  have := pairwise_iff_getElem.1 hl j i h1 h3 hlt
  rw [h2, h4] at this
  exact code_lt_next this d cu
 ·obtain rfl : w = v := Option.some.inj (hj.symm.trans hi)
  rw [code_snoc, code_snoc]
  omega
theorem LevI.upto (h : LevI A H n lv lg i c) (hi : lv[i]? = some v) {cu : UInt8} (hcu : cu.toNat = c) : HInv A H (v ++ [cu]) := by
 have hv := h.lvl v (mem_of_getElem? hi)
 refine ⟨h.two, fun x w hw => ?_, h.nodup, h.few⟩
 rcases h.at_ x w hw with h1 | h1 | h1
 ·exact Nat.le_of_lt (code_len (by rw [length_append, length_singleton]; omega))
 ·have := h.lvl w h1
  exact Nat.le_of_lt (code_len (by rw [length_append, length_singleton]; omega))
 ·exact Nat.le_of_lt (h.before hi hcu w h1)
theorem LevI.next (h : LevI A H n lv lg i c) (hi : lv[i]? = some v) {cu : UInt8} (hcu : cu.toNat = c) (hH : HInv A H' (v ++ [cu])) (hsub : ∀ p ∈ H, p ∈ H') (hnew : ∀ x w, (x, w) ∈ H' → (x, w) ∈ H ∨ w = v ++ [cu])
 (htake : ∀ x, (x, v) ∈ H → ∀ y, SucT A cu x y → KnownAt H' y (v ++ [cu])) (hopn : ∀ x, (x, v ++ [cu]) ∈ H' → ∀ y, SucO A x y → KnownAt H' y (v ++ [cu]))
 (hno : ∀ x, (x, v ++ [cu]) ∈ H' → ends A x = false) (hlg : lg' = lg ∧ (∀ x, (x, v ++ [cu]) ∉ H') ∨ lg' = lg ++ [v ++ [cu]]) : LevI A H' n lv lg' i (c + 1) := by
 have hv := h.lvl v (mem_of_getElem? hi)
 have hsl : ∀ u ∈ lg, u ∈ lg' := fun u hu => by
  rcases hlg with ⟨e, _⟩ | e
  ·rw [e]; exact hu
  ·rw [e]; exact mem_append_left _ hu
 have hlm : ∀ u ∈ lg', u ∈ lg ∨ u = v ++ [cu] := fun u hu => by
  rcases hlg with ⟨e, _⟩ | e
  ·rw [e] at hu; exact .inl hu
  ·rw [e] at hu
   rcases mem_append.1 hu with hu | hu
   ·exact .inl hu
   ·exact .inr (mem_singleton.1 hu)
 refine ⟨hH.two, hH.nodup, hH.few, h.lvs, h.lvl, fun u hu => ?_, ?_, fun u hu => ?_, fun x w hw => ?_, hsub _ h.start, fun x w hw y hy => ?_, fun x w hw d y hy hd => ?_, fun x w hw => ?_⟩
 ·rcases hlm u hu with hu | rfl
  ·exact h.lgl u hu
  ·rw [length_append, length_singleton, hv]
 ·rcases hlg with ⟨e, _⟩ | e
  ·rw [e]; exact h.lgs
  ·rw [e]
   exact pairwise_append.2 ⟨h.lgs, pairwise_singleton _ _, fun a ha b hb => by rw [mem_singleton.1 hb]; exact h.before hi hcu a ha⟩
 ·rcases hlm u hu with hu | rfl
  ·obtain ⟨j, w, d, h1, h2, h3⟩ := h.lgb u hu
   exact ⟨j, w, d, h1, h2, h3.imp id fun h3 => ⟨h3.1, by omega⟩⟩
  ·exact ⟨i, v, cu, rfl, hi, .inr ⟨rfl, by omega⟩⟩
 ·rcases hnew x w hw with hw' | rfl
  ·exact (h.at_ x w hw').imp id fun h1 => h1.imp id (hsl w)
  ·right; right
   rcases hlg with ⟨_, e⟩ | e
   ·exact absurd hw (e x)
   ·rw [e]; exact mem_append_right _ (mem_singleton.2 rfl)
 ·rcases hnew x w hw with hw' | rfl
  ·exact (h.opn x w hw' y hy).mono hsub
  ·exact hopn x hw y hy
 ·rcases hnew x w hw with hw' | rfl
  ·rcases hd with hd | ⟨j, hj, hd⟩
   ·exact (h.take x w hw' d y hy (.inl hd)).mono hsub
   ·rcases hd with hd | ⟨rfl, hd⟩
    ·exact (h.take x w hw' d y hy (.inr ⟨j, hj, .inl hd⟩)).mono hsub
    ·obtain rfl : w = v := Option.some.inj (hj.symm.trans hi)
     by_cases e : d.toNat = c
     ·obtain rfl : d = cu := UInt8.toNat_inj.1 (by omega)
      exact htake x hw' y hy
     ·exact (h.take x w hw' d y hy (.inr ⟨j, hj, .inr ⟨rfl, by omega⟩⟩)).mono hsub
  ·exfalso
   rcases hd with hd | ⟨j, hj, _⟩
   ·rw [length_append, length_singleton] at hd; omega
   ·have := h.lvl _ (mem_of_getElem? hj)
    rw [length_append, length_singleton] at this; omega
 ·rcases hnew x w hw with hw' | rfl
  ·exact h.noend x w hw'
  ·exact hno x hw
theorem LevI.row (h : LevI A H n lv lg i 123) (hL : SmallA A) : LevI A H n lv lg (i + 1) 97 :=
 { h with
  lgb := fun u hu => by
   obtain ⟨j, w, d, h1, h2, h3⟩ := h.lgb u hu
   exact ⟨j, w, d, h1, h2, .inl (by omega)⟩
  take := fun x v hv d y hy hd => by
   refine h.take x v hv d y hy (hd.imp id ?_)
   rintro ⟨j, hj, h3⟩
   refine ⟨j, hj, ?_⟩
   have := sucT_letter hL (h.two _ _ hv) hy
   by_cases e : j = i
   ·exact .inr ⟨e, by omega⟩
   ·exact .inl (by omega) }
theorem LevI.level (h : LevI A H n lv lg lv.length 97) (hL : SmallA A) : LevI A H (n + 1) lg [] 0 97 :=
 { h with
  lvs := h.lgs
  lvl := h.lgl
  lgl := fun _ h => nomatch h
  lgs := Pairwise.nil
  lgb := fun _ h => nomatch h
  at_ := fun x v hv => by
   rcases h.at_ x v hv with h1 | h1 | h1
   ·exact .inl (by omega)
   ·have := h.lvl v h1; exact .inl (by omega)
   ·exact .inr (.inl h1)
  take := fun x v hv d y hy hd => by
   rcases hd with hd | ⟨j, hj, hd⟩
   ·refine h.take x v hv d y hy ?_
    rcases h.at_ x v hv with h1 | h1 | h1
    ·exact .inl h1
    ·obtain ⟨j, hj⟩ := getElem?_of_mem h1
     exact .inr ⟨j, hj, .inl (List.getElem?_eq_some_iff.1 hj).1⟩
    ·have := h.lgl v h1; omega
   ·exfalso
    have h2 := h.lgl v (mem_of_getElem? hj)
    rcases hd with hd | ⟨rfl, hd⟩
    ·omega
    ·have := sucT_letter hL (h.two _ _ hv) hy
     omega }
theorem LevI.followed (h : LevI A H n lv lg i c) {V : List UInt8} (hV : ∀ x w, (x, w) ∈ H → ∀ d : UInt8, code (w ++ [d]) ≤ code V → w.length < n ∨ ∃ j, lv[j]? = some w ∧ (j < i ∨ j = i ∧ d.toNat < c)) : Followed A H V :=
 ⟨h.two, h.start, fun x w hw _ y hy _ => h.opn x w hw y hy, fun x w hw d hd y hy _ => h.take x w hw d y hy (hV x w hw d hd)⟩
theorem LevI.none (h : LevI A H n lv [] 0 97) {U : List UInt8} (hU : U.length ≤ n) : ¬ Twice A U := by
 refine followed_none (h.followed (V := U) fun x w hw d hd => ?_) h.noend (code U) U (Nat.le_refl _) (Nat.le_refl _)
 have := len_of_code hd
 rw [length_append, length_singleton] at this
 exact .inl (by omega)
theorem LevI.found (h : LevI A H n lv lg i c) (hi : lv[i]? = some v) {cu : UInt8} (hcu : cu.toNat = c) {V : List UInt8} (hV : code V < code (v ++ [cu])) : ¬ Twice A V := by
 have hv := h.lvl v (mem_of_getElem? hi)
 refine followed_none (h.followed (V := V) fun x w hw d hd => ?_) h.noend (code V) V (Nat.le_refl _) (Nat.le_refl _)
 have hlt : code (w ++ [d]) < code (v ++ [cu]) := by omega
 have hl := len_of_code (Nat.le_of_lt hlt)
 rw [length_append, length_append, length_singleton, length_singleton] at hl
 rcases h.at_ x w hw with h1 | h1 | h1
 ·exact .inl h1
 ·right
  obtain ⟨j, hj⟩ := getElem?_of_mem h1
  refine ⟨j, hj, ?_⟩
  rcases Nat.lt_trichotomy j i with e | e | e
  ·exact .inl e
  ·subst e
   obtain rfl : w = v := Option.some.inj (hj.symm.trans hi)
   rw [code_snoc, code_snoc] at hlt
   exact .inr ⟨rfl, by omega⟩
  ·exfalso
   obtain ⟨a1, a2⟩ := List.getElem?_eq_some_iff.1 hj
   obtain ⟨b1, b2⟩ := List.getElem?_eq_some_iff.1 hi
   have := pairwise_iff_getElem.1 h.lvs i j b1 a1 e
   rw [a2, b2] at this
   have := code_lt_next this cu d
   omega
 ·have := h.lgl w h1
  omega
end
end
end Go.Proofs.YtfpnhgahkjglgaaGreat
