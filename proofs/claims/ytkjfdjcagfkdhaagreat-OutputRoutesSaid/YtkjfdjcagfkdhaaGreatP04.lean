/-
  OuScheme, OuLeap, OuResT, Lib, CostWalkB, CostWalkC, OuWalkA, Ord, joined. No conditions.
-/
import Derived.Test.YtkjfdjcagfkdhaaGreatP02
import Derived.Test.YtkjfdjcagfkdhaaGreatP03
import Derived.WalkKit
import Derived.OwnWalk
import Derived.Below
import Derived.Lib.Hide
import Derived.Deep.Draws
import Derived.Deep.QuietTactic
import Derived.Test.YtkjfdjcagfkdhaaGreatChecked
import Derived.Test.YtkjfdjcagfkdhaaGreatP01
import Derived.Outline
import Derived.Deep.Light
import Derived.WalkSpells
import Derived.BigQuiet
import Derived.Deep.RegionHeld
/-
  Valid schemes, letters, and how long outputs get: plain laws. No conditions.
-/
namespace Go.Proofs.YtkjfdjcagfkdhaaGreat
open List

def smallC (c : UInt8) : Bool := decide (97 ≤ c.toNat) && decide (c.toNat ≤ 122)
/-- All bytes are small letters. -/
def smallS (s : ByteArray) : Bool := (bl s).all smallC
def knownC (c : UInt8) : Bool := smallC c || (decide (65 ≤ c.toNat) && decide (c.toNat ≤ 90)) || (decide (48 ≤ c.toNat) && decide (c.toNat ≤ 57))
/-- All bytes are letters or digits. -/
def knownS (s : ByteArray) : Bool := (bl s).all knownC
/-- Letters as an input. -/
def LetS (s : ByteArray) : Prop := s.size ≤ 40 ∧ smallS s = true
instance (s : ByteArray) : Decidable (LetS s) := by unfold LetS; infer_instance
/-- A rule that is right. -/
def RuOK (n : Int) (r : Ru) : Prop := ((0 ≤ r.fr ∧ r.fr < n) ∧ 0 ≤ r.to ∧ r.to < n) ∧ (r.inp.size ≤ 4 ∧ smallS r.inp = true) ∧ (r.out.size ≤ 4 ∧ knownS r.out = true) ∧ 0 ≤ r.co ∧ r.co ≤ 1000
instance (n : Int) (r : Ru) : Decidable (RuOK n r) := by unfold RuOK; infer_instance
/-- A scheme that is valid. -/
def ScOK (s : Sc) : Prop := (1 ≤ s.n ∧ s.n ≤ 8) ∧ s.rs.length ≤ 64 ∧ (1 ≤ s.acc ∧ s.acc < 2 ^ s.n.toNat) ∧ (∀ r ∈ s.rs, RuOK s.n r) ∧ s.rs.Nodup
instance (s : Sc) : Decidable (ScOK s) := by unfold ScOK; infer_instance
theorem scOK_cost {s : Sc} (h : ScOK s) : ∀ r ∈ s.rs, 0 ≤ r.co := fun r hr => (h.2.2.2.1 r hr).2.2.2.1
theorem scOK_modes {s : Sc} (h : ScOK s) : ∀ r ∈ s.rs, (0 ≤ r.fr ∧ r.fr < s.n) ∧ 0 ≤ r.to ∧ r.to < s.n := fun r hr => (h.2.2.2.1 r hr).1
theorem smallS_app {a b : ByteArray} : smallS (a ++ b) = (smallS a && smallS b) := by unfold smallS; rw [bl_app, all_append]
theorem knownS_app {a b : ByteArray} : knownS (a ++ b) = (knownS a && knownS b) := by unfold knownS; rw [bl_app, all_append]
/-- What a route takes are small letters. -/
theorem rte_small {s : Sc} (h : ScOK s) {m : Int} {i o : ByteArray} {c : Int} (hr : Rte s m i o c) : smallS i = true := by
  induction hr with
  | nil => rfl
  | snoc _ h2 _ ih => rw [smallS_app, ih, (h.2.2.2.1 _ h2).2.1.2]; rfl
theorem rte_mode {s : Sc} (h : ScOK s) {m : Int} {i o : ByteArray} {c : Int} (hr : Rte s m i o c) : 0 ≤ m ∧ m < s.n := by
  cases hr with
  | nil => have := h.1; omega
  | snoc _ h2 _ => exact (scOK_modes h _ h2).2
section
variable {K : Type} {S : Sys K} {st : K} {inp : List UInt8}
/-- Some measure of states grows by at most so much a rule: it is bounded at each place. -/
theorem rch_meas (hF : Flat S st inp) (μ : K → Nat) (B : Nat) (h0 : μ st = 0) (hs : ∀ k r k', r ∈ S.rs → S.step k r = some k' → μ k' ≤ μ k + B) : ∀ (i : Nat) (k : K) (c : Int), Rch S st inp i k c → μ k ≤ 2 * B * i + B := by
  intro i
  induction i using Nat.strongRecOn with
  | _ i ih =>
    have harr : ∀ k c, Arr S st inp i i k c → μ k ≤ 2 * B * i := by
      rintro k c (⟨rfl, rfl, rfl⟩ | ⟨i', hi, k0, c0, r, h1, h2, h3, h4, h5, h6, h7, _⟩)
      · omega
      · have h8 := ih i' hi k0 c0 h1
        have h9 := hs k0 r k h2 h7
        have h10 : 2 * B * (i' + 1) ≤ 2 * B * i := Nat.mul_le_mul_left _ hi
        rw [Nat.mul_succ] at h10
        omega
    intro k c h
    rcases rch_split hF h with h | ⟨k0, c0, r, h1, h2, _, _, h5, _⟩
    · have := harr k c h; omega
    · have h6 := harr k0 c0 h1
      have h7 := hs k0 r k h2 h5
      omega
end
theorem pair_size {s : Sc} (h : ScOK s) {inp : ByteArray} (hF : FlatS s inp) {i : Nat} {k : Int × ByteArray} {c : Int} (hr : PairAt s inp i k c) : k.2.size ≤ 8 * i + 4 := by
  have := rch_meas hF (fun k => k.2.size) 4 rfl (fun k r k' h1 h2 => by
    obtain rfl := Option.some.inj h2
    show (k.2 ++ r.out).size ≤ _
    rw [ba_len]
    have := (h.2.2.2.1 r h1).2.2.1.1
    omega) i k c hr
  simpa using this
theorem pair_cost {s : Sc} (h : ScOK s) {inp : ByteArray} {i : Nat} {k : Int × ByteArray} {c : Int} (hr : PairAt s inp i k c) : 0 ≤ c := rch_cost (S := pairS s) (scOK_cost h) hr
/-- Costs grow by at most so much a place. -/
theorem rch_costB {K : Type} {S : Sys K} {st : K} {inp : List UInt8} (hF : Flat S st inp) (hc : ∀ r ∈ S.rs, 0 ≤ r.co ∧ r.co ≤ 1000) : ∀ (i : Nat) (k : K) (c : Int), Rch S st inp i k c → c ≤ 2000 * (i : Int) + 1000 := by
  intro i
  induction i using Nat.strongRecOn with
  | _ i ih =>
    have harr : ∀ k c, Arr S st inp i i k c → c ≤ 2000 * (i : Int) := by
      rintro k c (⟨rfl, rfl, rfl⟩ | ⟨i', hi, k0, c0, r, h1, h2, h3, h4, h5, h6, h7, rfl⟩)
      · omega
      · have h8 := ih i' hi k0 c0 h1
        have h9 := hc r h2
        omega
    intro k c h
    rcases rch_split hF h with h | ⟨k0, c0, r, h1, h2, _, _, h5, rfl⟩
    · have := harr k c h; omega
    · have h6 := harr k0 c0 h1
      have h7 := hc r h2
      omega
end Go.Proofs.YtkjfdjcagfkdhaaGreat

/-
  How the tables of the places go on: the plain law.
-/
namespace Go.Proofs.YtkjfdjcagfkdhaaGreat
open List
section
variable {K : Type} {S : Sys K} {st : K} {inp : List UInt8}
/-- A rule that takes something leads from a state at a place to a state at a place. -/
def Jump (S : Sys K) (inp : List UInt8) (at_ : Nat) (k0 : K) (c0 : Int) (r : Ru) (j : Nat) (x : K) (d : Int) : Prop := r.mute = false ∧ r.fr = S.mode k0 ∧ bl r.inp <+: inp.drop at_ ∧ j = at_ + r.inp.size ∧ S.step k0 r = some x ∧ d = c0 + r.co
/-- What the table of the place j holds while the place at_ is left: the states that are done, and the first rules for one more. -/
def Acc (S : Sys K) (st : K) (inp : List UInt8) (at_ : Nat) (M : K → Option Int) (done : K → Bool) (now : Option (K × Int × Nat)) (j : Nat) (x : K) (d : Int) : Prop :=
  Arr S st inp at_ j x d ∨ (∃ k c r, M k = some c ∧ done k = true ∧ r ∈ S.rs ∧ Jump S inp at_ k c r j x d) ∨ ∃ k c t r, now = some (k, c, t) ∧ r ∈ S.rs.take t ∧ Jump S inp at_ k c r j x d
theorem acc_now {at_ : Nat} {M : K → Option Int} {done : K → Bool} {k : K} {c : Int} {j : Nat} {x : K} {d : Int} : Acc S st inp at_ M done (some (k, c, 0)) j x d ↔ Acc S st inp at_ M done none j x d := by
  unfold Acc
  constructor
  · rintro (h | h | ⟨_, _, _, _, h, h2, _⟩)
    · exact .inl h
    · exact .inr (.inl h)
    · cases h; cases h2
  · rintro (h | h | ⟨_, _, _, _, h, _⟩)
    · exact .inl h
    · exact .inr (.inl h)
    · cases h
/-- A state is done. -/
theorem acc_done [DecidableEq K] {at_ : Nat} {M : K → Option Int} {done : K → Bool} {k : K} {c : Int} {t : Nat} (hM : M k = some c) (ht : S.rs.length ≤ t) {j : Nat} {x : K} {d : Int} :
    Acc S st inp at_ M (fun y => done y || decide (y = k)) none j x d ↔ Acc S st inp at_ M done (some (k, c, t)) j x d := by
  unfold Acc
  constructor
  · rintro (h | ⟨k', c', r, h1, h2, h3, h4⟩ | ⟨_, _, _, _, h, _⟩)
    · exact .inl h
    · simp only [Bool.or_eq_true, decide_eq_true_eq] at h2
      rcases h2 with h2 | rfl
      · exact .inr (.inl ⟨k', c', r, h1, h2, h3, h4⟩)
      · rw [hM] at h1
        obtain rfl := Option.some.inj h1
        exact .inr (.inr ⟨k', c, t, r, rfl, by rw [take_of_length_le ht]; exact h3, h4⟩)
    · cases h
  · rintro (h | ⟨k', c', r, h1, h2, h3, h4⟩ | ⟨_, _, _, r, h, h2, h3⟩)
    · exact .inl h
    · exact .inr (.inl ⟨k', c', r, h1, by simp [h2], h3, h4⟩)
    · cases h
      exact .inr (.inl ⟨k, c, r, hM, by simp, mem_of_mem_take h2, h3⟩)
/-- A rule does not apply. -/
theorem acc_skip {at_ : Nat} {M : K → Option Int} {done : K → Bool} {k : K} {c : Int} {t : Nat} {r : Ru} (hr : S.rs[t]? = some r) {j : Nat} (hn : ∀ x d, ¬ Jump S inp at_ k c r j x d) {x : K} {d : Int} :
    Acc S st inp at_ M done (some (k, c, t + 1)) j x d ↔ Acc S st inp at_ M done (some (k, c, t)) j x d := by
  have e : S.rs.take (t + 1) = S.rs.take t ++ [r] := by rw [take_add_one, hr]; rfl
  unfold Acc
  constructor
  · rintro (h | h | ⟨_, _, _, r', h, h2, h3⟩)
    · exact .inl h
    · exact .inr (.inl h)
    · cases h
      rw [e] at h2
      rcases mem_append.1 h2 with h2 | h2
      · exact .inr (.inr ⟨k, c, t, r', rfl, h2, h3⟩)
      · rw [mem_singleton.1 h2] at h3
        exact absurd h3 (hn x d)
  · rintro (h | h | ⟨_, _, _, r', h, h2, h3⟩)
    · exact .inl h
    · exact .inr (.inl h)
    · cases h
      exact .inr (.inr ⟨k, c, t + 1, r', rfl, by rw [e]; exact mem_append_left _ h2, h3⟩)
/-- A rule applies. -/
theorem acc_step {at_ : Nat} {M : K → Option Int} {done : K → Bool} {k : K} {c : Int} {t : Nat} {r : Ru} (hr : S.rs[t]? = some r) {x0 : K} (h1 : r.mute = false) (h2 : r.fr = S.mode k) (h3 : bl r.inp <+: inp.drop at_) (h4 : S.step k r = some x0) {x : K} {d : Int} :
    Acc S st inp at_ M done (some (k, c, t + 1)) (at_ + r.inp.size) x d ↔ Acc S st inp at_ M done (some (k, c, t)) (at_ + r.inp.size) x d ∨ (x = x0 ∧ d = c + r.co) := by
  have e : S.rs.take (t + 1) = S.rs.take t ++ [r] := by rw [take_add_one, hr]; rfl
  unfold Acc
  constructor
  · rintro (h | h | ⟨_, _, _, r', h, h5, h6⟩)
    · exact .inl (.inl h)
    · exact .inl (.inr (.inl h))
    · cases h
      rw [e] at h5
      rcases mem_append.1 h5 with h5 | h5
      · exact .inl (.inr (.inr ⟨k, c, t, r', rfl, h5, h6⟩))
      · rw [mem_singleton.1 h5] at h6
        obtain ⟨_, _, _, _, h7, h8⟩ := h6
        rw [h4] at h7
        exact .inr ⟨(Option.some.inj h7).symm, h8⟩
  · rintro ((h | h | ⟨_, _, _, r', h, h5, h6⟩) | ⟨rfl, rfl⟩)
    · exact .inl h
    · exact .inr (.inl h)
    · cases h
      exact .inr (.inr ⟨k, c, t + 1, r', rfl, by rw [e]; exact mem_append_left _ h5, h6⟩)
    · exact .inr (.inr ⟨k, c, t + 1, r, rfl, by rw [e]; exact mem_append_right _ (mem_singleton.2 rfl), h1, h2, h3, rfl, h4, rfl⟩)
/-- All that the tables hold is reached. -/
theorem acc_rch {at_ : Nat} {M : K → Option Int} {done : K → Bool} {now : Option (K × Int × Nat)} (hM : ∀ k c, M k = some c → Rch S st inp at_ k c) (hn : ∀ k c t, now = some (k, c, t) → M k = some c) {j : Nat} {x : K} {d : Int} (h : Acc S st inp at_ M done now j x d) : Rch S st inp j x d := by
  have hj : ∀ k c r, M k = some c → r ∈ S.rs → Jump S inp at_ k c r j x d → Rch S st inp j x d := by
    rintro k c r h1 h2 ⟨_, h4, h5, rfl, h6, rfl⟩
    exact Rch.step (hM k c h1) h2 h4 h5 h6
  rcases h with h | ⟨k, c, r, h1, _, h2, h3⟩ | ⟨k, c, t, r, h1, h2, h3⟩
  · exact arr_rch h
  · exact hj k c r h1 h2 h3
  · exact hj k c r (hn k c t h1) (mem_of_mem_take h2) h3
/-- All states are done. -/
theorem acc_all {at_ : Nat} {M : K → Option Int} {done : K → Bool} (hd : ∀ k c, M k = some c → done k = true) {j : Nat} {x : K} {d : Int} : Acc S st inp at_ M done none j x d ↔ Arr S st inp at_ j x d ∨ Leap S inp (Low M) at_ j x d := by
  unfold Acc
  constructor
  · rintro (h | ⟨k, c, r, h1, h2, h3, h4⟩ | ⟨_, _, _, _, h, _⟩)
    · exact .inl h
    · exact .inr ⟨k, c, r, h1, h3, h4⟩
    · cases h
  · rintro (h | ⟨k, c, r, h1, h3, h4⟩)
    · exact .inl h
    · exact .inr (.inl ⟨k, c, r, h1, hd k c h1, h3, h4⟩)
/-- The places are as many as are still free. -/
def freeN (F : Nat → Option Nat) (hi : Nat) : Nat := (range (hi + 1)).countP fun i => (F i).isNone
theorem freeN_put {F : Nat → Option Nat} {hi i g : Nat} (h1 : i ≤ hi) (h2 : F i = none) : freeN (fun j => if j = i then some g else F j) hi + 1 ≤ freeN F hi := by
  unfold freeN
  have hs : (range (hi + 1)).Nodup := nodup_range
  have hm : i ∈ range (hi + 1) := mem_range.2 (by omega)
  have key : ∀ l : List Nat, l.Nodup → (i ∈ l → (l.countP fun x => (if x = i then some g else F x).isNone) + 1 ≤ l.countP fun x => (F x).isNone) ∧ (i ∉ l → (l.countP fun x => (if x = i then some g else F x).isNone) ≤ l.countP fun x => (F x).isNone) := by
    intro l
    induction l with
    | nil => exact fun _ => ⟨fun h => (nomatch h), fun _ => Nat.le_refl _⟩
    | cons a l ih =>
      intro hn
      obtain ⟨hn1, hn2⟩ := nodup_cons.1 hn
      obtain ⟨i1, i2⟩ := ih hn2
      constructor
      · intro hi
        by_cases e : a = i
        · subst e
          have := i2 hn1
          rw [countP_cons, countP_cons]
          simp [h2]
          omega
        · have hil : i ∈ l := (mem_cons.1 hi).elim (fun h => absurd h.symm e) id
          have := i1 hil
          rw [countP_cons, countP_cons]
          simp only [if_neg e]
          omega
      · intro hi
        have e : a ≠ i := fun e => hi (e ▸ mem_cons_self ..)
        have hil : i ∉ l := fun h => hi (mem_cons_of_mem _ h)
        have := i2 hil
        rw [countP_cons, countP_cons]
        simp only [if_neg e]
        omega
  exact (key _ hs).1 hm
theorem freeN_le {F : Nat → Option Nat} {hi : Nat} : freeN F hi ≤ hi + 1 := by
  unfold freeN
  exact Nat.le_trans (countP_le_length ..) (by simp)
end
end Go.Proofs.YtkjfdjcagfkdhaaGreat

/-
  From tables to results, costs and bounds: the plain law.
-/
namespace Go.Proofs.YtkjfdjcagfkdhaaGreat
open List
/-- A table's states in order are its results. -/
theorem isRes_table {A : ByteArray → Int → Prop} {T : ByteArray → Option Int} (h : Holds T A) {l : List ByteArray} (hl : KeysOf T l) {L : List Rs} (hp : L.Perm (l.map fun t => ⟨t, (T t).getD 0⟩)) (hs : L.Pairwise (fun a b => befR b a = false)) : IsRes A L := by
  have hm : ∀ y, y ∈ L ↔ ∃ t, t ∈ l ∧ y = ⟨t, (T t).getD 0⟩ := fun y => by rw [hp.mem_iff, mem_map]; exact ⟨fun ⟨t, h1, h2⟩ => ⟨t, h1, h2.symm⟩, fun ⟨t, h1, h2⟩ => ⟨t, h1, h2.symm⟩⟩
  have ht : L.Pairwise (fun a b => a.tx ≠ b.tx) := by
    refine (hp.pairwise_iff (fun {_ _} h e => h e.symm)).2 (pairwise_map.2 (hl.1.imp fun h e => h e))
  refine ⟨?_, ht, fun y hy => ?_, fun t c hc => ?_⟩
  · refine (hs.and ht).imp fun {a b} ⟨h1, h2⟩ => ?_
    rcases befR_tri a b with h3 | rfl | h3
    · exact h3
    · exact absurd rfl h2
    · rw [h3] at h1; cases h1
  · obtain ⟨t, h1, rfl⟩ := (hm y).1 hy
    cases hT : T t with
    | none => exact absurd hT ((hl.2 t).1 h1)
    | some c => exact ((h t).1 c hT).1
  · obtain ⟨d, hd, hdc⟩ := h.some_ hc
    exact ⟨⟨t, d⟩, (hm _).2 ⟨t, (hl.2 t).2 (by rw [hd]; simp), by rw [hd]; rfl⟩, rfl, hdc⟩
/-- What a least cost is. -/
def IsCost (s : Sc) (inp out : ByteArray) (r : Int) : Prop := (r = -1 ∧ ∀ c, ¬ Whole s inp out c) ∨ (0 ≤ r ∧ Whole s inp out r ∧ ∀ c, Whole s inp out c → r ≤ c)
theorem isCost_unique {s : Sc} {inp out : ByteArray} {a b : Int} (h : IsCost s inp out a) (h2 : IsCost s inp out b) : a = b := by
  rcases h with ⟨rfl, h⟩ | ⟨h, h3, h4⟩
  · rcases h2 with ⟨rfl, _⟩ | ⟨_, h3, _⟩
    · rfl
    · exact absurd h3 (h _)
  · rcases h2 with ⟨rfl, h2⟩ | ⟨_, h5, h6⟩
    · exact absurd h3 (h2 _)
    · exact Int.le_antisymm (h4 _ h5) (h6 _ h3)
theorem isCost_costL {s : Sc} {inp : ByteArray} (hF : FlatS s inp) (hc : ∀ r ∈ s.rs, 0 ≤ r.co) (out : ByteArray) : IsCost s inp out (costL s inp out) := by
  rcases costL_cases hF hc out with h | ⟨h1, _, h2, h3⟩
  · exact .inl h
  · exact .inr ⟨h1, h2, h3⟩
/-- The least cost of a table's states that are asked. -/
def LeastOf {K : Type} (M : K → Option Int) (p : K → Bool) (L : K → Bool) (r : Int) : Prop :=
  (r = -1 ∧ ∀ k c, M k = some c → p k = true → L k = true) ∨ (0 ≤ r ∧ (∃ k, M k = some r ∧ p k = true) ∧ ∀ k c, M k = some c → p k = true → L k = false → r ≤ c)
theorem least_start {K : Type} {M : K → Option Int} {p : K → Bool} : LeastOf M p (fun k => (M k).isSome) (-1) := .inl ⟨rfl, fun k c h _ => by show (M k).isSome = true; rw [h]; rfl⟩
section
variable {K : Type} [DecidableEq K] {M : K → Option Int} {p L : K → Bool} {r : Int}
theorem least_skip (h : LeastOf M p L r) {k : K} (hk : p k = false) : LeastOf M p (fun x => L x && !decide (x = k)) r := by
  rcases h with ⟨h1, h2⟩ | ⟨h1, h2, h3⟩
  · refine .inl ⟨h1, fun x c hx hp => ?_⟩
    have e : x ≠ k := fun e => by subst e; rw [hk] at hp; cases hp
    simp [h2 x c hx hp, e]
  · refine .inr ⟨h1, h2, fun x c hx hp hL => ?_⟩
    have e : x ≠ k := fun e => by subst e; rw [hk] at hp; cases hp
    exact h3 x c hx hp (by simpa [e] using hL)
theorem least_take (h : LeastOf M p L r) {k : K} {c : Int} (hM : M k = some c) (hc : 0 ≤ c) (hk : p k = true) (hlt : r < 0 ∨ c < r) : LeastOf M p (fun x => L x && !decide (x = k)) c := by
  refine .inr ⟨hc, ⟨k, hM, hk⟩, fun x d hx hp hL => ?_⟩
  by_cases e : x = k
  · subst e
    rw [hM] at hx
    obtain rfl := Option.some.inj hx
    exact Int.le_refl _
  · have hL : L x = false := by simpa [e] using hL
    rcases h with ⟨h1, h2⟩ | ⟨h1, h2, h3⟩
    · rw [h2 x d hx hp] at hL; cases hL
    · have := h3 x d hx hp hL
      omega
theorem least_keep (h : LeastOf M p L r) {k : K} {c : Int} (hM : M k = some c) (hk : p k = true) (hlt : ¬ (r < 0 ∨ c < r)) : LeastOf M p (fun x => L x && !decide (x = k)) r := by
  rcases h with ⟨h1, h2⟩ | ⟨h1, h2, h3⟩
  · exact absurd (.inl (by omega)) hlt
  · refine .inr ⟨h1, h2, fun x d hx hp hL => ?_⟩
    by_cases e : x = k
    · subst e
      rw [hM] at hx
      obtain rfl := Option.some.inj hx
      omega
    · exact h3 x d hx hp (by simpa [e] using hL)
end
/-- Costs of whole routes out of the table of spots. -/
theorem cost_of_spots {s : Sc} {inp out : ByteArray} {M : Int × Int → Option Int} (h : Holds M (Rch (spotS s (bl out)) (0, 0) (bl inp) inp.size)) {L : Int × Int → Bool} {r : Int} (hL : ∀ k c, M k = some c → L k = false)
    (hr : LeastOf M (fun k => decide (k.2 = (out.size : Int)) && accB s.acc k.1) L r) : IsCost s inp out r := by
  have key : ∀ m c, M (m, (out.size : Int)) = some c → Rte s m inp out c := fun m c hm => spot_iff.1 ((h _).1 c hm).1
  have back : ∀ m c, Rte s m inp out c → ∃ d, M (m, (out.size : Int)) = some d ∧ d ≤ c := fun m c hm => h.some_ (spot_iff.2 hm)
  rcases hr with ⟨h1, h2⟩ | ⟨h1, ⟨k, h2, h3⟩, h4⟩
  · refine .inl ⟨h1, fun c ⟨m, ha, hm⟩ => ?_⟩
    obtain ⟨d, hd, _⟩ := back m c hm
    have := h2 _ d hd (by simp [ha])
    rw [hL _ d hd] at this
    cases this
  · obtain ⟨m, a⟩ := k
    simp only [Bool.and_eq_true, decide_eq_true_eq] at h3
    obtain ⟨rfl, h3⟩ := h3
    refine .inr ⟨h1, ⟨m, h3, key m r h2⟩, fun c ⟨m', ha, hm⟩ => ?_⟩
    obtain ⟨d, hd, hdc⟩ := back m' c hm
    exact Int.le_trans (h4 _ d hd (by simp [ha]) (hL _ d hd)) hdc
/-- States in a short list are not too many. -/
theorem few_of_list {K : Type} [DecidableEq K] {A : K → Int → Prop} (l : List K) (h : ∀ k c, A k c → k ∈ l) {n : Nat} (hn : l.length ≤ n) : ¬ TooMany n A := fun ⟨m, h1, h2, h3⟩ => by
  have := nodup_le (m := l) h1 fun k hk => by obtain ⟨c, hc⟩ := h3 k hk; exact h k c hc
  omega
theorem spots_few {s : Sc} (hs : ScOK s) {inp out : List UInt8} {i : Nat} : ¬ TooMany ((out.length + 1) * 8) (Rch (spotS s out) (0, 0) inp i) := by
  refine few_of_list ((range 8).flatMap fun m : Nat => (range (out.length + 1)).map fun a : Nat => ((m : Int), (a : Int))) (fun k c h => ?_) ?_
  · obtain ⟨h1, h2, t, o, _, _, h3⟩ := spot_rte h
    have h4 := rte_mode hs h3
    have := hs.1
    refine mem_flatMap.2 ⟨k.1.toNat, mem_range.2 (by omega), mem_map.2 ⟨k.2.toNat, mem_range.2 (by omega), Prod.ext ?_ ?_⟩⟩
    · show ((k.1.toNat : Nat) : Int) = k.1; omega
    · show ((k.2.toNat : Nat) : Int) = k.2; omega
  · rw [length_flatMap]
    have : ∀ (l : List Nat), (l.map fun m : Nat => ((range (out.length + 1)).map fun a : Nat => ((m : Int), (a : Int))).length).sum = l.length * (out.length + 1) := by
      intro l
      induction l with
      | nil => simp
      | cons a l ih => rw [map_cons, sum_cons, ih]; simp only [length_map, length_range, length_cons]; rw [Nat.add_mul]; omega
    rw [this, length_range]
    omega
theorem modes_few {s : Sc} (hs : ScOK s) {live : Int → Bool} {inp : List UInt8} {i : Nat} : ¬ TooMany 8 (Rch (modeS s live) 0 inp i) := by
  refine few_of_list ((range 8).map fun m : Nat => (m : Int)) (fun k c h => ?_) (by simp)
  have key : ∀ {i : Nat} {k c : Int}, Rch (modeS s live) 0 inp i k c → 0 ≤ k ∧ k < 8 := by
    intro i k c h
    induction h with
    | start => omega
    | @step i k k' c r h1 h2 h3 h4 h5 _ =>
      have h6 := (scOK_modes hs r h2).2
      have h7 : (if live r.to then some r.to else none) = some k' := h5
      split at h7
      · obtain rfl := Option.some.inj h7
        have := hs.1
        omega
      · cases h7
  have := key h
  exact mem_map.2 ⟨k.toNat, mem_range.2 (by omega), by omega⟩
end Go.Proofs.YtkjfdjcagfkdhaaGreat

/-
  Words for memory that all walks of this seat use: a slice that reads as a list of things, whatever memory lies beside it.
-/
namespace Go.Proofs.YtkjfdjcagfkdhaaGreat
open Go Go.RowKit

/-- A slice at A reads as the list xs: element k lies in s cells, which R holds to x. -/
def SlR {α : Type} (s : Nat) (R : World → α → List Value → Prop) (w : World) (A : Option Addr) (xs : List α) : Prop :=
  xs ≠ [] → ∃ b off, A = some ⟨b, off, none⟩ ∧ b < w.heap.size ∧
    ∀ k x, xs[k]? = some x → ∃ vs, R w x vs ∧ vs.length = s ∧ ∀ j v, vs[j]? = some v → w.cell? ⟨b, off + k * s + j, none⟩ = some v

/-- What R says stays true while the old blocks stay. -/
def Keeps {α : Type} (R : World → α → List Value → Prop) : Prop := ∀ w w' x vs, Below w.heap.size w w' → R w x vs → R w' x vs

def RInt (_ : World) (x : Int) (vs : List Value) : Prop := vs = [.int .i64 x]
def RU8 (_ : World) (x : Int) (vs : List Value) : Prop := vs = [.int .u8 x]
theorem keeps_int : Keeps RInt := fun _ _ _ _ _ h => h
theorem keeps_u8 : Keeps RU8 := fun _ _ _ _ _ h => h
section
variable {α : Type} {s : Nat} {R : World → α → List Value → Prop} {w w' : World} {A : Option Addr} {xs : List α}

theorem SlR.nil : SlR s R w A ([] : List α) := fun h => absurd rfl h
theorem SlR.below (hR : Keeps R) (h : SlR s R w A xs) (hb : Below w.heap.size w w') : SlR s R w' A xs := fun hn => by
  obtain ⟨b, off, rfl, hlt, hc⟩ := h hn
  refine ⟨b, off, rfl, Nat.lt_of_lt_of_le hlt hb.size, fun k x hx => ?_⟩
  obtain ⟨vs, hr, hl, hv⟩ := hc k x hx
  exact ⟨vs, hR _ _ _ _ hb hr, hl, fun j v hj => (hb.cell (p := ⟨b, _, none⟩) hlt).trans (hv j v hj)⟩
theorem SlR.at_ (h : SlR s R w A xs) {k : Nat} (hk : k < xs.length) : ∃ b off x vs, A = some ⟨b, off, none⟩ ∧ b < w.heap.size ∧ xs[k]? = some x ∧ R w x vs ∧ vs.length = s ∧
    ∀ j v, vs[j]? = some v → w.cell? ⟨b, off + k * s + j, none⟩ = some v := by
  obtain ⟨b, off, hA, hlt, hc⟩ := h (by intro e; subst e; simp at hk)
  obtain ⟨vs, hr, hl, hv⟩ := hc k xs[k] (List.getElem?_eq_getElem hk)
  exact ⟨b, off, xs[k], vs, hA, hlt, List.getElem?_eq_getElem hk, hr, hl, hv⟩
end

/-- All that is known of an int slice's element k. -/
theorem SlR.int {w : World} {A : Option Addr} {xs : List Int} (h : SlR 1 RInt w A xs) {k : Nat} (hk : k < xs.length) :
    ∃ b off x, A = some ⟨b, off, none⟩ ∧ b < w.heap.size ∧ xs[k]? = some x ∧ w.cell? ⟨b, off + k, none⟩ = some (.int .i64 x) := by
  obtain ⟨b, off, x, vs, hA, hlt, hx, hr, _, hv⟩ := h.at_ hk
  have h0 := hv 0 (.int .i64 x) (by rw [hr]; rfl)
  simp only [Nat.mul_one, Nat.add_zero] at h0
  exact ⟨b, off, x, hA, hlt, hx, h0⟩
theorem SlR.u8 {w : World} {A : Option Addr} {xs : List Int} (h : SlR 1 RU8 w A xs) {k : Nat} (hk : k < xs.length) :
    ∃ b off x, A = some ⟨b, off, none⟩ ∧ b < w.heap.size ∧ xs[k]? = some x ∧ w.cell? ⟨b, off + k, none⟩ = some (.int .u8 x) := by
  obtain ⟨b, off, x, vs, hA, hlt, hx, hr, _, hv⟩ := h.at_ hk
  have h0 := hv 0 (.int .u8 x) (by rw [hr]; rfl)
  simp only [Nat.mul_one, Nat.add_zero] at h0
  exact ⟨b, off, x, hA, hlt, hx, h0⟩
theorem ret_int {k : IntKind} {a b : Int} (h : a = b) : Ending.returned (.int k a) = .returned (.int k b) := by rw [h]
theorem ret_bool {a b : Bool} (h : a = b) : Ending.returned (.bool a) = .returned (.bool b) := by rw [h]
theorem bcell {W w1 : World} (hb : Below W.heap.size W w1) : (∀ b o, b < W.heap.size → w1.cell? ⟨b, o, none⟩ = W.cell? ⟨b, o, none⟩) ∧ (∀ b o, b < W.heap.size → w1.frozen? ⟨b, o, none⟩ = W.frozen? ⟨b, o, none⟩) :=
  ⟨fun b o h => hb.cell (p := ⟨b, o, none⟩) h, fun b o h => hb.frozen (p := ⟨b, o, none⟩) h⟩
theorem new_cell (w : World) (cs : Array Value) (t : TypeId) (i : Nat) : (w.alloc (.cells cs t)).cell? ⟨w.heap.size, i, none⟩ = cs[i]? := by
  have h : (w.alloc (.cells cs t)).heap[w.heap.size]? = some (.cells cs t) := heap_alloc_new w _
  unfold World.cell?
  simp only [h]
  rfl
theorem below_drewN {B : Nat} {a w : World} (h : Below B a w) (n : Nat) : Below B a (w.drewN n) := ⟨h.os, h.tape, h.output, h.size, h.block⟩
theorem take_succ_of {α : Type} {xs : List α} {k : Nat} {x : α} (h : xs[k]? = some x) : xs.take (k + 1) = xs.take k ++ [x] := by
  obtain ⟨hk, rfl⟩ := List.getElem?_eq_some_iff.1 h
  rw [List.take_succ_eq_append_getElem hk]
end Go.Proofs.YtkjfdjcagfkdhaaGreat

/-
  The walks of layer 11: sums, searches and comparisons over slices.
-/
namespace Go.Proofs.YtkjfdjcagfkdhaaGreat
open Go Go.RowKit

/-! syllabaryref02.In. -/
def inB (n lo hi : Int) : Bool := decide (lo ≤ n) && decide (n ≤ hi)
set_option maxRecDepth 100000 in
set_option maxHeartbeats 400000 in
theorem in_any (n lo hi : Int) (w : World) : Calls Tryz.prog 47 #[.int .i64 n, .int .i64 lo, .int .i64 hi] w fun e w' => e = .returned (.bool (inB n lo hi)) ∧ w = w' := by
  unfold inB
  by_cases h1 : lo ≤ n
  · by_cases h2 : n ≤ hi
    all_goals
      go_enter Tryz.func47, Tryz.ntmps47
      go_wp2
      go_ret
      exact ⟨ret_bool (by simp; omega), rfl⟩
  · go_enter Tryz.func47, Tryz.ntmps47
    go_wp2
    go_ret
    exact ⟨ret_bool (by simp; omega), rfl⟩

/-! syllabaryref11.Total. -/
/-! syllabaryref11.Sum. -/
/-! syllabaryref11.Less. -/
end Go.Proofs.YtkjfdjcagfkdhaaGreat

/-
  The walks of layer 11: words, searches, comparisons of lists.
-/
namespace Go.Proofs.YtkjfdjcagfkdhaaGreat
open Go Go.RowKit

/-! letters and digits -/
def plainB (c : Int) : Bool := (decide (97 ≤ c) && decide (c ≤ 122)) || (decide (65 ≤ c) && decide (c ≤ 90)) || (decide (48 ≤ c) && decide (c ≤ 57))
def plainS (s : ByteArray) : Bool := s.data.toList.all fun c => plainB (c.toNat : Int)
def PlainTo (s : ByteArray) (k : Nat) : Prop := ∀ i (h : i < s.size), i < k → plainB (s[i].toNat : Int) = true
theorem plainS_true {s : ByteArray} (h : PlainTo s s.size) : plainS s = true := by
  unfold plainS
  rw [List.all_eq_true]
  intro c hc
  obtain ⟨i, hi, rfl⟩ := List.getElem_of_mem hc
  have hi' : i < s.size := by simpa using hi
  exact h i hi' hi'
theorem plainS_false {s : ByteArray} {k : Nat} (hk : k < s.size) (h : plainB (s[k].toNat : Int) = false) : plainS s = false := by
  unfold plainS
  rw [List.all_eq_false]
  exact ⟨s[k], List.getElem_mem (l := s.data.toList) (by simpa using hk), by rw [h]; decide⟩
theorem PlainTo.succ {s : ByteArray} {k : Nat} (h : PlainTo s k) (hk : k < s.size) (hp : plainB (s[k].toNat : Int) = true) : PlainTo s (k + 1) := fun i hi hik => by
  by_cases e : i = k
  · subst e; exact hp
  · exact h i hi (by omega)
theorem byte_ranges (c : Int) : c < 48 ∨ (48 ≤ c ∧ c ≤ 57) ∨ (57 < c ∧ c < 65) ∨ (65 ≤ c ∧ c ≤ 90) ∨ (90 < c ∧ c < 97) ∨ (97 ≤ c ∧ c ≤ 122) ∨ 122 < c := by omega

set_option maxRecDepth 100000 in
set_option maxHeartbeats 1000000 in
theorem plain_any (s : ByteArray) (w : World) (hs : s.size ≤ maxLen) : Calls Tryz.prog 49 #[.string s] w fun e w' => e = .returned (.bool (plainS s)) ∧ w = w' := by
  unfold maxLen at hs
  go_enter Tryz.func49, Tryz.ntmps49
  go_wp2
  go_loop [3] (fun i => ∃ k : Nat, k ≤ s.size ∧ PlainTo s k ∧ i = .int .i64 k) (fun i => s.size - (intOf i).toNat)
  case atStart => exact ⟨0, by omega, fun _ _ h => absurd h (by omega), rfl⟩
  case round =>
    obtain ⟨k, hk, hp, rfl⟩ := hrel
    have HP := Lib.hid hp
    clear hp
    by_cases hlt : k < s.size
    · have hr := byte_ranges (s[k].toNat : Int)
      obtain ⟨b, hb⟩ : ∃ b, b = plainB (s[k].toNat : Int) := ⟨_, rfl⟩
      have HB := Lib.hid hb
      clear hb
      rcases hr with h | ⟨h, h'⟩ | ⟨h, h'⟩ | ⟨h, h'⟩ | ⟨h, h'⟩ | ⟨h, h'⟩ | h
      all_goals
        go_wp2
        first
          | (go_round
             case rel => exact ⟨k + 1, by omega, HP.out.succ hlt (by unfold plainB; simp; omega), by go_num⟩
             case measure => simp [intOf]; omega)
          | (go_ret
             exact ⟨ret_bool (plainS_false hlt (by unfold plainB; simp; omega)).symm, rfl⟩)
    · obtain rfl : k = s.size := by omega
      go_wp2
      go_ret
      exact ⟨ret_bool (plainS_true HP.out).symm, rfl⟩

/-! scheme.class, allKnown, Word -/
def clsI (c : Int) : Int := if 97 ≤ c ∧ c ≤ 122 then 1 else if 65 ≤ c ∧ c ≤ 90 then 2 else if 48 ≤ c ∧ c ≤ 57 then 3 else 0
theorem clsI_plain (c : Int) : plainB c = !(clsI c == 0) := by
  unfold plainB clsI
  rw [Bool.eq_iff_iff]
  split <;> (try split) <;> (try split) <;> simp <;> omega
set_option maxRecDepth 100000 in
set_option maxHeartbeats 1000000 in
theorem class_any (c : Int) (w : World) : Calls Tryz.prog 80 #[.int .u8 c] w fun e w' => e = .returned (.int .i64 (clsI c)) ∧ w = w' := by
  have hr := byte_ranges c
  rcases hr with h | ⟨h, h'⟩ | ⟨h, h'⟩ | ⟨h, h'⟩ | ⟨h, h'⟩ | ⟨h, h'⟩ | h
  all_goals
    go_enter Tryz.func80, Tryz.ntmps80
    go_wp2
    go_ret
    exact ⟨ret_int (by unfold clsI; repeat' split; all_goals omega), rfl⟩
set_option maxRecDepth 100000 in
set_option maxHeartbeats 1000000 in
theorem allKnown_any (s : ByteArray) (w : World) (hs : s.size ≤ maxLen) : Calls Tryz.prog 113 #[.string s] w fun e w' => e = .returned (.bool (plainS s)) ∧ w = w' := by
  unfold maxLen at hs
  go_enter Tryz.func113, Tryz.ntmps113
  go_wp2
  go_loop [3, 6] (fun _ i => ∃ k : Nat, k ≤ s.size ∧ PlainTo s k ∧ i = .int .i64 k) (fun _ i => s.size - (intOf i).toNat)
  case atStart => exact ⟨0, by omega, fun _ _ h => absurd h (by omega), rfl⟩
  case round =>
    obtain ⟨k, hk, hp, rfl⟩ := hrel
    have HP := Lib.hid hp
    clear hp
    by_cases hlt : k < s.size
    · by_cases hz : clsI (s[k].toNat : Int) = 0
      · go_wp2_with (go_at_call 80; refine (class_any _ _).mono ?_; rintro e w' ⟨rfl, rfl⟩)
        go_ret
        exact ⟨ret_bool (plainS_false hlt (by rw [clsI_plain, hz]; rfl)).symm, rfl⟩
      · go_wp2_with (go_at_call 80; refine (class_any _ _).mono ?_; rintro e w' ⟨rfl, rfl⟩)
        go_round
        case rel => exact ⟨k + 1, by omega, HP.out.succ hlt (by rw [clsI_plain]; simpa using hz), by go_num⟩
        case measure => simp [intOf]; omega
    · obtain rfl : k = s.size := by omega
      go_wp2
      go_ret
      exact ⟨ret_bool (plainS_true HP.out).symm, rfl⟩
end Go.Proofs.YtkjfdjcagfkdhaaGreat

/-
  The walks of layers 05 and 08: letters; rules in memory.
-/
namespace Go.Proofs.YtkjfdjcagfkdhaaGreat
open Go Go.RowKit

theorem knownC_plain (c : UInt8) : plainB (c.toNat : Int) = knownC c := by
  unfold plainB knownC smallC
  rw [Bool.eq_iff_iff]
  simp
  omega
theorem knownS_plain (s : ByteArray) : plainS s = knownS s := by
  unfold plainS knownS bl
  congr 1
  funext c
  exact knownC_plain c
def BytesTo (f : UInt8 → Bool) (s : ByteArray) (k : Nat) : Prop := ∀ i (h : i < s.size), i < k → f s[i] = true
theorem bytesTo_true {f : UInt8 → Bool} {s : ByteArray} (h : BytesTo f s s.size) : (bl s).all f = true := by
  rw [List.all_eq_true]
  intro c hc
  obtain ⟨i, hi, rfl⟩ := List.getElem_of_mem hc
  have hi' : i < s.size := by simpa [bl_len] using hi
  exact h i hi' hi'
theorem bytesTo_false {f : UInt8 → Bool} {s : ByteArray} {k : Nat} (hk : k < s.size) (h : f s[k] = false) : (bl s).all f = false := by
  rw [List.all_eq_false]
  exact ⟨s[k], List.getElem_mem (l := s.data.toList) (by simpa using hk), by rw [h]; decide⟩
theorem BytesTo.succ {f : UInt8 → Bool} {s : ByteArray} {k : Nat} (h : BytesTo f s k) (hk : k < s.size) (hp : f s[k] = true) : BytesTo f s (k + 1) := fun i hi hik => by
  by_cases e : i = k
  · subst e; exact hp
  · exact h i hi (by omega)
theorem small_cls (c : UInt8) : smallC c = (clsI (c.toNat : Int) == 1) := by
  unfold smallC clsI
  rw [Bool.eq_iff_iff]
  split <;> (try split) <;> (try split) <;> simp <;> omega
set_option maxRecDepth 100000 in
set_option maxHeartbeats 1000000 in
theorem allSmall_any (s : ByteArray) (w : World) (hs : s.size ≤ maxLen) : Calls Tryz.prog 54 #[.string s] w fun e w' => e = .returned (.bool (smallS s)) ∧ w = w' := by
  unfold maxLen at hs
  go_enter Tryz.func54, Tryz.ntmps54
  go_wp2
  go_loop [3, 6] (fun _ i => ∃ k : Nat, k ≤ s.size ∧ BytesTo smallC s k ∧ i = .int .i64 k) (fun _ i => s.size - (intOf i).toNat)
  case atStart => exact ⟨0, by omega, fun _ _ h => absurd h (by omega), rfl⟩
  case round =>
    obtain ⟨k, hk, hp, rfl⟩ := hrel
    have HP := Lib.hid hp
    clear hp
    by_cases hlt : k < s.size
    · by_cases hz : clsI (s[k].toNat : Int) = 1
      · go_wp2_with (go_at_call 80; refine (class_any _ _).mono ?_; rintro e w' ⟨rfl, rfl⟩)
        go_round
        case rel => exact ⟨k + 1, by omega, HP.out.succ hlt (by rw [small_cls]; simpa using hz), by go_num⟩
        case measure => simp [intOf]; omega
      · go_wp2_with (go_at_call 80; refine (class_any _ _).mono ?_; rintro e w' ⟨rfl, rfl⟩)
        go_ret
        exact ⟨ret_bool (bytesTo_false hlt (by rw [small_cls]; simpa using hz)).symm, rfl⟩
    · obtain rfl : k = s.size := by omega
      go_wp2
      go_ret
      exact ⟨ret_bool (bytesTo_true HP.out).symm, rfl⟩
set_option maxRecDepth 100000 in
set_option maxHeartbeats 1000000 in
theorem small_any (s : ByteArray) (w : World) (hs : s.size ≤ maxLen) : Calls Tryz.prog 48 #[.string s] w fun e w' => e = .returned (.bool (smallS s)) ∧ w = w' := by
  unfold maxLen at hs
  go_enter Tryz.func48, Tryz.ntmps48
  go_wp2
  go_loop [3] (fun i => ∃ k : Nat, k ≤ s.size ∧ BytesTo smallC s k ∧ i = .int .i64 k) (fun i => s.size - (intOf i).toNat)
  case atStart => exact ⟨0, by omega, fun _ _ h => absurd h (by omega), rfl⟩
  case round =>
    obtain ⟨k, hk, hp, rfl⟩ := hrel
    have HP := Lib.hid hp
    clear hp
    by_cases hlt : k < s.size
    · have hr : (s[k].toNat : Int) < 97 ∨ (97 ≤ (s[k].toNat : Int) ∧ (s[k].toNat : Int) ≤ 122) ∨ 122 < (s[k].toNat : Int) := by omega
      rcases hr with h | ⟨h, h'⟩ | h
      all_goals
        go_wp2
        first
          | (go_round
             case rel => exact ⟨k + 1, by omega, HP.out.succ hlt (by unfold smallC; simp; omega), by go_num⟩
             case measure => simp [intOf]; omega)
          | (go_ret
             exact ⟨ret_bool (bytesTo_false hlt (by unfold smallC; simp; omega)).symm, rfl⟩)
    · obtain rfl : k = s.size := by omega
      go_wp2
      go_ret
      exact ⟨ret_bool (bytesTo_true HP.out).symm, rfl⟩
def letB (s : ByteArray) : Bool := decide (s.size ≤ 40) && smallS s
theorem letB_iff {s : ByteArray} : letB s = true ↔ LetS s := by unfold letB LetS; simp
set_option maxRecDepth 100000 in
set_option maxHeartbeats 1000000 in
theorem letters_any (s : ByteArray) (w : World) (hs : s.size ≤ maxLen) : Calls Tryz.prog 25 #[.string s] w fun e w' => e = .returned (.bool (letB s)) ∧ w = w' := by
  by_cases h : s.size ≤ 40
  · have HL := Lib.hid (show letB s = smallS s by unfold letB; rw [decide_eq_true h]; rfl)
    have h2 : (s.size : Int) ≤ 40 := by omega
    go_enter Tryz.func25, Tryz.ntmps25
    go_wp2_with (go_at_call 54; refine (allSmall_any _ _ hs).mono ?_; rintro e w' ⟨rfl, rfl⟩)
    go_ret
    exact ⟨ret_bool HL.out.symm, rfl⟩
  · have HL := Lib.hid (show letB s = false by unfold letB; rw [decide_eq_false h]; rfl)
    have h2 : ¬ (s.size : Int) ≤ 40 := by omega
    go_enter Tryz.func25, Tryz.ntmps25
    go_wp2
    go_ret
    exact ⟨ret_bool HL.out.symm, rfl⟩

/-! Rules in memory. -/
def RRu (_ : World) (x : Ru) (vs : List Value) : Prop := vs = [.int .i64 x.fr, .int .i64 x.to, .string x.inp, .string x.out, .int .i64 x.co]
theorem keeps_ru : Keeps RRu := fun _ _ _ _ _ h => h
theorem SlR.ru {w : World} {A : Option Addr} {k : Nat} {xs : List Ru} (h : SlR 5 RRu w A xs) (hk : k < xs.length) : ∃ b off x, A = some ⟨b, off, none⟩ ∧ b < w.heap.size ∧ xs[k]? = some x ∧
    w.cell? ⟨b, off + k * 5, none⟩ = some (.int .i64 x.fr) ∧ w.cell? ⟨b, off + k * 5 + 1, none⟩ = some (.int .i64 x.to) ∧ w.cell? ⟨b, off + k * 5 + 2, none⟩ = some (.string x.inp) ∧ w.cell? ⟨b, off + k * 5 + 3, none⟩ = some (.string x.out) ∧ w.cell? ⟨b, off + k * 5 + 4, none⟩ = some (.int .i64 x.co) := by
  obtain ⟨b, off, x, vs, hA, hlt, hx, hr, _, hv⟩ := h.at_ hk
  exact ⟨b, off, x, hA, hlt, hx, hv 0 _ (by rw [hr]; rfl), hv 1 _ (by rw [hr]; rfl), hv 2 _ (by rw [hr]; rfl), hv 3 _ (by rw [hr]; rfl), hv 4 _ (by rw [hr]; rfl)⟩
/-- A rule whose texts can be read. -/
def RuIn (r : Ru) : Prop := r.inp.size ≤ maxLen ∧ r.out.size ≤ maxLen
end Go.Proofs.YtkjfdjcagfkdhaaGreat

/-
  A region that draws its order, walked once: what only reads is taken as soon as it may come up; what makes memory comes up in one forced order. One condition S on the world holds behind each step.
-/
namespace Go.Proofs.YtkjfdjcagfkdhaaGreat
open Go Go.RowKit

theorem add_mk (b o n : Nat) : (Addr.mk b o none).add n = ⟨b, o + n, none⟩ := by
  unfold Addr.add; split <;> simp_all
theorem SlR.drop {α : Type} {s : Nat} {R : World → α → List Value → Prop} {w : World} {A : Option Addr} {xs : List α} (h : SlR s R w A xs) (f : Nat) :
    SlR s R w (A.map (fun x => x.add (f * s))) (xs.drop f) := fun hn => by
  obtain ⟨b, off, rfl, hlt, hc⟩ := h (by rintro rfl; simp at hn)
  refine ⟨b, off + f * s, by simp [add_mk], hlt, fun k x hx => ?_⟩
  rw [List.getElem?_drop] at hx
  obtain ⟨vs, hr, hl, hv⟩ := hc (f + k) x hx
  refine ⟨vs, hr, hl, fun j v hj => ?_⟩
  have := hv j v hj
  rwa [show off + f * s + k * s + j = off + (f + k) * s + j by rw [Nat.add_mul]; omega]
theorem bx {w w1 : World} {o : Obj} (h : Below (w.alloc o).heap.size (w.alloc o) w1) : Below (w.heap.size + 1) (w.alloc o) w1 := h.mono (by simp)

def nthO : List Oper → Nat → Option Oper
  | o :: _, 0 => some o
  | _ :: l, n + 1 => nthO l n
  | [], _ => none
theorem nthO_spec {ops : Array Oper} {i : Nat} {o : Oper} (h : nthO ops.toList i = some o) : ops[i]? = some o := by
  rw [← Array.getElem?_toList]
  generalize ops.toList = l at h
  induction l generalizing i with
  | nil => simp [nthO] at h
  | cons x l ih =>
    cases i with
    | zero => simpa [nthO] using h
    | succ i => simpa using ih (by simpa [nthO] using h)
section
variable {P : Program} {ops : Array Oper} {Q : Exit → Act → World → Prop} {S : World → Prop}
end
end Go.Proofs.YtkjfdjcagfkdhaaGreat
