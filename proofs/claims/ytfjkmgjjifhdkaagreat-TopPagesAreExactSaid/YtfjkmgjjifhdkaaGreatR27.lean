/-
  CostMath, CostWalkB, joined. No conditions.
-/
import Derived.Lib.BitFns
import Derived.Lib.ItoaNum
import Derived.IntWalk
import GoSem.Op.String
import Derived.Test.YtfjkmgjjifhdkaaGreatChecked
import Derived.Test.YtfjkmgjjifhdkaaGreatR01
import Derived.Outline
import Derived.Deep.Light
/-
  The plain mathematics of layer 11: the logarithm; no program in sight.
-/
namespace Go.Proofs.YtfjkmgjjifhdkaaGreat

/-- The logarithm of layer 11. -/
def lgN (n : Nat) : Nat := if n = 0 then 0 else 8 * n.log2 + 8 * (n - 2 ^ n.log2) / 2 ^ n.log2
def lg (n : Int) : Int := (lgN n.toNat : Int)

theorem lgN_of (n k : Nat) (h1 : 2 ^ k ≤ n) (h2 : n < 2 ^ (k + 1)) : lgN n = 8 * k + 8 * (n - 2 ^ k) / 2 ^ k := by
  have hn : n ≠ 0 := by have := Nat.two_pow_pos k; omega
  have hk : n.log2 = k := (Nat.log2_eq_iff hn).2 ⟨h1, h2⟩
  unfold lgN
  rw [if_neg hn, hk]

theorem bitLen_log (n : Nat) (h0 : n ≠ 0) (h : n < 2 ^ 64) : Lib.bitLen n = n.log2 + 1 := by
  obtain ⟨h1, h2, h3⟩ := Lib.bitLenAux_bounds 64 n h h0
  have : n.log2 = Lib.bitLenAux 64 n - 1 := (Nat.log2_eq_iff h0).2 ⟨h2, by rw [Nat.sub_add_cancel h1]; exact h3⟩
  unfold Lib.bitLen
  omega

theorem lg_neg (n : Int) (h : n < 1) : lg n = 0 := by
  unfold lg
  have : n.toNat = 0 := by omega
  rw [this]; rfl

/-- k is the exponent of n. -/
def IsLog (n : Int) (k : Nat) : Prop := (2 : Int) ^ k ≤ n ∧ n < 2 ^ (k + 1)
theorem isLog_nat {n : Int} {k : Nat} (h : IsLog n k) : 2 ^ k ≤ n.toNat ∧ n.toNat < 2 ^ (k + 1) := by
  obtain ⟨h1, h2⟩ := h
  have e1 : ((2 ^ k : Nat) : Int) = (2 : Int) ^ k := by simp
  have e2 : ((2 ^ (k + 1) : Nat) : Int) = (2 : Int) ^ (k + 1) := by simp
  omega
theorem lg_small (n : Int) (k : Nat) (h : IsLog n k) (hk : k < 3) : lg n = 8 * (k : Int) + (n - 2 ^ k) * 2 ^ (3 - k) := by
  obtain ⟨h1, h2⟩ := isLog_nat h
  have hp : (0 : Int) < 2 ^ k := Int.pow_pos (by decide)
  have hn := h.1
  unfold lg
  rw [lgN_of _ k h1 h2]
  match k, hk with
  | 0, _ => simp at *; omega
  | 1, _ => simp at *; omega
  | 2, _ => simp at *; omega
theorem lg_big (n : Int) (k : Nat) (h : IsLog n k) (hk : 3 ≤ k) : lg n = 8 * (k : Int) + (n - 2 ^ k) / 2 ^ (k - 3) := by
  obtain ⟨h1, h2⟩ := isLog_nat h
  have hn := h.1
  obtain ⟨j, rfl⟩ : ∃ j, k = j + 3 := ⟨k - 3, by omega⟩
  have e1 : ((2 ^ (j + 3) : Nat) : Int) = (2 : Int) ^ (j + 3) := by simp
  have e3 : ((2 ^ j : Nat) : Int) = (2 : Int) ^ j := by simp
  have hpj := Nat.two_pow_pos j
  unfold lg
  rw [lgN_of _ _ h1 h2]
  simp only [Nat.add_sub_cancel]
  have e4 : 8 * (n.toNat - 2 ^ (j + 3)) / 2 ^ (j + 3) = (n.toNat - 2 ^ (j + 3)) / 2 ^ j := by
    rw [Nat.pow_add, Nat.mul_comm (2 ^ j) (2 ^ 3), show 2 ^ 3 = 8 from rfl, Nat.mul_div_mul_left _ _ (by decide)]
  rw [e4, ← e3, ← e1]
  have : n - ((2 ^ (j + 3) : Nat) : Int) = ((n.toNat - 2 ^ (j + 3) : Nat) : Int) := by omega
  rw [this]
  simp
theorem isLog_log2 (n : Int) (h : 1 ≤ n) : IsLog n n.toNat.log2 := by
  have hn : n.toNat ≠ 0 := by omega
  obtain ⟨h1, h2⟩ := (Nat.log2_eq_iff hn).1 rfl
  have e1 : ((2 ^ n.toNat.log2 : Nat) : Int) = (2 : Int) ^ n.toNat.log2 := by simp
  have e2 : ((2 ^ (n.toNat.log2 + 1) : Nat) : Int) = (2 : Int) ^ (n.toNat.log2 + 1) := by simp
  exact ⟨by omega, by omega⟩
theorem pow_le62 {k : Nat} (hk : k ≤ 62) : (2 : Int) ^ k ≤ 4611686018427387904 := by
  have e1 : ((2 ^ k : Nat) : Int) = (2 : Int) ^ k := by simp
  have : 2 ^ k ≤ 2 ^ 62 := Nat.pow_le_pow_right (by decide) hk
  omega
theorem isLog_le62 {n : Int} {k : Nat} (h : IsLog n k) (h2 : n ≤ 4611686018427387904) : k ≤ 62 := by
  obtain ⟨h1, _⟩ := isLog_nat h
  have h3 : n.toNat ≤ 2 ^ 62 := by omega
  have : 2 ^ k ≤ 2 ^ 62 := Nat.le_trans h1 h3
  exact (Nat.pow_le_pow_iff_right (by decide)).1 this
open Go Go.RowKit
/-! Sums and models. -/
structure Pr where
  a : Int
  b : Int
  n : Int
def total (l : List Int) : Int := l.foldr (· + ·) 0
theorem total_snoc (l : List Int) (x : Int) : total (l ++ [x]) = total l + x := by
  induction l with
  | nil => simp [total]
  | cons y l ih => simp only [total, List.cons_append, List.foldr_cons] at *; omega
/-- All numbers lie from -B to B. -/
def Within (B : Int) (l : List Int) : Prop := ∀ x ∈ l, -B ≤ x ∧ x ≤ B
theorem Within.take {B : Int} {l : List Int} (h : Within B l) (k : Nat) : Within B (l.take k) := fun x hx => h x (List.mem_of_mem_take hx)
/-- The sum of the numbers of the pairs after a word. -/
def sumAt (l : List Pr) (a : Int) : Int := total ((l.filter fun p => p.a == a).map Pr.n)
def lessP (p q : Pr) : Bool := decide (p.a < q.a) || (p.a == q.a && decide (p.b < q.b))
theorem sumAt_snoc (l : List Pr) (x : Pr) (a : Int) : sumAt (l ++ [x]) a = if x.a == a then sumAt l a + x.n else sumAt l a := by
  unfold sumAt
  rw [List.filter_append]
  by_cases h : (x.a == a) = true
  · rw [if_pos h, List.filter_cons_of_pos (by exact h), List.filter_nil, List.map_append, List.map_cons, List.map_nil, total_snoc]
  · rw [if_neg h, List.filter_cons_of_neg (by exact h), List.filter_nil, List.append_nil]

/-! Models: what is valid. -/
structure Mo where
  ws : List ByteArray
  cs : List Int
  ps : List Pr
  back : Int
def ltS (x y : ByteArray) : Bool := Op.bytesLess x.toList y.toList
def zP : Pr := ⟨0, 0, 0⟩
def CsOK (cs : List Int) (n : Nat) : Prop := cs.length = n ∧ (∀ c ∈ cs, 0 ≤ c ∧ c ≤ 1073741824) ∧ total cs ≤ 1073741824
instance (cs : List Int) (n : Nat) : Decidable (CsOK cs n) := by unfold CsOK; infer_instance
theorem total_nonneg {l : List Int} (h : ∀ c ∈ l, 0 ≤ c) : 0 ≤ total l := by
  induction l with
  | nil => simp [total]
  | cons y l ih =>
    have h1 := ih (fun x hx => h x (List.mem_cons_of_mem _ hx))
    have h2 := h y (List.mem_cons_self)
    simp only [total, List.foldr_cons] at *
    omega
theorem total_append (a b : List Int) : total (a ++ b) = total a + total b := by
  induction a with
  | nil => simp [total]
  | cons y l ih => simp only [total, List.cons_append, List.foldr_cons] at *; omega
/-- What the loop over the counts has seen: all from 0 up, their sum in bounds. -/
def CsTo (cs : List Int) (k : Nat) : Prop := (∀ c ∈ cs.take k, 0 ≤ c) ∧ total (cs.take k) ≤ 1073741824
theorem CsTo.succ {cs : List Int} {k : Nat} {x : Int} (h : CsTo cs k) (hx : cs.take (k + 1) = cs.take k ++ [x]) (h0 : 0 ≤ x) (h1 : total (cs.take k) + x ≤ 1073741824) : CsTo cs (k + 1) := by
  refine ⟨?_, by rw [hx, total_snoc]; exact h1⟩
  rw [hx]
  intro c hc
  rcases List.mem_append.1 hc with hc | hc
  · exact h.1 c hc
  · rw [List.mem_singleton.1 hc]; exact h0
theorem CsTo.all {cs : List Int} {k n : Nat} (h : CsTo cs k) (hk : cs.length ≤ k) (hn : cs.length = n) : CsOK cs n := by
  unfold CsTo at h
  rw [List.take_of_length_le hk] at h
  refine ⟨hn, fun c hc => ⟨h.1 c hc, ?_⟩, h.2⟩
  obtain ⟨a, b, rfl⟩ := List.append_of_mem hc
  have h1 := total_nonneg (l := a) (fun x hx => h.1 x (by simp [hx]))
  have h2 := total_nonneg (l := b) (fun x hx => h.1 x (by simp [hx]))
  have h3 := h.2
  rw [total_append] at h3
  simp only [total, List.foldr_cons] at *
  omega
theorem CsOK.to {cs : List Int} {n k : Nat} (h : CsOK cs n) : 0 ≤ total (cs.take k) ∧ total (cs.take k) ≤ 1073741824 := by
  have h1 := total_nonneg (l := cs.take k) (fun c hc => (h.2.1 c (List.mem_of_mem_take hc)).1)
  have h2 := total_nonneg (l := cs.drop k) (fun c hc => (h.2.1 c (List.mem_of_mem_drop hc)).1)
  have h3 := h.2.2
  rw [← List.take_append_drop k cs, total_append] at h3
  omega

/-! Which pairs are valid. -/
def incP : List Pr → Bool
  | [] => true
  | [_] => true
  | x :: y :: l => lessP x y && incP (y :: l)
def IncPAt (ps : List Pr) (k : Nat) : Prop := ∀ j x y, j + 1 < k → ps[j]? = some x → ps[j + 1]? = some y → lessP x y = true
theorem incP_iff (ws : List Pr) : incP ws = true ↔ IncPAt ws ws.length := by
  induction ws with
  | nil => simp [incP, IncPAt]
  | cons x l ih =>
    cases l with
    | nil => simp [incP, IncPAt]
    | cons y l =>
      rw [incP, Bool.and_eq_true, ih]
      constructor
      · rintro ⟨h1, h2⟩ j a b hj ha hb
        cases j with
        | zero => simp at ha hb; subst ha hb; exact h1
        | succ j => exact h2 j a b (by simp at hj ⊢; omega) (by simpa using ha) (by simpa using hb)
      · intro h
        exact ⟨h 0 x y (by simp) (by simp) (by simp), fun j a b hj ha hb => h (j + 1) a b (by simp at hj ⊢; omega) (by simpa using ha) (by simpa using hb)⟩
def PRange (n : Nat) (p : Pr) : Prop := (0 ≤ p.a ∧ p.a < n) ∧ (0 ≤ p.b ∧ p.b < n) ∧ 1 ≤ p.n
instance (n : Nat) (p : Pr) : Decidable (PRange n p) := by unfold PRange; infer_instance
def PsOK (ps : List Pr) (n : Nat) : Prop := ps.length ≤ 1000 ∧ (∀ p ∈ ps, PRange n p ∧ p.n ≤ 1073741824 ∧ sumAt ps p.a ≤ 1073741824) ∧ incP ps = true
instance (ps : List Pr) (n : Nat) : Decidable (PsOK ps n) := by unfold PsOK; infer_instance
/-- What the loop over the pairs has seen. -/
structure PsTo (ps : List Pr) (n k : Nat) : Prop where
  rng : ∀ p ∈ ps.take k, PRange n p
  inc : IncPAt ps k
  sum : ∀ a, sumAt (ps.take k) a ≤ 1073741824
theorem PsTo.zero (ps : List Pr) (n : Nat) : PsTo ps n 0 := ⟨by simp, fun _ _ _ h => absurd h (by omega), fun a => by simp [sumAt, total]⟩
theorem sumAt_nonneg {ps : List Pr} {n : Nat} (h : ∀ p ∈ ps, PRange n p) (a : Int) : 0 ≤ sumAt ps a := by
  refine total_nonneg fun c hc => ?_
  obtain ⟨p, hp, rfl⟩ := List.mem_map.1 hc
  have := (h p (List.mem_filter.1 hp).1).2.2
  omega
theorem PsTo.succ {ps : List Pr} {n k : Nat} {p : Pr} (h : PsTo ps n k) (hp : ps[k]? = some p) (hr : PRange n p) (hl : ∀ j q, k = j + 1 → ps[j]? = some q → lessP q p = true)
    (hs : sumAt (ps.take k) p.a + p.n ≤ 1073741824) : PsTo ps n (k + 1) := by
  obtain ⟨hk, hpe⟩ := List.getElem?_eq_some_iff.1 hp
  have ht : ps.take (k + 1) = ps.take k ++ [p] := by rw [List.take_succ_eq_append_getElem hk, hpe]
  refine ⟨?_, fun i a b hi ha hb => ?_, fun a => ?_⟩
  · rw [ht]
    intro s hs
    rcases List.mem_append.1 hs with hs | hs
    · exact h.rng s hs
    · rw [List.mem_singleton.1 hs]; exact hr
  · by_cases e : i + 1 = k
    · subst e
      rw [hp] at hb
      rw [← Option.some.inj hb]; exact hl i a rfl ha
    · exact h.inc i a b (by omega) ha hb
  · rw [ht, sumAt_snoc]
    split
    · rename_i e
      have : p.a = a := by simpa using e
      rw [← this]; exact hs
    · exact h.sum a
theorem PsTo.all {ps : List Pr} {n k : Nat} (h : PsTo ps n k) (hk : k = ps.length) (h1 : ps.length ≤ 1000) : PsOK ps n := by
  subst hk
  obtain ⟨h2, h3, h4⟩ := h
  rw [List.take_length] at h2
  refine ⟨h1, fun p hp => ⟨h2 p hp, ?_, by have := h4 p.a; rwa [List.take_length] at this⟩, (incP_iff ps).2 h3⟩
  have := h4 p.a
  rw [List.take_length] at this
  obtain ⟨a, b, e⟩ := List.append_of_mem hp
  have e2 : sumAt ps p.a = sumAt a p.a + sumAt (p :: b) p.a := by
    conv => lhs; rw [e]
    simp only [sumAt, List.filter_append, List.map_append, total_append]
  have e3 : sumAt (p :: b) p.a = p.n + sumAt b p.a := by simp [sumAt, total]
  have h5 := sumAt_nonneg (ps := a) (n := n) (fun q hq => h2 q (by rw [e]; simp [hq])) p.a
  have h6 := sumAt_nonneg (ps := b) (n := n) (fun q hq => h2 q (by rw [e]; simp [hq])) p.a
  omega
theorem PsOK.not_range {ps : List Pr} {n k : Nat} {p : Pr} (hp : ps[k]? = some p) (h : ¬ PRange n p) : ¬ PsOK ps n := fun hok => h (hok.2.1 p (List.mem_of_getElem? hp)).1
theorem PsOK.not_inc {ps : List Pr} {n j : Nat} {q p : Pr} (hq : ps[j]? = some q) (hp : ps[j + 1]? = some p) (h : lessP q p = false) : ¬ PsOK ps n := fun hok => by
  obtain ⟨hlt, _⟩ := List.getElem?_eq_some_iff.1 hp
  have := (incP_iff ps).1 hok.2.2 j q p (by omega) hq hp
  rw [h] at this; cases this
theorem sumAt_take_le {ps : List Pr} {n : Nat} (h : ∀ p ∈ ps, PRange n p) (k : Nat) (a : Int) : sumAt (ps.take k) a ≤ sumAt ps a := by
  have h2 := sumAt_nonneg (ps := ps.drop k) (n := n) (fun p hp => h p (List.mem_of_mem_drop hp)) a
  have e2 : sumAt ps a = sumAt (ps.take k) a + sumAt (ps.drop k) a := by
    conv => lhs; rw [← List.take_append_drop k ps]
    simp only [sumAt, List.filter_append, List.map_append, total_append]
  omega
theorem PsOK.not_sum {ps : List Pr} {n k : Nat} {p : Pr} (hp : ps[k]? = some p) (h : 1073741824 < sumAt (ps.take k) p.a + p.n) : ¬ PsOK ps n := fun hok => by
  obtain ⟨hk, hpe⟩ := List.getElem?_eq_some_iff.1 hp
  have ht : ps.take (k + 1) = ps.take k ++ [p] := by rw [List.take_succ_eq_append_getElem hk, hpe]
  have h1 := sumAt_take_le (n := n) (fun p hp => (hok.2.1 p hp).1) (k + 1) p.a
  rw [ht, sumAt_snoc, if_pos (by simp)] at h1
  have := (hok.2.1 p (List.mem_of_getElem? hp)).2.2
  omega
/-- Increasing pairs: what comes before has no greater first word. -/
theorem IncPAt.mono {ps : List Pr} {k : Nat} (h : IncPAt ps k) : ∀ (d i : Nat) (x y : Pr), i + d < k → ps[i]? = some x → ps[i + d]? = some y → x.a ≤ y.a := by
  intro d
  induction d with
  | zero => intro i x y _ hx hy; simp at hy; rw [hx] at hy; rw [Option.some.inj hy]; omega
  | succ d ih =>
    intro i x y hi hx hy
    have hlt : i + d < ps.length := by
      obtain ⟨hlt, _⟩ := List.getElem?_eq_some_iff.1 hy
      omega
    have h1 := ih i x ps[i + d] (by omega) hx (List.getElem?_eq_getElem hlt)
    have h2 := h (i + d) ps[i + d] y (by omega) (List.getElem?_eq_getElem hlt) (by rw [← hy]; rfl)
    simp only [lessP, Bool.or_eq_true, Bool.and_eq_true, decide_eq_true_eq, beq_iff_eq] at h2
    omega
theorem sumAt_reset {ps : List Pr} {n j : Nat} {q : Pr} {a : Int} (h : PsTo ps n (j + 1)) (hq : ps[j]? = some q) (hl : q.a < a) : sumAt (ps.take (j + 1)) a = 0 := by
  have : (ps.take (j + 1)).filter (fun p => p.a == a) = [] := by
    rw [List.filter_eq_nil_iff]
    intro p hp e
    have e' : p.a = a := by simpa using e
    obtain ⟨i, hi, rfl⟩ := List.getElem_of_mem hp
    have hi2 : i < j + 1 := by rw [List.length_take] at hi; omega
    have hi3 : i < ps.length := by rw [List.length_take] at hi; omega
    have := h.inc.mono (j - i) i ps[i] q (by omega) (List.getElem?_eq_getElem hi3) (by rw [← hq]; congr 1; omega)
    rw [List.getElem_take] at e'
    omega
  simp [sumAt, this, total]
/-- The sum that the loop carries into round k. -/
def curSum (ps : List Pr) : Nat → Int
  | 0 => 0
  | j + 1 => sumAt (ps.take (j + 1)) (ps.getD j zP).a
theorem curSum_succ {ps : List Pr} {j : Nat} {q : Pr} (hq : ps[j]? = some q) : curSum ps (j + 1) = sumAt (ps.take (j + 1)) q.a := by
  simp [curSum, hq]
theorem curSum_next {ps : List Pr} {k : Nat} {p : Pr} (hp : ps[k]? = some p) : curSum ps (k + 1) = sumAt (ps.take k) p.a + p.n := by
  obtain ⟨hk, hpe⟩ := List.getElem?_eq_some_iff.1 hp
  rw [curSum_succ hp, show ps.take (k + 1) = ps.take k ++ [p] by rw [List.take_succ_eq_append_getElem hk, hpe], sumAt_snoc, if_pos (by simp)]
end Go.Proofs.YtfjkmgjjifhdkaaGreat

/-
  The walks of layer 11: sums, searches and comparisons over slices.
-/
namespace Go.Proofs.YtfjkmgjjifhdkaaGreat
open Go Go.RowKit

def RPr (_ : World) (x : Pr) (vs : List Value) : Prop := vs = [.int .i64 x.a, .int .i64 x.b, .int .i64 x.n]
theorem keeps_pr : Keeps RPr := fun _ _ _ _ _ h => h
theorem SlR.pr {w : World} {A : Option Addr} {xs : List Pr} (h : SlR 3 RPr w A xs) {k : Nat} (hk : k < xs.length) :
    ∃ b off x, A = some ⟨b, off, none⟩ ∧ b < w.heap.size ∧ xs[k]? = some x ∧ w.cell? ⟨b, off + k * 3, none⟩ = some (.int .i64 x.a) ∧ w.cell? ⟨b, off + k * 3 + 1, none⟩ = some (.int .i64 x.b) ∧ w.cell? ⟨b, off + k * 3 + 2, none⟩ = some (.int .i64 x.n) := by
  obtain ⟨b, off, x, vs, hA, hlt, hx, hr, _, hv⟩ := h.at_ hk
  exact ⟨b, off, x, hA, hlt, hx, hv 0 _ (by rw [hr]; rfl), hv 1 _ (by rw [hr]; rfl), hv 2 _ (by rw [hr]; rfl)⟩

/-! syllabaryref02.In. -/
def inB (n lo hi : Int) : Bool := decide (lo ≤ n) && decide (n ≤ hi)
/-! syllabaryref11.Total. -/
/-! syllabaryref11.Sum. -/
/-! syllabaryref11.Less. -/
set_option maxRecDepth 100000 in
set_option maxHeartbeats 400000 in
theorem co_less_any (p q : Pr) (w : World) : Calls Tryz.prog 76 #[.agg #[.int .i64 p.a, .int .i64 p.b, .int .i64 p.n], .agg #[.int .i64 q.a, .int .i64 q.b, .int .i64 q.n]] w fun e w' => e = .returned (.bool (lessP p q)) ∧ Below w.heap.size w w' := by
  unfold lessP
  by_cases h1 : p.a < q.a
  · go_enter Tryz.func76, Tryz.ntmps76
    go_wp2
    go_ret
    exact ⟨ret_bool (by simp [h1]), ((Below.refl _ _).alloc (Nat.le_refl _) _).alloc (by simp) _⟩
  · by_cases h2 : p.a = q.a
    · go_enter Tryz.func76, Tryz.ntmps76
      go_wp2
      go_ret
      exact ⟨ret_bool (by first | (simp; done) | simp [h1, h2]), ((Below.refl _ _).alloc (Nat.le_refl _) _).alloc (by simp) _⟩
    · go_enter Tryz.func76, Tryz.ntmps76
      go_wp2
      go_ret
      exact ⟨ret_bool (by first | (simp; done) | simp [h1, h2]), ((Below.refl _ _).alloc (Nat.le_refl _) _).alloc (by simp) _⟩
end Go.Proofs.YtfjkmgjjifhdkaaGreat
