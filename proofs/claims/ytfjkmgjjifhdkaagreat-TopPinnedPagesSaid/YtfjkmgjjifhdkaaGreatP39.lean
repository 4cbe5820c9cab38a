/-
  CostLaw, CostLaw2, CostLaw3, CostWalkK, CostWalkW, CostWalkX, CostWalkY, CostMB, CostPairs, CxCost, Ret2, joined. No conditions.
-/
import Derived.Test.YtfjkmgjjifhdkaaGreatP37
import Derived.Test.YtfjkmgjjifhdkaaGreatP38
import Derived.Test.YtfjkmgjjifhdkaaGreatP36
import Derived.Test.YtfjkmgjjifhdkaaGreatP35
import Derived.Test.YtfjkmgjjifhdkaaGreatP11
/-
  The plain law of layer 11: what is put into increasing lists, which models are valid, how costs change; no walk in sight.
-/
namespace Go.Proofs.YtfjkmgjjifhdkaaGreat
open Go Go.RowKit

/-! Putting a pair into an increasing list. -/
theorem lessP_iff (p q : Pr) : lessP p q = true ↔ (p.a < q.a ∨ (p.a = q.a ∧ p.b < q.b)) := by unfold lessP; simp
theorem incP_cons {q : Pr} {l : List Pr} : incP (q :: l) = true ↔ (∀ y ∈ l, lessP q y = true) ∧ incP l = true := by
  induction l generalizing q with
  | nil => simp [incP]
  | cons y l ih =>
    rw [incP, Bool.and_eq_true]
    constructor
    · rintro ⟨h1, h2⟩
      refine ⟨fun z hz => ?_, h2⟩
      rcases List.mem_cons.1 hz with rfl | hz
      · exact h1
      · have h3 := (ih.1 h2).1 z hz
        rw [lessP_iff] at *; omega
    · rintro ⟨h1, h2⟩
      exact ⟨h1 y (by simp), h2⟩
theorem sumAt_cons (q : Pr) (l : List Pr) (a : Int) : sumAt (q :: l) a = (if q.a = a then q.n else 0) + sumAt l a := by
  unfold sumAt
  by_cases h : q.a = a
  · rw [List.filter_cons_of_pos (by simpa using h), if_pos h]; simp [total]
  · rw [List.filter_cons_of_neg (by simpa using h), if_neg h]; simp [total]
theorem known_cons {q : Pr} {l : List Pr} (h : incP (q :: l) = true) (a b : Int) : known (q :: l) a b = if q.a = a ∧ q.b = b then q.n else known l a b := by
  obtain ⟨h1, h2⟩ := incP_cons.1 h
  by_cases hq : q.a = a ∧ q.b = b
  · rw [if_pos hq]
    have e := known_keep (ps := [q]) (qs := l) (a := a) (b := b) (fun p hp he => by have := h1 p hp; rw [lessP_iff] at this; omega)
    rw [show q :: l = [q] ++ l from rfl, e]
    unfold known
    simp [hq]
  · rw [if_neg hq]
    unfold known
    rw [List.foldl_cons, if_neg (by simpa using hq)]
end Go.Proofs.YtfjkmgjjifhdkaaGreat

/-
  The plain law of layer 11, continued: the logarithm grows ever slower; models that are made are valid, and stay so.
-/
namespace Go.Proofs.YtfjkmgjjifhdkaaGreat
open Go Go.RowKit

/-! The logarithm, scaled by 2 ^ K: its steps get smaller. -/
def lgS (K : Nat) (n : Nat) : Nat := 8 * n.log2 * 2 ^ K + 8 * (n - 2 ^ n.log2) * 2 ^ (K - n.log2)
theorem log2_mono {x y : Nat} (h : x ≤ y) (hx : x ≠ 0) : x.log2 ≤ y.log2 := by
  have h1 := Nat.log2_self_le hx
  exact (Nat.le_log2 (by omega)).2 (Nat.le_trans h1 h)
theorem lgS_div {K n : Nat} (hn : n ≠ 0) (hK : n.log2 ≤ K) : lgN n = lgS K n / 2 ^ K := by
  unfold lgN lgS
  rw [if_neg hn]
  obtain ⟨d, rfl⟩ : ∃ d, K = n.log2 + d := ⟨K - n.log2, by omega⟩
  rw [Nat.add_sub_cancel_left, Nat.add_comm (8 * n.log2 * 2 ^ (n.log2 + d)), Nat.add_mul_div_right _ _ (Nat.two_pow_pos _), Nat.add_comm]
  congr 1
  rw [Nat.pow_add, Nat.mul_div_mul_right _ _ (Nat.two_pow_pos d)]
theorem lgS_step {K n : Nat} (hn : n ≠ 0) (hK : n.log2 < K) : lgS K (n + 1) = lgS K n + 8 * 2 ^ (K - n.log2) := by
  have h1 := Nat.log2_self_le hn
  have h2 := Nat.lt_log2_self (n := n)
  by_cases h : n + 1 < 2 ^ (n.log2 + 1)
  · have e : (n + 1).log2 = n.log2 := (Nat.log2_eq_iff (by omega)).2 ⟨by omega, h⟩
    unfold lgS
    rw [e, show n + 1 - 2 ^ n.log2 = (n - 2 ^ n.log2) + 1 by omega, Nat.mul_add, Nat.add_mul]
    omega
  · have hn1 : n + 1 = 2 ^ (n.log2 + 1) := by omega
    have e : (n + 1).log2 = n.log2 + 1 := (Nat.log2_eq_iff (by omega)).2 ⟨by omega, by rw [hn1]; exact Nat.pow_lt_pow_right (by decide) (by omega)⟩
    unfold lgS
    rw [e, show n + 1 - 2 ^ (n.log2 + 1) = 0 by omega]
    obtain ⟨d, rfl⟩ : ∃ d, K = n.log2 + 1 + d := ⟨K - n.log2 - 1, by omega⟩
    rw [show n.log2 + 1 + d - n.log2 = d + 1 by omega]
    have h3 : n - 2 ^ n.log2 + 1 = 2 ^ n.log2 := by rw [Nat.pow_succ] at hn1; omega
    have h4 : 8 * (n - 2 ^ n.log2) * 2 ^ (d + 1) + 8 * 2 ^ (d + 1) = 8 * 2 ^ (n.log2 + 1 + d) := by
      rw [← Nat.add_mul, show 8 * (n - 2 ^ n.log2) + 8 = 8 * 2 ^ n.log2 by omega, Nat.mul_assoc, ← Nat.pow_add, show n.log2 + (d + 1) = n.log2 + 1 + d by omega]
    rw [Nat.mul_add 8, Nat.add_mul]
    omega
theorem lgS_mono1 {K n : Nat} (hn : n ≠ 0) (hK : n.log2 < K) : lgS K n ≤ lgS K (n + 1) := by rw [lgS_step hn hK]; omega
theorem lgN_mono {x y : Nat} (h : x ≤ y) : lgN x ≤ lgN y := by
  by_cases hx : x = 0
  · subst hx; exact Nat.zero_le _
  · obtain ⟨d, rfl⟩ : ∃ d, y = x + d := ⟨y - x, by omega⟩
    clear h
    generalize hk : (x + d).log2 + 1 = K
    have hm : ∀ d, (x + d).log2 < K → lgS K x ≤ lgS K (x + d) := by
      intro d
      induction d with
      | zero => intro _; exact Nat.le_refl _
      | succ d ih =>
        intro h
        have hy : (x + d).log2 < K := Nat.lt_of_le_of_lt (log2_mono (by omega) (by omega)) h
        exact Nat.le_trans (ih hy) (lgS_mono1 (n := x + d) (by omega) hy)
    have l1 := log2_mono (x := x) (y := x + d) (by omega) hx
    rw [lgS_div (K := K) hx (by omega), lgS_div (K := K) (n := x + d) (by omega) (by omega)]
    exact Nat.div_le_div_right (hm d (by omega))
theorem lg_mono {x y : Int} (h : x ≤ y) : lg x ≤ lg y := by
  unfold lg
  have := lgN_mono (x := x.toNat) (y := y.toNat) (by omega)
  omega
end Go.Proofs.YtfjkmgjjifhdkaaGreat

/-
  The plain law of layer 11, continued: the models that are made are valid, and small; so are those behind what is learnt.
-/
namespace Go.Proofs.YtfjkmgjjifhdkaaGreat
open Go Go.RowKit

/-! The order of texts. -/
structure PsGood (n : Nat) (B : Int) (L : Nat) (ps : List Pr) : Prop where
  rng : ∀ p ∈ ps, PRange n p
  inc : incP ps = true
  sum : ∀ a, sumAt ps a ≤ B
  len : ps.length ≤ L
theorem PsGood.mono {n : Nat} {B B' : Int} {L L' : Nat} {ps : List Pr} (h : PsGood n B L ps) (h1 : B ≤ B') (h2 : L ≤ L') : PsGood n B' L' ps :=
  ⟨h.rng, h.inc, fun a => Int.le_trans (h.sum a) h1, Nat.le_trans h.len h2⟩
end Go.Proofs.YtfjkmgjjifhdkaaGreat

/-
  The walks of layer 11: costs of pairs (the reference).
-/
namespace Go.Proofs.YtfjkmgjjifhdkaaGreat
open Go Go.RowKit

set_option maxRecDepth 100000 in
set_option maxHeartbeats 4000000 in
theorem pair_any (m : Mo) (A1 A2 A3 : Option Addr) (c1 c2 c3 : Nat) (a : Int) (k : Nat) (w : World) (h : MoR w m A1 A2 A3) (hok : MoOK m) (hk : k < m.cs.length) (ha : a < 65536) (hc3 : m.ps.length ≤ c3) (hm3 : c3 ≤ maxLen) :
    Calls Tryz.prog 49 #[.agg #[.slice A1 m.ws.length c1, .slice A2 m.cs.length c2, .slice A3 m.ps.length c3, .int .i64 m.back], .int .i64 a, .int .i64 k] w fun e w' => e = .returned (.int .i64 (pcost m a k)) ∧ Below w.heap.size w w' := by
  by_cases h0 : a < 0
  · exact pair_neg m A1 A2 A3 c1 c2 c3 a k w h hok hk h0
  · obtain ⟨j, rfl⟩ := Int.eq_ofNat_of_zero_le (show 0 ≤ a by omega)
    exact pair_pos m A1 A2 A3 c1 c2 c3 j k w h hok hk hc3 hm3

end Go.Proofs.YtfjkmgjjifhdkaaGreat

/-
  The walks of layer 11: Learn, any input; the reference's Learn; when two models are the same.
-/
namespace Go.Proofs.YtfjkmgjjifhdkaaGreat
open Go Go.RowKit

end Go.Proofs.YtfjkmgjjifhdkaaGreat

/-
  The walks of layer 11: when two models are the same.
-/
namespace Go.Proofs.YtfjkmgjjifhdkaaGreat
open Go Go.RowKit

instance : DecidableEq Pr := fun p q =>
  if h : p.a = q.a ∧ p.b = q.b ∧ p.n = q.n then .isTrue (by cases p; cases q; simp at h; obtain ⟨rfl, rfl, rfl⟩ := h; rfl) else .isFalse (fun e => h (by subst e; exact ⟨rfl, rfl, rfl⟩))
end Go.Proofs.YtfjkmgjjifhdkaaGreat

/-
  The walks of layer 11: the fixed examples.
-/
namespace Go.Proofs.YtfjkmgjjifhdkaaGreat
open Go Go.RowKit

theorem slr_of_blk {α : Type} {s : Nat} {enc : α → List Value} {R : World → α → List Value → Prop} {w : World} {g : Nat} {t : TypeId} {xs : List α} (h : Blk w g t (xs.flatMap enc).toArray) (hl : ∀ x, (enc x).length = s) (hR : ∀ x, R w x (enc x)) (hn : xs.length ≤ 65536) :
    SlR s R w (some ⟨g, 0, none⟩) xs := by
  have h1 := own_of_blk (base := 0) (n := xs.length) (cap := xs.length) h (Nat.zero_le _) (Nat.le_refl _) (by unfold maxLen; omega) (flatMap_len hl xs)
  rw [List.take_of_length_le (by rw [flatMap_len hl xs]; exact Nat.le_refl _)] at h1
  obtain ⟨A, cap, hv, _, _, hs⟩ := own_slr (R := R) h1 hl hR rfl
  injection hv with hv
  subst hv
  exact hs
def sanM : Mo := ⟨ab, [0, 3], [], 10⟩
def sanP : Mo := ⟨ab, [0, 3], [⟨0, 0, 3⟩, ⟨0, 1, 1⟩], 10⟩
/-- What the fixed examples keep in memory. -/
structure co_San (B : Nat) (W : World) : Prop where
  b4 : Blk W (B + 1 + 1) 56 #[.slice (some ⟨B, 0, none⟩) 2 2, .slice (some ⟨B + 1, 0, none⟩) 2 2, .slice none 0 0, .int .i64 10]
  b5 : Blk W (B + 1 + 1 + 1) 56 #[.slice (some ⟨B, 0, none⟩) 2 2, .slice (some ⟨B + 1, 0, none⟩) 2 2, .slice (some ⟨B + 1 + 1 + 1 + 1, 0, none⟩) 2 2, .int .i64 10]
  r4 : MoR W sanM (some ⟨B, 0, none⟩) (some ⟨B + 1, 0, none⟩) none
  r5 : MoR W sanP (some ⟨B, 0, none⟩) (some ⟨B + 1, 0, none⟩) (some ⟨B + 1 + 1 + 1 + 1, 0, none⟩)
theorem co_San.below {B : Nat} {W W' : World} (h : co_San B W) (hb : Below W.heap.size W W') : co_San B W' := ⟨h.b4.below hb h.b4.lt, h.b5.below hb h.b5.lt, h.r4.below hb, h.r5.below hb⟩
theorem co_San.alloc {B : Nat} {W : World} (h : co_San B W) (o : Obj) : co_San B (W.alloc o) := h.below ((Below.refl _ _).alloc (Nat.le_refl _) o)
section
variable {B : Nat} {W : World}
end

end Go.Proofs.YtfjkmgjjifhdkaaGreat

/-
  What the statements of layer 11 keep in memory: a model, in a variable of the call's own. What Learn returns, whether it refuses or not.
-/
namespace Go.Proofs.YtfjkmgjjifhdkaaGreat
open Go Go.RowKit

structure MB (m : Mo) (g : Nat) (B1 B2 B3 : Option Addr) (d1 d2 d3 : Nat) (W : World) : Prop where
  b : Blk W g 56 #[.slice B1 m.ws.length d1, .slice B2 m.cs.length d2, .slice B3 m.ps.length d3, .int .i64 m.back]
  r : MoR W m B1 B2 B3
  k : (m.ws.length ≤ d1 ∧ d1 ≤ maxLen) ∧ (m.cs.length ≤ d2 ∧ d2 ≤ maxLen) ∧ (m.ps.length ≤ d3 ∧ d3 ≤ maxLen)
section
variable {m : Mo} {g : Nat} {B1 B2 B3 : Option Addr} {d1 d2 d3 : Nat} {W W' : World}
theorem MB.below (h : MB m g B1 B2 B3 d1 d2 d3 W) (hb : Below W.heap.size W W') : MB m g B1 B2 B3 d1 d2 d3 W' := ⟨h.b.below hb h.b.lt, h.r.below hb, h.k⟩
theorem MB.alloc (h : MB m g B1 B2 B3 d1 d2 d3 W) (o : Obj) : MB m g B1 B2 B3 d1 d2 d3 (W.alloc o) := h.below ((Below.refl _ _).alloc (Nat.le_refl _) o)
end
theorem mem_le_total {l : List Int} (h : ∀ c ∈ l, 0 ≤ c) : ∀ x ∈ l, x ≤ total l := fun x hx => by
  obtain ⟨a, b, rfl⟩ := List.append_of_mem hx
  have h1 := total_nonneg (l := a) (fun x hx => h x (by simp [hx]))
  have h2 := total_nonneg (l := b) (fun x hx => h x (by simp [hx]))
  rw [total_append]
  simp only [total, List.foldr_cons] at *
  omega
theorem wcost_nonneg {m : Mo} (hok : MoOK m) (k : Nat) (hk : k < m.cs.length) : 0 ≤ wcost m k := by
  have hx := List.getElem?_eq_getElem hk
  rw [wcost_at hx]
  have h0 : ∀ c ∈ m.cs, 0 ≤ c := fun c hc => (hok.1.1.2.2.1 c hc).1
  have h1 := mem_le_total h0 _ (List.getElem_mem hk)
  have h2 : 1 ≤ m.ws.length := hok.1.1.1.1.1
  have := lg_mono (x := m.cs[k] + 1) (y := total m.cs + m.ws.length) (by omega)
  omega
end Go.Proofs.YtfjkmgjjifhdkaaGreat

/-
  CostPairs: the plain law, the walk.
-/
namespace Go.Proofs.YtfjkmgjjifhdkaaGreat
open Go Go.RowKit

theorem known_of_mem : ∀ {ps : List Pr}, incP ps = true → ∀ p ∈ ps, known ps p.a p.b = p.n
  | [], _, p, hp => by simp at hp
  | q :: l, h, p, hp => by
    rw [known_cons h]
    rcases List.mem_cons.1 hp with rfl | hp
    · rw [if_pos ⟨rfl, rfl⟩]
    · have h1 := (incP_cons.1 h).1 p hp
      rw [lessP_iff] at h1
      rw [if_neg (by omega)]
      exact known_of_mem (incP_cons.1 h).2 p hp
theorem only_sum {ps : List Pr} {i : Nat} {p : Pr} (hp : ps[i]? = some p) (h : ∀ j q, j ≠ i → ps[j]? = some q → q.a ≠ p.a) : sumAt ps p.a = p.n := by
  obtain ⟨hi, he⟩ := List.getElem?_eq_some_iff.1 hp
  have e : ps = ps.take i ++ p :: ps.drop (i + 1) := by rw [← he]; simp
  rw [e, sumAt_append, sumAt_cons, if_pos rfl, sumAt_none (fun q hq => by
    obtain ⟨j, hj, hjq⟩ := mem_take_get hq
    exact h j q (by omega) hjq), sumAt_none (fun q hq => by
    obtain ⟨j, hj, hjq⟩ := mem_drop_get hq
    exact h j q (by omega) hjq)]
  omega
theorem pcost_known {m : Mo} (hok : MoOK m) {p : Pr} (hp : p ∈ m.ps) : pcost m p.a p.b.toNat = lg (sumAt m.ps p.a) - lg p.n := by
  have hr := (hok.1.2.2.1 p hp).1
  unfold PRange at hr
  have hk : known m.ps p.a ((p.b.toNat : Nat) : Int) = p.n := by
    rw [Int.toNat_of_nonneg (by omega)]; exact known_of_mem hok.1.2.2.2 p hp
  unfold pcost
  rw [if_neg (by omega), hk, if_neg (by omega)]
theorem n_le_sum {ps : List Pr} {n : Nat} (h : ∀ p ∈ ps, PRange n p) {p : Pr} (hp : p ∈ ps) : p.n ≤ sumAt ps p.a := by
  unfold sumAt
  refine mem_le_total (fun c hc => ?_) _ (List.mem_map.2 ⟨p, List.mem_filter.2 ⟨hp, by simp⟩, rfl⟩)
  obtain ⟨q, hq, rfl⟩ := List.mem_map.1 hc
  have := (h q (List.mem_filter.1 hq).1).2.2
  omega
/-- What the inner loop over the pairs has seen: no other pair after the same word, if b is set. -/
def OnlyTo (ps : List Pr) (i : Nat) (p : Pr) (k : Nat) (b : Bool) : Prop := b = true → ∀ j q, j < k → j ≠ i → ps[j]? = some q → q.a ≠ p.a
theorem OnlyTo.skip {ps : List Pr} {i k : Nat} {p q : Pr} {b : Bool} (h : OnlyTo ps i p k b) (hq : ps[k]? = some q) (hn : k = i ∨ q.a ≠ p.a) : OnlyTo ps i p (k + 1) b := fun hb j z hj hji hz => by
  rcases Nat.lt_succ_iff_lt_or_eq.1 hj with hj | rfl
  · exact h hb j z hj hji hz
  · rw [hq] at hz; rw [← Option.some.inj hz]
    rcases hn with hn | hn
    · exact absurd hn hji
    · exact hn
theorem OnlyTo.no (ps : List Pr) (i k : Nat) (p : Pr) : OnlyTo ps i p k false := fun h => by cases h
theorem OnlyTo.all {m : Mo} {i : Nat} {p : Pr} (h : OnlyTo m.ps i p m.ps.length true) (hok : MoOK m) (hp : m.ps[i]? = some p) : pcost m p.a p.b.toNat = 0 := by
  rw [pcost_known hok (List.mem_of_getElem? hp), only_sum hp (fun j q hj hq => h rfl j q (List.getElem?_eq_some_iff.1 hq).1 hj hq)]
  omega
end Go.Proofs.YtfjkmgjjifhdkaaGreat

/-
  The plain law of layer 20: costs of words are small numbers. No program in sight; no conditions.
-/
namespace Go.Proofs.YtfjkmgjjifhdkaaGreat
open List

theorem pcost_in {m : Mo} (hok : MoOK m) (a : Int) {k : Nat} (hk : k < m.cs.length) : 0 ≤ pcost m a k ∧ pcost m a k ≤ 1512 := by
  have hw0 := wcost_nonneg hok k hk
  have hl : m.ws.length ≤ 200 := hok.1.1.1.1.2
  have hw1 := (wcost_bd m k hok.1.1.2 hk (by omega)).2
  have hb := hok.2
  unfold pcost
  split
  · omega
  · rename_i ha
    split
    · omega
    · rename_i hn
      rcases known_spec (a := a) (b := (k : Int)) hok.1.2 with ⟨i, p, hp, hpa, hpb, hkn, _⟩ | ⟨hz, _⟩
      · have hm : p ∈ m.ps := mem_of_getElem? hp
        have h1 := n_le_sum (fun q hq => (hok.1.2.2.1 q hq).1) hm
        rw [hpa] at h1
        rw [hkn]
        have h2 := lg_mono h1
        have h3 := (sumAt_ok (a := a) hok.1.2)
        have h4 := lg_bd (sumAt m.ps a) (by omega)
        have h5 := (hok.1.2.2.1 p hm).2.1
        have h6 := lg_bd p.n (by omega)
        omega
      · exact absurd hz hn
end Go.Proofs.YtfjkmgjjifhdkaaGreat

/-
  Returns of a struct that lies in a block of the call's own, beside two other values.
-/
namespace Go.Proofs.YtfjkmgjjifhdkaaGreat
open Go Go.RowKit

section
variable {P : Program} {fn : Func} {p u v : Tmp} {ty : TypeId} {R : Ending → World → Prop} {a : Act} {w : World} {g : Nat} {t : TypeId} {cs : Array Value} {d : TypeDesc}
theorem results_cell_tmp2 (h : fn.results = #[.cell p ty, .tmp u, .tmp v]) (tmps : Array Value) (P : Program) (w : World) :
    (results fn tmps).run P w = ((asAddr (tmps.getD p undef)).run P w).andThen fun a w₁ => ((loadVar ty a).run P w₁).andThen fun x w₂ => .ok (.tuple #[x, tmps.getD u undef, tmps.getD v undef]) w₂ := by
  simp only [results, h]
  simp [Sem.run_bind, Result.andThen]
theorem ret_cell_tmp2 (hB : Blk w g t cs) (h : fn.results = #[.cell p ty, .tmp u, .tmp v]) (hp : a.tmps.getD p undef = .pointer (some ⟨g, 0, none⟩))
    (hu : P.underlying ty = some d) (hd : (match d with | .struct _ | .array _ _ => true | _ => false) = true) (hi : (P.info? ty).map (·.size) = some cs.size) (hdf : a.defers = [])
    (hR : R (.returned (.tuple #[.agg cs, a.tmps.getD u undef, a.tmps.getD v undef])) w) : bodyPost P fn R .ret a w := by
  refine bodyPost_ret ?_ hdf hR
  rw [results_cell_tmp2 h]
  have h1 : (loadVar ty ⟨g, 0, none⟩).run P w = .ok (.agg cs) w := run_loadVar_row w g t ty cs (0, 0) d hB hu hd hi
  rw [hp]
  show (((asAddr (.pointer (some ⟨g, 0, none⟩))).run P w).andThen _) = _
  simp only [asAddr, Sem.run_pure, Result.andThen_ok, h1]
end
end Go.Proofs.YtfjkmgjjifhdkaaGreat
