/-
  The chain of nodes with two links each: its ways, their number, the first ones.
-/
import Derived.Test.YtbikjmafddndpaaBeRest
namespace Go.Proofs.Ytbikjmafddndpaa
open Go Go.RowKit

/-- The links of the first k nodes. -/
def chTo : Nat → List Lk
  | 0 => []
  | k + 1 => chTo k ++ [⟨(k : Int), (k : Int) + 1, 0, 1⟩, ⟨(k : Int), (k : Int) + 1, 0, 3⟩]
theorem chTo_len : ∀ k, (chTo k).length = 2 * k
  | 0 => rfl
  | k + 1 => by
    have := chTo_len k
    unfold chTo
    rw [List.length_append]
    simp
    omega
def chC (b : Bool) : Int := if b then 3 else 1
theorem chTo_get : ∀ (k i : Nat), i < k → ∀ b : Bool, (chTo k)[2 * i + b.toNat]? = some ⟨(i : Int), (i : Int) + 1, 0, chC b⟩
  | 0, _, h, _ => absurd h (Nat.not_lt_zero _)
  | k + 1, i, h, b => by
    have hl := chTo_len k
    have hb : b.toNat ≤ 1 := by cases b <;> decide
    unfold chTo
    by_cases hi : i < k
    · rw [List.getElem?_append_left (by omega)]
      exact chTo_get k i hi b
    · obtain rfl : i = k := by omega
      rw [List.getElem?_append_right (by omega), hl, show 2 * i + b.toNat - 2 * i = b.toNat by omega]
      cases b <;> rfl
theorem chTo_ok : ∀ (k : Nat) (l : Lk), l ∈ chTo k → ∃ i : Nat, i < k ∧ l.fr = (i : Int) ∧ l.to = (i : Int) + 1 ∧ l.lb = 0 ∧ (l.cost = 1 ∨ l.cost = 3)
  | 0, l, h => by cases h
  | k + 1, l, h => by
    unfold chTo at h
    rcases List.mem_append.1 h with h | h
    · obtain ⟨i, h1, h2⟩ := chTo_ok k l h
      exact ⟨i, by omega, h2⟩
    · simp at h
      rcases h with rfl | rfl
      · exact ⟨k, by omega, rfl, rfl, rfl, .inl rfl⟩
      · exact ⟨k, by omega, rfl, rfl, rfl, .inr rfl⟩
def chG (n : Nat) : Gr := ⟨(n : Int), chTo (n - 1)⟩
theorem chG_ok {n : Nat} (h : 1 ≤ n ∧ n ≤ 40) : GrOK (chG n) := by
  refine ⟨by show 1 ≤ (n : Int) ∧ (n : Int) ≤ 2000; omega, by show (chTo (n - 1)).length ≤ 20000; rw [chTo_len]; omega, fun l hl => ?_⟩
  obtain ⟨i, h1, h2, h3, h4, h5⟩ := chTo_ok _ l hl
  exact ⟨by omega, by omega, by show l.to < (n : Int); omega, by omega, by omega⟩
theorem chG_at {n i : Nat} (h : i < n - 1) (b : Bool) : lkAt (chG n) ((2 * i + b.toNat : Nat) : Int) = ⟨(i : Int), (i : Int) + 1, 0, chC b⟩ := lkAt_nat (chTo_get _ i h b)
/-- The way that takes the dear link where b says so. -/
def wayOf : Nat → List Bool → List Int
  | _, [] => []
  | v, b :: r => ((2 * v + b.toNat : Nat) : Int) :: wayOf (v + 1) r
theorem wayOf_way {n : Nat} : ∀ (bs : List Bool) (v : Nat), v + bs.length = n - 1 → 1 ≤ n → wayB (chG n) (v : Int) (wayOf v bs) = true
  | [], v, h, h1 => by
    show decide ((v : Int) = (n : Int) - 1) = true
    rw [decide_eq_true_iff]
    simp at h
    omega
  | b :: r, v, h, h1 => by
    rw [List.length_cons] at h
    have hb : b.toNat ≤ 1 := by cases b <;> decide
    show wayB (chG n) (v : Int) (((2 * v + b.toNat : Nat) : Int) :: wayOf (v + 1) r) = true
    rw [wayB_cons, Bool.and_eq_true, decide_eq_true_iff, chG_at (by omega)]
    refine ⟨⟨by omega, ?_, rfl⟩, ?_⟩
    · show ((2 * v + b.toNat : Nat) : Int) < ((chTo (n - 1)).length : Int)
      rw [chTo_len]
      omega
    · have := wayOf_way r (v + 1) (by omega) h1
      exact this
theorem way_wayOf {n : Nat} (hn : 1 ≤ n) : ∀ (w : List Int) (v : Nat), wayB (chG n) (v : Int) w = true → ∃ bs, w = wayOf v bs ∧ v + bs.length = n - 1
  | [], v, h => by
    have h : decide ((v : Int) = (n : Int) - 1) = true := h
    rw [decide_eq_true_iff] at h
    exact ⟨[], rfl, by simp; omega⟩
  | x :: r, v, h => by
    rw [wayB_cons, Bool.and_eq_true, decide_eq_true_iff] at h
    obtain ⟨⟨h0, h1, h2⟩, h3⟩ := h
    have h1 : x < ((chTo (n - 1)).length : Int) := h1
    rw [chTo_len] at h1
    obtain ⟨i, b, hx, hi⟩ : ∃ (i : Nat) (b : Bool), x = ((2 * i + b.toNat : Nat) : Int) ∧ i < n - 1 := by
      by_cases hp : x.toNat % 2 = 0
      · exact ⟨x.toNat / 2, false, by show x = ((2 * (x.toNat / 2) + 0 : Nat) : Int); omega, by omega⟩
      · exact ⟨x.toNat / 2, true, by show x = ((2 * (x.toNat / 2) + 1 : Nat) : Int); omega, by omega⟩
    subst hx
    rw [chG_at hi] at h2 h3
    have h2 : (i : Int) = (v : Int) := h2
    obtain rfl : i = v := by omega
    obtain ⟨bs, rfl, hl⟩ := way_wayOf hn r (i + 1) h3
    exact ⟨b :: bs, rfl, by rw [List.length_cons]; omega⟩
theorem wayOf_inj : ∀ (a b : List Bool) (v : Nat), wayOf v a = wayOf v b → a = b
  | [], [], _, _ => rfl
  | [], _ :: _, _, h => by simp [wayOf] at h
  | _ :: _, [], _, h => by simp [wayOf] at h
  | x :: a, y :: b, v, h => by
    simp only [wayOf, List.cons.injEq] at h
    obtain ⟨h1, h2⟩ := h
    rw [wayOf_inj a b _ h2]
    congr 1
    cases x <;> cases y <;> first | rfl | (exfalso; simp at h1; omega)
/-- How many dear links. -/
def dear : List Bool → Nat
  | [] => 0
  | b :: r => b.toNat + dear r
theorem wayOf_sum {n : Nat} : ∀ (bs : List Bool) (v : Nat), v + bs.length ≤ n - 1 → sumC (chG n) (wayOf v bs) = (bs.length : Int) + 2 * (dear bs : Int)
  | [], _, _ => rfl
  | b :: r, v, h => by
    rw [List.length_cons] at h
    show sumC (chG n) (((2 * v + b.toNat : Nat) : Int) :: wayOf (v + 1) r) = _
    rw [sumC_cons, wayOf_sum r (v + 1) (by omega), chG_at (by omega), List.length_cons]
    rw [show dear (b :: r) = b.toNat + dear r from rfl]
    cases b
    · show (1 : Int) + _ = _
      simp
      omega
    · show (3 : Int) + _ = _
      simp
      omega
theorem dear_zero : ∀ (bs : List Bool), dear bs = 0 → bs = List.replicate bs.length false
  | [], _ => rfl
  | b :: r, h => by
    unfold dear at h
    cases b with
    | true => simp at h
    | false =>
      rw [List.length_cons, List.replicate_succ, ← dear_zero r (by simpa using h)]
theorem dear_rep : ∀ k, dear (List.replicate k false) = 0
  | 0 => rfl
  | k + 1 => by rw [List.replicate_succ]; unfold dear; simp [dear_rep k]
/-- The way whose only dear link is the j-th. -/
def oneB (m j : Nat) : List Bool := List.replicate j false ++ true :: List.replicate (m - 1 - j) false
theorem oneB_len {m j : Nat} (h : j < m) : (oneB m j).length = m := by unfold oneB; simp; omega
theorem dear_app : ∀ (a b : List Bool), dear (a ++ b) = dear a + dear b
  | [], b => by simp [dear]
  | x :: a, b => by show x.toNat + dear (a ++ b) = x.toNat + dear a + dear b; rw [dear_app a b]; omega
theorem oneB_dear {m j : Nat} : dear (oneB m j) = 1 := by
  unfold oneB
  rw [dear_app, dear_rep]
  unfold dear
  rw [dear_rep]
  rfl
theorem oneB_ne {m i j : Nat} (h : i < j) : oneB m i ≠ oneB m j := fun e => by
  have h1 : (oneB m i)[i]? = some true := by unfold oneB; rw [List.getElem?_append_right (by simp)]; simp
  have h2 : (oneB m j)[i]? = some false := by unfold oneB; rw [List.getElem?_append_left (by simpa using h), List.getElem?_replicate, if_pos h]
  rw [e, h2] at h1
  cases h1
section
variable {n : Nat} (hn : 1 ≤ n)
include hn
theorem ch_can {c : Can} (h : IsCan (chG n) c) : ∃ bs : List Bool, bs.length = n - 1 ∧ c = ⟨wayOf 0 bs, ((n - 1 : Nat) : Int) + 2 * (dear bs : Int)⟩ := by
  obtain ⟨h1, h2⟩ := h
  obtain ⟨bs, h3, h4⟩ := way_wayOf hn c.links 0 h1
  refine ⟨bs, by omega, ?_⟩
  have h5 := wayOf_sum (n := n) bs 0 (by omega)
  rw [h3, h5] at h2
  cases c
  simp only at h2 h3
  rw [h2, h3]
  congr 2
  omega
theorem can_ch {bs : List Bool} (h : bs.length = n - 1) : IsCan (chG n) ⟨wayOf 0 bs, ((n - 1 : Nat) : Int) + 2 * (dear bs : Int)⟩ :=
  ⟨wayOf_way bs 0 (by omega) hn, by show _ = sumC _ _; rw [wayOf_sum bs 0 (by omega), h]⟩
def firstC (n : Nat) : Can := ⟨wayOf 0 (List.replicate (n - 1) false), ((n - 1 : Nat) : Int) + 2 * ((dear (List.replicate (n - 1) false) : Nat) : Int)⟩
omit hn in
theorem firstC_cost : (firstC n).cost = ((n - 1 : Nat) : Int) := by unfold firstC; rw [dear_rep]; simp
theorem firstC_can : IsCan (chG n) (firstC n) := can_ch hn (by simp)
theorem ch_cheap {c : Can} (h : IsCan (chG n) c) (hc : c.cost ≤ ((n - 1 : Nat) : Int)) : c = firstC n := by
  obtain ⟨bs, h1, rfl⟩ := ch_can hn h
  have hc : ((n - 1 : Nat) : Int) + 2 * (dear bs : Int) ≤ ((n - 1 : Nat) : Int) := hc
  have := dear_zero bs (by omega)
  rw [h1] at this
  rw [this]
  rfl
theorem ch_first {k : Nat} {L : List Can} (hL : IsList (chG n) k L) {y : Can} (hy : L[0]? = some y) : y = firstC n := by
  have hm := List.mem_of_getElem? hy
  refine ch_cheap hn (hL.can y hm) ?_
  by_cases hf : firstC n ∈ L
  · obtain ⟨p, hp, he⟩ := List.getElem_of_mem hf
    obtain ⟨h0, hy0⟩ := List.getElem?_eq_some_iff.1 hy
    rcases Nat.eq_zero_or_pos p with rfl | h0p
    · rw [← hy0, he, firstC_cost]; exact Int.le_refl _
    · have := canLt_iff.1 (List.pairwise_iff_getElem.1 hL.sorted 0 p h0 hp h0p)
      rw [hy0, he, firstC_cost] at this
      omega
  · have := canLt_iff.1 ((hL.rest _ (firstC_can hn) hf).2 y hm)
    rw [firstC_cost] at this
    omega
theorem ch_some {k : Nat} (hk : 0 < k) {L : List Can} (hL : IsList (chG n) k L) : 0 < L.length := by
  refine Nat.pos_of_ne_zero fun h => ?_
  have hf : firstC n ∉ L := by rw [List.length_eq_zero_iff.1 h]; simp
  have := (hL.rest _ (firstC_can hn) hf).1
  omega
theorem ch_next {k : Nat} {L : List Can} (hL : IsList (chG n) k L) {i : Nat} {y : Can} (h0 : 0 < i) (hi : i < n) (hy : L[i]? = some y) : y.cost = (n : Int) + 1 := by
  obtain ⟨hil, hyi⟩ := List.getElem?_eq_some_iff.1 hy
  have hm := List.mem_of_getElem? hy
  have hyc := hL.can y hm
  have hx : L[0]? = some L[0] := List.getElem?_eq_getElem (by omega)
  have hx0 := ch_first hn hL hx
  have hlt := List.pairwise_iff_getElem.1 hL.sorted 0 i (by omega) hil h0
  rw [hx0, hyi] at hlt
  have hlow : ¬ y.cost ≤ ((n - 1 : Nat) : Int) := fun h => by
    rw [ch_cheap hn hyc h, canLt_irrefl] at hlt
    cases hlt
  obtain ⟨bs, hbl, hye⟩ := ch_can hn hyc
  have hyk : y.cost = ((n - 1 : Nat) : Int) + 2 * (dear bs : Int) := by rw [hye]
  refine Classical.byContradiction fun hne => ?_
  have hup : (n : Int) + 1 < y.cost := by omega
  obtain ⟨T, hT⟩ : ∃ T, firstC n :: (List.range (n - 1)).map (fun j => (⟨wayOf 0 (oneB (n - 1) j), ((n - 1 : Nat) : Int) + 2 * (dear (oneB (n - 1) j) : Int)⟩ : Can)) = T := ⟨_, rfl⟩
  have hTl : T.length = n := by rw [← hT]; simp; omega
  have hTc : ∀ t ∈ T, IsCan (chG n) t ∧ t.cost ≤ (n : Int) + 1 := by
    rw [← hT]
    intro t ht
    rcases List.mem_cons.1 ht with rfl | ht
    · exact ⟨firstC_can hn, by rw [firstC_cost]; omega⟩
    · obtain ⟨j, hj, rfl⟩ := List.mem_map.1 ht
      rw [List.mem_range] at hj
      exact ⟨can_ch hn (oneB_len hj), by show _ + 2 * (dear (oneB (n - 1) j) : Int) ≤ _; rw [oneB_dear]; omega⟩
  have hTn : T.Nodup := by
    rw [← hT]
    refine List.nodup_cons.2 ⟨fun h => ?_, ?_⟩
    · obtain ⟨j, hj, he⟩ := List.mem_map.1 h
      have := congrArg Can.cost he
      rw [firstC_cost] at this
      simp only [oneB_dear] at this
      omega
    · unfold List.Nodup
      rw [List.pairwise_map]
      refine (List.pairwise_lt_range (n := n - 1)).imp fun {a b} hab he => ?_
      have := congrArg Can.links he
      exact oneB_ne hab (wayOf_inj _ _ _ this)
  have hin : ∀ t ∈ T, t ∈ L.take i := fun t ht => by
    obtain ⟨h1, h2⟩ := hTc t ht
    have hty : canLt t y = true := canLt_iff.2 (.inl (by omega))
    have htL : t ∈ L := Classical.byContradiction fun hno => by
      have h3 := (hL.rest t h1 hno).2 y hm
      rw [canLt_asymm hty] at h3
      cases h3
    obtain ⟨p, hp, he⟩ := List.getElem_of_mem htL
    rcases Nat.lt_trichotomy p i with h3 | rfl | h3
    · rw [← he, List.mem_take_iff_getElem]
      exact ⟨p, by omega, rfl⟩
    · rw [hyi] at he
      subst he
      rw [canLt_irrefl] at hty
      cases hty
    · have h4 := List.pairwise_iff_getElem.1 hL.sorted i p hil hp h3
      rw [hyi, he, canLt_asymm hty] at h4
      cases h4
  have hs : ((L.take i).filter (fun x => decide (x ∈ T))).Perm T := (List.perm_ext_iff_of_nodup ((hL.sorted.nodup.sublist (List.take_sublist _ _)).filter _) hTn).2 fun d => by
    rw [List.mem_filter, decide_eq_true_iff]
    exact ⟨fun h => h.2, fun h => ⟨hin d h, h⟩⟩
  have h3 := hs.length_eq
  have h4 := List.length_filter_le (fun x => decide (x ∈ T)) (L.take i)
  rw [List.length_take] at h4
  omega
end
theorem ch_filter : ∀ (k v : Nat), v < k → (chTo k).filter (fun l => decide (l.fr = (v : Int))) = [⟨(v : Int), (v : Int) + 1, 0, 1⟩, ⟨(v : Int), (v : Int) + 1, 0, 3⟩]
  | 0, _, h => absurd h (Nat.not_lt_zero _)
  | k + 1, v, h => by
    show (chTo k ++ [Lk.mk (k : Int) ((k : Int) + 1) 0 1, Lk.mk (k : Int) ((k : Int) + 1) 0 3]).filter (fun l => decide (l.fr = (v : Int))) = _
    rw [List.filter_append]
    by_cases hv : v < k
    · rw [ch_filter k v hv]
      have : ¬ (k : Int) = (v : Int) := by omega
      simp [this]
    · obtain rfl : v = k := by omega
      have : (chTo v).filter (fun l => decide (l.fr = (v : Int))) = [] := by
        rw [List.filter_eq_nil_iff]
        intro l hl
        obtain ⟨i, h1, h2, _⟩ := chTo_ok v l hl
        simp
        omega
      rw [this]
      simp
theorem ch_nW {n : Nat} (h : 1 ≤ n ∧ n ≤ 40) : ∀ d v : Nat, v + d + 1 = n → nW (chG n) (v : Int) = 2 ^ d
  | 0, v, hv => by
    have := nW_last (chG_ok h)
    rw [show (chG n).n - 1 = (v : Int) by show (n : Int) - 1 = _; omega] at this
    exact this
  | d + 1, v, hv => by
    rw [nW_step (chG_ok h) (by omega) (by show (v : Int) < (n : Int) - 1; omega), lv_sum]
    have := ch_filter (n - 1) v (by omega)
    rw [show (chG n).ls = chTo (n - 1) from rfl, this]
    have ih := ch_nW h d (v + 1) (by omega)
    simp only [List.map_cons, List.map_nil, List.sum_cons, List.sum_nil]
    rw [show ((v : Int) + 1) = ((v + 1 : Nat) : Int) by omega, ih, Nat.pow_succ]
    omega
theorem ch_num {n : Nat} (h : 1 ≤ n ∧ n ≤ 40) : numOf (chG n) = min (((2 ^ (n - 1) : Nat)) : Int) 1000000000 := by
  unfold numOf
  rw [if_pos (grB_iff.2 (chG_ok h)), numM_eq (chG_ok h)]
  have := ch_nW h (n - 1) 0 (by omega)
  rw [show (0 : Int) = ((0 : Nat) : Int) from rfl, this]
  rfl
end Go.Proofs.Ytbikjmafddndpaa
