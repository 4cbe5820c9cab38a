/-
  The plain law of layer 11, continued: the models that are made are valid, and small; so are those behind what is learnt.
-/
import Derived.Test.YtbfpcleogdalfaaCostLaw2
namespace Go.Proofs.Ytbfpcleogdalfaa
open Go Go.RowKit

/-! The order of texts. -/
theorem bl_trans : ∀ (x y z : List UInt8), Op.bytesLess x y = true → Op.bytesLess y z = true → Op.bytesLess x z = true
  | _, [], _, h, _ => by cases ‹List UInt8› <;> simp [Op.bytesLess] at h
  | [], _ :: _, [], _, h => by simp [Op.bytesLess] at h
  | [], _ :: _, _ :: _, _, _ => by simp [Op.bytesLess]
  | _ :: _, _ :: _, [], _, h => by simp [Op.bytesLess] at h
  | a :: x, b :: y, c :: z, h1, h2 => by
    simp only [Op.bytesLess, Bool.or_eq_true, Bool.and_eq_true, decide_eq_true_eq, beq_iff_eq, UInt8.lt_iff_toNat_lt] at *
    rcases h1 with h1 | ⟨rfl, h1⟩
    · rcases h2 with h2 | ⟨rfl, h2⟩
      · left; omega
      · left; exact h1
    · rcases h2 with h2 | ⟨rfl, h2⟩
      · left; exact h2
      · right; exact ⟨rfl, bl_trans x y z h1 h2⟩
theorem bl_tri : ∀ (x y : List UInt8), Op.bytesLess x y = true ∨ x = y ∨ Op.bytesLess y x = true
  | [], [] => by simp
  | [], _ :: _ => by simp [Op.bytesLess]
  | _ :: _, [] => by simp [Op.bytesLess]
  | a :: x, b :: y => by
    have ih := bl_tri x y
    simp only [Op.bytesLess, Bool.or_eq_true, Bool.and_eq_true, decide_eq_true_eq, beq_iff_eq, UInt8.lt_iff_toNat_lt, List.cons.injEq]
    rcases Nat.lt_trichotomy a.toNat b.toNat with h | h | h
    · left; left; exact h
    · have e : a = b := UInt8.toNat_inj.1 h
      subst e
      rcases ih with h | h | h
      · left; right; exact ⟨rfl, h⟩
      · right; left; exact ⟨rfl, h⟩
      · right; right; right; exact ⟨rfl, h⟩
    · right; right; left; exact h
theorem bl_irr : ∀ (x : List UInt8), Op.bytesLess x x = false
  | [] => rfl
  | a :: x => by simp [Op.bytesLess, bl_irr x]
theorem ltS_trans {x y z : ByteArray} (h1 : ltS x y = true) (h2 : ltS y z = true) : ltS x z = true := bl_trans _ _ _ h1 h2
theorem toList_inj {x y : ByteArray} (h : x.toList = y.toList) : x = y := by
  have := bytes_eqb x y
  rw [h] at this
  simpa using this.symm
theorem ltS_tri (x y : ByteArray) : ltS x y = true ∨ x = y ∨ ltS y x = true := by
  rcases bl_tri x.toList y.toList with h | h | h
  · exact .inl h
  · exact .inr (.inl (toList_inj h))
  · exact .inr (.inr h)
theorem ltS_irr (x : ByteArray) : ltS x x = false := bl_irr _

theorem incW_cons {q : ByteArray} {l : List ByteArray} : incW (q :: l) = true ↔ (∀ y ∈ l, ltS q y = true) ∧ incW l = true := by
  induction l generalizing q with
  | nil => simp [incW]
  | cons y l ih =>
    rw [incW, Bool.and_eq_true]
    constructor
    · rintro ⟨h1, h2⟩
      refine ⟨fun z hz => ?_, h2⟩
      rcases List.mem_cons.1 hz with rfl | hz
      · exact h1
      · exact ltS_trans h1 ((ih.1 h2).1 z hz)
    · rintro ⟨h1, h2⟩
      exact ⟨h1 y (by simp), h2⟩
/-- A word put into increasing words. -/
def insS (s : ByteArray) : List ByteArray → List ByteArray
  | [] => [s]
  | q :: l => if ltS s q then s :: q :: l else if s = q then q :: l else q :: insS s l
theorem insDone (s : ByteArray) : ∀ (l acc : List ByteArray), (l.foldl (insStep s) (acc, true)) = (acc ++ l, true)
  | [], acc => by simp
  | q :: l, acc => by
    have h1 : insStep s (acc, true) q = (acc ++ [q], true) := by unfold insStep; simp
    rw [List.foldl_cons, h1, insDone s l]; simp
theorem insRun (s : ByteArray) : ∀ (l acc : List ByteArray), (let st := l.foldl (insStep s) (acc, false); if st.2 then st.1 else st.1 ++ [s]) = acc ++ insS s l
  | [], acc => by simp [insS]
  | q :: l, acc => by
    rw [List.foldl_cons]
    by_cases h1 : ltS s q = true
    · have e : insStep s (acc, false) q = (acc ++ [s] ++ [q], true) := by unfold insStep; simp [h1]
      rw [e, insDone, insS, if_pos h1]; simp
    · by_cases h2 : s = q
      · have e : insStep s (acc, false) q = (acc ++ [q], true) := by subst h2; unfold insStep; simp [ltS_irr]
        rw [e, insDone, insS, if_neg h1, if_pos h2]; simp
      · have e : insStep s (acc, false) q = (acc ++ [q], false) := by unfold insStep; simp [h1, h2]
        rw [e, insRun s l, insS, if_neg h1, if_neg h2]; simp
theorem insW_eq (l : List ByteArray) (s : ByteArray) : insW l s = insS s l := by
  have := insRun s l []
  unfold insW insTo
  rw [List.take_length]
  simpa using this
theorem insS_mem {s y : ByteArray} : ∀ {l : List ByteArray}, y ∈ insS s l → y = s ∨ y ∈ l
  | [], h => .inl (by simpa [insS] using h)
  | q :: l, h => by
    rw [insS] at h
    split at h
    · simpa using h
    · split at h
      · exact .inr h
      · rcases List.mem_cons.1 h with h | h
        · exact .inr (by simp [h])
        · rcases insS_mem h with h | h
          · exact .inl h
          · exact .inr (by simp [h])
theorem insS_inc (s : ByteArray) : ∀ {l : List ByteArray}, incW l = true → incW (insS s l) = true
  | [], _ => rfl
  | q :: l, h => by
    obtain ⟨h1, h2⟩ := incW_cons.1 h
    rw [insS]
    split
    · rename_i e
      rw [incW_cons]
      refine ⟨fun y hy => ?_, h⟩
      rcases List.mem_cons.1 hy with rfl | hy
      · exact e
      · exact ltS_trans e (h1 y hy)
    · rename_i e
      split
      · exact h
      · rename_i e2
        rw [incW_cons]
        refine ⟨fun y hy => ?_, insS_inc s h2⟩
        rcases insS_mem hy with rfl | hy
        · rcases ltS_tri y q with h | h | h
          · exact absurd h e
          · exact absurd h e2
          · exact h
        · exact h1 y hy
theorem insS_len (s : ByteArray) : ∀ l : List ByteArray, (insS s l).length ≤ l.length + 1
  | [] => by simp [insS]
  | q :: l => by
    have := insS_len s l
    rw [insS]
    split
    · simp
    · split
      · simp
      · simp; omega
theorem wsTo_next (x : Raw) (k : Nat) : wsTo x (k + 1) = wsTo x k ∨ ∃ r, wsTo x (k + 1) = insS (wordOf r) (wsTo x k) := by
  by_cases hk : k < x.words.length
  · exact .inr ⟨_, by rw [wsTo_succ (List.getElem?_eq_getElem hk), insW_eq]⟩
  · left; unfold wsTo; rw [List.take_of_length_le (by omega), List.take_of_length_le (by omega)]
theorem wsTo_ok (x : Raw) : ∀ k, incW (wsTo x k) = true ∧ 2 ≤ (wsTo x k).length ∧ (wsTo x k).length ≤ k + 2
  | 0 => by
    show incW ab = true ∧ 2 ≤ ab.length ∧ ab.length ≤ 0 + 2
    decide +kernel
  | k + 1 => by
    obtain ⟨h1, h2, h3⟩ := wsTo_ok x k
    rcases wsTo_next x k with h | ⟨r, h⟩
    · rw [h]; exact ⟨h1, h2, by omega⟩
    · have hge := insW_ge (wsTo x k) (wordOf r)
      rw [insW_eq] at hge
      rw [h]
      have := insS_len (wordOf r) (wsTo x k)
      exact ⟨insS_inc _ h1, by omega, by omega⟩
/-- Counts and sums up to B, at most L pairs. -/
structure Lim (m : Mo) (B : Int) (L : Nat) : Prop where
  ok : MoOK m
  cs : total m.cs ≤ B
  ps : ∀ a, sumAt m.ps a ≤ B
  ln : m.ps.length ≤ L
theorem total_le_len {B : Int} {l : List Int} (h : ∀ x ∈ l, x ≤ B) : total l ≤ B * l.length := by
  induction l with
  | nil => simp [total]
  | cons y l ih =>
    have h1 := ih (fun x hx => h x (List.mem_cons_of_mem _ hx))
    have h2 := h y (List.mem_cons_self)
    simp only [total, List.foldr_cons, List.length_cons] at *
    have : B * ((l.length + 1 : Nat) : Int) = B * (l.length : Int) + B := by rw [Int.natCast_add, Int.mul_add]; omega
    omega
theorem csOK_of {cs : List Int} {n : Nat} (hl : cs.length = n) (h0 : ∀ c ∈ cs, 0 ≤ c) (ht : total cs ≤ 1073741824) : CsOK cs n :=
  CsTo.all (k := cs.length) ⟨fun c hc => h0 c (List.mem_of_mem_take hc), by rw [List.take_length]; exact ht⟩ (Nat.le_refl _) hl
theorem psOK_of {ps : List Pr} {n : Nat} (hl : ps.length ≤ 1000) (hr : ∀ p ∈ ps, PRange n p) (hi : incP ps = true) (hs : ∀ a, sumAt ps a ≤ 1073741824) : PsOK ps n :=
  PsTo.all (k := ps.length) ⟨fun p hp => hr p (List.mem_of_mem_take hp), (incP_iff ps).1 hi, fun a => by rw [List.take_length]; exact hs a⟩ rfl hl
theorem insP_range {n : Nat} {g : Pr} {l : List Pr} (hl : ∀ p ∈ l, PRange n p) (hg : PRange n g) : ∀ p ∈ insP g l, PRange n p := fun p hp => by
  rcases insP_mem hp with rfl | h | ⟨q, hq, h1, h2, rfl⟩
  · exact hg
  · exact hl p h
  · have := hl q hq
    unfold PRange at *
    simp only
    omega
structure PsGood (n : Nat) (B : Int) (L : Nat) (ps : List Pr) : Prop where
  rng : ∀ p ∈ ps, PRange n p
  inc : incP ps = true
  sum : ∀ a, sumAt ps a ≤ B
  len : ps.length ≤ L
theorem PsGood.ins {n : Nat} {B : Int} {L : Nat} {ps : List Pr} (h : PsGood n B L ps) {g : Pr} (hg : PRange n g) : PsGood n (B + g.n) (L + 1) (insP g ps) := by
  have h0 : 1 ≤ g.n := hg.2.2
  refine ⟨insP_range h.rng hg, insP_inc g h.inc, fun a => ?_, ?_⟩
  · rw [insP_sum]
    have := h.sum a
    split <;> omega
  · have := (insP_len g ps).2
    have := h.len
    omega
theorem PsGood.mono {n : Nat} {B B' : Int} {L L' : Nat} {ps : List Pr} (h : PsGood n B L ps) (h1 : B ≤ B') (h2 : L ≤ L') : PsGood n B' L' ps :=
  ⟨h.rng, h.inc, fun a => Int.le_trans (h.sum a) h1, Nat.le_trans h.len h2⟩
theorem psTo_good (x : Raw) (n : Nat) (hn : 0 < n) (hb : ∀ u ∈ x.uses, (0 ≤ u.1 ∧ u.1 ≤ 255) ∧ (0 ≤ u.2.1 ∧ u.2.1 ≤ 255) ∧ (0 ≤ u.2.2 ∧ u.2.2 ≤ 255)) : ∀ k : Nat, PsGood n (16 * k) k (psTo x n k)
  | 0 => ⟨by simp [psTo], rfl, by simp [psTo, sumAt, total], by simp [psTo]⟩
  | k + 1 => by
    have ih := psTo_good x n hn hb k
    by_cases hk : k < x.uses.length
    · have hu := hb x.uses[k] (List.getElem_mem hk)
      rw [psTo_succ (List.getElem?_eq_getElem hk), addP_eq _ ih.inc]
      have h1 := Int.emod_nonneg (x.uses[k].1) (show (n : Int) ≠ 0 by omega)
      have h2 := Int.emod_lt_of_pos (x.uses[k].1) (show (0 : Int) < n by omega)
      have h3 := Int.emod_nonneg (x.uses[k].2.1) (show (n : Int) ≠ 0 by omega)
      have h4 := Int.emod_lt_of_pos (x.uses[k].2.1) (show (0 : Int) < n by omega)
      have hr : PRange n (useP n x.uses[k]) := by
        unfold PRange useP
        simp only
        omega
      refine (ih.ins hr).mono ?_ (Nat.le_refl _)
      unfold useP
      simp only
      omega
    · have : psTo x n (k + 1) = psTo x n k := by unfold psTo; rw [List.take_of_length_le (by omega), List.take_of_length_le (by omega)]
      rw [this]
      exact ih.mono (by omega) (by omega)
theorem csTo_len (x : Raw) (j : Nat) : (csTo x j).length = j := by simp [csTo]
theorem csTo_rng (x : Raw) (j : Nat) (hb : ∀ c ∈ x.counts, 0 ≤ c ∧ c ≤ 255) : ∀ c ∈ csTo x j, 0 ≤ c ∧ c ≤ 255 := fun c hc => by
  unfold csTo at hc
  obtain ⟨i, _, rfl⟩ := List.mem_map.1 hc
  rw [List.getD_eq_getElem?_getD]
  cases h : x.counts[i]? with
  | none => simp
  | some y => exact hb y (List.mem_of_getElem? h)
/-- What Made makes is valid, and small. -/
theorem made_lim (x : Raw) (b2 : ∀ c ∈ x.counts, 0 ≤ c ∧ c ≤ 255) (b3 : ∀ u ∈ x.uses, (0 ≤ u.1 ∧ u.1 ≤ 255) ∧ (0 ≤ u.2.1 ∧ u.2.1 ≤ 255) ∧ (0 ≤ u.2.2 ∧ u.2.2 ≤ 255)) (bk : 0 ≤ x.back ∧ x.back ≤ 255) :
    Lim (madeM x) 2048 8 ∧ 2 ≤ (madeM x).ws.length ∧ (madeM x).ws.length ≤ 8 := by
  obtain ⟨h1, h2, h3⟩ := wsTo_ok x 6
  have hg := psTo_good x (wsTo x 6).length (by omega) b3 8
  have hc := csTo_rng x (wsTo x 6).length b2
  have ht := total_le_len (B := 255) (fun c h => (hc c h).2)
  rw [csTo_len] at ht
  have ht2 : total (csTo x (wsTo x 6).length) ≤ 2048 := by omega
  refine ⟨⟨⟨⟨⟨⟨⟨by show 1 ≤ (wsTo x 6).length; omega, by show (wsTo x 6).length ≤ 200; omega⟩, wsTo_words x 6, h1⟩, ?_⟩, ?_⟩, by show 0 ≤ x.back; omega, by show x.back ≤ 1000; omega⟩, ht2, ?_, hg.len⟩, h2, h3⟩
  · exact csOK_of (csTo_len x _) (fun c h => (hc c h).1) (show total (csTo x (wsTo x 6).length) ≤ _ by omega)
  · exact psOK_of (Nat.le_trans hg.len (by decide)) hg.rng hg.inc (fun a => Int.le_trans (hg.sum a) (by decide))
  · intro a; have := hg.sum a; show sumAt (psTo x _ 8) a ≤ 2048; omega
theorem Lim.good {m : Mo} {B : Int} {L : Nat} (h : Lim m B L) : PsGood m.ws.length B L m.ps := ⟨fun p hp => (h.ok.1.2.2.1 p hp).1, h.ok.1.2.2.2, h.ps, h.ln⟩
theorem total_set {l : List Int} {k : Nat} (v : Int) (hk : k < l.length) : total (l.set k v) = total l - l[k] + v := by
  have e : l = l.take k ++ l[k] :: l.drop (k + 1) := by simp
  have e2 : l.set k v = l.take k ++ v :: l.drop (k + 1) := by
    rw [List.set_eq_take_append_cons_drop, if_pos hk]
  have e3 : total l = total (l.take k) + (l[k] + total (l.drop (k + 1))) := by
    conv => lhs; rw [e]
    rw [total_append]; rfl
  rw [e2, e3, total_append]
  show _ + (v + total (l.drop (k + 1))) = _
  omega
/-- What is learnt leaves a valid model, as long as the numbers are small. -/
theorem next_lim {m : Mo} {B : Int} {L : Nat} (h : Lim m B L) (prev wd n : Int) (h1 : 1 ≤ n) (h2 : 0 ≤ wd) (h3 : wd < m.ws.length) (h4 : prev < m.ws.length) (hB : B + n ≤ 1073741824) (hL : L + 1 ≤ 1000) :
    Lim (nextM m prev wd n) (B + n) (L + 1) ∧ learnM m prev wd n = some (nextM m prev wd n) := by
  obtain ⟨j, rfl⟩ := Int.eq_ofNat_of_zero_le h2
  have hcl : m.cs.length = m.ws.length := h.ok.1.1.2.1
  have hj : j < m.cs.length := by omega
  have h0 := total_nonneg (fun c hc => (h.ok.1.1.2.2.1 c hc).1)
  have hcs := h.cs
  have hc0 : ∀ c ∈ m.cs, 0 ≤ c := fun c hc => (h.ok.1.1.2.2.1 c hc).1
  have ht : total (m.cs.set j (m.cs.getD j 0 + n)) = total m.cs + n := by
    rw [total_set _ hj, List.getD_eq_getElem?_getD, List.getElem?_eq_getElem hj]
    simp; omega
  have hcs' : CsOK (m.cs.set j (m.cs.getD j 0 + n)) m.ws.length := by
    refine csOK_of (by simpa using hcl) (fun c hc => ?_) (by omega)
    rcases List.mem_or_eq_of_mem_set hc with hc | hc
    · exact hc0 c hc
    · rw [hc, List.getD_eq_getElem?_getD, List.getElem?_eq_getElem hj]
      have := hc0 _ (List.getElem_mem hj)
      simp; omega
  have hps : PsGood m.ws.length (B + n) (L + 1) (nextM m prev j n).ps := by
    unfold nextM
    by_cases hp : 0 ≤ prev
    · rw [if_pos hp, countP_eq]
      exact h.good.ins (g := ⟨prev, j, n⟩) ⟨⟨hp, h4⟩, ⟨by simp, by simpa using h3⟩, h1⟩
    · rw [if_neg hp]
      exact h.good.mono (by omega) (by omega)
  have hl : Lim (nextM m prev j n) (B + n) (L + 1) := by
    refine ⟨⟨⟨⟨h.ok.1.1.1, hcs'⟩, ?_⟩, h.ok.2⟩, by unfold nextM; simp only [Int.toNat_natCast]; omega, hps.sum, hps.len⟩
    exact psOK_of (by have := hps.len; omega) hps.rng hps.inc (fun a => by have := hps.sum a; omega)
  refine ⟨hl, ?_⟩
  unfold learnM
  rw [if_pos]
  exact ⟨⟨⟨h1, by omega, by omega, h3, h4⟩, h.ok⟩, hl.ok⟩
end Go.Proofs.Ytbfpcleogdalfaa
