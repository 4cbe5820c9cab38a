/-
  The plain law of layer 15: the order of groups agrees with that of their first ways; List's loop gives the first candidates.
-/
import Derived.Test.YtfjkmgjjifhdkaaZ06
namespace Go.Proofs.Ytfjkmgjjifhdkaa
open List

def placeM (G : Gp) (n : Nat) : Int := if n < G.head.length then G.head.getD n 0 else G.link
def earlierM (a b : Gp) : Bool := if a.cost ≠ b.cost then decide (a.cost < b.cost) else
  if a.head.take (min a.head.length b.head.length) ≠ b.head.take (min a.head.length b.head.length) then lexLt (a.head.take (min a.head.length b.head.length)) (b.head.take (min a.head.length b.head.length))
  else decide (placeM a (min a.head.length b.head.length) < placeM b (min a.head.length b.head.length))
theorem lex_app2 {a b r : List Int} (h1 : ¬ ∃ t, b = a ++ t) (h2 : ¬ ∃ t, a = b ++ t) : lexLt a (b ++ r) = lexLt a b := by
  rcases lex_total a b with h | h | h
  · rw [h]
    have := lex_app b a r h2 h1
    rcases lex_total a (b ++ r) with h3 | h3 | h3
    · exact h3
    · exact absurd ⟨r, h3⟩ h2
    · rw [this, lex_asymm h] at h3; cases h3
  · exact absurd ⟨[], by rw [h]; simp⟩ h1
  · rw [lex_asymm h]
    have := lex_app b a r h2 h1
    rw [h] at this
    exact lex_asymm this
theorem lex_heads : ∀ (x y : List Int) (p q : Int), (¬ ∃ t, y ++ [q] = x ++ p :: t) → (¬ ∃ t, x ++ [p] = y ++ q :: t) →
    lexLt (x ++ [p]) (y ++ [q]) = (if x.take (min x.length y.length) ≠ y.take (min x.length y.length) then lexLt (x.take (min x.length y.length)) (y.take (min x.length y.length))
      else decide ((if min x.length y.length < x.length then x.getD (min x.length y.length) 0 else p) < (if min x.length y.length < y.length then y.getD (min x.length y.length) 0 else q)))
  | [], [], p, q, h1, h2 => by
    have hne : p ≠ q := fun e => h1 ⟨[], by rw [e]⟩
    simp only [length_nil, Nat.min_self, take_nil, nil_append, Nat.lt_irrefl, if_false, ne_eq, not_true_eq_false]
    unfold lexLt
    by_cases h : p < q
    · simp [h]
    · rw [if_neg h, if_pos (by omega)]; simp [h]
  | [], b :: y, p, q, h1, h2 => by
    have hne : p ≠ b := fun e => h1 ⟨y ++ [q], by rw [e]; rfl⟩
    simp only [length_nil, length_cons, Nat.zero_min, take_zero, Nat.lt_irrefl, if_false, ne_eq, not_true_eq_false, nil_append, cons_append, getD_cons_zero, Nat.zero_lt_succ, if_true]
    unfold lexLt
    by_cases h : p < b
    · simp [h]
    · rw [if_neg h, if_pos (by omega)]; simp [h]
  | a :: x, [], p, q, h1, h2 => by
    have hne : a ≠ q := fun e => h2 ⟨x ++ [p], by rw [e]; rfl⟩
    simp only [length_nil, length_cons, Nat.min_zero, take_zero, Nat.lt_irrefl, if_false, ne_eq, not_true_eq_false, nil_append, cons_append, getD_cons_zero, Nat.zero_lt_succ, if_true]
    unfold lexLt
    by_cases h : a < q
    · simp [h]
    · rw [if_neg h, if_pos (by omega)]; simp [h]
  | a :: x, b :: y, p, q, h1, h2 => by
    have hm : min (a :: x).length (b :: y).length = min x.length y.length + 1 := by rw [length_cons, length_cons]; omega
    rw [hm, take_succ_cons, take_succ_cons, cons_append, cons_append]
    conv => lhs; unfold lexLt
    by_cases h3 : a < b
    · rw [if_pos h3, if_pos (by intro e; injection e with e _; omega)]
      unfold lexLt; rw [if_pos h3]
    · rw [if_neg h3]
      by_cases h4 : b < a
      · rw [if_pos h4, if_pos (by intro e; injection e with e _; omega)]
        unfold lexLt; rw [if_neg h3, if_pos h4]
      · have : a = b := by omega
        subst this
        rw [if_neg h4, lex_heads x y p q (fun ⟨t, e⟩ => h1 ⟨t, by rw [cons_append, cons_append, e]⟩) (fun ⟨t, e⟩ => h2 ⟨t, by rw [cons_append, cons_append, e]⟩)]
        simp only [getD_cons_succ, length_cons, Nat.add_lt_add_iff_right]
        by_cases h5 : x.take (min x.length y.length) ≠ y.take (min x.length y.length)
        · rw [if_pos h5, if_pos (by intro e; injection e with _ e; exact h5 e)]
          conv => rhs; unfold lexLt
          rw [if_neg h3, if_neg h3]
        · have h6 := Classical.not_not.1 h5
          rw [if_neg h5, h6]; simp
/-- Groups without a way in common: the order tells their first ways apart. -/
theorem earlier_eq {g : Gr} (hg : GrOK g) {a b : Gp} (ha : GOK g a) (hb : GOK g b) (hd : ∀ w, InH g a.head a.rank w → ¬ InH g b.head b.rank w) : earlierM a b = canLt (fc g a) (fc g b) := by
  have key : ∀ {a b : Gp}, GOK g a → GOK g b → (∀ w, InH g a.head a.rank w → ¬ InH g b.head b.rank w) → ¬ ∃ t, b.head ++ [b.link] = a.head ++ a.link :: t := by
    intro a b ha hb hd ⟨t, e⟩
    have hw := first_way hg hb.path hb.first
    refine hd _ ⟨a.link :: (t ++ bw g (lkAt g b.link).to), ?_, hw.1, ?_⟩ hw.2
    · rw [show b.head ++ b.link :: bw g (lkAt g b.link).to = (b.head ++ [b.link]) ++ bw g (lkAt g b.link).to by simp, e]; simp
    · intro i t' he
      injection he with he _
      rw [← he]
      exact mem_drop_of ha.link
  have k1 := key ha hb hd
  have k2 := key hb ha (fun w h1 h2 => hd w h2 h1)
  have hl : lexLt (fw g a) (fw g b) = lexLt (a.head ++ [a.link]) (b.head ++ [b.link]) := by
    have e1 : fw g a = (a.head ++ [a.link]) ++ bw g (lkAt g a.link).to := by unfold fw; simp
    have e2 : fw g b = (b.head ++ [b.link]) ++ bw g (lkAt g b.link).to := by unfold fw; simp
    have q1 : ¬ ∃ t, b.head ++ [b.link] = (a.head ++ [a.link]) ++ t := fun ⟨t, e⟩ => k1 ⟨t, by rw [e]; simp⟩
    have q2 : ¬ ∃ t, a.head ++ [a.link] = (b.head ++ [b.link]) ++ t := fun ⟨t, e⟩ => k2 ⟨t, by rw [e]; simp⟩
    have hne : ¬ ∃ t, fw g b = (a.head ++ [a.link]) ++ t := by
      rintro ⟨t, e⟩
      have hwb := first_way hg hb.path hb.first
      refine hd (fw g b) ⟨a.link :: t, by rw [e]; simp, hwb.1, fun i t' he => ?_⟩ hwb.2
      injection he with he _
      rw [← he]
      exact mem_drop_of ha.link
    have hne2 : ¬ ∃ t, a.head ++ [a.link] = fw g b ++ t := by
      rintro ⟨t, e⟩
      exact q2 ⟨bw g (lkAt g b.link).to ++ t, by rw [e, e2]; simp⟩
    rw [e1, lex_app _ _ _ hne hne2, e2, lex_app2 q1 q2]
  unfold earlierM
  rw [show canLt (fc g a) (fc g b) = (decide (a.cost < b.cost) || (decide (a.cost = b.cost) && lexLt (fw g a) (fw g b))) from rfl, hl, lex_heads _ _ _ _ k1 k2]
  by_cases h : a.cost ≠ b.cost
  · rw [if_pos h]
    have : decide (a.cost = b.cost) = false := decide_eq_false h
    rw [this]
    simp
  · rw [if_neg h]
    have h := Classical.not_not.1 h
    rw [h]
    simp only [Int.lt_irrefl, decide_false, decide_true, Bool.false_or, Bool.true_and]
    rfl
theorem part_ag {g : Gr} (hg : GrOK g) {Gs : List Gp} {S : List Int → Prop} (h : Part g Gs S) : Ag (fc g) earlierM Gs := by
  unfold Ag
  rw [pairwise_iff_getElem]
  intro i j hi hj hij
  have hd := pairwise_iff_getElem.1 h.apart i j hi hj hij
  exact ⟨earlier_eq hg (h.ok _ (getElem_mem hi)) (h.ok _ (getElem_mem hj)) hd, earlier_eq hg (h.ok _ (getElem_mem hj)) (h.ok _ (getElem_mem hi)) (fun w h1 h2 => hd w h2 h1)⟩
/-- What a list of the first k candidates is. -/
structure IsList (g : Gr) (k : Nat) (L : List Can) : Prop where
  sorted : Sorted L
  can : ∀ c ∈ L, IsCan g c
  len : L.length ≤ k
  rest : ∀ c, IsCan g c → c ∉ L → L.length = k ∧ ∀ d ∈ L, canLt d c = true
theorem isList_zero (g : Gr) : IsList g 0 [] := ⟨Pairwise.nil, (fun _ h => (not_mem_nil h).elim), Nat.le_refl _, fun _ _ _ => ⟨rfl, fun _ h => (not_mem_nil h).elim⟩⟩
theorem isList_none {g : Gr} (hg : GrOK g) (k : Nat) (h : hAt g 0 < 0) : IsList g k [] := by
  have hn := hg.n
  exact ⟨Pairwise.nil, (fun _ h => (not_mem_nil h).elim), Nat.zero_le _, fun c hc _ => by have := way_h hg _ 0 (by omega) (by omega) hc.1; omega⟩
/-- The state at the head of List's loop: the candidates so far; the group whose first way comes next; the heap. -/
structure LInv (g : Gr) (L : List Can) (hd t : List Int) (r : Nat) (c : Int) (H : List Gp) : Prop where
  path : pathB g 0 hd = true
  first : FirstT g (endP g 0 hd) r t
  cost : c = sumC g (hd ++ t)
  part : Part g H (fun w => wayB g 0 w = true ∧ (⟨w, sumC g w⟩ : Can) ∉ L ∧ ¬ InH g hd r w)
  new : ∀ w, InH g hd r w → (⟨w, sumC g w⟩ : Can) ∉ L
  heap : HeapO (fc g) H
  sorted : Sorted L
  can : ∀ d ∈ L, IsCan g d
  ahead : ∀ d ∈ L, canLt d ⟨hd ++ t, c⟩ = true
  behind : ∀ G ∈ H, canLt ⟨hd ++ t, c⟩ (fc g G) = true
theorem linv_start {g : Gr} (hg : GrOK g) (h : 0 ≤ hAt g 0) : LInv g [] [] (bw g 0) 0 (hAt g 0) [] := by
  have hn := hg.n
  have hb := bw_way hg (v := 0) (by omega) (by omega) h
  refine ⟨rfl, first_next hg (v := 0) (by omega) (by omega) h, by rw [nil_append]; exact hb.2.symm, ⟨(fun _ h => (not_mem_nil h).elim), fun w => ⟨?_, fun ⟨_, h, _⟩ => (not_mem_nil h).elim⟩, Pairwise.nil⟩, fun _ _ h => (not_mem_nil h).elim,
    fun j _ hj => by simp at hj, Pairwise.nil, (fun _ h => (not_mem_nil h).elim), (fun _ h => (not_mem_nil h).elim), (fun _ h => (not_mem_nil h).elim)⟩
  rintro ⟨hw, _, hnot⟩
  exfalso
  exact hnot ⟨w, rfl, hw, fun i t' he => by subst he; exact (way_frL hg (v := 0) (by omega) (by omega) hw).1⟩
def pushAll (H : List Gp) (Gs : List Gp) : List Gp := Gs.foldl (pushM earlierM) H
theorem pushAll_spec {g : Gr} (hg : GrOK g) : ∀ (Gs H : List Gp) (S : List Int → Prop), HeapO (fc g) H → Part g (H ++ Gs) S → HeapO (fc g) (pushAll H Gs) ∧ pushAll H Gs ~ H ++ Gs := by
  intro Gs
  induction Gs with
  | nil => intro H S hH _; rw [append_nil]; exact ⟨hH, Perm.refl _⟩
  | cons G Gs ih =>
    intro H S hH hP
    have e : H ++ G :: Gs = (H ++ [G]) ++ Gs := by simp
    have hag : Ag (fc g) earlierM (H ++ [G]) := by
      have := part_ag hg hP
      rw [e] at this
      exact (pairwise_append.1 this).1
    obtain ⟨h1, h2⟩ := push_spec hH hag
    have hp2 : pushM earlierM H G ++ Gs ~ H ++ G :: Gs := by rw [e]; exact h2.append_right Gs
    obtain ⟨h3, h4⟩ := ih (pushM earlierM H G) S h1 (hP.perm hp2)
    exact ⟨h3, h4.trans hp2⟩
theorem LInv.way {g : Gr} (hg : GrOK g) {L : List Can} {hd t : List Int} {r : Nat} {c : Int} {H : List Gp} (h : LInv g L hd t r c H) : IsCan g ⟨hd ++ t, c⟩ := ⟨(first_way hg h.path h.first).1, h.cost⟩
theorem LInv.snoc {g : Gr} (hg : GrOK g) {L : List Can} {hd t : List Int} {r : Nat} {c : Int} {H : List Gp} (h : LInv g L hd t r c H) : Sorted (L ++ [⟨hd ++ t, c⟩]) ∧ (∀ d ∈ L ++ [⟨hd ++ t, c⟩], IsCan g d) :=
  ⟨pairwise_append.2 ⟨h.sorted, pairwise_singleton _ _, fun a ha b hb => by rw [mem_singleton.1 hb]; exact h.ahead a ha⟩, fun d hd => (mem_append.1 hd).elim (h.can d) (fun hd => by rw [mem_singleton.1 hd]; exact h.way hg)⟩
theorem LInv.after {g : Gr} (hg : GrOK g) {L : List Can} {hd t : List Int} {r : Nat} {c : Int} {H : List Gp} (h : LInv g L hd t r c H) {w : List Int} (hw : wayB g 0 w = true) (hn : (⟨w, sumC g w⟩ : Can) ∉ L ++ [⟨hd ++ t, c⟩]) : canLt ⟨hd ++ t, c⟩ ⟨w, sumC g w⟩ = true := by
  rw [mem_append, not_or] at hn
  by_cases hi : InH g hd r w
  · rcases first_least hg h.path h.first hi with rfl | h1
    · exact absurd (mem_singleton.2 (by rw [h.cost])) hn.2
    · rw [h.cost]; exact h1
  · obtain ⟨G, hG, hGw⟩ := (h.part.iff w).1 ⟨hw, hn.1, hi⟩
    have hok := h.part.ok G hG
    have h1 := h.behind G hG
    rcases first_least hg hok.path hok.first hGw with h2 | h2
    · have e : (⟨w, sumC g w⟩ : Can) = fc g G := by
        have h3 : w = fw g G := h2
        rw [h3, hok.sum hg]
        rfl
      rw [e]; exact h1
    · have e : (⟨G.head ++ G.link :: bw g (lkAt g G.link).to, sumC g (G.head ++ G.link :: bw g (lkAt g G.link).to)⟩ : Can) = fc g G := by
        have h3 : sumC g (G.head ++ G.link :: bw g (lkAt g G.link).to) = G.cost := hok.sum hg
        rw [h3]
        rfl
      rw [e] at h2
      exact canLt_trans h1 h2
theorem LInv.full {g : Gr} (hg : GrOK g) {L : List Can} {hd t : List Int} {r : Nat} {c : Int} {H : List Gp} (h : LInv g L hd t r c H) : IsList g (L.length + 1) (L ++ [⟨hd ++ t, c⟩]) := by
  obtain ⟨h1, h2⟩ := h.snoc hg
  refine ⟨h1, h2, by simp, fun d hc hn => ⟨by simp, fun e he => ?_⟩⟩
  obtain ⟨dl, dc⟩ := d
  obtain ⟨hw, hcs⟩ := hc
  simp only at hw hcs
  subst hcs
  have ha := h.after hg hw hn
  rcases mem_append.1 he with he | he
  · exact canLt_trans (h.ahead e he) ha
  · rw [mem_singleton.1 he]; exact ha
/-- What split's groups and the heap hold behind the way that was just taken. -/
theorem LInv.split {g : Gr} (hg : GrOK g) {L : List Can} {hd t : List Int} {r : Nat} {c : Int} {H : List Gp} (h : LInv g L hd t r c H) :
    HeapO (fc g) (pushAll H (spl g hd (endP g 0 hd) (sumC g hd) r t)) ∧ Part g (pushAll H (spl g hd (endP g 0 hd) (sumC g hd) r t)) (fun w => wayB g 0 w = true ∧ (⟨w, sumC g w⟩ : Can) ∉ L ++ [⟨hd ++ t, c⟩]) := by
  have hS := spl_part hg t hd _ _ r h.path rfl rfl h.first
  have hP := (h.part.app hS (fun w h1 h2 => h1.2.2 h2.1)).congr (T := fun w => wayB g 0 w = true ∧ (⟨w, sumC g w⟩ : Can) ∉ L ++ [⟨hd ++ t, c⟩]) fun w => by
    rw [mem_append, not_or, mem_singleton]
    constructor
    · rintro ⟨hw, h1, h2⟩
      by_cases hi : InH g hd r w
      · exact .inr ⟨hi, fun e => h2 (by rw [e, h.cost])⟩
      · exact .inl ⟨hw, h1, hi⟩
    · rintro (⟨hw, h1, h2⟩ | ⟨h1, h2⟩)
      · exact ⟨hw, h1, fun e => h2 (by injection e with e _; rw [e]; exact (first_way hg h.path h.first).2)⟩
      · obtain ⟨s, e, hw, _⟩ := id h1
        exact ⟨hw, h.new w h1, fun e => h2 (by injection e)⟩
  obtain ⟨h1, h2⟩ := pushAll_spec hg _ _ _ h.heap hP
  exact ⟨h1, hP.perm h2⟩
theorem LInv.done {g : Gr} (hg : GrOK g) {L : List Can} {hd t : List Int} {r : Nat} {c : Int} {H : List Gp} (h : LInv g L hd t r c H) (he : pushAll H (spl g hd (endP g 0 hd) (sumC g hd) r t) = []) {k : Nat} (hk : L.length + 1 ≤ k) : IsList g k (L ++ [⟨hd ++ t, c⟩]) := by
  obtain ⟨h1, h2⟩ := h.snoc hg
  obtain ⟨_, hP⟩ := h.split hg
  rw [he] at hP
  refine ⟨h1, h2, by simpa using hk, fun d hc hn => ?_⟩
  obtain ⟨dl, dc⟩ := d
  obtain ⟨hw, hcs⟩ := hc
  simp only at hw hcs
  subst hcs
  obtain ⟨_, hG, _⟩ := (hP.iff dl).1 ⟨hw, hn⟩
  cases hG
theorem LInv.next {g : Gr} (hg : GrOK g) {L : List Can} {hd t : List Int} {r : Nat} {c : Int} {H H' : List Gp} (h : LInv g L hd t r c H) (he : pushAll H (spl g hd (endP g 0 hd) (sumC g hd) r t) = H') (hne : 0 < H'.length) :
    LInv g (L ++ [⟨hd ++ t, c⟩]) (H'.getD 0 default).head ((H'.getD 0 default).link :: bw g (lkAt g (H'.getD 0 default).link).to) (H'.getD 0 default).rank (H'.getD 0 default).cost (popM earlierM H') := by
  obtain ⟨h1, h2⟩ := h.snoc hg
  obtain ⟨hH, hP⟩ := h.split hg
  rw [he] at hH hP
  obtain ⟨p1, p2, p3⟩ := pop_spec hne hH (part_ag hg hP)
  have hP' := hP.perm p2
  have hok := hP'.ok _ mem_cons_self
  have hap := pairwise_cons.1 hP'.apart
  generalize H'.getD 0 default = G at *
  have hsub : ∀ w, InH g G.head G.rank w → wayB g 0 w = true ∧ (⟨w, sumC g w⟩ : Can) ∉ L ++ [⟨hd ++ t, c⟩] := fun w hw => (hP'.iff w).2 ⟨G, mem_cons_self, hw⟩
  have hfw := first_way hg hok.path hok.first
  have hcost : G.cost = sumC g (G.head ++ G.link :: bw g (lkAt g G.link).to) := (hok.sum hg).symm
  refine ⟨hok.path, hok.first, hcost, ⟨fun X hX => hP'.ok X (mem_cons_of_mem _ hX), fun w => ?_, hap.2⟩, fun w hw => (hsub w hw).2, p1, h1, h2, fun d hd => ?_, fun X hX => ?_⟩
  · constructor
    · rintro ⟨hw, hn, hnot⟩
      obtain ⟨X, hX, hXw⟩ := (hP'.iff w).1 ⟨hw, hn⟩
      rcases mem_cons.1 hX with rfl | hX
      · exact absurd hXw hnot
      · exact ⟨X, hX, hXw⟩
    · rintro ⟨X, hX, hXw⟩
      obtain ⟨hw, hn⟩ := (hP'.iff w).2 ⟨X, mem_cons_of_mem _ hX, hXw⟩
      exact ⟨hw, hn, fun hGw => hap.1 X hX w hGw hXw⟩
  · have := (h.full hg).rest ⟨_, G.cost⟩ ⟨hfw.1, hcost⟩ (by rw [hcost]; exact (hsub _ hfw.2).2)
    exact this.2 d hd
  · have hXok := hP'.ok X (mem_cons_of_mem _ hX)
    have hle := p3 X (p2.mem_iff.1 (mem_cons_of_mem _ hX))
    rcases canLt_total (fc g G) (fc g X) with h3 | h3 | h3
    · exact h3
    · exfalso
      have hfX := first_way hg hXok.path hXok.first
      have e : G.head ++ G.link :: bw g (lkAt g G.link).to = X.head ++ X.link :: bw g (lkAt g X.link).to := by
        have := congrArg Can.links h3
        exact this
      refine hap.1 X hX _ hfw.2 ?_
      rw [e]; exact hfX.2
    · unfold LE at hle
      rw [hle] at h3
      cases h3
end Go.Proofs.Ytfjkmgjjifhdkaa
