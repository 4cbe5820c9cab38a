/-
  BsGrp, BsList, joined. No conditions.
-/
import Derived.Test.YtfjkmgjjifhdkaaGreatR08
/-
  The plain law of layer 15: groups of ways, parted by their first ways; what a list of first candidates is; the loop of List.
-/
namespace Go.Proofs.YtfjkmgjjifhdkaaGreat
open List

structure Gp where
  head : List Int
  rank : Nat
  link : Int
  cost : Int
deriving Inhabited
/-- The ways that begin with head and go on with a link of rank r or more, or end there. -/
def InH (g : Gr) (head : List Int) (r : Nat) (w : List Int) : Prop := ∃ t, w = head ++ t ∧ wayB g 0 w = true ∧ ∀ i t', t = i :: t' → i ∈ (frL g (endP g 0 head)).drop r
def fw (g : Gr) (G : Gp) : List Int := G.head ++ G.link :: bw g (lkAt g G.link).to
def fc (g : Gr) (G : Gp) : Can := ⟨fw g G, G.cost⟩
structure GOK (g : Gr) (G : Gp) : Prop where
  path : pathB g 0 G.head = true
  link : (frL g (endP g 0 G.head))[G.rank]? = some G.link
  cost : G.cost = sumC g G.head + viaOf g G.link
/-- A first rest of a way, from rank r on. -/
def FirstT (g : Gr) (v : Int) (r : Nat) (t : List Int) : Prop := (t = [] ∧ v = g.n - 1) ∨ ∃ i, t = i :: bw g (lkAt g i).to ∧ (frL g v)[r]? = some i
theorem mem_drop_of {α : Type} {l : List α} {r : Nat} {x : α} (h : l[r]? = some x) : x ∈ l.drop r := by
  have : (l.drop r)[0]? = some x := by rw [getElem?_drop]; simpa using h
  exact mem_of_getElem? this
theorem drop_split {α : Type} {l : List α} {r : Nat} {x y : α} (h : l[r]? = some x) (hy : y ∈ l.drop r) : y = x ∨ y ∈ l.drop (r + 1) := by
  obtain ⟨hr, rfl⟩ := List.getElem?_eq_some_iff.1 h
  rw [drop_eq_getElem_cons hr] at hy
  rcases mem_cons.1 hy with h | h
  · exact .inl h
  · exact .inr h
theorem nodup_drop {α : Type} {l : List α} (hn : l.Nodup) {r : Nat} {x : α} (h : l[r]? = some x) : x ∉ l.drop (r + 1) := by
  obtain ⟨hr, rfl⟩ := List.getElem?_eq_some_iff.1 h
  have := (drop_sublist r l).nodup hn
  rw [drop_eq_getElem_cons hr] at this
  exact (nodup_cons.1 this).1
theorem end_bd {g : Gr} (hg : GrOK g) {p : List Int} (h : pathB g 0 p = true) : 0 ≤ endP g 0 p ∧ endP g 0 p < g.n ∧ 0 ≤ sumC g p ∧ sumC g p ≤ 1000000 * g.n ∧ (p.length : Int) < g.n := by
  have hn := hg.n
  have := path_bd hg p 0 (by omega) (by omega) h
  omega
/-- The first way of a group. -/
theorem GOK.first {g : Gr} {G : Gp} (h : GOK g G) : FirstT g (endP g 0 G.head) G.rank (G.link :: bw g (lkAt g G.link).to) := .inr ⟨_, rfl, h.link⟩
theorem GOK.mem {g : Gr} {G : Gp} (h : GOK g G) : G.link ∈ frL g (endP g 0 G.head) := mem_of_getElem? h.link
theorem first_way {g : Gr} (hg : GrOK g) {hd t : List Int} {r : Nat} (hp : pathB g 0 hd = true) (hf : FirstT g (endP g 0 hd) r t) : wayB g 0 (hd ++ t) = true ∧ InH g hd r (hd ++ t) := by
  have hb := end_bd hg hp
  have hw : wayB g 0 (hd ++ t) = true := by
    rw [way_app, hp, Bool.true_and]
    rcases hf with ⟨rfl, hv⟩ | ⟨i, rfl, hi⟩
    · unfold wayB; simpa using hv
    · have hm := mem_of_getElem? hi
      have hl := frL_link hg hm
      exact way_cons.2 ⟨(frL_mem.1 hm).1, (bw_way hg (by omega) (by omega) hl.2.2.2.2.2.2.2).1⟩
  refine ⟨hw, t, rfl, hw, fun i t' he => ?_⟩
  rcases hf with ⟨rfl, _⟩ | ⟨j, rfl, hj⟩
  · cases he
  · injection he with h1 _
    subst h1
    exact mem_drop_of hj
theorem first_sum {g : Gr} (hg : GrOK g) {hd : List Int} {i : Int} (hp : pathB g 0 hd = true) (hi : i ∈ frL g (endP g 0 hd)) : sumC g (hd ++ i :: bw g (lkAt g i).to) = sumC g hd + viaOf g i := by
  have hb := end_bd hg hp
  have hl := frL_link hg hi
  rw [sumC_app, sumC_cons, (bw_way hg (by omega) (by omega) hl.2.2.2.2.2.2.2).2, frL_via hi]
theorem GOK.sum {g : Gr} (hg : GrOK g) {G : Gp} (h : GOK g G) : sumC g (fw g G) = G.cost := by
  unfold fw
  rw [first_sum hg h.path h.mem, h.cost]
/-- No way of the ways from a rank on comes before the first one. -/
theorem first_least {g : Gr} (hg : GrOK g) {hd t : List Int} {r : Nat} (hp : pathB g 0 hd = true) (hf : FirstT g (endP g 0 hd) r t) {w : List Int} (hw : InH g hd r w) :
    w = hd ++ t ∨ canLt ⟨hd ++ t, sumC g (hd ++ t)⟩ ⟨w, sumC g w⟩ = true := by
  have hb := end_bd hg hp
  obtain ⟨s, rfl, hws, hi⟩ := hw
  rw [way_app, hp, Bool.true_and] at hws
  rcases hf with ⟨rfl, hv⟩ | ⟨i, rfl, hfi⟩
  · cases s with
    | nil => exact .inl rfl
    | cons j s =>
      have := (way_frL hg hb.1 hb.2.1 hws).1
      rw [hv, frL_last hg] at this
      cases this
  · have hmi := mem_of_getElem? hfi
    have hli := frL_link hg hmi
    cases s with
    | nil =>
      have : endP g 0 hd = g.n - 1 := by unfold wayB at hws; simpa using hws
      rw [this, frL_last hg] at hmi
      cases hmi
    | cons j s =>
      obtain ⟨hjf, hws'⟩ := way_frL hg hb.1 hb.2.1 hws
      have hlj := frL_link hg hjf
      have hvj := frL_via hjf
      have hvi := frL_via hmi
      have hh := way_h hg s _ (by omega) (by omega) hws'
      have hbi := bw_way hg (v := (lkAt g i).to) (by omega) (by omega) hli.2.2.2.2.2.2.2
      have e1 : sumC g (hd ++ i :: bw g (lkAt g i).to) = sumC g hd + viaOf g i := first_sum hg hp hmi
      have e2 : sumC g (hd ++ j :: s) = sumC g hd + ((lkAt g j).cost + sumC g s) := by rw [sumC_app, sumC_cons]
      rw [e1, e2, canLt_iff]
      rcases drop_split hfi (hi j s rfl) with rfl | hjd
      · rcases Int.lt_or_le (hAt g (lkAt g j).to) (sumC g s) with h1 | h1
        · right; left; show _ < _; simp only; omega
        · rcases bw_first hg (by omega) (by omega) hws' (by omega) with h2 | h2
          · left; rw [h2]
          · right; right
            refine ⟨by simp only; omega, ?_⟩
            show lexLt (hd ++ _) (hd ++ _) = true
            rw [lex_pre]
            unfold lexLt
            rw [if_neg (by omega), if_neg (by omega)]
            exact h2
      · right
        have hlt : viaOf g i < viaOf g j ∨ (viaOf g i = viaOf g j ∧ i < j) := by
          have hs := (frL_strict g (endP g 0 hd)).sublist (drop_sublist r _)
          obtain ⟨hr, he⟩ := List.getElem?_eq_some_iff.1 hfi
          rw [drop_eq_getElem_cons hr, he] at hs
          exact (pairwise_cons.1 hs).1 j hjd
        rcases Int.lt_or_le (sumC g hd + viaOf g i) (sumC g hd + ((lkAt g j).cost + sumC g s)) with h1 | h1
        · exact .inl h1
        · right
          refine ⟨by simp only; omega, ?_⟩
          show lexLt (hd ++ _) (hd ++ _) = true
          rw [lex_pre]
          unfold lexLt
          rw [if_pos (by omega)]
/-- Groups that part a set of ways. -/
structure Part (g : Gr) (Gs : List Gp) (S : List Int → Prop) : Prop where
  ok : ∀ G ∈ Gs, GOK g G
  iff : ∀ w, S w ↔ ∃ G ∈ Gs, InH g G.head G.rank w
  apart : Gs.Pairwise fun a b => ∀ w, InH g a.head a.rank w → ¬ InH g b.head b.rank w
theorem Part.congr {g : Gr} {Gs : List Gp} {S T : List Int → Prop} (h : Part g Gs S) (e : ∀ w, T w ↔ S w) : Part g Gs T := ⟨h.ok, fun w => (e w).trans (h.iff w), h.apart⟩
theorem Part.perm {g : Gr} {Gs Gs' : List Gp} {S : List Int → Prop} (h : Part g Gs S) (hp : Gs' ~ Gs) : Part g Gs' S :=
  ⟨fun G hG => h.ok G (hp.mem_iff.1 hG), fun w => by rw [h.iff]; simp [hp.mem_iff], (hp.pairwise_iff (fun {a b} h w h1 h2 => h w h2 h1)).2 h.apart⟩
theorem Part.app {g : Gr} {As Bs : List Gp} {S T : List Int → Prop} (h : Part g As S) (h' : Part g Bs T) (hd : ∀ w, S w → ¬ T w) : Part g (As ++ Bs) (fun w => S w ∨ T w) :=
  ⟨fun G hG => (mem_append.1 hG).elim (h.ok G) (h'.ok G), fun w => by
    rw [h.iff, h'.iff]
    constructor
    · rintro (⟨G, hG, h⟩ | ⟨G, hG, h⟩)
      · exact ⟨G, mem_append.2 (.inl hG), h⟩
      · exact ⟨G, mem_append.2 (.inr hG), h⟩
    · rintro ⟨G, hG, h⟩
      rcases mem_append.1 hG with hG | hG
      · exact .inl ⟨G, hG, h⟩
      · exact .inr ⟨G, hG, h⟩, pairwise_append.2 ⟨h.apart, h'.apart, fun a ha b hb w h1 h2 => hd w ((h.iff w).2 ⟨a, ha, h1⟩) ((h'.iff w).2 ⟨b, hb, h2⟩)⟩⟩
/-- What split makes of a group whose first way goes on with t, from its head on. -/
def spl (g : Gr) (pre : List Int) (v : Int) (spent : Int) (r : Nat) : List Int → List Gp
  | [] => []
  | i :: t => (match (frL g v)[r + 1]? with | some l => [⟨pre, r + 1, l, spent + viaOf g l⟩] | none => []) ++ spl g (pre ++ [i]) (lkAt g i).to (spent + (lkAt g i).cost) 0 t
theorem first_next {g : Gr} (hg : GrOK g) {v : Int} (h0 : 0 ≤ v) (h1 : v < g.n) (h : 0 ≤ hAt g v) : FirstT g v 0 (bw g v) := by
  by_cases hv : v = g.n - 1
  · left; rw [hv]; exact ⟨bw_last g, rfl⟩
  · right
    cases hf : frL g v with
    | nil => have := (frL_nil hg h0 (by omega)).1 hf; omega
    | cons i r => exact ⟨i, bw_step hg h0 (by omega) hf, rfl⟩
theorem spl_part {g : Gr} (hg : GrOK g) : ∀ (t pre : List Int) (v spent : Int) (r : Nat), pathB g 0 pre = true → endP g 0 pre = v → spent = sumC g pre → FirstT g v r t →
    Part g (spl g pre v spent r t) (fun w => InH g pre r w ∧ w ≠ pre ++ t) := by
  intro t
  induction t with
  | nil =>
    intro pre v spent r hp hv hs hf
    rcases hf with ⟨_, hv'⟩ | ⟨i, h, _⟩
    · refine ⟨(fun _ h => (not_mem_nil h).elim), fun w => ⟨?_, fun ⟨_, h, _⟩ => (not_mem_nil h).elim⟩, Pairwise.nil⟩
      rintro ⟨⟨s, rfl, hw, _⟩, hne⟩
      exfalso
      apply hne
      rw [way_app, hp, Bool.true_and, hv, hv'] at hw
      cases s with
      | nil => rfl
      | cons j s =>
        have := (way_cons.1 hw).1
        rw [lvs_last hg] at this
        cases this
    · cases h
  | cons i t ih =>
    intro pre v spent r hp hv hs hf
    have hb := end_bd hg hp
    rw [hv] at hb
    rcases hf with ⟨h, _⟩ | ⟨i', h, hfi⟩
    · cases h
    · injection h with h1 h2
      subst h1
      have hmi := mem_of_getElem? hfi
      have hli := frL_link hg hmi
      have hpi : pathB g 0 (pre ++ [i]) = true := by
        rw [path_app, hp, hv, Bool.true_and]
        exact path_cons.2 ⟨(frL_mem.1 hmi).1, rfl⟩
      have hei : endP g 0 (pre ++ [i]) = (lkAt g i).to := by rw [endP_app]; rfl
      have hsi : spent + (lkAt g i).cost = sumC g (pre ++ [i]) := by rw [sumC_app, hs]; simp [sumC]
      have hft : FirstT g (lkAt g i).to 0 t := by
        rw [h2]; exact first_next hg (by omega) (by omega) hli.2.2.2.2.2.2.2
      have hP2 := ih (pre ++ [i]) (lkAt g i).to (spent + (lkAt g i).cost) 0 hpi hei hsi hft
      have hP1 : Part g (match (frL g v)[r + 1]? with | some l => [⟨pre, r + 1, l, spent + viaOf g l⟩] | none => []) (fun w => InH g pre (r + 1) w) := by
        have hne : ∀ w, InH g pre (r + 1) w → ∃ j s, w = pre ++ j :: s ∧ j ∈ (frL g v).drop (r + 1) := by
          rintro w ⟨s, rfl, hw, hs⟩
          rw [hv] at hs
          cases s with
          | nil =>
            rw [way_app, hp, hv, Bool.true_and] at hw
            have : v = g.n - 1 := by unfold wayB at hw; simpa using hw
            rw [this, frL_last hg] at hmi
            cases hmi
          | cons j s => exact ⟨j, s, rfl, hs j s rfl⟩
        cases hn : (frL g v)[r + 1]? with
        | none =>
          refine ⟨(fun _ h => (not_mem_nil h).elim), fun w => ⟨fun h => ?_, fun ⟨_, h, _⟩ => (not_mem_nil h).elim⟩, Pairwise.nil⟩
          obtain ⟨j, s, _, hj⟩ := hne w h
          rw [drop_eq_nil_of_le (by simpa using hn)] at hj
          cases hj
        | some l =>
          refine ⟨fun G hG => ?_, fun w => by simp, pairwise_singleton _ _⟩
          obtain rfl := mem_singleton.1 hG
          exact ⟨hp, by rw [hv]; exact hn, by rw [hs]⟩
      refine (hP1.app hP2 ?_).congr fun w => ?_
      · rintro w ⟨s, rfl, hw, hs⟩ ⟨⟨s', he, _, _⟩, _⟩
        rw [append_assoc] at he
        have he := append_cancel_left he
        have := hs i s' (by rw [he]; rfl)
        rw [hv] at this
        exact nodup_drop frL_nodup hfi this
      · constructor
        · rintro ⟨⟨s, rfl, hw, hs⟩, hne⟩
          rw [hv] at hs
          cases s with
          | nil =>
            rw [way_app, hp, hv, Bool.true_and] at hw
            have : v = g.n - 1 := by unfold wayB at hw; simpa using hw
            rw [this, frL_last hg] at hmi
            cases hmi
          | cons j s =>
            rcases drop_split hfi (hs j s rfl) with rfl | hjd
            · right
              refine ⟨⟨s, by simp, hw, fun k s' he => ?_⟩, fun e => hne (by rw [e]; simp)⟩
              subst he
              rw [way_app, hp, hv, Bool.true_and] at hw
              have hw2 := (way_frL hg hb.1 hb.2.1 hw).2
              rw [drop_zero, hei]
              exact (way_frL hg (by omega) (by omega) hw2).1
            · left
              refine ⟨j :: s, rfl, hw, fun k s' he => ?_⟩
              injection he with e1 _
              rw [← e1, hv]
              exact hjd
        · rintro (⟨s, rfl, hw, hs⟩ | ⟨⟨s, rfl, hw, hs⟩, hne⟩)
          · refine ⟨⟨s, rfl, hw, fun k s' he => ?_⟩, fun e => ?_⟩
            · have := hs k s' he
              rw [← drop_drop] at this
              exact mem_of_mem_drop this
            · have e := append_cancel_left e
              have := hs i t e
              rw [hv] at this
              exact nodup_drop frL_nodup hfi this
          · refine ⟨⟨i :: s, by simp, hw, fun k s' he => ?_⟩, fun e => hne (by rw [e]; simp)⟩
            injection he with e1 _
            rw [← e1, hv]
            exact mem_drop_of hfi
end Go.Proofs.YtfjkmgjjifhdkaaGreat

/-
  The plain law of layer 15: the order of groups agrees with that of their first ways; List's loop gives the first candidates.
-/
namespace Go.Proofs.YtfjkmgjjifhdkaaGreat
open List

def placeM (G : Gp) (n : Nat) : Int := if n < G.head.length then G.head.getD n 0 else G.link
def earlierM (a b : Gp) : Bool := if a.cost ≠ b.cost then decide (a.cost < b.cost) else
  if a.head.take (min a.head.length b.head.length) ≠ b.head.take (min a.head.length b.head.length) then lexLt (a.head.take (min a.head.length b.head.length)) (b.head.take (min a.head.length b.head.length))
  else decide (placeM a (min a.head.length b.head.length) < placeM b (min a.head.length b.head.length))
theorem lex_app2 {a b r : List Int} (h1 : ¬ ∃ t, b = a ++ t) (h2 : ¬ ∃ t, a = b ++ t) : lexLt a (b ++ r) = lexLt a b := by
  rcases lex_total a b with h | h | h
  · rw [h]
    have := lex_app b a r h2 h1
    rcases lex_total a (b ++ r) with h3 | h3 | h3
    · exact h3
    · exact absurd ⟨r, h3⟩ h2
    · rw [this, lex_asymm h] at h3; cases h3
  · exact absurd ⟨[], by rw [h]; simp⟩ h1
  · rw [lex_asymm h]
    have := lex_app b a r h2 h1
    rw [h] at this
    exact lex_asymm this
theorem lex_heads : ∀ (x y : List Int) (p q : Int), (¬ ∃ t, y ++ [q] = x ++ p :: t) → (¬ ∃ t, x ++ [p] = y ++ q :: t) →
    lexLt (x ++ [p]) (y ++ [q]) = (if x.take (min x.length y.length) ≠ y.take (min x.length y.length) then lexLt (x.take (min x.length y.length)) (y.take (min x.length y.length))
      else decide ((if min x.length y.length < x.length then x.getD (min x.length y.length) 0 else p) < (if min x.length y.length < y.length then y.getD (min x.length y.length) 0 else q)))
  | [], [], p, q, h1, h2 => by
    have hne : p ≠ q := fun e => h1 ⟨[], by rw [e]⟩
    simp only [length_nil, Nat.min_self, take_nil, nil_append, Nat.lt_irrefl, if_false, ne_eq, not_true_eq_false]
    unfold lexLt
    by_cases h : p < q
    · simp [h]
    · rw [if_neg h, if_pos (by omega)]; simp [h]
  | [], b :: y, p, q, h1, h2 => by
    have hne : p ≠ b := fun e => h1 ⟨y ++ [q], by rw [e]; rfl⟩
    simp only [length_nil, length_cons, Nat.zero_min, take_zero, Nat.lt_irrefl, if_false, ne_eq, not_true_eq_false, nil_append, cons_append, getD_cons_zero, Nat.zero_lt_succ, if_true]
    unfold lexLt
    by_cases h : p < b
    · simp [h]
    · rw [if_neg h, if_pos (by omega)]; simp [h]
  | a :: x, [], p, q, h1, h2 => by
    have hne : a ≠ q := fun e => h2 ⟨x ++ [p], by rw [e]; rfl⟩
    simp only [length_nil, length_cons, Nat.min_zero, take_zero, Nat.lt_irrefl, if_false, ne_eq, not_true_eq_false, nil_append, cons_append, getD_cons_zero, Nat.zero_lt_succ, if_true]
    unfold lexLt
    by_cases h : a < q
    · simp [h]
    · rw [if_neg h, if_pos (by omega)]; simp [h]
  | a :: x, b :: y, p, q, h1, h2 => by
    have hm : min (a :: x).length (b :: y).length = min x.length y.length + 1 := by rw [length_cons, length_cons]; omega
    rw [hm, take_succ_cons, take_succ_cons, cons_append, cons_append]
    conv => lhs; unfold lexLt
    by_cases h3 : a < b
    · rw [if_pos h3, if_pos (by intro e; injection e with e _; omega)]
      unfold lexLt; rw [if_pos h3]
    · rw [if_neg h3]
      by_cases h4 : b < a
      · rw [if_pos h4, if_pos (by intro e; injection e with e _; omega)]
        unfold lexLt; rw [if_neg h3, if_pos h4]
      · have : a = b := by omega
        subst this
        rw [if_neg h4, lex_heads x y p q (fun ⟨t, e⟩ => h1 ⟨t, by rw [cons_append, cons_append, e]⟩) (fun ⟨t, e⟩ => h2 ⟨t, by rw [cons_append, cons_append, e]⟩)]
        simp only [getD_cons_succ, length_cons, Nat.add_lt_add_iff_right]
        by_cases h5 : x.take (min x.length y.length) ≠ y.take (min x.length y.length)
        · rw [if_pos h5, if_pos (by intro e; injection e with _ e; exact h5 e)]
          conv => rhs; unfold lexLt
          rw [if_neg h3, if_neg h3]
        · have h6 := Classical.not_not.1 h5
          rw [if_neg h5, h6]; simp
/-- Groups without a way in common: the order tells their first ways apart. -/
theorem earlier_eq {g : Gr} (hg : GrOK g) {a b : Gp} (ha : GOK g a) (hb : GOK g b) (hd : ∀ w, InH g a.head a.rank w → ¬ InH g b.head b.rank w) : earlierM a b = canLt (fc g a) (fc g b) := by
  have key : ∀ {a b : Gp}, GOK g a → GOK g b → (∀ w, InH g a.head a.rank w → ¬ InH g b.head b.rank w) → ¬ ∃ t, b.head ++ [b.link] = a.head ++ a.link :: t := by
    intro a b ha hb hd ⟨t, e⟩
    have hw := first_way hg hb.path hb.first
    refine hd _ ⟨a.link :: (t ++ bw g (lkAt g b.link).to), ?_, hw.1, ?_⟩ hw.2
    · rw [show b.head ++ b.link :: bw g (lkAt g b.link).to = (b.head ++ [b.link]) ++ bw g (lkAt g b.link).to by simp, e]; simp
    · intro i t' he
      injection he with he _
      rw [← he]
      exact mem_drop_of ha.link
  have k1 := key ha hb hd
  have k2 := key hb ha (fun w h1 h2 => hd w h2 h1)
  have hl : lexLt (fw g a) (fw g b) = lexLt (a.head ++ [a.link]) (b.head ++ [b.link]) := by
    have e1 : fw g a = (a.head ++ [a.link]) ++ bw g (lkAt g a.link).to := by unfold fw; simp
    have e2 : fw g b = (b.head ++ [b.link]) ++ bw g (lkAt g b.link).to := by unfold fw; simp
    have q1 : ¬ ∃ t, b.head ++ [b.link] = (a.head ++ [a.link]) ++ t := fun ⟨t, e⟩ => k1 ⟨t, by rw [e]; simp⟩
    have q2 : ¬ ∃ t, a.head ++ [a.link] = (b.head ++ [b.link]) ++ t := fun ⟨t, e⟩ => k2 ⟨t, by rw [e]; simp⟩
    have hne : ¬ ∃ t, fw g b = (a.head ++ [a.link]) ++ t := by
      rintro ⟨t, e⟩
      have hwb := first_way hg hb.path hb.first
      refine hd (fw g b) ⟨a.link :: t, by rw [e]; simp, hwb.1, fun i t' he => ?_⟩ hwb.2
      injection he with he _
      rw [← he]
      exact mem_drop_of ha.link
    have hne2 : ¬ ∃ t, a.head ++ [a.link] = fw g b ++ t := by
      rintro ⟨t, e⟩
      exact q2 ⟨bw g (lkAt g b.link).to ++ t, by rw [e, e2]; simp⟩
    rw [e1, lex_app _ _ _ hne hne2, e2, lex_app2 q1 q2]
  unfold earlierM
  rw [show canLt (fc g a) (fc g b) = (decide (a.cost < b.cost) || (decide (a.cost = b.cost) && lexLt (fw g a) (fw g b))) from rfl, hl, lex_heads _ _ _ _ k1 k2]
  by_cases h : a.cost ≠ b.cost
  · rw [if_pos h]
    have : decide (a.cost = b.cost) = false := decide_eq_false h
    rw [this]
    simp
  · rw [if_neg h]
    have h := Classical.not_not.1 h
    rw [h]
    simp only [Int.lt_irrefl, decide_false, decide_true, Bool.false_or, Bool.true_and]
    rfl
theorem part_ag {g : Gr} (hg : GrOK g) {Gs : List Gp} {S : List Int → Prop} (h : Part g Gs S) : Ag (fc g) earlierM Gs := by
  unfold Ag
  rw [pairwise_iff_getElem]
  intro i j hi hj hij
  have hd := pairwise_iff_getElem.1 h.apart i j hi hj hij
  exact ⟨earlier_eq hg (h.ok _ (getElem_mem hi)) (h.ok _ (getElem_mem hj)) hd, earlier_eq hg (h.ok _ (getElem_mem hj)) (h.ok _ (getElem_mem hi)) (fun w h1 h2 => hd w h2 h1)⟩
/-- What a list of the first k candidates is. -/
structure IsList (g : Gr) (k : Nat) (L : List Can) : Prop where
  sorted : Sorted L
  can : ∀ c ∈ L, IsCan g c
  len : L.length ≤ k
  rest : ∀ c, IsCan g c → c ∉ L → L.length = k ∧ ∀ d ∈ L, canLt d c = true
theorem isList_zero (g : Gr) : IsList g 0 [] := ⟨Pairwise.nil, (fun _ h => (not_mem_nil h).elim), Nat.le_refl _, fun _ _ _ => ⟨rfl, fun _ h => (not_mem_nil h).elim⟩⟩
theorem isList_none {g : Gr} (hg : GrOK g) (k : Nat) (h : hAt g 0 < 0) : IsList g k [] := by
  have hn := hg.n
  exact ⟨Pairwise.nil, (fun _ h => (not_mem_nil h).elim), Nat.zero_le _, fun c hc _ => by have := way_h hg _ 0 (by omega) (by omega) hc.1; omega⟩
theorem isList_unique {g : Gr} {k : Nat} {A B : List Can} (hA : IsList g k A) (hB : IsList g k B) : A = B := by
  have key : ∀ {A B : List Can}, IsList g k A → IsList g k B → ∀ c ∈ A, c ∈ B := by
    intro A B hA hB c hc
    refine Classical.byContradiction fun hn => ?_
    obtain ⟨h1, h2⟩ := hB.rest c (hA.can c hc) hn
    -- all of B lie ahead of c, so they lie in A; then A has more than k
    have hBA : ∀ d ∈ B, d ∈ A := fun d hd => Classical.byContradiction fun hn => by
      have := (hA.rest d (hB.can d hd) hn).2 c hc
      have h3 := canLt_asymm (h2 d hd)
      rw [this] at h3; cases h3
    have hs : A.filter (fun x => decide (x ∈ c :: B)) ~ c :: B := (perm_ext_iff_of_nodup (hA.sorted.nodup.filter _) (nodup_cons.2 ⟨hn, hB.sorted.nodup⟩)).2 fun d => by
      rw [mem_filter, decide_eq_true_iff]
      refine ⟨fun h => h.2, fun h => ⟨?_, h⟩⟩
      rcases mem_cons.1 h with rfl | hd
      · exact hc
      · exact hBA d hd
    have h3 := hs.length_eq
    have h4 := length_filter_le (fun x => decide (x ∈ c :: B)) A
    rw [length_cons] at h3
    have := hA.len
    omega
  exact sorted_same hA.sorted hB.sorted fun c => ⟨key hA hB c, key hB hA c⟩
theorem isList_take {g : Gr} {A : List Can} (hA : IsAll g A) (k : Nat) : IsList g k (A.take k) := by
  have hs : Sorted (A.take k ++ A.drop k) := by rw [take_append_drop]; exact hA.1
  refine ⟨(pairwise_append.1 hs).1, fun c hc => (hA.2 c).1 (mem_of_mem_take hc), by simp; omega, fun c hc hn => ?_⟩
  have hm := (hA.2 c).2 hc
  rw [← take_append_drop k A] at hm
  rcases mem_append.1 hm with h | h
  · exact absurd h hn
  · refine ⟨?_, fun d hd => (pairwise_append.1 hs).2.2 d hd c h⟩
    have : 0 < (A.drop k).length := length_pos_of_mem h
    rw [length_drop] at this
    rw [length_take]; omega
/-- The state at the head of List's loop: the candidates so far; the group whose first way comes next; the heap. -/
structure LInv (g : Gr) (L : List Can) (hd t : List Int) (r : Nat) (c : Int) (H : List Gp) : Prop where
  path : pathB g 0 hd = true
  first : FirstT g (endP g 0 hd) r t
  cost : c = sumC g (hd ++ t)
  part : Part g H (fun w => wayB g 0 w = true ∧ (⟨w, sumC g w⟩ : Can) ∉ L ∧ ¬ InH g hd r w)
  new : ∀ w, InH g hd r w → (⟨w, sumC g w⟩ : Can) ∉ L
  heap : HeapO (fc g) H
  sorted : Sorted L
  can : ∀ d ∈ L, IsCan g d
  ahead : ∀ d ∈ L, canLt d ⟨hd ++ t, c⟩ = true
  behind : ∀ G ∈ H, canLt ⟨hd ++ t, c⟩ (fc g G) = true
theorem linv_start {g : Gr} (hg : GrOK g) (h : 0 ≤ hAt g 0) : LInv g [] [] (bw g 0) 0 (hAt g 0) [] := by
  have hn := hg.n
  have hb := bw_way hg (v := 0) (by omega) (by omega) h
  refine ⟨rfl, first_next hg (v := 0) (by omega) (by omega) h, by rw [nil_append]; exact hb.2.symm, ⟨(fun _ h => (not_mem_nil h).elim), fun w => ⟨?_, fun ⟨_, h, _⟩ => (not_mem_nil h).elim⟩, Pairwise.nil⟩, fun _ _ h => (not_mem_nil h).elim,
    fun j _ hj => by simp at hj, Pairwise.nil, (fun _ h => (not_mem_nil h).elim), (fun _ h => (not_mem_nil h).elim), (fun _ h => (not_mem_nil h).elim)⟩
  rintro ⟨hw, _, hnot⟩
  exfalso
  exact hnot ⟨w, rfl, hw, fun i t' he => by subst he; exact (way_frL hg (v := 0) (by omega) (by omega) hw).1⟩
def pushAll (H : List Gp) (Gs : List Gp) : List Gp := Gs.foldl (pushM earlierM) H
theorem pushAll_spec {g : Gr} (hg : GrOK g) : ∀ (Gs H : List Gp) (S : List Int → Prop), HeapO (fc g) H → Part g (H ++ Gs) S → HeapO (fc g) (pushAll H Gs) ∧ pushAll H Gs ~ H ++ Gs := by
  intro Gs
  induction Gs with
  | nil => intro H S hH _; rw [append_nil]; exact ⟨hH, Perm.refl _⟩
  | cons G Gs ih =>
    intro H S hH hP
    have e : H ++ G :: Gs = (H ++ [G]) ++ Gs := by simp
    have hag : Ag (fc g) earlierM (H ++ [G]) := by
      have := part_ag hg hP
      rw [e] at this
      exact (pairwise_append.1 this).1
    obtain ⟨h1, h2⟩ := push_spec hH hag
    have hp2 : pushM earlierM H G ++ Gs ~ H ++ G :: Gs := by rw [e]; exact h2.append_right Gs
    obtain ⟨h3, h4⟩ := ih (pushM earlierM H G) S h1 (hP.perm hp2)
    exact ⟨h3, h4.trans hp2⟩
theorem LInv.way {g : Gr} (hg : GrOK g) {L : List Can} {hd t : List Int} {r : Nat} {c : Int} {H : List Gp} (h : LInv g L hd t r c H) : IsCan g ⟨hd ++ t, c⟩ := ⟨(first_way hg h.path h.first).1, h.cost⟩
theorem LInv.snoc {g : Gr} (hg : GrOK g) {L : List Can} {hd t : List Int} {r : Nat} {c : Int} {H : List Gp} (h : LInv g L hd t r c H) : Sorted (L ++ [⟨hd ++ t, c⟩]) ∧ (∀ d ∈ L ++ [⟨hd ++ t, c⟩], IsCan g d) :=
  ⟨pairwise_append.2 ⟨h.sorted, pairwise_singleton _ _, fun a ha b hb => by rw [mem_singleton.1 hb]; exact h.ahead a ha⟩, fun d hd => (mem_append.1 hd).elim (h.can d) (fun hd => by rw [mem_singleton.1 hd]; exact h.way hg)⟩
theorem LInv.after {g : Gr} (hg : GrOK g) {L : List Can} {hd t : List Int} {r : Nat} {c : Int} {H : List Gp} (h : LInv g L hd t r c H) {w : List Int} (hw : wayB g 0 w = true) (hn : (⟨w, sumC g w⟩ : Can) ∉ L ++ [⟨hd ++ t, c⟩]) : canLt ⟨hd ++ t, c⟩ ⟨w, sumC g w⟩ = true := by
  rw [mem_append, not_or] at hn
  by_cases hi : InH g hd r w
  · rcases first_least hg h.path h.first hi with rfl | h1
    · exact absurd (mem_singleton.2 (by rw [h.cost])) hn.2
    · rw [h.cost]; exact h1
  · obtain ⟨G, hG, hGw⟩ := (h.part.iff w).1 ⟨hw, hn.1, hi⟩
    have hok := h.part.ok G hG
    have h1 := h.behind G hG
    rcases first_least hg hok.path hok.first hGw with h2 | h2
    · have e : (⟨w, sumC g w⟩ : Can) = fc g G := by
        have h3 : w = fw g G := h2
        rw [h3, hok.sum hg]
        rfl
      rw [e]; exact h1
    · have e : (⟨G.head ++ G.link :: bw g (lkAt g G.link).to, sumC g (G.head ++ G.link :: bw g (lkAt g G.link).to)⟩ : Can) = fc g G := by
        have h3 : sumC g (G.head ++ G.link :: bw g (lkAt g G.link).to) = G.cost := hok.sum hg
        rw [h3]
        rfl
      rw [e] at h2
      exact canLt_trans h1 h2
theorem LInv.full {g : Gr} (hg : GrOK g) {L : List Can} {hd t : List Int} {r : Nat} {c : Int} {H : List Gp} (h : LInv g L hd t r c H) : IsList g (L.length + 1) (L ++ [⟨hd ++ t, c⟩]) := by
  obtain ⟨h1, h2⟩ := h.snoc hg
  refine ⟨h1, h2, by simp, fun d hc hn => ⟨by simp, fun e he => ?_⟩⟩
  obtain ⟨dl, dc⟩ := d
  obtain ⟨hw, hcs⟩ := hc
  simp only at hw hcs
  subst hcs
  have ha := h.after hg hw hn
  rcases mem_append.1 he with he | he
  · exact canLt_trans (h.ahead e he) ha
  · rw [mem_singleton.1 he]; exact ha
/-- What split's groups and the heap hold behind the way that was just taken. -/
theorem LInv.split {g : Gr} (hg : GrOK g) {L : List Can} {hd t : List Int} {r : Nat} {c : Int} {H : List Gp} (h : LInv g L hd t r c H) :
    HeapO (fc g) (pushAll H (spl g hd (endP g 0 hd) (sumC g hd) r t)) ∧ Part g (pushAll H (spl g hd (endP g 0 hd) (sumC g hd) r t)) (fun w => wayB g 0 w = true ∧ (⟨w, sumC g w⟩ : Can) ∉ L ++ [⟨hd ++ t, c⟩]) := by
  have hS := spl_part hg t hd _ _ r h.path rfl rfl h.first
  have hP := (h.part.app hS (fun w h1 h2 => h1.2.2 h2.1)).congr (T := fun w => wayB g 0 w = true ∧ (⟨w, sumC g w⟩ : Can) ∉ L ++ [⟨hd ++ t, c⟩]) fun w => by
    rw [mem_append, not_or, mem_singleton]
    constructor
    · rintro ⟨hw, h1, h2⟩
      by_cases hi : InH g hd r w
      · exact .inr ⟨hi, fun e => h2 (by rw [e, h.cost])⟩
      · exact .inl ⟨hw, h1, hi⟩
    · rintro (⟨hw, h1, h2⟩ | ⟨h1, h2⟩)
      · exact ⟨hw, h1, fun e => h2 (by injection e with e _; rw [e]; exact (first_way hg h.path h.first).2)⟩
      · obtain ⟨s, e, hw, _⟩ := id h1
        exact ⟨hw, h.new w h1, fun e => h2 (by injection e)⟩
  obtain ⟨h1, h2⟩ := pushAll_spec hg _ _ _ h.heap hP
  exact ⟨h1, hP.perm h2⟩
theorem LInv.done {g : Gr} (hg : GrOK g) {L : List Can} {hd t : List Int} {r : Nat} {c : Int} {H : List Gp} (h : LInv g L hd t r c H) (he : pushAll H (spl g hd (endP g 0 hd) (sumC g hd) r t) = []) {k : Nat} (hk : L.length + 1 ≤ k) : IsList g k (L ++ [⟨hd ++ t, c⟩]) := by
  obtain ⟨h1, h2⟩ := h.snoc hg
  obtain ⟨_, hP⟩ := h.split hg
  rw [he] at hP
  refine ⟨h1, h2, by simpa using hk, fun d hc hn => ?_⟩
  obtain ⟨dl, dc⟩ := d
  obtain ⟨hw, hcs⟩ := hc
  simp only at hw hcs
  subst hcs
  obtain ⟨_, hG, _⟩ := (hP.iff dl).1 ⟨hw, hn⟩
  cases hG
theorem LInv.next {g : Gr} (hg : GrOK g) {L : List Can} {hd t : List Int} {r : Nat} {c : Int} {H H' : List Gp} (h : LInv g L hd t r c H) (he : pushAll H (spl g hd (endP g 0 hd) (sumC g hd) r t) = H') (hne : 0 < H'.length) :
    LInv g (L ++ [⟨hd ++ t, c⟩]) (H'.getD 0 default).head ((H'.getD 0 default).link :: bw g (lkAt g (H'.getD 0 default).link).to) (H'.getD 0 default).rank (H'.getD 0 default).cost (popM earlierM H') := by
  obtain ⟨h1, h2⟩ := h.snoc hg
  obtain ⟨hH, hP⟩ := h.split hg
  rw [he] at hH hP
  obtain ⟨p1, p2, p3⟩ := pop_spec hne hH (part_ag hg hP)
  have hP' := hP.perm p2
  have hok := hP'.ok _ mem_cons_self
  have hap := pairwise_cons.1 hP'.apart
  generalize H'.getD 0 default = G at *
  have hsub : ∀ w, InH g G.head G.rank w → wayB g 0 w = true ∧ (⟨w, sumC g w⟩ : Can) ∉ L ++ [⟨hd ++ t, c⟩] := fun w hw => (hP'.iff w).2 ⟨G, mem_cons_self, hw⟩
  have hfw := first_way hg hok.path hok.first
  have hcost : G.cost = sumC g (G.head ++ G.link :: bw g (lkAt g G.link).to) := (hok.sum hg).symm
  refine ⟨hok.path, hok.first, hcost, ⟨fun X hX => hP'.ok X (mem_cons_of_mem _ hX), fun w => ?_, hap.2⟩, fun w hw => (hsub w hw).2, p1, h1, h2, fun d hd => ?_, fun X hX => ?_⟩
  · constructor
    · rintro ⟨hw, hn, hnot⟩
      obtain ⟨X, hX, hXw⟩ := (hP'.iff w).1 ⟨hw, hn⟩
      rcases mem_cons.1 hX with rfl | hX
      · exact absurd hXw hnot
      · exact ⟨X, hX, hXw⟩
    · rintro ⟨X, hX, hXw⟩
      obtain ⟨hw, hn⟩ := (hP'.iff w).2 ⟨X, mem_cons_of_mem _ hX, hXw⟩
      exact ⟨hw, hn, fun hGw => hap.1 X hX w hGw hXw⟩
  · have := (h.full hg).rest ⟨_, G.cost⟩ ⟨hfw.1, hcost⟩ (by rw [hcost]; exact (hsub _ hfw.2).2)
    exact this.2 d hd
  · have hXok := hP'.ok X (mem_cons_of_mem _ hX)
    have hle := p3 X (p2.mem_iff.1 (mem_cons_of_mem _ hX))
    rcases canLt_total (fc g G) (fc g X) with h3 | h3 | h3
    · exact h3
    · exfalso
      have hfX := first_way hg hXok.path hXok.first
      have e : G.head ++ G.link :: bw g (lkAt g G.link).to = X.head ++ X.link :: bw g (lkAt g X.link).to := by
        have := congrArg Can.links h3
        exact this
      refine hap.1 X hX _ hfw.2 ?_
      rw [e]; exact hfX.2
    · unfold LE at hle
      rw [hle] at h3
      cases h3
end Go.Proofs.YtfjkmgjjifhdkaaGreat
