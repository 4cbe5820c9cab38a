/-
  The plain law behind ProofLinks: a further link raises no potential, and changes none just where it is useless.
-/
import Derived.Test.YtbikjmafddndpaaGrFirst
namespace Go.Proofs.Ytbikjmafddndpaa
open Go Go.RowKit

/-- a is at least as good a potential as b. -/
def bet (a b : Int) : Prop := b < 0 ∨ (0 ≤ a ∧ a ≤ b)
theorem step_bet {c a b t u : Int} (hc : 0 ≤ c) (h1 : bet a b) (h2 : bet t u) : bet (if 0 ≤ t ∧ (a < 0 ∨ c + t < a) then c + t else a) (if 0 ≤ u ∧ (b < 0 ∨ c + u < b) then c + u else b) := by
  unfold bet at *
  split <;> split <;> omega
theorem more_bet {c a b t : Int} (hc : 0 ≤ c) (h1 : bet a b) : bet (if 0 ≤ t ∧ (a < 0 ∨ c + t < a) then c + t else a) b := by
  unfold bet at *
  split <;> omega
def addL (g : Gr) (l : Lk) : Gr := Gr.mk g.n (g.ls ++ [l])
theorem lvTo_app (ls : List Lk) (l : Lk) (v : Int) : ∀ k, k ≤ ls.length → lvTo (ls ++ [l]) v k = lvTo ls v k
  | 0, _ => rfl
  | k + 1, h => by
    have e1 : ls[k]? = some ls[k] := List.getElem?_eq_getElem (by omega)
    have e2 : (ls ++ [l])[k]? = some ls[k] := by rw [List.getElem?_append_left (by omega)]; exact e1
    rw [lvTo_succ e1, lvTo_succ e2, lvTo_app ls l v k (by omega)]
theorem lvs_add (g : Gr) (l : Lk) (v : Int) : lvs (addL g l) v = if l.fr = v then lvs g v ++ [(g.ls.length : Int)] else lvs g v := by
  unfold lvs addL
  dsimp only
  rw [List.length_append, show g.ls.length + [l].length = g.ls.length + 1 from rfl, lvTo_succ (l := l) (by simp), lvTo_app _ _ _ _ (Nat.le_refl _)]
theorem lkAt_add {g : Gr} {l : Lk} {i : Nat} (h : i < g.ls.length) : lkAt (addL g l) (i : Int) = lkAt g (i : Int) := by
  unfold lkAt addL
  simp [List.getD_eq_getElem?_getD, List.getElem?_append_left h]
theorem lkAt_new (g : Gr) (l : Lk) : lkAt (addL g l) (g.ls.length : Int) = l := by
  unfold lkAt addL
  simp [List.getD_eq_getElem?_getD]
theorem lkAt_cost {g : Gr} (hg : GrOK g) {i : Nat} (h : i < g.ls.length) : 0 ≤ (lkAt g (i : Int)).cost := by
  have : lkAt g (i : Int) = g.ls[i] := by
    unfold lkAt
    simp [List.getD_eq_getElem?_getD, List.getElem?_eq_getElem h]
  rw [this]
  exact (hg.ls _ (List.getElem_mem h)).cost.1
theorem lvs_in {g : Gr} {v : Int} : ∀ i ∈ lvs g v, ∃ j : Nat, i = (j : Int) ∧ j < g.ls.length := fun i hi => by
  obtain ⟨j, l, h1, h2, _⟩ := lvs_mem.1 hi
  exact ⟨j, h1, (List.getElem?_eq_some_iff.1 h2).1⟩
theorem fold_bet {g : Gr} (hg : GrOK g) {l : Lk} {v : Int} {ts us : List Int} (ht : ∀ i, bet (ts.getD i 0) (us.getD i 0)) : ∀ (L : List Int), (∀ i ∈ L, ∃ j : Nat, i = (j : Int) ∧ j < g.ls.length) → ∀ a b, bet a b →
    bet (L.foldl (potStep (addL g l) v ts) a) (L.foldl (potStep g v us) b)
  | [], _, a, b, h => h
  | i :: L, hL, a, b, h => by
    obtain ⟨j, rfl, hj⟩ := hL i List.mem_cons_self
    refine fold_bet hg ht L (fun x hx => hL x (List.mem_cons_of_mem _ hx)) _ _ ?_
    unfold potStep
    rw [lkAt_add hj]
    exact step_bet (lkAt_cost hg hj) h (ht _)
theorem fold_same {g : Gr} {l : Lk} {v : Int} {ts : List Int} : ∀ (L : List Int), (∀ i ∈ L, ∃ j : Nat, i = (j : Int) ∧ j < g.ls.length) → ∀ a, L.foldl (potStep (addL g l) v ts) a = L.foldl (potStep g v ts) a
  | [], _, a => rfl
  | i :: L, hL, a => by
    obtain ⟨j, rfl, hj⟩ := hL i List.mem_cons_self
    have e : potStep (addL g l) v ts a (j : Int) = potStep g v ts a (j : Int) := by unfold potStep; rw [lkAt_add hj]
    rw [List.foldl_cons, List.foldl_cons, e]
    exact fold_same L (fun x hx => hL x (List.mem_cons_of_mem _ hx)) _
theorem addL_n (g : Gr) (l : Lk) : (addL g l).n = g.n := rfl
/-- The potentials of the nodes behind the link's start. -/
theorem potS_after {g : Gr} {l : Lk} : ∀ k : Nat, l.fr < g.n - k → potS (addL g l) k = potS g k
  | 0, _ => rfl
  | 1, _ => rfl
  | k + 2, h => by
    have ih := potS_after (g := g) (l := l) (k + 1) (by omega)
    show (lvs (addL g l) ((addL g l).n - (k + 2))).foldl (potStep (addL g l) ((addL g l).n - (k + 2)) (potS (addL g l) (k + 1))) (-1) :: potS (addL g l) (k + 1) = _
    rw [ih, addL_n, lvs_add, if_neg (by omega), fold_same _ lvs_in]
    rfl
theorem potS_bet {g : Gr} (hg : GrOK g) {l : Lk} (hc : 0 ≤ l.cost) : ∀ k i : Nat, bet ((potS (addL g l) k).getD i 0) ((potS g k).getD i 0)
  | 0, i => by unfold bet; simp [potS]
  | 1, i => by unfold bet; cases i <;> simp [potS]
  | k + 2, 0 => by
    have ih := potS_bet hg hc (k + 1)
    show bet ((lvs (addL g l) ((addL g l).n - (k + 2))).foldl (potStep (addL g l) ((addL g l).n - (k + 2)) (potS (addL g l) (k + 1))) (-1)) ((lvs g (g.n - (k + 2))).foldl (potStep g (g.n - (k + 2)) (potS g (k + 1))) (-1))
    rw [addL_n, lvs_add]
    have h0 := fold_bet hg (l := l) (v := g.n - (k + 2)) ih (lvs g (g.n - (k + 2))) lvs_in (-1) (-1) (.inl (by decide))
    split
    · rw [List.foldl_append]
      show bet (potStep (addL g l) _ _ _ _) _
      unfold potStep
      rw [lkAt_new]
      exact more_bet hc h0
    · exact h0
  | k + 2, i + 1 => potS_bet hg hc (k + 1) i
/-- Equal at the link's start, equal ahead of it. -/
theorem potS_up {g : Gr} {l : Lk} {m : Nat} (hm : 1 ≤ m) (hl : g.n - m ≤ l.fr) (h : potS (addL g l) m = potS g m) : ∀ d : Nat, potS (addL g l) (m + d) = potS g (m + d)
  | 0 => h
  | d + 1 => by
    have ih := potS_up hm hl h d
    rw [show m + (d + 1) = (m + d) + 1 by omega, potS_succ _ (by omega), potS_succ _ (by omega), ih, addL_n, lvs_add, if_neg (by omega), fold_same _ lvs_in]
theorem links_law {g : Gr} (hg : GrOK g) {N fr tt : Nat} {lb c : Int} (hN : g.n = (N : Int)) (hft : fr < tt) (htN : tt < N) (hc : 0 ≤ c) :
    (∀ i, bet ((potL (addL g (Lk.mk fr tt lb c))).getD i 0) ((potL g).getD i 0)) ∧
    ∃ F t, (potL g)[fr]? = some F ∧ (potL g)[tt]? = some t ∧ (potL g = potL (addL g (Lk.mk fr tt lb c)) ↔ (t < 0 ∨ (0 ≤ F ∧ F ≤ t + c))) := by
  have hNn : g.n.toNat = N := by omega
  refine ⟨fun i => potS_bet hg hc _ i, ?_⟩
  obtain ⟨k, hk⟩ : ∃ k, N = fr + (k + 1) := ⟨N - fr - 1, by omega⟩
  have hk1 : 1 ≤ k := by omega
  obtain ⟨l, hl⟩ : ∃ l, Lk.mk (fr : Int) (tt : Int) lb c = l := ⟨_, rfl⟩
  have hlf : l.fr = (fr : Int) := by rw [← hl]
  have hlt : l.to = (tt : Int) := by rw [← hl]
  have hlc : l.cost = c := by rw [← hl]
  rw [hl]
  have hT := potS_after (g := g) (l := l) k (by omega)
  have hd : ∀ g' : Gr, g'.n = g.n → (potL g').drop fr = potS g' (k + 1) := fun g' hg' => by
    unfold potL
    rw [hg', hNn]
    have := potS_drop g' (k + 1) N (by omega)
    rwa [show N - (k + 1) = fr by omega] at this
  have hd1 := hd g rfl
  have hd2 := hd (addL g l) rfl
  have hv : g.n - ((k : Int) + 1) = (fr : Int) := by omega
  rw [potS_succ _ hk1, hv] at hd1
  rw [potS_succ _ hk1, addL_n, hv, lvs_add, if_pos hlf, List.foldl_append, hT, fold_same _ lvs_in] at hd2
  have hup : potS (addL g l) (k + 1) = potS g (k + 1) → potL g = potL (addL g l) := fun e => by
    have := potS_up (l := l) (m := k + 1) (by omega) (by rw [hlf]; push_cast; omega) e fr
    unfold potL
    rw [addL_n, hNn, hk, show fr + (k + 1) = (k + 1) + fr by omega, this]
  rw [potS_succ _ hk1, potS_succ _ hk1, addL_n, hv, lvs_add, if_pos hlf, List.foldl_append, hT, fold_same _ lvs_in] at hup
  have htl := potS_len g k
  generalize potS g k = T at *
  generalize (lvs g (fr : Int)).foldl (potStep g (fr : Int) T) (-1) = F at *
  obtain ⟨t, ht⟩ : ∃ t, T[tt - fr - 1]? = some t := ⟨_, List.getElem?_eq_getElem (by omega)⟩
  have hst : [(g.ls.length : Int)].foldl (potStep (addL g l) (fr : Int) T) F = if 0 ≤ t ∧ (F < 0 ∨ c + t < F) then c + t else F := by
    show potStep (addL g l) (fr : Int) T F (g.ls.length : Int) = _
    unfold potStep
    rw [lkAt_new]
    dsimp only
    rw [hlt, hlc]
    rw [show ((tt : Int) - (fr : Int) - 1).toNat = tt - fr - 1 by omega, List.getD_eq_getElem?_getD, ht]
    rfl
  rw [hst] at hd2 hup
  refine ⟨F, t, ?_, ?_, ?_⟩
  · have := congrArg (fun x => x[0]?) hd1
    simpa using this
  · have := congrArg (fun x => x[tt - fr]?) hd1
    rw [List.getElem?_drop, show fr + (tt - fr) = tt by omega, show tt - fr = (tt - fr - 1) + 1 by omega, List.getElem?_cons_succ, ht] at this
    exact this
  · constructor
    · intro e
      rw [e, hd2] at hd1
      injection hd1 with h1 _
      split at h1 <;> omega
    · intro h
      apply hup
      rw [if_neg (by omega)]
theorem addL_ok {g : Gr} (hg : GrOK g) (hl : g.ls.length ≤ 14) {l : Lk} (h : LkOK g.n l) : GrOK (addL g l) :=
  ⟨hg.n, by show (g.ls ++ [l]).length ≤ 20000; simp; omega, fun x hx => (List.mem_append.1 hx).elim (hg.ls x) (fun e => by rw [List.mem_singleton.1 e]; exact h)⟩
end Go.Proofs.Ytbikjmafddndpaa
