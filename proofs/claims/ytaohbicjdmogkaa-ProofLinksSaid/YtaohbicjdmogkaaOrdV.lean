/-
  A region that draws its order and ends in stores, some of whose reading operations may come up behind a store: R holds always, S as long as no store of 'ts' has come up.
-/
import Derived.Test.YtaohbicjdmogkaaOrdU
namespace Go.Proofs.Ytaohbicjdmogkaa
open Go Go.RowKit

def goodFromV (ops : Array Oper) (ts : List Nat) : Array Bool → List (Nat × Option Bool) → Bool
  | listed, [] => (Region.ready .any ops listed).isEmpty
  | listed, (i, some true) :: l => Region.ready .any ops listed == [i] && goodFromV ops ts (listed.setIfInBounds i true) l
  | listed, (i, some false) :: l => (Region.ready .any ops listed).contains i && Region.free .any ops listed i && ts.all (fun t => (waitsFor ops t i || ts.any (fun t' => waitsFor ops t t')) && !(listed.getD t true)) && goodFromV ops ts (listed.setIfInBounds i true) l
  | listed, (i, none) :: l => (Region.ready .any ops listed).contains i && Region.free .any ops listed i && goodFromV ops ts (listed.setIfInBounds i true) l
def goodOrdV (ops : Array Oper) (ts : List Nat) (l : List (Nat × Option Bool)) : Bool := decide (l.length ≤ ops.size) && goodFromV ops ts (Array.replicate ops.size false) l
section
variable {P : Program} {ops : Array Oper} {Q : Exit → Act → World → Prop} {S R : World → Prop} {ts : List Nat}
def wpAnyV (P : Program) (ops : Array Oper) (Q : Exit → Act → World → Prop) (S R : World → Prop) (ts : List Nat) : Nat → Array Bool → Act → World → Prop
  | 0, listed, a, w => Region.ready .any ops listed = [] ∧ Q .normal a w
  | fuel + 1, listed, a, w =>
    (Region.ready .any ops listed = [] → Q .normal a w) ∧
    ∀ i ∈ Region.ready .any ops listed, wpOp P ops Q i (fun a' w' => (R w' ∧ (S w → ts.contains i = false → S w')) ∧ wpAnyV P ops Q S R ts fuel (listed.setIfInBounds i true) a' w') a w
theorem wpAny_of_V : ∀ (fuel : Nat) (listed : Array Bool) (a : Act) (w : World), wpAnyV P ops Q S R ts fuel listed a w → wpAny P .any ops Q fuel listed a w
  | 0, _, _, _, h => h
  | fuel + 1, _, _, _, h => ⟨h.1, fun i hi => wpOp_mono (fun a' w' h' => wpAny_of_V fuel _ a' w' h'.2) (h.2 i hi)⟩
theorem firstV1 {i : Nat} {oi : Oper} {v : Value} (hi : ops[i]? = some oi) (hsel : ∀ (j : Nat) (o : Oper) cs b, ops[j]? = some o → o.op ≠ .select cs b)
    (hQ : ∀ c a w, Q (.panic c) (a.put oi.dst v) w → Q (.panic c) a w) (hts : ∀ t ∈ ts, waitsFor ops t i = true ∨ ∃ t' ∈ ts, waitsFor ops t t' = true) :
    ∀ (fuel : Nat) (listed : Array Bool) (a : Act) (w : World),
      (∀ j oj, ops[j]? = some oj → j ≠ i → listed.getD j true = false → (∀ e ∈ oj.after, Region.binds .any e = true → e.on ≠ i) → oi.apart ops oj = true) →
      (∀ t ∈ ts, listed.getD t true = false) → i ∈ Region.ready .any ops listed → YieldsIf P ops S oi v a → S w → R w →
      wpAnyV P ops Q S R ts fuel (listed.setIfInBounds i true) (a.put oi.dst v) w → wpAnyV P ops Q S R ts (fuel + 1) listed a w := by
  intro fuel
  induction fuel with
  | zero =>
    intro listed a w _ _ hr hy hS hR H
    refine ⟨fun h => (by rw [h] at hr; cases hr), fun j hj => ?_⟩
    by_cases hji : j = i
    · subst hji; exact hy.wpOp hi hS ⟨⟨hR, fun h _ => h⟩, H⟩
    · have h1 := ready_mono hj hji
      rw [H.1] at h1
      cases h1
  | succ fuel ih =>
    intro listed a w hfree hun0 hr hy hS hR H
    refine ⟨fun h => (by rw [h] at hr; cases hr), fun j hj => ?_⟩
    by_cases hji : j = i
    · subst hji; exact hy.wpOp hi hS ⟨⟨hR, fun h _ => h⟩, H⟩
    · obtain ⟨hjun, oj, hoj, hall⟩ := mem_ready.1 hj
      have hiun := (mem_ready.1 hr).1
      have hnot : ∀ e ∈ oj.after, Region.binds .any e = true → e.on ≠ i := fun e he hb heq => by
        have h2 := hall e he hb
        rw [heq] at h2
        rcases Nat.lt_or_ge i listed.size with h' | h'
        · simp [h'] at hiun h2; rw [hiun] at h2; cases h2
        · simp [Array.getElem?_eq_none h'] at h2
      have hjt : ts.contains j = false := by
        cases hc : ts.contains j
        · rfl
        · exfalso
          rcases hts j (by simpa using hc) with hw | ⟨t', ht', hw⟩
          · unfold waitsFor at hw
            simp only [hoj] at hw
            obtain ⟨k, hk, he⟩ := Array.any_eq_true.1 hw
            simp only [Bool.and_eq_true, beq_iff_eq] at he
            exact absurd he.2 (hnot _ (Array.getElem_mem hk) he.1)
          · unfold waitsFor at hw
            simp only [hoj] at hw
            obtain ⟨k, hk, he⟩ := Array.any_eq_true.1 hw
            simp only [Bool.and_eq_true, beq_iff_eq] at he
            have h2 := hall _ (Array.getElem_mem hk) he.1
            rw [he.2] at h2
            have h3 := hun0 t' ht'
            rcases Nat.lt_or_ge t' listed.size with h' | h'
            · simp [h'] at h2 h3; rw [h3] at h2; cases h2
            · simp [Array.getElem?_eq_none h'] at h2
      have h2 := wpOp_putIf hoj (hfree j oj hoj hji hjun hnot) (fun cs b => hsel i oi cs b hi) (fun cs b => hsel j oj cs b hoj) hQ hy (H.2 j (ready_mono hj hji))
      have hfree' : ∀ k ok, ops[k]? = some ok → k ≠ i → (listed.setIfInBounds j true).getD k true = false →
          (∀ e ∈ ok.after, Region.binds .any e = true → e.on ≠ i) → oi.apart ops ok = true := fun k ok hk hki hun hno => by
        refine hfree k ok hk hki ?_ hno
        by_cases hjk : j = k
        · subst hjk; exact hjun
        · rw [getD_set_ne true hjk] at hun; exact hun
      refine wpOp_mono (fun a' w' h3 => ?_) h2
      have hS' := h3.2.1.2 hS hjt
      have hR' := h3.2.1.1
      refine ⟨h3.2.1, ih (listed.setIfInBounds j true) a' w' hfree' (fun t ht => by rw [getD_set_ne true (fun e => by subst e; simp [ht] at hjt)]; exact hun0 t ht) (ready_mono hr (Ne.symm hji)) h3.1 hS' hR' ?_⟩
      rw [Array.setIfInBounds_comm _ _ hji]
      exact h3.2.2

theorem firstV2 {i : Nat} {oi : Oper} {v : Value} (hi : ops[i]? = some oi) (hsel : ∀ (j : Nat) (o : Oper) cs b, ops[j]? = some o → o.op ≠ .select cs b)
    (hQ : ∀ c a w, Q (.panic c) (a.put oi.dst v) w → Q (.panic c) a w) :
    ∀ (fuel : Nat) (listed : Array Bool) (a : Act) (w : World),
      (∀ j oj, ops[j]? = some oj → j ≠ i → listed.getD j true = false → (∀ e ∈ oj.after, Region.binds .any e = true → e.on ≠ i) → oi.apart ops oj = true) →
      i ∈ Region.ready .any ops listed → YieldsIf P ops R oi v a → R w →
      wpAnyV P ops Q S R ts fuel (listed.setIfInBounds i true) (a.put oi.dst v) w → wpAnyV P ops Q S R ts (fuel + 1) listed a w := by
  intro fuel
  induction fuel with
  | zero =>
    intro listed a w _ hr hy hR H
    refine ⟨fun h => (by rw [h] at hr; cases hr), fun j hj => ?_⟩
    by_cases hji : j = i
    · subst hji; exact hy.wpOp hi hR ⟨⟨hR, fun h _ => h⟩, H⟩
    · have h1 := ready_mono hj hji
      rw [H.1] at h1
      cases h1
  | succ fuel ih =>
    intro listed a w hfree hr hy hR H
    refine ⟨fun h => (by rw [h] at hr; cases hr), fun j hj => ?_⟩
    by_cases hji : j = i
    · subst hji; exact hy.wpOp hi hR ⟨⟨hR, fun h _ => h⟩, H⟩
    · obtain ⟨hjun, oj, hoj, hall⟩ := mem_ready.1 hj
      have hiun := (mem_ready.1 hr).1
      have hnot : ∀ e ∈ oj.after, Region.binds .any e = true → e.on ≠ i := fun e he hb heq => by
        have h2 := hall e he hb
        rw [heq] at h2
        rcases Nat.lt_or_ge i listed.size with h' | h'
        · simp [h'] at hiun h2; rw [hiun] at h2; cases h2
        · simp [Array.getElem?_eq_none h'] at h2
      have h2 := wpOp_putIf hoj (hfree j oj hoj hji hjun hnot) (fun cs b => hsel i oi cs b hi) (fun cs b => hsel j oj cs b hoj) hQ hy (H.2 j (ready_mono hj hji))
      have hfree' : ∀ k ok, ops[k]? = some ok → k ≠ i → (listed.setIfInBounds j true).getD k true = false →
          (∀ e ∈ ok.after, Region.binds .any e = true → e.on ≠ i) → oi.apart ops ok = true := fun k ok hk hki hun hno => by
        refine hfree k ok hk hki ?_ hno
        by_cases hjk : j = k
        · subst hjk; exact hjun
        · rw [getD_set_ne true hjk] at hun; exact hun
      refine wpOp_mono (fun a' w' h3 => ?_) h2
      have hR' := h3.2.1.1
      refine ⟨h3.2.1, ih (listed.setIfInBounds j true) a' w' hfree' (ready_mono hr (Ne.symm hji)) h3.1 hR' ?_⟩
      rw [Array.setIfInBounds_comm _ _ hji]
      exact h3.2.2


def wpOrdV (P : Program) (ops : Array Oper) (Q : Exit → Act → World → Prop) (S R : World → Prop) (ts : List Nat) : List (Nat × Option Bool) → Act → World → Prop
  | [], a, w => Q .normal a w
  | (i, some true) :: l, a, w => wpOp P ops Q i (fun a' w' => (R w' ∧ (S w → ts.contains i = false → S w')) ∧ wpOrdV P ops Q S R ts l a' w') a w
  | (i, some false) :: l, a, w => ∃ oi v, ops[i]? = some oi ∧ YieldsIf P ops S oi v a ∧ S w ∧ wpOrdV P ops Q S R ts l (a.put oi.dst v) w
  | (i, none) :: l, a, w => ∃ oi v, ops[i]? = some oi ∧ YieldsIf P ops R oi v a ∧ wpOrdV P ops Q S R ts l (a.put oi.dst v) w
theorem wpAnyV_of_ord (hs : Region.noSelect ops = true) (hQ : ∀ d v c a w, Q (.panic c) (Act.put a (some d) v) w → Q (.panic c) a w) :
    ∀ (l : List (Nat × Option Bool)) (fuel : Nat) (listed : Array Bool) (a : Act) (w : World), l.length ≤ fuel → goodFromV ops ts listed l = true → R w → wpOrdV P ops Q S R ts l a w →
      wpAnyV P ops Q S R ts fuel listed a w := by
  intro l
  induction l with
  | nil =>
    intro fuel listed a w _ hg _ h
    have hr : Region.ready .any ops listed = [] := by simpa [goodFromV] using hg
    cases fuel with
    | zero => exact ⟨hr, h⟩
    | succ fuel => exact ⟨fun _ => h, by rw [hr]; simp⟩
  | cons x l ih =>
    intro fuel listed a w hf hg hR h
    obtain ⟨fuel, rfl⟩ : ∃ f, fuel = f + 1 := ⟨fuel - 1, by simp at hf; omega⟩
    have hf' : l.length ≤ fuel := by simp at hf; omega
    obtain ⟨i, b⟩ := x
    rcases b with _ | _ | _
    · simp only [goodFromV, Bool.and_eq_true] at hg
      obtain ⟨oi, v, hi, hy, h'⟩ := h
      refine firstV2 hi (Region.noSelect_spec hs) (fun c a w hh => ?_) fuel listed a w (Region.free_spec hi hg.1.2) (by simpa using hg.1.1) hy hR (ih fuel _ _ w hf' hg.2 hR h')
      cases hd : oi.dst with
      | none => rw [hd] at hh; exact hh
      | some d => rw [hd] at hh; exact hQ d v c a w hh
    · simp only [goodFromV, Bool.and_eq_true, List.all_eq_true] at hg
      obtain ⟨oi, v, hi, hy, hS, h'⟩ := h
      refine firstV1 hi (Region.noSelect_spec hs) (fun c a w hh => ?_) (fun t ht => by have := (hg.1.2 t ht).1; simpa using this) fuel listed a w (Region.free_spec hi hg.1.1.2) (fun t ht => by have := (hg.1.2 t ht).2; simpa using this) (by simpa using hg.1.1.1) hy hS hR (ih fuel _ _ w hf' hg.2 hR h')
      cases hd : oi.dst with
      | none => rw [hd] at hh; exact hh
      | some d => rw [hd] at hh; exact hQ d v c a w hh
    · simp only [goodFromV, Bool.and_eq_true, beq_iff_eq] at hg
      refine ⟨fun h0 => absurd (h0.symm.trans hg.1) (by simp), fun j hj => ?_⟩
      rw [hg.1] at hj
      obtain rfl : j = i := by simpa using hj
      exact wpOp_mono (fun a' w' h' => ⟨h'.1, ih fuel _ a' w' hf' hg.2 h'.1.1 h'.2⟩) h
theorem ordV_start {id : Nat} {a : Act} {w : World} (S R : World → Prop) (ts : List Nat) (l : List (Nat × Option Bool)) (hm : P.follows .mixedOrders = true) (hs : Region.noSelect ops = true) (hg : goodOrdV ops ts l = true)
    (hQ : ∀ d v c a w, Q (.panic c) (Act.put a (some d) v) w → Q (.panic c) a w) (hR : R w.drew) (h : wpOrdV P ops Q S R ts l a w.drew) : (Code.region id ops true).wp P Q a w := by
  unfold goodOrdV at hg
  simp only [Bool.and_eq_true, decide_eq_true_eq] at hg
  exact wp_region_any hm (wpAny_of_V _ _ _ _ (wpAnyV_of_ord hs hQ l _ _ a _ hg.1 hg.2 hR h))
theorem ordV_nil {a : Act} {w : World} (h : Q .normal a w) : wpOrdV P ops Q S R ts [] a w := h
theorem ordV_takeS {i : Nat} {o : Oper} {v : Value} {l : List (Nat × Option Bool)} {a : Act} {w : World} (ho' : nthO ops.toList i = some o) (hw : Region.wanted o (yielded ops a.tmps) = true) (hS : S w)
    (hy : ∀ W, S W → (execOp a.eval o).run P W = .ok (.value v) W)
    (h : wpOrdV P ops Q S R ts l (a.put o.dst v) w) : wpOrdV P ops Q S R ts ((i, some false) :: l) a w := ⟨o, v, nthO_spec ho', .inl ⟨hw, hy⟩, hS, h⟩
theorem ordV_takeR {i : Nat} {o : Oper} {v : Value} {l : List (Nat × Option Bool)} {a : Act} {w : World} (ho' : nthO ops.toList i = some o) (hw : Region.wanted o (yielded ops a.tmps) = true)
    (hy : ∀ W, R W → (execOp a.eval o).run P W = .ok (.value v) W)
    (h : wpOrdV P ops Q S R ts l (a.put o.dst v) w) : wpOrdV P ops Q S R ts ((i, none) :: l) a w := ⟨o, v, nthO_spec ho', .inl ⟨hw, hy⟩, h⟩
theorem ordV_call {i : Nat} {o : Oper} {l : List (Nat × Option Bool)} {a : Act} {w : World} (ho' : nthO ops.toList i = some o) (hw : Region.wanted o (yielded ops a.tmps) = true)
    (h : ∀ K' : Act → World → Prop, Shut (∀ a w', R w' → (S w → ts.contains i = false → S w') → wpOrdV P ops Q S R ts l a w' → K' a w') → Oper.wp P o a w K' Q) : wpOrdV P ops Q S R ts ((i, some true) :: l) a w := by
  have ho := nthO_spec ho'
  show wpOp P ops Q i _ a w
  refine wpOp_step ho fun K' hK => ?_
  rw [if_pos hw]
  exact h K' fun a w' hR hS hW => hK a w' ⟨⟨hR, hS⟩, hW⟩
end
end Go.Proofs.Ytaohbicjdmogkaa
