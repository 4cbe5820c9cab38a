/-
  As XOrdT; an operation of 'ts' may wait for another one of 'ts' in place of what only reads.
-/
import Derived.Test.YtaohbicjdmogkaaOrdT
namespace Go.Proofs.Ytaohbicjdmogkaa
open Go Go.RowKit

def goodFromU (ops : Array Oper) (ts : List Nat) : Array Bool → List (Nat × Bool) → Bool
  | listed, [] => (Region.ready .any ops listed).isEmpty
  | listed, (i, true) :: l => Region.ready .any ops listed == [i] && goodFromU ops ts (listed.setIfInBounds i true) l
  | listed, (i, false) :: l => (Region.ready .any ops listed).contains i && Region.free .any ops listed i && ts.all (fun t => (waitsFor ops t i || ts.any (fun t' => waitsFor ops t t')) && !(listed.getD t true)) && goodFromU ops ts (listed.setIfInBounds i true) l
def goodOrdU (ops : Array Oper) (ts : List Nat) (l : List (Nat × Bool)) : Bool := decide (l.length ≤ ops.size) && goodFromU ops ts (Array.replicate ops.size false) l

section
variable {P : Program} {ops : Array Oper} {Q : Exit → Act → World → Prop} {S : World → Prop} {ts : List Nat}
theorem wpAnyT_firstU {i : Nat} {oi : Oper} {v : Value} (hi : ops[i]? = some oi) (hsel : ∀ (j : Nat) (o : Oper) cs b, ops[j]? = some o → o.op ≠ .select cs b)
    (hQ : ∀ c a w, Q (.panic c) (a.put oi.dst v) w → Q (.panic c) a w) (hts : ∀ t ∈ ts, waitsFor ops t i = true ∨ ∃ t' ∈ ts, waitsFor ops t t' = true) :
    ∀ (fuel : Nat) (listed : Array Bool) (a : Act) (w : World),
      (∀ j oj, ops[j]? = some oj → j ≠ i → listed.getD j true = false → (∀ e ∈ oj.after, Region.binds .any e = true → e.on ≠ i) → oi.apart ops oj = true) →
      (∀ t ∈ ts, listed.getD t true = false) → i ∈ Region.ready .any ops listed → YieldsIf P ops S oi v a → S w →
      wpAnyT P ops Q S ts fuel (listed.setIfInBounds i true) (a.put oi.dst v) w → wpAnyT P ops Q S ts (fuel + 1) listed a w := by
  intro fuel
  induction fuel with
  | zero =>
    intro listed a w _ _ hr hy hS H
    refine ⟨fun h => (by rw [h] at hr; cases hr), fun j hj => ?_⟩
    by_cases hji : j = i
    · subst hji; exact hy.wpOp hi hS ⟨fun _ => hS, H⟩
    · have h1 := ready_mono hj hji
      rw [H.1] at h1
      cases h1
  | succ fuel ih =>
    intro listed a w hfree hun0 hr hy hS H
    refine ⟨fun h => (by rw [h] at hr; cases hr), fun j hj => ?_⟩
    by_cases hji : j = i
    · subst hji; exact hy.wpOp hi hS ⟨fun _ => hS, H⟩
    · obtain ⟨hjun, oj, hoj, hall⟩ := mem_ready.1 hj
      have hiun := (mem_ready.1 hr).1
      have hnot : ∀ e ∈ oj.after, Region.binds .any e = true → e.on ≠ i := fun e he hb heq => by
        have h2 := hall e he hb
        rw [heq] at h2
        rcases Nat.lt_or_ge i listed.size with h' | h'
        · simp [h'] at hiun h2; rw [hiun] at h2; cases h2
        · simp [Array.getElem?_eq_none h'] at h2
      have hjt : ts.contains j = false := by
        cases hc : ts.contains j
        · rfl
        · exfalso
          rcases hts j (by simpa using hc) with hw | ⟨t', ht', hw⟩
          · unfold waitsFor at hw
            simp only [hoj] at hw
            obtain ⟨k, hk, he⟩ := Array.any_eq_true.1 hw
            simp only [Bool.and_eq_true, beq_iff_eq] at he
            exact absurd he.2 (hnot _ (Array.getElem_mem hk) he.1)
          · unfold waitsFor at hw
            simp only [hoj] at hw
            obtain ⟨k, hk, he⟩ := Array.any_eq_true.1 hw
            simp only [Bool.and_eq_true, beq_iff_eq] at he
            have h2 := hall _ (Array.getElem_mem hk) he.1
            rw [he.2] at h2
            have h3 := hun0 t' ht'
            rcases Nat.lt_or_ge t' listed.size with h' | h'
            · simp [h'] at h2 h3; rw [h3] at h2; cases h2
            · simp [Array.getElem?_eq_none h'] at h2
      have h2 := wpOp_putIf hoj (hfree j oj hoj hji hjun hnot) (fun cs b => hsel i oi cs b hi) (fun cs b => hsel j oj cs b hoj) hQ hy (H.2 j (ready_mono hj hji))
      have hfree' : ∀ k ok, ops[k]? = some ok → k ≠ i → (listed.setIfInBounds j true).getD k true = false →
          (∀ e ∈ ok.after, Region.binds .any e = true → e.on ≠ i) → oi.apart ops ok = true := fun k ok hk hki hun hno => by
        refine hfree k ok hk hki ?_ hno
        by_cases hjk : j = k
        · subst hjk; exact hjun
        · rw [getD_set_ne true hjk] at hun; exact hun
      refine wpOp_mono (fun a' w' h3 => ?_) h2
      have hS' := h3.2.1 hjt
      refine ⟨fun _ => hS', ih (listed.setIfInBounds j true) a' w' hfree' (fun t ht => by rw [getD_set_ne true (fun e => by subst e; simp [ht] at hjt)]; exact hun0 t ht) (ready_mono hr (Ne.symm hji)) h3.1 hS' ?_⟩
      rw [Array.setIfInBounds_comm _ _ hji]
      exact h3.2.2

theorem wpAnyU_of_ord (hs : Region.noSelect ops = true) (hQ : ∀ d v c a w, Q (.panic c) (Act.put a (some d) v) w → Q (.panic c) a w) :
    ∀ (l : List (Nat × Bool)) (fuel : Nat) (listed : Array Bool) (a : Act) (w : World), l.length ≤ fuel → goodFromU ops ts listed l = true → wpOrdT P ops Q S ts l a w →
      wpAnyT P ops Q S ts fuel listed a w := by
  intro l
  induction l with
  | nil =>
    intro fuel listed a w _ hg h
    have hr : Region.ready .any ops listed = [] := by simpa [goodFromU] using hg
    cases fuel with
    | zero => exact ⟨hr, h⟩
    | succ fuel => exact ⟨fun _ => h, by rw [hr]; simp⟩
  | cons x l ih =>
    intro fuel listed a w hf hg h
    obtain ⟨fuel, rfl⟩ : ∃ f, fuel = f + 1 := ⟨fuel - 1, by simp at hf; omega⟩
    have hf' : l.length ≤ fuel := by simp at hf; omega
    obtain ⟨i, b⟩ := x
    cases b with
    | true =>
      simp only [goodFromU, Bool.and_eq_true, beq_iff_eq] at hg
      refine ⟨fun h0 => absurd (h0.symm.trans hg.1) (by simp), fun j hj => ?_⟩
      rw [hg.1] at hj
      obtain rfl : j = i := by simpa using hj
      exact wpOp_mono (fun a' w' h' => ⟨h'.1, ih fuel _ a' w' hf' hg.2 h'.2⟩) h
    | false =>
      simp only [goodFromU, Bool.and_eq_true, List.all_eq_true] at hg
      obtain ⟨oi, v, hi, hy, hS, h'⟩ := h
      refine wpAnyT_firstU hi (Region.noSelect_spec hs) (fun c a w hh => ?_) (fun t ht => by have := (hg.1.2 t ht).1; simpa using this) fuel listed a w (Region.free_spec hi hg.1.1.2) (fun t ht => by have := (hg.1.2 t ht).2; simpa using this) (by simpa using hg.1.1.1) hy hS (ih fuel _ _ w hf' hg.2 h')
      cases hd : oi.dst with
      | none => rw [hd] at hh; exact hh
      | some d => rw [hd] at hh; exact hQ d v c a w hh
theorem ordU_below {id : Nat} {a : Act} {w : World} (ts : List Nat) (l : List (Nat × Bool)) (hm : P.follows .mixedOrders = true) (hs : Region.noSelect ops = true) (hg : goodOrdU ops ts l = true)
    (hQ : ∀ d v c a w, Q (.panic c) (Act.put a (some d) v) w → Q (.panic c) a w) (h : ∀ W, Below w.heap.size w W → wpOrdT P ops Q (Below w.heap.size w) ts l a W) : (Code.region id ops true).wp P Q a w := by
  unfold goodOrdU at hg
  simp only [Bool.and_eq_true, decide_eq_true_eq] at hg
  exact wp_region_any hm (wpAny_of_T _ _ _ _ (wpAnyU_of_ord hs hQ l _ _ a _ hg.1 hg.2 (h _ (Below.refl _ _).drew)))

end
end Go.Proofs.Ytaohbicjdmogkaa
