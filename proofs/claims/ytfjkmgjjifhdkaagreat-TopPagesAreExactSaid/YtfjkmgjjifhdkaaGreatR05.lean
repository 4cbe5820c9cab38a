/-
  OrdB, OrdS, joined. No conditions.
-/
import Derived.Test.YtfjkmgjjifhdkaaGreatR02
/-
  A region that draws its order, walked as a tree: where two operations that make memory may come up in either order, both are walked.
-/
namespace Go.Proofs.YtfjkmgjjifhdkaaGreat
open Go Go.RowKit

inductive OTree where
  | done
  | quiet (i : Nat) (t : OTree)
  | only (i : Nat) (t : OTree)
  | fork (i j : Nat) (t u : OTree)
  | fork3 (i j k : Nat) (t u v : OTree)
def OTree.depth : OTree → Nat
  | .done => 0
  | .quiet _ t => t.depth + 1
  | .only _ t => t.depth + 1
  | .fork _ _ t u => max t.depth u.depth + 1
  | .fork3 _ _ _ t u v => max t.depth (max u.depth v.depth) + 1
def goodB (ops : Array Oper) : OTree → Array Bool → Bool
  | .done, listed => (Region.ready .any ops listed).isEmpty
  | .quiet i t, listed => (Region.ready .any ops listed).contains i && Region.free .any ops listed i && goodB ops t (listed.setIfInBounds i true)
  | .only i t, listed => Region.ready .any ops listed == [i] && goodB ops t (listed.setIfInBounds i true)
  | .fork i j t u, listed => Region.ready .any ops listed == [i, j] && goodB ops t (listed.setIfInBounds i true) && goodB ops u (listed.setIfInBounds j true)
  | .fork3 i j k t u v, listed => Region.ready .any ops listed == [i, j, k] && goodB ops t (listed.setIfInBounds i true) && goodB ops u (listed.setIfInBounds j true) && goodB ops v (listed.setIfInBounds k true)
def goodTree (ops : Array Oper) (t : OTree) : Bool := decide (t.depth ≤ ops.size) && goodB ops t (Array.replicate ops.size false)

section
variable {P : Program} {ops : Array Oper} {Q : Exit → Act → World → Prop} {S : World → Prop}
def wpB (P : Program) (ops : Array Oper) (Q : Exit → Act → World → Prop) (S : World → Prop) : OTree → Act → World → Prop
  | .done, a, w => Q .normal a w
  | .quiet i t, a, w => ∃ oi v, ops[i]? = some oi ∧ YieldsIf P ops S oi v a ∧ wpB P ops Q S t (a.put oi.dst v) w
  | .only i t, a, w => wpOp P ops Q i (fun a' w' => S w' ∧ wpB P ops Q S t a' w') a w
  | .fork i j t u, a, w => wpOp P ops Q i (fun a' w' => S w' ∧ wpB P ops Q S t a' w') a w ∧ wpOp P ops Q j (fun a' w' => S w' ∧ wpB P ops Q S u a' w') a w
  | .fork3 i j k t u v, a, w => wpOp P ops Q i (fun a' w' => S w' ∧ wpB P ops Q S t a' w') a w ∧ wpOp P ops Q j (fun a' w' => S w' ∧ wpB P ops Q S u a' w') a w ∧ wpOp P ops Q k (fun a' w' => S w' ∧ wpB P ops Q S v a' w') a w

theorem wpAnyH_of_tree (hs : Region.noSelect ops = true) (hQ : ∀ d v c a w, Q (.panic c) (Act.put a (some d) v) w → Q (.panic c) a w) :
    ∀ (t : OTree) (fuel : Nat) (listed : Array Bool) (a : Act) (w : World), t.depth ≤ fuel → goodB ops t listed = true → S w → wpB P ops Q S t a w →
      wpAnyH P .any ops Q S fuel listed a w := by
  intro t
  induction t with
  | done =>
    intro fuel listed a w _ hg _ h
    exact wpAnyH_done (by simpa [goodB] using hg) h fuel
  | quiet i t ih =>
    intro fuel listed a w hf hg hS h
    obtain ⟨fuel, rfl⟩ : ∃ f, fuel = f + 1 := ⟨fuel - 1, by simp [OTree.depth] at hf; omega⟩
    have hf' : t.depth ≤ fuel := by simp [OTree.depth] at hf; omega
    simp only [goodB, Bool.and_eq_true] at hg
    obtain ⟨oi, v, hi, hy, h'⟩ := h
    exact wpAnyH_take hi hs hg.1.2 hg.1.1 (fun c a w hh => by
      cases hd : oi.dst with
      | none => rw [hd] at hh; exact hh
      | some d => rw [hd] at hh; exact hQ d v c a w hh) hy hS (ih fuel _ _ w hf' hg.2 hS h')
  | only i t ih =>
    intro fuel listed a w hf hg hS h
    obtain ⟨fuel, rfl⟩ : ∃ f, fuel = f + 1 := ⟨fuel - 1, by simp [OTree.depth] at hf; omega⟩
    have hf' : t.depth ≤ fuel := by simp [OTree.depth] at hf; omega
    simp only [goodB, Bool.and_eq_true, beq_iff_eq] at hg
    refine wpAnyH_all hg.1 (by simp) fun j hj => ?_
    obtain rfl : j = i := by simpa using hj
    exact wpOp_mono (fun a' w' h' => ⟨h'.1, ih fuel _ a' w' hf' hg.2 h'.1 h'.2⟩) h
  | fork i j t u iht ihu =>
    intro fuel listed a w hf hg hS h
    obtain ⟨fuel, rfl⟩ : ∃ f, fuel = f + 1 := ⟨fuel - 1, by simp [OTree.depth] at hf; omega⟩
    have hf1 : t.depth ≤ fuel := by simp [OTree.depth] at hf; omega
    have hf2 : u.depth ≤ fuel := by simp [OTree.depth] at hf; omega
    simp only [goodB, Bool.and_eq_true, beq_iff_eq] at hg
    refine wpAnyH_all hg.1.1 (by simp) fun k hk => ?_
    have hk' : k = i ∨ k = j := by simpa using hk
    rcases hk' with rfl | rfl
    · exact wpOp_mono (fun a' w' h' => ⟨h'.1, iht fuel _ a' w' hf1 hg.1.2 h'.1 h'.2⟩) h.1
    · exact wpOp_mono (fun a' w' h' => ⟨h'.1, ihu fuel _ a' w' hf2 hg.2 h'.1 h'.2⟩) h.2
  | fork3 i j k t u v iht ihu ihv =>
    intro fuel listed a w hf hg hS h
    obtain ⟨fuel, rfl⟩ : ∃ f, fuel = f + 1 := ⟨fuel - 1, by simp [OTree.depth] at hf; omega⟩
    have hf1 : t.depth ≤ fuel := by simp [OTree.depth] at hf; omega
    have hf2 : u.depth ≤ fuel := by simp [OTree.depth] at hf; omega
    have hf3 : v.depth ≤ fuel := by simp [OTree.depth] at hf; omega
    simp only [goodB, Bool.and_eq_true, beq_iff_eq] at hg
    refine wpAnyH_all hg.1.1.1 (by simp) fun n hn => ?_
    have hn' : n = i ∨ n = j ∨ n = k := by simpa using hn
    rcases hn' with rfl | rfl | rfl
    · exact wpOp_mono (fun a' w' h' => ⟨h'.1, iht fuel _ a' w' hf1 hg.1.1.2 h'.1 h'.2⟩) h.1
    · exact wpOp_mono (fun a' w' h' => ⟨h'.1, ihu fuel _ a' w' hf2 hg.1.2 h'.1 h'.2⟩) h.2.1
    · exact wpOp_mono (fun a' w' h' => ⟨h'.1, ihv fuel _ a' w' hf3 hg.2 h'.1 h'.2⟩) h.2.2

theorem ordB_below {id : Nat} {a : Act} {w : World} (t : OTree) (hm : P.follows .mixedOrders = true) (hs : Region.noSelect ops = true) (hg : goodTree ops t = true)
    (hQ : ∀ d v c a w, Q (.panic c) (Act.put a (some d) v) w → Q (.panic c) a w) (h : ∀ W, Below w.heap.size w W → wpB P ops Q (Below w.heap.size w) t a W) : (Code.region id ops true).wp P Q a w := by
  unfold goodTree at hg
  simp only [Bool.and_eq_true, decide_eq_true_eq] at hg
  have hS : Below w.heap.size w w.drew := (Below.refl _ _).drew
  exact wp_region_held_drew hm hS fun hS => wpAnyH_of_tree hs hQ t _ _ a _ hg.1 hg.2 hS (h _ hS)

theorem ordB_nil {a : Act} {w : World} (h : Q .normal a w) : wpB P ops Q S .done a w := h
theorem ordB_skip {i : Nat} {o : Oper} {t : OTree} {a : Act} {w : World} (ho' : nthO ops.toList i = some o) (hw : Region.wanted o (yielded ops a.tmps) = false)
    (h : wpB P ops Q S t (a.put o.dst undef) w) : wpB P ops Q S (.quiet i t) a w := ⟨o, undef, nthO_spec ho', .inr ⟨hw, rfl⟩, h⟩
theorem ordB_take {i : Nat} {o : Oper} {v : Value} {t : OTree} {a : Act} {w : World} (ho' : nthO ops.toList i = some o) (hw : Region.wanted o (yielded ops a.tmps) = true)
    (hy : ∀ W, S W → (execOp a.eval o).run P W = .ok (.value v) W)
    (h : wpB P ops Q S t (a.put o.dst v) w) : wpB P ops Q S (.quiet i t) a w := ⟨o, v, nthO_spec ho', .inl ⟨hw, hy⟩, h⟩
theorem opB_call {i : Nat} {o : Oper} {t : OTree} {a : Act} {w : World} (ho' : nthO ops.toList i = some o) (hw : Region.wanted o (yielded ops a.tmps) = true)
    (h : ∀ K' : Act → World → Prop, Shut (∀ a w, S w → (S w → wpB P ops Q S t a w) → K' a w) → Oper.wp P o a w K' Q) : wpOp P ops Q i (fun a' w' => S w' ∧ wpB P ops Q S t a' w') a w := by
  have ho := nthO_spec ho'
  refine wpOp_step ho fun K' hK => ?_
  rw [if_pos hw]
  exact h K' fun a w hS hW => hK a w ⟨hS, hW hS⟩
theorem opB_cskip {i : Nat} {o : Oper} {t : OTree} {a : Act} {w : World} (ho' : nthO ops.toList i = some o) (hw : Region.wanted o (yielded ops a.tmps) = false) (hS : S w)
    (h : wpB P ops Q S t (a.put o.dst undef) w) : wpOp P ops Q i (fun a' w' => S w' ∧ wpB P ops Q S t a' w') a w := by
  have ho := nthO_spec ho'
  unfold wpOp
  rw [ho]
  show if Region.wanted o (yielded ops a.tmps) = true then _ else _
  rw [if_neg (by rw [hw]; decide)]
  exact ⟨hS, h⟩
theorem ordB_only {i : Nat} {t : OTree} {a : Act} {w : World} (h : wpOp P ops Q i (fun a' w' => S w' ∧ wpB P ops Q S t a' w') a w) : wpB P ops Q S (.only i t) a w := h
theorem ordB_fork {i j : Nat} {t u : OTree} {a : Act} {w : World} (h1 : wpOp P ops Q i (fun a' w' => S w' ∧ wpB P ops Q S t a' w') a w) (h2 : wpOp P ops Q j (fun a' w' => S w' ∧ wpB P ops Q S u a' w') a w) : wpB P ops Q S (.fork i j t u) a w := ⟨h1, h2⟩
theorem ordB_fork3 {i j k : Nat} {t u v : OTree} {a : Act} {w : World} (h1 : wpOp P ops Q i (fun a' w' => S w' ∧ wpB P ops Q S t a' w') a w) (h2 : wpOp P ops Q j (fun a' w' => S w' ∧ wpB P ops Q S u a' w') a w) (h3 : wpOp P ops Q k (fun a' w' => S w' ∧ wpB P ops Q S v a' w') a w) : wpB P ops Q S (.fork3 i j k t u v) a w := ⟨h1, h2, h3⟩
end
end Go.Proofs.YtfjkmgjjifhdkaaGreat

/-
  A region that draws its order, walked as a tree, under any condition on the world that holds throughout; all blocks but one as they were.
-/
namespace Go.Proofs.YtfjkmgjjifhdkaaGreat
open Go Go.RowKit

theorem ordB_start {P : Program} {ops : Array Oper} {Q : Exit → Act → World → Prop} {id : Nat} {a : Act} {w : World} (S : World → Prop) (t : OTree) (hm : P.follows .mixedOrders = true) (hs : Region.noSelect ops = true) (hg : goodTree ops t = true)
    (hQ : ∀ d v c a w, Q (.panic c) (Act.put a (some d) v) w → Q (.panic c) a w) (hS : S w.drew) (h : wpB P ops Q S t a w.drew) : (Code.region id ops true).wp P Q a w := by
  unfold goodTree at hg
  simp only [Bool.and_eq_true, decide_eq_true_eq] at hg
  exact wp_region_held_drew hm hS fun hS => wpAnyH_of_tree hs hQ t _ _ a _ hg.1 hg.2 hS h
/-- All old blocks but g are as they were. -/
structure ButB (g : Nat) (w w' : World) : Prop where
  size : w.heap.size ≤ w'.heap.size
  block : ∀ b, b < w.heap.size → b ≠ g → w'.heap[b]? = w.heap[b]?
section
variable {g : Nat} {w w' w2 : World}
theorem ButB.refl (g : Nat) (w : World) : ButB g w w := ⟨Nat.le_refl _, fun _ _ _ => rfl⟩
theorem ButB.of_below (h : Below w.heap.size w w') : ButB g w w' := ⟨h.size, fun b hb _ => h.block b hb⟩
theorem ButB.trans (h : ButB g w w') (h2 : ButB g w' w2) : ButB g w w2 := ⟨Nat.le_trans h.size h2.size, fun b hb hn => (h2.block b (Nat.lt_of_lt_of_le hb h.size) hn).trans (h.block b hb hn)⟩
theorem ButB.set_ (h : ButB g w w') (o : Nat) (v : Value) : ButB g w (w'.setCell ⟨g, o, none⟩ v) := ⟨by simpa using h.size, fun b hb hn => (Below.heap_setCell w' ⟨g, o, none⟩ v b hn).trans (h.block b hb hn)⟩
theorem ButB.cell (h : ButB g w w') : ∀ b o, b < w.heap.size → b ≠ g → w'.cell? ⟨b, o, none⟩ = w.cell? ⟨b, o, none⟩ := fun b _ hb hn => World.cell?_of_block (h.block b hb hn)
theorem ButB.blk {b : Nat} {t : TypeId} {cs : Array Value} (h : ButB g w w') (hb : Blk w b t cs) (hn : b ≠ g) : Blk w' b t cs := (h.block b hb.lt hn).trans hb
end
end Go.Proofs.YtfjkmgjjifhdkaaGreat
