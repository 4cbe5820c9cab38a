/-
  A region that draws its order, walked once: what only reads is taken as soon as it may come up; what makes memory comes up in one forced order. One condition S on the world holds behind each step.
-/
import Derived.Test.YtaohbicjdmogkaaLib
import Derived.Deep.RegionHeld
namespace Go.Proofs.Ytaohbicjdmogkaa
open Go Go.RowKit

theorem add_mk (b o n : Nat) : (Addr.mk b o none).add n = ⟨b, o + n, none⟩ := by
  unfold Addr.add; split <;> simp_all
theorem SlR.drop {α : Type} {s : Nat} {R : World → α → List Value → Prop} {w : World} {A : Option Addr} {xs : List α} (h : SlR s R w A xs) (f : Nat) :
    SlR s R w (A.map (fun x => x.add (f * s))) (xs.drop f) := fun hn => by
  obtain ⟨b, off, rfl, hlt, hc⟩ := h (by rintro rfl; simp at hn)
  refine ⟨b, off + f * s, by simp [add_mk], hlt, fun k x hx => ?_⟩
  rw [List.getElem?_drop] at hx
  obtain ⟨vs, hr, hl, hv⟩ := hc (f + k) x hx
  refine ⟨vs, hr, hl, fun j v hj => ?_⟩
  have := hv j v hj
  rwa [show off + f * s + k * s + j = off + (f + k) * s + j by rw [Nat.add_mul]; omega]
theorem bx {w w1 : World} {o : Obj} (h : Below (w.alloc o).heap.size (w.alloc o) w1) : Below (w.heap.size + 1) (w.alloc o) w1 := h.mono (by simp)

def nthO : List Oper → Nat → Option Oper
  | o :: _, 0 => some o
  | _ :: l, n + 1 => nthO l n
  | [], _ => none
theorem nthO_spec {ops : Array Oper} {i : Nat} {o : Oper} (h : nthO ops.toList i = some o) : ops[i]? = some o := by
  rw [← Array.getElem?_toList]
  generalize ops.toList = l at h
  induction l generalizing i with
  | nil => simp [nthO] at h
  | cons x l ih =>
    cases i with
    | zero => simpa [nthO] using h
    | succ i => simpa using ih (by simpa [nthO] using h)
def goodFrom (md : Region.Mode) (ops : Array Oper) : Array Bool → List (Nat × Bool) → Bool
  | listed, [] => (Region.ready md ops listed).isEmpty
  | listed, (i, true) :: l => Region.ready md ops listed == [i] && goodFrom md ops (listed.setIfInBounds i true) l
  | listed, (i, false) :: l => (Region.ready md ops listed).contains i && Region.free md ops listed i && goodFrom md ops (listed.setIfInBounds i true) l
def goodOrd (ops : Array Oper) (l : List (Nat × Bool)) : Bool := decide (l.length ≤ ops.size) && goodFrom .any ops (Array.replicate ops.size false) l

section
variable {P : Program} {ops : Array Oper} {Q : Exit → Act → World → Prop} {S : World → Prop}
def wpOrd (P : Program) (ops : Array Oper) (Q : Exit → Act → World → Prop) (S : World → Prop) : List (Nat × Bool) → Act → World → Prop
  | [], a, w => Q .normal a w
  | (i, true) :: l, a, w => wpOp P ops Q i (fun a' w' => S w' ∧ wpOrd P ops Q S l a' w') a w
  | (i, false) :: l, a, w => ∃ oi v, ops[i]? = some oi ∧ YieldsIf P ops S oi v a ∧ wpOrd P ops Q S l (a.put oi.dst v) w

theorem wpAnyH_of_ord (hs : Region.noSelect ops = true) (hQ : ∀ d v c a w, Q (.panic c) (Act.put a (some d) v) w → Q (.panic c) a w) :
    ∀ (l : List (Nat × Bool)) (fuel : Nat) (listed : Array Bool) (a : Act) (w : World), l.length ≤ fuel → goodFrom .any ops listed l = true → S w → wpOrd P ops Q S l a w →
      wpAnyH P .any ops Q S fuel listed a w := by
  intro l
  induction l with
  | nil =>
    intro fuel listed a w _ hg _ h
    exact wpAnyH_done (by simpa [goodFrom] using hg) h fuel
  | cons x l ih =>
    intro fuel listed a w hf hg hS h
    obtain ⟨fuel, rfl⟩ : ∃ f, fuel = f + 1 := ⟨fuel - 1, by simp at hf; omega⟩
    have hf' : l.length ≤ fuel := by simp at hf; omega
    obtain ⟨i, b⟩ := x
    cases b with
    | true =>
      simp only [goodFrom, Bool.and_eq_true, beq_iff_eq] at hg
      refine wpAnyH_all hg.1 (by simp) fun j hj => ?_
      obtain rfl : j = i := by simpa using hj
      exact wpOp_mono (fun a' w' h' => ⟨h'.1, ih fuel _ a' w' hf' hg.2 h'.1 h'.2⟩) h
    | false =>
      simp only [goodFrom, Bool.and_eq_true] at hg
      obtain ⟨oi, v, hi, hy, h'⟩ := h
      exact wpAnyH_take hi hs hg.1.2 hg.1.1 (fun c a w hh => by
        cases hd : oi.dst with
        | none => rw [hd] at hh; exact hh
        | some d => rw [hd] at hh; exact hQ d v c a w hh) hy hS (ih fuel _ _ w hf' hg.2 hS h')

theorem ord_start {id : Nat} {a : Act} {w : World} (S : World → Prop) (l : List (Nat × Bool)) (hm : P.follows .mixedOrders = true) (hs : Region.noSelect ops = true) (hg : goodOrd ops l = true)
    (hQ : ∀ d v c a w, Q (.panic c) (Act.put a (some d) v) w → Q (.panic c) a w) (hS : S w.drew) (h : S w.drew → wpOrd P ops Q S l a w.drew) : (Code.region id ops true).wp P Q a w := by
  unfold goodOrd at hg
  simp only [Bool.and_eq_true, decide_eq_true_eq] at hg
  exact wp_region_held_drew hm hS fun hS => wpAnyH_of_ord hs hQ l _ _ a _ hg.1 hg.2 hS (h hS)

/-- The usual condition: what was there when the region began is as it was. -/
theorem ord_below {id : Nat} {a : Act} {w : World} (l : List (Nat × Bool)) (hm : P.follows .mixedOrders = true) (hs : Region.noSelect ops = true) (hg : goodOrd ops l = true)
    (hQ : ∀ d v c a w, Q (.panic c) (Act.put a (some d) v) w → Q (.panic c) a w) (h : ∀ W, Below w.heap.size w W → wpOrd P ops Q (Below w.heap.size w) l a W) : (Code.region id ops true).wp P Q a w :=
  ord_start (Below w.heap.size w) l hm hs hg hQ (Below.refl _ _).drew fun hS => h _ hS

theorem ord_nil {a : Act} {w : World} (h : Q .normal a w) : wpOrd P ops Q S [] a w := h
theorem ord_skip {i : Nat} {o : Oper} {l : List (Nat × Bool)} {a : Act} {w : World} (ho' : nthO ops.toList i = some o) (hw : Region.wanted o (yielded ops a.tmps) = false)
    (h : wpOrd P ops Q S l (a.put o.dst undef) w) : wpOrd P ops Q S ((i, false) :: l) a w := ⟨o, undef, nthO_spec ho', .inr ⟨hw, rfl⟩, h⟩
theorem ord_cskip {i : Nat} {o : Oper} {l : List (Nat × Bool)} {a : Act} {w : World} (ho' : nthO ops.toList i = some o) (hw : Region.wanted o (yielded ops a.tmps) = false) (hS : S w)
    (h : wpOrd P ops Q S l (a.put o.dst undef) w) : wpOrd P ops Q S ((i, true) :: l) a w := by
  have ho := nthO_spec ho'
  show wpOp P ops Q i _ a w
  unfold wpOp
  rw [ho]
  show if Region.wanted o (yielded ops a.tmps) = true then _ else _
  rw [if_neg (by rw [hw]; decide)]
  exact ⟨hS, h⟩
theorem ord_take {i : Nat} {o : Oper} {v : Value} {l : List (Nat × Bool)} {a : Act} {w : World} (ho' : nthO ops.toList i = some o) (hw : Region.wanted o (yielded ops a.tmps) = true)
    (hy : ∀ W, S W → (execOp a.eval o).run P W = .ok (.value v) W)
    (h : wpOrd P ops Q S l (a.put o.dst v) w) : wpOrd P ops Q S ((i, false) :: l) a w := ⟨o, v, nthO_spec ho', .inl ⟨hw, hy⟩, h⟩
theorem ord_call {i : Nat} {o : Oper} {l : List (Nat × Bool)} {a : Act} {w : World} (ho' : nthO ops.toList i = some o) (hw : Region.wanted o (yielded ops a.tmps) = true)
    (h : ∀ K' : Act → World → Prop, Shut (∀ a w, S w → (S w → wpOrd P ops Q S l a w) → K' a w) → Oper.wp P o a w K' Q) : wpOrd P ops Q S ((i, true) :: l) a w := by
  have ho := nthO_spec ho'
  show wpOp P ops Q i _ a w
  refine wpOp_step ho fun K' hK => ?_
  rw [if_pos hw]
  exact h K' fun a w hS hW => hK a w ⟨hS, hW hS⟩
end
end Go.Proofs.Ytaohbicjdmogkaa
