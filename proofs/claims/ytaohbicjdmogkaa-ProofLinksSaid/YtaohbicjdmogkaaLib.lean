/-
  Words for memory that all walks of this seat use: a slice that reads as a list of things, whatever memory lies beside it.
-/
import Derived.WalkKit
import Derived.OwnWalk
import Derived.Below
import Derived.Lib.Hide
import Derived.Deep.Draws
import Derived.Deep.QuietTactic
namespace Go.Proofs.Ytaohbicjdmogkaa
open Go Go.RowKit

/-- A slice at A reads as the list xs: element k lies in s cells, which R holds to x. -/
def SlR {α : Type} (s : Nat) (R : World → α → List Value → Prop) (w : World) (A : Option Addr) (xs : List α) : Prop :=
  xs ≠ [] → ∃ b off, A = some ⟨b, off, none⟩ ∧ b < w.heap.size ∧
    ∀ k x, xs[k]? = some x → ∃ vs, R w x vs ∧ vs.length = s ∧ ∀ j v, vs[j]? = some v → w.cell? ⟨b, off + k * s + j, none⟩ = some v

/-- What R says stays true while the old blocks stay. -/
def Keeps {α : Type} (R : World → α → List Value → Prop) : Prop := ∀ w w' x vs, Below w.heap.size w w' → R w x vs → R w' x vs

def RInt (_ : World) (x : Int) (vs : List Value) : Prop := vs = [.int .i64 x]
def RU8 (_ : World) (x : Int) (vs : List Value) : Prop := vs = [.int .u8 x]
def RStr (_ : World) (x : ByteArray) (vs : List Value) : Prop := vs = [.string x]
theorem keeps_int : Keeps RInt := fun _ _ _ _ _ h => h
theorem keeps_u8 : Keeps RU8 := fun _ _ _ _ _ h => h
theorem keeps_str : Keeps RStr := fun _ _ _ _ _ h => h

section
variable {α : Type} {s : Nat} {R : World → α → List Value → Prop} {w w' : World} {A : Option Addr} {xs : List α}

theorem SlR.nil : SlR s R w A ([] : List α) := fun h => absurd rfl h
theorem SlR.below (hR : Keeps R) (h : SlR s R w A xs) (hb : Below w.heap.size w w') : SlR s R w' A xs := fun hn => by
  obtain ⟨b, off, rfl, hlt, hc⟩ := h hn
  refine ⟨b, off, rfl, Nat.lt_of_lt_of_le hlt hb.size, fun k x hx => ?_⟩
  obtain ⟨vs, hr, hl, hv⟩ := hc k x hx
  exact ⟨vs, hR _ _ _ _ hb hr, hl, fun j v hj => (hb.cell (p := ⟨b, _, none⟩) hlt).trans (hv j v hj)⟩
theorem SlR.at_ (h : SlR s R w A xs) {k : Nat} (hk : k < xs.length) : ∃ b off x vs, A = some ⟨b, off, none⟩ ∧ b < w.heap.size ∧ xs[k]? = some x ∧ R w x vs ∧ vs.length = s ∧
    ∀ j v, vs[j]? = some v → w.cell? ⟨b, off + k * s + j, none⟩ = some v := by
  obtain ⟨b, off, hA, hlt, hc⟩ := h (by intro e; subst e; simp at hk)
  obtain ⟨vs, hr, hl, hv⟩ := hc k xs[k] (List.getElem?_eq_getElem hk)
  exact ⟨b, off, xs[k], vs, hA, hlt, List.getElem?_eq_getElem hk, hr, hl, hv⟩
end

/-- All that is known of an int slice's element k. -/
theorem SlR.int {w : World} {A : Option Addr} {xs : List Int} (h : SlR 1 RInt w A xs) {k : Nat} (hk : k < xs.length) :
    ∃ b off x, A = some ⟨b, off, none⟩ ∧ b < w.heap.size ∧ xs[k]? = some x ∧ w.cell? ⟨b, off + k, none⟩ = some (.int .i64 x) := by
  obtain ⟨b, off, x, vs, hA, hlt, hx, hr, _, hv⟩ := h.at_ hk
  have h0 := hv 0 (.int .i64 x) (by rw [hr]; rfl)
  simp only [Nat.mul_one, Nat.add_zero] at h0
  exact ⟨b, off, x, hA, hlt, hx, h0⟩
theorem SlR.u8 {w : World} {A : Option Addr} {xs : List Int} (h : SlR 1 RU8 w A xs) {k : Nat} (hk : k < xs.length) :
    ∃ b off x, A = some ⟨b, off, none⟩ ∧ b < w.heap.size ∧ xs[k]? = some x ∧ w.cell? ⟨b, off + k, none⟩ = some (.int .u8 x) := by
  obtain ⟨b, off, x, vs, hA, hlt, hx, hr, _, hv⟩ := h.at_ hk
  have h0 := hv 0 (.int .u8 x) (by rw [hr]; rfl)
  simp only [Nat.mul_one, Nat.add_zero] at h0
  exact ⟨b, off, x, hA, hlt, hx, h0⟩
theorem SlR.str {w : World} {A : Option Addr} {xs : List ByteArray} (h : SlR 1 RStr w A xs) {k : Nat} (hk : k < xs.length) :
    ∃ b off x, A = some ⟨b, off, none⟩ ∧ b < w.heap.size ∧ xs[k]? = some x ∧ w.cell? ⟨b, off + k, none⟩ = some (.string x) := by
  obtain ⟨b, off, x, vs, hA, hlt, hx, hr, _, hv⟩ := h.at_ hk
  have h0 := hv 0 (.string x) (by rw [hr]; rfl)
  simp only [Nat.mul_one, Nat.add_zero] at h0
  exact ⟨b, off, x, hA, hlt, hx, h0⟩

theorem ret_int {k : IntKind} {a b : Int} (h : a = b) : Ending.returned (.int k a) = .returned (.int k b) := by rw [h]
theorem ret_bool {a b : Bool} (h : a = b) : Ending.returned (.bool a) = .returned (.bool b) := by rw [h]
theorem vint {k : IntKind} {a b : Int} (h : a = b) : Value.int k a = .int k b := by rw [h]
theorem vbool {a b : Bool} (h : a = b) : Value.bool a = .bool b := by rw [h]
theorem bcell {W w1 : World} (hb : Below W.heap.size W w1) : (∀ b o, b < W.heap.size → w1.cell? ⟨b, o, none⟩ = W.cell? ⟨b, o, none⟩) ∧ (∀ b o, b < W.heap.size → w1.frozen? ⟨b, o, none⟩ = W.frozen? ⟨b, o, none⟩) :=
  ⟨fun b o h => hb.cell (p := ⟨b, o, none⟩) h, fun b o h => hb.frozen (p := ⟨b, o, none⟩) h⟩
theorem new_cell (w : World) (cs : Array Value) (t : TypeId) (i : Nat) : (w.alloc (.cells cs t)).cell? ⟨w.heap.size, i, none⟩ = cs[i]? := by
  have h : (w.alloc (.cells cs t)).heap[w.heap.size]? = some (.cells cs t) := heap_alloc_new w _
  unfold World.cell?
  simp only [h]
  rfl
theorem new_lt (w : World) (o : Obj) : w.heap.size < (w.alloc o).heap.size := by simp
/-- What a box of the call's own still holds behind whatever left it alone. -/
theorem box_cell {w wr : World} {cs : Array Value} {t : TypeId} (hb : Below (w.heap.size + 1) (w.alloc (.cells cs t)) wr) (i : Nat) : wr.cell? ⟨w.heap.size, i, none⟩ = cs[i]? :=
  (hb.cell (p := ⟨w.heap.size, i, none⟩) (by show w.heap.size < _; omega)).trans (new_cell _ _ _ _)
theorem box_frozen {w wr : World} {cs : Array Value} {t : TypeId} (hb : Below (w.heap.size + 1) (w.alloc (.cells cs t)) wr) (i : Nat) : wr.frozen? ⟨w.heap.size, i, none⟩ = false :=
  (hb.frozen (p := ⟨w.heap.size, i, none⟩) (by show w.heap.size < _; omega)).trans (by
    have h : (w.alloc (.cells cs t)).heap[w.heap.size]? = some (.cells cs t) := heap_alloc_new w _
    unfold World.frozen?
    simp only [h]
    simp)
theorem box_size {w wr : World} {o : Obj} (hb : Below (w.heap.size + 1) (w.alloc o) wr) : w.heap.size < wr.heap.size := by
  have := hb.size; simp at this; omega
theorem unbox {w wr : World} {o : Obj} (hb : Below (w.heap.size + 1) (w.alloc o) wr) : Below w.heap.size w wr :=
  ((Below.refl _ _).alloc (Nat.le_refl _) o).trans (hb.mono (by omega))
theorem rebox (w : World) (o : Obj) : Below (w.heap.size + 1) (w.alloc o) (w.alloc o) := Below.refl _ _
theorem below_drewN {B : Nat} {a w : World} (h : Below B a w) (n : Nat) : Below B a (w.drewN n) := ⟨h.os, h.tape, h.output, h.size, h.block⟩
/-- A quiet callee in a region that draws, its contract in the form 'w = w''. -/
theorem quiet_l {P : Program} {f : FuncId} {args : Array Value} {w : World} {n : Nat} {v : Value}
    (h : Calls P f args (w.drewN n) fun e w' => e = .returned v ∧ w.drewN n = w') : Calls P f args (w.drewN n) fun e w'' => e = .returned v ∧ ∃ m, w'' = w.drewN m :=
  h.mono fun _ _ ⟨he, hm⟩ => ⟨he, n, hm.symm⟩
/-- The same behind draws. -/
theorem quiet_al {P : Program} {f : FuncId} {args : Array Value} {w : World} {a n : Nat} {v : Value}
    (h : Calls P f args (w.drewN (a + n)) fun e w' => e = .returned v ∧ w.drewN (a + n) = w') :
    Calls P f args (w.drewN (a + n)) fun e w'' => e = .returned v ∧ ∃ m, w'' = w.drewN (a + m) :=
  h.mono fun _ _ ⟨he, hm⟩ => ⟨he, n, hm.symm⟩
theorem take_succ_of {α : Type} {xs : List α} {k : Nat} {x : α} (h : xs[k]? = some x) : xs.take (k + 1) = xs.take k ++ [x] := by
  obtain ⟨hk, rfl⟩ := List.getElem?_eq_some_iff.1 h
  rw [List.take_succ_eq_append_getElem hk]
end Go.Proofs.Ytaohbicjdmogkaa
