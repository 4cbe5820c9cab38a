/-
  Words and plain laws of layers 15 and 16, joined: memory, regions, graphs, ways, groups. No conditions.
-/
import Derived.WalkKit
import Derived.OwnWalk
import Derived.Below
import Derived.Lib.Hide
import Derived.Deep.Draws
import Derived.Deep.QuietTactic
import Derived.Deep.RegionHeld
import Derived.Laws.AppendOwn
import Derived.Laws.OwnMore
import Derived.Maps.AppendAt
import Derived.Laws.Rows
import Derived.Laws.ResultCell
/-
  Words for memory that all walks of this seat use: a slice that reads as a list of things, whatever memory lies beside it.
-/
namespace Go.Proofs.Ytbikjmafddndpaa
open Go Go.RowKit

/-- A slice at A reads as the list xs: element k lies in s cells, which R holds to x. -/
def SlR {α : Type} (s : Nat) (R : World → α → List Value → Prop) (w : World) (A : Option Addr) (xs : List α) : Prop :=
  xs ≠ [] → ∃ b off, A = some ⟨b, off, none⟩ ∧ b < w.heap.size ∧
    ∀ k x, xs[k]? = some x → ∃ vs, R w x vs ∧ vs.length = s ∧ ∀ j v, vs[j]? = some v → w.cell? ⟨b, off + k * s + j, none⟩ = some v

/-- What R says stays true while the old blocks stay. -/
def Keeps {α : Type} (R : World → α → List Value → Prop) : Prop := ∀ w w' x vs, Below w.heap.size w w' → R w x vs → R w' x vs

def RInt (_ : World) (x : Int) (vs : List Value) : Prop := vs = [.int .i64 x]
def RU8 (_ : World) (x : Int) (vs : List Value) : Prop := vs = [.int .u8 x]
def RStr (_ : World) (x : ByteArray) (vs : List Value) : Prop := vs = [.string x]
theorem keeps_int : Keeps RInt := fun _ _ _ _ _ h => h
theorem keeps_u8 : Keeps RU8 := fun _ _ _ _ _ h => h
theorem keeps_str : Keeps RStr := fun _ _ _ _ _ h => h

section
variable {α : Type} {s : Nat} {R : World → α → List Value → Prop} {w w' : World} {A : Option Addr} {xs : List α}

theorem SlR.nil : SlR s R w A ([] : List α) := fun h => absurd rfl h
theorem SlR.below (hR : Keeps R) (h : SlR s R w A xs) (hb : Below w.heap.size w w') : SlR s R w' A xs := fun hn => by
  obtain ⟨b, off, rfl, hlt, hc⟩ := h hn
  refine ⟨b, off, rfl, Nat.lt_of_lt_of_le hlt hb.size, fun k x hx => ?_⟩
  obtain ⟨vs, hr, hl, hv⟩ := hc k x hx
  exact ⟨vs, hR _ _ _ _ hb hr, hl, fun j v hj => (hb.cell (p := ⟨b, _, none⟩) hlt).trans (hv j v hj)⟩
theorem SlR.at_ (h : SlR s R w A xs) {k : Nat} (hk : k < xs.length) : ∃ b off x vs, A = some ⟨b, off, none⟩ ∧ b < w.heap.size ∧ xs[k]? = some x ∧ R w x vs ∧ vs.length = s ∧
    ∀ j v, vs[j]? = some v → w.cell? ⟨b, off + k * s + j, none⟩ = some v := by
  obtain ⟨b, off, hA, hlt, hc⟩ := h (by intro e; subst e; simp at hk)
  obtain ⟨vs, hr, hl, hv⟩ := hc k xs[k] (List.getElem?_eq_getElem hk)
  exact ⟨b, off, xs[k], vs, hA, hlt, List.getElem?_eq_getElem hk, hr, hl, hv⟩
end

/-- All that is known of an int slice's element k. -/
theorem SlR.int {w : World} {A : Option Addr} {xs : List Int} (h : SlR 1 RInt w A xs) {k : Nat} (hk : k < xs.length) :
    ∃ b off x, A = some ⟨b, off, none⟩ ∧ b < w.heap.size ∧ xs[k]? = some x ∧ w.cell? ⟨b, off + k, none⟩ = some (.int .i64 x) := by
  obtain ⟨b, off, x, vs, hA, hlt, hx, hr, _, hv⟩ := h.at_ hk
  have h0 := hv 0 (.int .i64 x) (by rw [hr]; rfl)
  simp only [Nat.mul_one, Nat.add_zero] at h0
  exact ⟨b, off, x, hA, hlt, hx, h0⟩
theorem SlR.u8 {w : World} {A : Option Addr} {xs : List Int} (h : SlR 1 RU8 w A xs) {k : Nat} (hk : k < xs.length) :
    ∃ b off x, A = some ⟨b, off, none⟩ ∧ b < w.heap.size ∧ xs[k]? = some x ∧ w.cell? ⟨b, off + k, none⟩ = some (.int .u8 x) := by
  obtain ⟨b, off, x, vs, hA, hlt, hx, hr, _, hv⟩ := h.at_ hk
  have h0 := hv 0 (.int .u8 x) (by rw [hr]; rfl)
  simp only [Nat.mul_one, Nat.add_zero] at h0
  exact ⟨b, off, x, hA, hlt, hx, h0⟩
theorem SlR.str {w : World} {A : Option Addr} {xs : List ByteArray} (h : SlR 1 RStr w A xs) {k : Nat} (hk : k < xs.length) :
    ∃ b off x, A = some ⟨b, off, none⟩ ∧ b < w.heap.size ∧ xs[k]? = some x ∧ w.cell? ⟨b, off + k, none⟩ = some (.string x) := by
  obtain ⟨b, off, x, vs, hA, hlt, hx, hr, _, hv⟩ := h.at_ hk
  have h0 := hv 0 (.string x) (by rw [hr]; rfl)
  simp only [Nat.mul_one, Nat.add_zero] at h0
  exact ⟨b, off, x, hA, hlt, hx, h0⟩

theorem ret_int {k : IntKind} {a b : Int} (h : a = b) : Ending.returned (.int k a) = .returned (.int k b) := by rw [h]
theorem ret_bool {a b : Bool} (h : a = b) : Ending.returned (.bool a) = .returned (.bool b) := by rw [h]
theorem vint {k : IntKind} {a b : Int} (h : a = b) : Value.int k a = .int k b := by rw [h]
theorem vbool {a b : Bool} (h : a = b) : Value.bool a = .bool b := by rw [h]
theorem bcell {W w1 : World} (hb : Below W.heap.size W w1) : (∀ b o, b < W.heap.size → w1.cell? ⟨b, o, none⟩ = W.cell? ⟨b, o, none⟩) ∧ (∀ b o, b < W.heap.size → w1.frozen? ⟨b, o, none⟩ = W.frozen? ⟨b, o, none⟩) :=
  ⟨fun b o h => hb.cell (p := ⟨b, o, none⟩) h, fun b o h => hb.frozen (p := ⟨b, o, none⟩) h⟩
theorem new_cell (w : World) (cs : Array Value) (t : TypeId) (i : Nat) : (w.alloc (.cells cs t)).cell? ⟨w.heap.size, i, none⟩ = cs[i]? := by
  have h : (w.alloc (.cells cs t)).heap[w.heap.size]? = some (.cells cs t) := heap_alloc_new w _
  unfold World.cell?
  simp only [h]
  rfl
theorem new_lt (w : World) (o : Obj) : w.heap.size < (w.alloc o).heap.size := by simp
/-- What a box of the call's own still holds behind whatever left it alone. -/
theorem box_cell {w wr : World} {cs : Array Value} {t : TypeId} (hb : Below (w.heap.size + 1) (w.alloc (.cells cs t)) wr) (i : Nat) : wr.cell? ⟨w.heap.size, i, none⟩ = cs[i]? :=
  (hb.cell (p := ⟨w.heap.size, i, none⟩) (by show w.heap.size < _; omega)).trans (new_cell _ _ _ _)
theorem box_frozen {w wr : World} {cs : Array Value} {t : TypeId} (hb : Below (w.heap.size + 1) (w.alloc (.cells cs t)) wr) (i : Nat) : wr.frozen? ⟨w.heap.size, i, none⟩ = false :=
  (hb.frozen (p := ⟨w.heap.size, i, none⟩) (by show w.heap.size < _; omega)).trans (by
    have h : (w.alloc (.cells cs t)).heap[w.heap.size]? = some (.cells cs t) := heap_alloc_new w _
    unfold World.frozen?
    simp only [h]
    simp)
theorem box_size {w wr : World} {o : Obj} (hb : Below (w.heap.size + 1) (w.alloc o) wr) : w.heap.size < wr.heap.size := by
  have := hb.size; simp at this; omega
theorem unbox {w wr : World} {o : Obj} (hb : Below (w.heap.size + 1) (w.alloc o) wr) : Below w.heap.size w wr :=
  ((Below.refl _ _).alloc (Nat.le_refl _) o).trans (hb.mono (by omega))
theorem rebox (w : World) (o : Obj) : Below (w.heap.size + 1) (w.alloc o) (w.alloc o) := Below.refl _ _
theorem below_drewN {B : Nat} {a w : World} (h : Below B a w) (n : Nat) : Below B a (w.drewN n) := ⟨h.os, h.tape, h.output, h.size, h.block⟩
/-- A quiet callee in a region that draws, its contract in the form 'w = w''. -/
theorem quiet_l {P : Program} {f : FuncId} {args : Array Value} {w : World} {n : Nat} {v : Value}
    (h : Calls P f args (w.drewN n) fun e w' => e = .returned v ∧ w.drewN n = w') : Calls P f args (w.drewN n) fun e w'' => e = .returned v ∧ ∃ m, w'' = w.drewN m :=
  h.mono fun _ _ ⟨he, hm⟩ => ⟨he, n, hm.symm⟩
/-- The same behind draws. -/
theorem quiet_al {P : Program} {f : FuncId} {args : Array Value} {w : World} {a n : Nat} {v : Value}
    (h : Calls P f args (w.drewN (a + n)) fun e w' => e = .returned v ∧ w.drewN (a + n) = w') :
    Calls P f args (w.drewN (a + n)) fun e w'' => e = .returned v ∧ ∃ m, w'' = w.drewN (a + m) :=
  h.mono fun _ _ ⟨he, hm⟩ => ⟨he, n, hm.symm⟩
theorem take_succ_of {α : Type} {xs : List α} {k : Nat} {x : α} (h : xs[k]? = some x) : xs.take (k + 1) = xs.take k ++ [x] := by
  obtain ⟨hk, rfl⟩ := List.getElem?_eq_some_iff.1 h
  rw [List.take_succ_eq_append_getElem hk]
end Go.Proofs.Ytbikjmafddndpaa

/-
  The plain things of layers 15 and 16: graphs, links, candidates; potentials.
-/
namespace Go.Proofs.Ytbikjmafddndpaa
open Go Go.RowKit

structure Lk where
  fr : Int
  to : Int
  lb : Int
  cost : Int
deriving DecidableEq, Inhabited
structure Gr where
  n : Int
  ls : List Lk
deriving DecidableEq, Inhabited
structure Can where
  links : List Int
  cost : Int
deriving DecidableEq, Inhabited

def lkB (n : Int) (l : Lk) : Bool :=
  !(decide (l.fr < 0) || decide (l.to ≤ l.fr) || decide (n ≤ l.to)) && !(decide (l.lb < 0) || decide (1000000 < l.lb) || decide (l.cost < 0) || decide (1000000 < l.cost))
def grB (g : Gr) : Bool := !(decide (g.n < 1) || decide (2000 < g.n) || decide (20000 < g.ls.length)) && g.ls.all (lkB g.n)
/-- What a valid link is. -/
structure LkOK (n : Int) (l : Lk) : Prop where
  fr : 0 ≤ l.fr
  lt : l.fr < l.to
  to : l.to < n
  lb : 0 ≤ l.lb ∧ l.lb ≤ 1000000
  cost : 0 ≤ l.cost ∧ l.cost ≤ 1000000
structure GrOK (g : Gr) : Prop where
  n : 1 ≤ g.n ∧ g.n ≤ 2000
  len : g.ls.length ≤ 20000
  ls : ∀ l ∈ g.ls, LkOK g.n l
theorem lkB_iff {n : Int} {l : Lk} : lkB n l = true ↔ LkOK n l := by
  unfold lkB
  constructor
  · intro h
    simp at h
    exact ⟨by omega, by omega, by omega, by omega, by omega⟩
  · rintro ⟨h1, h2, h3, h4, h5⟩
    simp
    omega
theorem grB_iff {g : Gr} : grB g = true ↔ GrOK g := by
  unfold grB
  rw [Bool.and_eq_true, List.all_eq_true]
  constructor
  · rintro ⟨h1, h2⟩
    simp at h1
    exact ⟨by omega, by omega, fun l hl => lkB_iff.1 (h2 l hl)⟩
  · rintro ⟨h1, h2, h3⟩
    exact ⟨by simp; omega, fun l hl => lkB_iff.2 (h3 l hl)⟩

/-- The indices of the links that leave a node, in increasing order. -/
def lvTo (ls : List Lk) (v : Int) : Nat → List Int
  | 0 => []
  | k + 1 => match ls[k]? with
    | some l => if l.fr = v then lvTo ls v k ++ [(k : Int)] else lvTo ls v k
    | none => lvTo ls v k
def lvs (g : Gr) (v : Int) : List Int := lvTo g.ls v g.ls.length
theorem lvTo_succ {ls : List Lk} {v : Int} {k : Nat} {l : Lk} (h : ls[k]? = some l) : lvTo ls v (k + 1) = if l.fr = v then lvTo ls v k ++ [(k : Int)] else lvTo ls v k := by
  show (match ls[k]? with | some l => if l.fr = v then lvTo ls v k ++ [(k : Int)] else lvTo ls v k | none => lvTo ls v k) = _
  rw [h]
theorem lvTo_mem {ls : List Lk} {v : Int} : ∀ k, k ≤ ls.length → ∀ i, i ∈ lvTo ls v k ↔ ∃ j : Nat, j < k ∧ i = (j : Int) ∧ ∃ l, ls[j]? = some l ∧ l.fr = v := by
  intro k
  induction k with
  | zero => intro _ i; simp [lvTo]
  | succ k ih =>
    intro hk i
    have hl : ls[k]? = some ls[k] := List.getElem?_eq_getElem (by omega)
    rw [lvTo_succ hl]
    have h := ih (by omega) i
    constructor
    · intro hi
      split at hi
      · rename_i hf
        rcases List.mem_append.1 hi with h1 | h1
        · obtain ⟨j, hj, r⟩ := h.1 h1
          exact ⟨j, by omega, r⟩
        · obtain rfl := List.mem_singleton.1 h1
          exact ⟨k, by omega, rfl, _, hl, hf⟩
      · obtain ⟨j, hj, r⟩ := h.1 hi
        exact ⟨j, by omega, r⟩
    · rintro ⟨j, hj, hij, l, hlj, hf⟩
      rcases Nat.lt_or_ge j k with h1 | h1
      · have := h.2 ⟨j, h1, hij, l, hlj, hf⟩
        split
        · exact List.mem_append.2 (.inl this)
        · exact this
      · obtain rfl : j = k := by omega
        rw [hl] at hlj
        rw [if_pos (by rw [Option.some.inj hlj]; exact hf)]
        exact List.mem_append.2 (.inr (by simp [hij]))
theorem lvs_mem {g : Gr} {v i : Int} : i ∈ lvs g v ↔ ∃ (j : Nat) (l : Lk), i = (j : Int) ∧ g.ls[j]? = some l ∧ l.fr = v := by
  unfold lvs
  rw [lvTo_mem _ (Nat.le_refl _)]
  constructor
  · rintro ⟨j, _, h1, l, h2, h3⟩; exact ⟨j, l, h1, h2, h3⟩
  · rintro ⟨j, l, h1, h2, h3⟩; exact ⟨j, (List.getElem?_eq_some_iff.1 h2).1, h1, l, h2, h3⟩
theorem lvTo_inc {ls : List Lk} {v : Int} : ∀ k, k ≤ ls.length → (lvTo ls v k).Pairwise (· < ·) := by
  intro k
  induction k with
  | zero => intro _; exact List.Pairwise.nil
  | succ k ih =>
    intro hk
    have hl : ls[k]? = some ls[k] := List.getElem?_eq_getElem (by omega)
    rw [lvTo_succ hl]
    split
    · rw [List.pairwise_append]
      refine ⟨ih (by omega), List.pairwise_singleton _ _, fun a ha b hb => ?_⟩
      obtain rfl := List.mem_singleton.1 hb
      obtain ⟨j, hj, rfl, _⟩ := (lvTo_mem k (by omega) a).1 ha
      omega
    · exact ih (by omega)
theorem lvs_inc (g : Gr) (v : Int) : (lvs g v).Pairwise (· < ·) := lvTo_inc _ (Nat.le_refl _)

/-- The link of an index. -/
def lkAt (g : Gr) (i : Int) : Lk := g.ls.getD i.toNat default
/-- One step of a potential: the link i, where tail has the potentials of the nodes behind v. -/
def potStep (g : Gr) (v : Int) (tail : List Int) (acc i : Int) : Int :=
  let l := lkAt g i
  let t := tail.getD (l.to - v - 1).toNat 0
  if 0 ≤ t ∧ (acc < 0 ∨ l.cost + t < acc) then l.cost + t else acc
/-- The potentials of the last k nodes. -/
def potS (g : Gr) : Nat → List Int
  | 0 => []
  | 1 => [0]
  | k + 2 => (lvs g (g.n - (k + 2))).foldl (potStep g (g.n - (k + 2)) (potS g (k + 1))) (-1) :: potS g (k + 1)
theorem potS_len (g : Gr) : ∀ k, (potS g k).length = k
  | 0 => rfl
  | 1 => rfl
  | k + 2 => by simp [potS, potS_len g (k + 1)]
def potL (g : Gr) : List Int := potS g g.n.toNat
def potsOf (g : Gr) : List Int × Int := if grB g = true then (potL g, 0) else ([], 150)
end Go.Proofs.Ytbikjmafddndpaa

/-
  The plain law of layers 15 and 16: ways, their order, potentials as least costs, the first of the cheapest ways.
-/
namespace Go.Proofs.Ytbikjmafddndpaa
open List

/-- Go's order of lists: at the first place at which they differ. -/
def lexLt : List Int → List Int → Bool
  | [], [] => false
  | [], _ :: _ => true
  | _ :: _, [] => false
  | a :: x, b :: y => if a < b then true else if b < a then false else lexLt x y
theorem lex_irrefl (a : List Int) : lexLt a a = false := by
  induction a with
  | nil => rfl
  | cons x a ih => unfold lexLt; simp [ih]
theorem lex_trans : ∀ {a b c : List Int}, lexLt a b = true → lexLt b c = true → lexLt a c = true
  | [], [], _, h, _ => by simp [lexLt] at h
  | [], _ :: _, [], _, h => by simp [lexLt] at h
  | [], _ :: _, _ :: _, _, _ => rfl
  | _ :: _, [], _, h, _ => by simp [lexLt] at h
  | _ :: _, _ :: _, [], _, h => by simp [lexLt] at h
  | x :: a, y :: b, z :: c, h1, h2 => by
    unfold lexLt at h1 h2 ⊢
    by_cases h3 : x < y
    · by_cases h4 : y < z
      · rw [if_pos (by omega)]
      · by_cases h5 : z < y
        · rw [if_neg h4, if_pos h5] at h2; cases h2
        · rw [if_pos (by omega)]
    · by_cases h4 : y < x
      · rw [if_neg h3, if_pos h4] at h1; cases h1
      · rw [if_neg h3, if_neg h4] at h1
        have : x = y := by omega
        subst this
        by_cases h5 : x < z
        · rw [if_pos h5]
        · by_cases h6 : z < x
          · rw [if_neg h5, if_pos h6] at h2; cases h2
          · rw [if_neg h5, if_neg h6] at h2 ⊢
            exact lex_trans h1 h2
theorem lex_total : ∀ (a b : List Int), lexLt a b = true ∨ a = b ∨ lexLt b a = true
  | [], [] => .inr (.inl rfl)
  | [], _ :: _ => .inl rfl
  | _ :: _, [] => .inr (.inr rfl)
  | x :: a, y :: b => by
    unfold lexLt
    by_cases h1 : x < y
    · left; rw [if_pos h1]
    · by_cases h2 : y < x
      · right; right; rw [if_pos h2]
      · have : x = y := by omega
        subst this
        simp only [Int.lt_irrefl, if_false]
        rcases lex_total a b with h | h | h
        · left; exact h
        · right; left; rw [h]
        · right; right; exact h
theorem lex_asymm {a b : List Int} (h : lexLt a b = true) : lexLt b a = false := by
  cases hb : lexLt b a with
  | false => rfl
  | true => have := lex_trans h hb; rw [lex_irrefl] at this; cases this
theorem lex_pre (p a b : List Int) : lexLt (p ++ a) (p ++ b) = lexLt a b := by
  induction p with
  | nil => rfl
  | cons x p ih => rw [cons_append, cons_append]; conv => lhs; unfold lexLt
                   rw [if_neg (by omega), if_neg (by omega), ih]

/-- A way from a node to the last one. -/
def wayB (g : Gr) : Int → List Int → Bool
  | v, [] => decide (v = g.n - 1)
  | v, i :: r => decide (0 ≤ i ∧ i < g.ls.length ∧ (lkAt g i).fr = v) && wayB g (lkAt g i).to r
def sumC (g : Gr) : List Int → Int
  | [] => 0
  | i :: r => (lkAt g i).cost + sumC g r
theorem lkAt_mem {g : Gr} {i : Int} (h : 0 ≤ i ∧ i < g.ls.length) : g.ls[i.toNat]? = some (lkAt g i) := by
  unfold lkAt
  rw [List.getD_eq_getElem?_getD, List.getElem?_eq_getElem (by omega)]
  rfl
theorem lkAt_ok {g : Gr} (hg : GrOK g) {i : Int} (h : 0 ≤ i ∧ i < g.ls.length) : LkOK g.n (lkAt g i) := hg.ls _ (List.mem_of_getElem? (lkAt_mem h))
theorem lvs_iff {g : Gr} {v i : Int} : i ∈ lvs g v ↔ 0 ≤ i ∧ i < g.ls.length ∧ (lkAt g i).fr = v := by
  rw [lvs_mem]
  constructor
  · rintro ⟨j, l, rfl, h2, h3⟩
    have hj := (List.getElem?_eq_some_iff.1 h2).1
    have := lkAt_mem (g := g) (i := (j : Int)) (by omega)
    rw [Int.toNat_natCast] at this
    rw [h2] at this
    exact ⟨by omega, by omega, by rw [← Option.some.inj this]; exact h3⟩
  · rintro ⟨h1, h2, h3⟩
    exact ⟨i.toNat, lkAt g i, by omega, lkAt_mem ⟨h1, h2⟩, h3⟩
theorem way_cons {g : Gr} {v i : Int} {r : List Int} : wayB g v (i :: r) = true ↔ i ∈ lvs g v ∧ wayB g (lkAt g i).to r = true := by
  rw [lvs_iff]
  conv => lhs; unfold wayB
  simp

/-- The potential of a node, in the list of all. -/
def hAt (g : Gr) (v : Int) : Int := (potL g).getD v.toNat 0
/-- The least cost by the link i, or -1. -/
def viaOf (g : Gr) (i : Int) : Int := if 0 ≤ hAt g (lkAt g i).to then (lkAt g i).cost + hAt g (lkAt g i).to else -1
def minStep (f : Int → Int) (acc i : Int) : Int := if 0 ≤ f i ∧ (acc < 0 ∨ f i < acc) then f i else acc
theorem min_spec_ (f : Int → Int) : ∀ (L : List Int) (a : Int), (a < 0 → a = -1) →
    (L.foldl (minStep f) a = a ∧ ∀ i ∈ L, 0 ≤ f i → 0 ≤ a ∧ a ≤ f i) ∨ ((∃ i ∈ L, f i = L.foldl (minStep f) a ∧ 0 ≤ f i) ∧ (∀ i ∈ L, 0 ≤ f i → L.foldl (minStep f) a ≤ f i) ∧ (0 ≤ a → L.foldl (minStep f) a ≤ a)) := by
  intro L
  induction L with
  | nil => intro a _; exact .inl ⟨rfl, by simp⟩
  | cons x L ih =>
    intro a ha
    rw [foldl_cons]
    by_cases hx : 0 ≤ f x ∧ (a < 0 ∨ f x < a)
    · have e : minStep f a x = f x := by unfold minStep; rw [if_pos hx]
      rw [e]
      rcases ih (f x) (by omega) with ⟨h1, h2⟩ | ⟨⟨i, hi, h1, h2⟩, h3, h4⟩
      · right
        refine ⟨⟨x, by simp, h1.symm, hx.1⟩, fun i hi hf => ?_, fun _ => by omega⟩
        rcases mem_cons.1 hi with rfl | hi
        · omega
        · have := h2 i hi hf; omega
      · right
        refine ⟨⟨i, by simp [hi], h1, h2⟩, fun j hj hf => ?_, fun h0 => by have := h4 hx.1; omega⟩
        rcases mem_cons.1 hj with rfl | hj
        · exact h4 hx.1
        · exact h3 j hj hf
    · have e : minStep f a x = a := by unfold minStep; rw [if_neg hx]
      rw [e]
      rcases ih a ha with ⟨h1, h2⟩ | ⟨⟨i, hi, h1, h2⟩, h3, h4⟩
      · left
        refine ⟨h1, fun i hi hf => ?_⟩
        rcases mem_cons.1 hi with rfl | hi
        · omega
        · exact h2 i hi hf
      · right
        refine ⟨⟨i, by simp [hi], h1, h2⟩, fun j hj hf => ?_, h4⟩
        rcases mem_cons.1 hj with rfl | hj
        · have := h4 (by omega); omega
        · exact h3 j hj hf
theorem min_spec (f : Int → Int) (L : List Int) : (L.foldl (minStep f) (-1) = -1 ∧ ∀ i ∈ L, f i < 0) ∨
    ((∃ i ∈ L, f i = L.foldl (minStep f) (-1)) ∧ 0 ≤ L.foldl (minStep f) (-1) ∧ ∀ i ∈ L, 0 ≤ f i → L.foldl (minStep f) (-1) ≤ f i) := by
  rcases min_spec_ f L (-1) (fun _ => rfl) with ⟨h1, h2⟩ | ⟨⟨i, hi, h1, h2⟩, h3, _⟩
  · left
    refine ⟨h1, fun i hi => ?_⟩
    rcases Int.lt_or_le (f i) 0 with h | h
    · exact h
    · have := h2 i hi h; omega
  · exact .inr ⟨⟨i, hi, h1⟩, by omega, h3⟩

theorem potS_drop (g : Gr) : ∀ k m, k ≤ m → (potS g m).drop (m - k) = potS g k := by
  intro k m
  induction m with
  | zero => intro h; obtain rfl : k = 0 := by omega
            rfl
  | succ m ih =>
    intro h
    rcases Nat.lt_or_ge k (m + 1) with h1 | h1
    · cases m with
      | zero => obtain rfl : k = 0 := by omega
                rfl
      | succ m =>
        have e : potS g (m + 2) = (lvs g (g.n - (m + 2))).foldl (potStep g (g.n - (m + 2)) (potS g (m + 1))) (-1) :: potS g (m + 1) := rfl
        rw [show m + 1 + 1 - k = (m + 1 - k) + 1 by omega, e, drop_succ_cons]
        exact ih (by omega)
    · obtain rfl : k = m + 1 := by omega
      simp
theorem hAt_eq {g : Gr} (hg : GrOK g) {k : Nat} (hk : k ≤ g.n.toNat) {v : Int} (h0 : g.n - k ≤ v) (_h1 : v < g.n) : (potS g k).getD (v - (g.n - k)).toNat 0 = hAt g v := by
  have hn := hg.n
  unfold hAt potL
  rw [← potS_drop g k g.n.toNat hk, List.getD_eq_getElem?_getD, List.getD_eq_getElem?_getD, getElem?_drop]
  congr 2
  omega
theorem hAt_last {g : Gr} (hg : GrOK g) : hAt g (g.n - 1) = 0 := by
  have hn := hg.n
  rw [← hAt_eq hg (k := 1) (by omega) (by omega) (by omega)]
  have : (g.n - 1 - (g.n - (1 : Nat))).toNat = 0 := by omega
  rw [this]
  rfl
theorem hAt_step {g : Gr} (hg : GrOK g) {v : Int} (h0 : 0 ≤ v) (h1 : v < g.n - 1) : hAt g v = (lvs g v).foldl (minStep (viaOf g)) (-1) := by
  have hn := hg.n
  obtain ⟨k, hk⟩ : ∃ k : Nat, g.n - v = (k : Int) + 2 := ⟨(g.n - v - 2).toNat, by omega⟩
  rw [← hAt_eq hg (k := k + 2) (by omega) (v := v) (by omega) (by omega)]
  have e1 : (v - (g.n - ((k + 2 : Nat) : Int))).toNat = 0 := by omega
  rw [e1]
  unfold potS
  rw [List.getD_cons_zero]
  have e2 : g.n - ((k : Int) + 2) = v := by omega
  rw [e2]
  have : ∀ (L : List Int) (a : Int), (∀ i ∈ L, i ∈ lvs g v) → L.foldl (potStep g v (potS g (k + 1))) a = L.foldl (minStep (viaOf g)) a := by
    intro L
    induction L with
    | nil => intro a _; rfl
    | cons x L ih =>
      intro a h
      rw [foldl_cons, foldl_cons]
      have hx := lvs_iff.1 (h x (by simp))
      have hok := lkAt_ok hg ⟨hx.1, hx.2.1⟩
      have e : potStep g v (potS g (k + 1)) a x = minStep (viaOf g) a x := by
        unfold potStep minStep viaOf
        dsimp only
        have hto := hok.to
        have hlt := hok.lt
        have hcost := hok.cost
        have hh := hAt_eq hg (k := k + 1) (by omega) (v := (lkAt g x).to) (by omega) (by omega)
        have e3 : ((lkAt g x).to - (g.n - ((k + 1 : Nat) : Int))).toNat = ((lkAt g x).to - v - 1).toNat := by omega
        rw [e3] at hh
        rw [hh]
        by_cases h1 : 0 ≤ hAt g (lkAt g x).to
        · rw [if_pos h1]
          by_cases h2 : a < 0 ∨ (lkAt g x).cost + hAt g (lkAt g x).to < a
          · rw [if_pos ⟨h1, h2⟩, if_pos ⟨by omega, h2⟩]
          · rw [if_neg (fun h => h2 h.2), if_neg (fun h => h2 h.2)]
        · rw [if_neg (fun h => h1 h.1), if_neg h1, if_neg (by omega)]
      rw [e]
      exact ih _ fun i hi => h i (by simp [hi])
  exact this _ _ fun _ h => h
/-- No way costs less than the potential. -/
theorem way_h {g : Gr} (hg : GrOK g) : ∀ (w : List Int) (v : Int), 0 ≤ v → v < g.n → wayB g v w = true → 0 ≤ hAt g v ∧ hAt g v ≤ sumC g w := by
  intro w
  induction w with
  | nil =>
    intro v h0 h1 h
    unfold wayB at h
    have : v = g.n - 1 := by simpa using h
    rw [this, hAt_last hg]
    exact ⟨by omega, by unfold sumC; omega⟩
  | cons i w ih =>
    intro v h0 h1 h
    obtain ⟨hi, hw⟩ := way_cons.1 h
    have hi' := lvs_iff.1 hi
    have hok := lkAt_ok hg ⟨hi'.1, hi'.2.1⟩
    have hto := hok.to
    have hlt := hok.lt
    have hcost := hok.cost
    obtain ⟨h2, h3⟩ := ih (lkAt g i).to (by omega) (by omega) hw
    have hv : v < g.n - 1 := by omega
    have hvia : viaOf g i = (lkAt g i).cost + hAt g (lkAt g i).to := by unfold viaOf; rw [if_pos h2]
    unfold sumC
    rw [hAt_step hg h0 hv]
    rcases min_spec (viaOf g) (lvs g v) with ⟨h4, h5⟩ | ⟨_, h4, h5⟩
    · have := h5 i hi; omega
    · have := h5 i hi (by omega); omega
/-- The first of the cheapest ways from a node. -/
def bestW (g : Gr) : Nat → Int → List Int
  | 0, _ => []
  | k + 1, v => if v = g.n - 1 then [] else match (lvs g v).find? (fun i => decide (viaOf g i = hAt g v)) with
    | some i => i :: bestW g k (lkAt g i).to
    | none => []
theorem best_way {g : Gr} (hg : GrOK g) : ∀ (k : Nat) (v : Int), 0 ≤ v → v < g.n → g.n - v ≤ (k : Int) + 1 → 0 ≤ hAt g v → wayB g v (bestW g k v) = true ∧ sumC g (bestW g k v) = hAt g v := by
  intro k
  induction k with
  | zero =>
    intro v h0 h1 h2 _
    have : v = g.n - 1 := by omega
    unfold bestW
    rw [this, hAt_last hg]
    exact ⟨by unfold wayB; simp, rfl⟩
  | succ k ih =>
    intro v h0 h1 h2 h3
    unfold bestW
    by_cases hv : v = g.n - 1
    · rw [if_pos hv, hv, hAt_last hg]
      exact ⟨by unfold wayB; simp, rfl⟩
    · rw [if_neg hv]
      have hst := hAt_step hg h0 (by omega)
      rcases min_spec (viaOf g) (lvs g v) with ⟨h4, _⟩ | ⟨⟨i0, hi0, h5⟩, h4, _⟩
      · omega
      · cases hf : (lvs g v).find? (fun i => decide (viaOf g i = hAt g v)) with
        | none =>
          have := find?_eq_none.1 hf i0 hi0
          simp at this
          omega
        | some i =>
          have hi := mem_of_find?_eq_some hf
          have hvi := find?_some hf
          simp at hvi
          have hi' := lvs_iff.1 hi
          have hok := lkAt_ok hg ⟨hi'.1, hi'.2.1⟩
          have hto := hok.to
          have hlt := hok.lt
          have ht : 0 ≤ hAt g (lkAt g i).to := by
            rcases Int.lt_or_le (hAt g (lkAt g i).to) 0 with h | h
            · unfold viaOf at hvi; rw [if_neg (by omega)] at hvi; omega
            · exact h
          obtain ⟨h6, h7⟩ := ih (lkAt g i).to (by omega) (by omega) (by omega) ht
          have hvia : viaOf g i = (lkAt g i).cost + hAt g (lkAt g i).to := by unfold viaOf; rw [if_pos ht]
          exact ⟨way_cons.2 ⟨hi, h6⟩, by show (lkAt g i).cost + sumC g _ = _; omega⟩
theorem find_first {p : Int → Bool} : ∀ {L : List Int}, L.Pairwise (· < ·) → ∀ {i j : Int}, L.find? p = some i → j ∈ L → p j = true → i = j ∨ i < j := by
  intro L
  induction L with
  | nil => intro _ i j h; simp at h
  | cons x L ih =>
    intro hp i j h hj hpj
    obtain ⟨h1, h2⟩ := pairwise_cons.1 hp
    rw [find?_cons] at h
    cases hx : p x with
    | true =>
      rw [hx] at h
      obtain rfl := Option.some.inj h
      rcases mem_cons.1 hj with rfl | hj
      · exact .inl rfl
      · exact .inr (h1 j hj)
    | false =>
      rw [hx] at h
      rcases mem_cons.1 hj with rfl | hj
      · rw [hx] at hpj; cases hpj
      · exact ih h2 h hj hpj
theorem best_first {g : Gr} (hg : GrOK g) : ∀ (k : Nat) (v : Int), 0 ≤ v → v < g.n → g.n - v ≤ (k : Int) + 1 → ∀ w, wayB g v w = true → sumC g w = hAt g v → bestW g k v = w ∨ lexLt (bestW g k v) w = true := by
  intro k
  induction k with
  | zero =>
    intro v h0 h1 h2 w hw _
    cases w with
    | nil => exact .inl rfl
    | cons i w =>
      obtain ⟨hi, _⟩ := way_cons.1 hw
      have hi' := lvs_iff.1 hi
      have hok := lkAt_ok hg ⟨hi'.1, hi'.2.1⟩
      have hto := hok.to
      have hlt := hok.lt
      omega
  | succ k ih =>
    intro v h0 h1 h2 w hw hs
    unfold bestW
    by_cases hv : v = g.n - 1
    · rw [if_pos hv]
      cases w with
      | nil => exact .inl rfl
      | cons i w => exact .inr rfl
    · rw [if_neg hv]
      cases w with
      | nil => unfold wayB at hw; simp at hw; omega
      | cons j w =>
        obtain ⟨hj, hw'⟩ := way_cons.1 hw
        have hj' := lvs_iff.1 hj
        have hok := lkAt_ok hg ⟨hj'.1, hj'.2.1⟩
        have hto := hok.to
        have hlt := hok.lt
        obtain ⟨h3, h4⟩ := way_h hg w _ (by omega) (by omega) hw'
        have hst := hAt_step hg h0 (by omega)
        have hvia : viaOf g j = (lkAt g j).cost + hAt g (lkAt g j).to := by unfold viaOf; rw [if_pos h3]
        have hs' : (lkAt g j).cost + sumC g w = hAt g v := hs
        have hcost := hok.cost
        have hmin : hAt g v ≤ viaOf g j := by
          rcases min_spec (viaOf g) (lvs g v) with ⟨_, h5⟩ | ⟨_, _, h5⟩
          · have := h5 j hj; omega
          · have := h5 j hj (by omega); omega
        have hje : viaOf g j = hAt g v := by omega
        have hse : sumC g w = hAt g (lkAt g j).to := by omega
        cases hf : (lvs g v).find? (fun i => decide (viaOf g i = hAt g v)) with
        | none =>
          have := find?_eq_none.1 hf j hj
          simp at this
          omega
        | some i =>
          dsimp only
          rcases find_first (lvs_inc g v) hf hj (by simpa using hje) with rfl | hij
          · rcases ih (lkAt g i).to (by omega) (by omega) (by omega) w hw' hse with h | h
            · left; rw [h]
            · right; unfold lexLt; rw [if_neg (by omega), if_neg (by omega)]; exact h
          · right; unfold lexLt; rw [if_pos hij]
end Go.Proofs.Ytbikjmafddndpaa

/-
  A region that draws its order, walked once: what only reads is taken as soon as it may come up; what makes memory comes up in one forced order. One condition S on the world holds behind each step.
-/
namespace Go.Proofs.Ytbikjmafddndpaa
open Go Go.RowKit

theorem add_mk (b o n : Nat) : (Addr.mk b o none).add n = ⟨b, o + n, none⟩ := by
  unfold Addr.add; split <;> simp_all
theorem SlR.drop {α : Type} {s : Nat} {R : World → α → List Value → Prop} {w : World} {A : Option Addr} {xs : List α} (h : SlR s R w A xs) (f : Nat) :
    SlR s R w (A.map (fun x => x.add (f * s))) (xs.drop f) := fun hn => by
  obtain ⟨b, off, rfl, hlt, hc⟩ := h (by rintro rfl; simp at hn)
  refine ⟨b, off + f * s, by simp [add_mk], hlt, fun k x hx => ?_⟩
  rw [List.getElem?_drop] at hx
  obtain ⟨vs, hr, hl, hv⟩ := hc (f + k) x hx
  refine ⟨vs, hr, hl, fun j v hj => ?_⟩
  have := hv j v hj
  rwa [show off + f * s + k * s + j = off + (f + k) * s + j by rw [Nat.add_mul]; omega]
theorem bx {w w1 : World} {o : Obj} (h : Below (w.alloc o).heap.size (w.alloc o) w1) : Below (w.heap.size + 1) (w.alloc o) w1 := h.mono (by simp)

def nthO : List Oper → Nat → Option Oper
  | o :: _, 0 => some o
  | _ :: l, n + 1 => nthO l n
  | [], _ => none
theorem nthO_spec {ops : Array Oper} {i : Nat} {o : Oper} (h : nthO ops.toList i = some o) : ops[i]? = some o := by
  rw [← Array.getElem?_toList]
  generalize ops.toList = l at h
  induction l generalizing i with
  | nil => simp [nthO] at h
  | cons x l ih =>
    cases i with
    | zero => simpa [nthO] using h
    | succ i => simpa using ih (by simpa [nthO] using h)
def goodFrom (md : Region.Mode) (ops : Array Oper) : Array Bool → List (Nat × Bool) → Bool
  | listed, [] => (Region.ready md ops listed).isEmpty
  | listed, (i, true) :: l => Region.ready md ops listed == [i] && goodFrom md ops (listed.setIfInBounds i true) l
  | listed, (i, false) :: l => (Region.ready md ops listed).contains i && Region.free md ops listed i && goodFrom md ops (listed.setIfInBounds i true) l
def goodOrd (ops : Array Oper) (l : List (Nat × Bool)) : Bool := decide (l.length ≤ ops.size) && goodFrom .any ops (Array.replicate ops.size false) l

section
variable {P : Program} {ops : Array Oper} {Q : Exit → Act → World → Prop} {S : World → Prop}
def wpOrd (P : Program) (ops : Array Oper) (Q : Exit → Act → World → Prop) (S : World → Prop) : List (Nat × Bool) → Act → World → Prop
  | [], a, w => Q .normal a w
  | (i, true) :: l, a, w => wpOp P ops Q i (fun a' w' => S w' ∧ wpOrd P ops Q S l a' w') a w
  | (i, false) :: l, a, w => ∃ oi v, ops[i]? = some oi ∧ YieldsIf P ops S oi v a ∧ wpOrd P ops Q S l (a.put oi.dst v) w

theorem wpAnyH_of_ord (hs : Region.noSelect ops = true) (hQ : ∀ d v c a w, Q (.panic c) (Act.put a (some d) v) w → Q (.panic c) a w) :
    ∀ (l : List (Nat × Bool)) (fuel : Nat) (listed : Array Bool) (a : Act) (w : World), l.length ≤ fuel → goodFrom .any ops listed l = true → S w → wpOrd P ops Q S l a w →
      wpAnyH P .any ops Q S fuel listed a w := by
  intro l
  induction l with
  | nil =>
    intro fuel listed a w _ hg _ h
    exact wpAnyH_done (by simpa [goodFrom] using hg) h fuel
  | cons x l ih =>
    intro fuel listed a w hf hg hS h
    obtain ⟨fuel, rfl⟩ : ∃ f, fuel = f + 1 := ⟨fuel - 1, by simp at hf; omega⟩
    have hf' : l.length ≤ fuel := by simp at hf; omega
    obtain ⟨i, b⟩ := x
    cases b with
    | true =>
      simp only [goodFrom, Bool.and_eq_true, beq_iff_eq] at hg
      refine wpAnyH_all hg.1 (by simp) fun j hj => ?_
      obtain rfl : j = i := by simpa using hj
      exact wpOp_mono (fun a' w' h' => ⟨h'.1, ih fuel _ a' w' hf' hg.2 h'.1 h'.2⟩) h
    | false =>
      simp only [goodFrom, Bool.and_eq_true] at hg
      obtain ⟨oi, v, hi, hy, h'⟩ := h
      exact wpAnyH_take hi hs hg.1.2 hg.1.1 (fun c a w hh => by
        cases hd : oi.dst with
        | none => rw [hd] at hh; exact hh
        | some d => rw [hd] at hh; exact hQ d v c a w hh) hy hS (ih fuel _ _ w hf' hg.2 hS h')

theorem ord_start {id : Nat} {a : Act} {w : World} (S : World → Prop) (l : List (Nat × Bool)) (hm : P.follows .mixedOrders = true) (hs : Region.noSelect ops = true) (hg : goodOrd ops l = true)
    (hQ : ∀ d v c a w, Q (.panic c) (Act.put a (some d) v) w → Q (.panic c) a w) (hS : S w.drew) (h : S w.drew → wpOrd P ops Q S l a w.drew) : (Code.region id ops true).wp P Q a w := by
  unfold goodOrd at hg
  simp only [Bool.and_eq_true, decide_eq_true_eq] at hg
  exact wp_region_held_drew hm hS fun hS => wpAnyH_of_ord hs hQ l _ _ a _ hg.1 hg.2 hS (h hS)

/-- The usual condition: what was there when the region began is as it was. -/
theorem ord_below {id : Nat} {a : Act} {w : World} (l : List (Nat × Bool)) (hm : P.follows .mixedOrders = true) (hs : Region.noSelect ops = true) (hg : goodOrd ops l = true)
    (hQ : ∀ d v c a w, Q (.panic c) (Act.put a (some d) v) w → Q (.panic c) a w) (h : ∀ W, Below w.heap.size w W → wpOrd P ops Q (Below w.heap.size w) l a W) : (Code.region id ops true).wp P Q a w :=
  ord_start (Below w.heap.size w) l hm hs hg hQ (Below.refl _ _).drew fun hS => h _ hS

theorem ord_nil {a : Act} {w : World} (h : Q .normal a w) : wpOrd P ops Q S [] a w := h
theorem ord_skip {i : Nat} {o : Oper} {l : List (Nat × Bool)} {a : Act} {w : World} (ho' : nthO ops.toList i = some o) (hw : Region.wanted o (yielded ops a.tmps) = false)
    (h : wpOrd P ops Q S l (a.put o.dst undef) w) : wpOrd P ops Q S ((i, false) :: l) a w := ⟨o, undef, nthO_spec ho', .inr ⟨hw, rfl⟩, h⟩
theorem ord_cskip {i : Nat} {o : Oper} {l : List (Nat × Bool)} {a : Act} {w : World} (ho' : nthO ops.toList i = some o) (hw : Region.wanted o (yielded ops a.tmps) = false) (hS : S w)
    (h : wpOrd P ops Q S l (a.put o.dst undef) w) : wpOrd P ops Q S ((i, true) :: l) a w := by
  have ho := nthO_spec ho'
  show wpOp P ops Q i _ a w
  unfold wpOp
  rw [ho]
  show if Region.wanted o (yielded ops a.tmps) = true then _ else _
  rw [if_neg (by rw [hw]; decide)]
  exact ⟨hS, h⟩
theorem ord_take {i : Nat} {o : Oper} {v : Value} {l : List (Nat × Bool)} {a : Act} {w : World} (ho' : nthO ops.toList i = some o) (hw : Region.wanted o (yielded ops a.tmps) = true)
    (hy : ∀ W, S W → (execOp a.eval o).run P W = .ok (.value v) W)
    (h : wpOrd P ops Q S l (a.put o.dst v) w) : wpOrd P ops Q S ((i, false) :: l) a w := ⟨o, v, nthO_spec ho', .inl ⟨hw, hy⟩, h⟩
theorem ord_call {i : Nat} {o : Oper} {l : List (Nat × Bool)} {a : Act} {w : World} (ho' : nthO ops.toList i = some o) (hw : Region.wanted o (yielded ops a.tmps) = true)
    (h : ∀ K' : Act → World → Prop, Shut (∀ a w, S w → (S w → wpOrd P ops Q S l a w) → K' a w) → Oper.wp P o a w K' Q) : wpOrd P ops Q S ((i, true) :: l) a w := by
  have ho := nthO_spec ho'
  show wpOp P ops Q i _ a w
  refine wpOp_step ho fun K' hK => ?_
  rw [if_pos hw]
  exact h K' fun a w hS hW => hK a w ⟨hS, hW hS⟩
end
end Go.Proofs.Ytbikjmafddndpaa

/-
  Rows that a call makes for itself: what they read as; an element appended.
-/
namespace Go.Proofs.Ytbikjmafddndpaa
open Go Go.RowKit

/-- A row of the call's own reads as the list whose elements' cells it holds. -/
theorem own_slr {α : Type} {w : World} {base : Nat} {e : TypeId} {s n : Nat} {v : Value} {xs : List α} {enc : α → List Value} {R : World → α → List Value → Prop}
    (hown : w.ownsRow base e s v n (xs.flatMap enc)) (hl : ∀ x, (enc x).length = s) (hR : ∀ x, R w x (enc x)) (hn : n = xs.length) :
    ∃ A cap, v = .slice A n cap ∧ n ≤ cap ∧ cap ≤ maxLen ∧ SlR s R w A xs := by
  have hget : ∀ (l : List α) (k : Nat) (x : α), l[k]? = some x → ∀ j u, (enc x)[j]? = some u → (l.flatMap enc)[k * s + j]? = some u := by
    intro l
    induction l with
    | nil => intro k x h; simp at h
    | cons y l ih =>
      intro k x hx j u hu
      cases k with
      | zero =>
        simp at hx; subst hx
        obtain ⟨hj, _⟩ := List.getElem?_eq_some_iff.1 hu
        rw [List.flatMap_cons, Nat.zero_mul, Nat.zero_add, List.getElem?_append_left hj]
        exact hu
      | succ k =>
        rw [List.flatMap_cons, List.getElem?_append_right (by rw [hl, Nat.succ_mul]; omega)]
        rw [hl, show (k + 1) * s + j - s = k * s + j by rw [Nat.succ_mul]; omega]
        exact ih k x (by simpa using hx) j u hu
  rcases hown.2 with ⟨rfl, h0⟩ | ⟨g, cap, cur, rfl, hg, hh, hnc, hcm, hcs, htk⟩
  · subst h0
    have : xs = [] := List.length_eq_zero_iff.1 hn.symm
    subst this
    exact ⟨none, 0, rfl, Nat.le_refl _, Nat.zero_le _, SlR.nil⟩
  · refine ⟨some ⟨g, 0, none⟩, cap, rfl, hnc, hcm, fun _ => ⟨g, 0, rfl, ?_, fun k x hx => ⟨enc x, hR x, hl x, fun j u hu => ?_⟩⟩⟩
    · rcases Nat.lt_or_ge g w.heap.size with h | h
      · exact h
      · rw [Array.getElem?_eq_none h] at hh; cases hh
    · have h1 := hget xs k x hx j u hu
      rw [← htk] at h1
      have h2 : cur.toList[k * s + j]? = some u := by
        rw [List.getElem?_take] at h1
        split at h1
        · exact h1
        · cases h1
      unfold World.cell?
      simp only [hh, Nat.zero_add, Option.isSome_none]
      simpa using h2

theorem own_empty (w : World) (e : TypeId) (s base : Nat) (hb : base ≤ w.heap.size) : (w.alloc (.cells #[] e)).ownsRow base e s (.slice (some ⟨w.heap.size, 0, none⟩) 0 0) 0 [] := by
  have h : (w.alloc (.cells #[] e)).heap[w.heap.size]? = some (.cells #[] e) := heap_alloc_new w _
  exact ⟨by simp, .inr ⟨w.heap.size, 0, #[], rfl, hb, h, Nat.le_refl _, Nat.zero_le _, by simp, by simp⟩⟩
theorem own_nil (w : World) (e : TypeId) (s base : Nat) : w.ownsRow base e s (.slice none 0 0) 0 [] := ⟨by simp, .inl ⟨rfl, rfl⟩⟩
theorem own_block_le {w : World} {base : Nat} {e : TypeId} {s n : Nat} {v : Value} {xs : List Value} (h : w.ownsRow base e s v n xs) : ∀ k, v.ownBlock = some k → base ≤ k := fun k hk => by
  rcases h.2 with ⟨rfl, _⟩ | ⟨g, cap, cur, rfl, hg, _⟩
  · simp [Value.ownBlock] at hk
  · simp [Value.ownBlock] at hk; omega

/-- Behind an append: every old block but the row's own is as it was; the row lies where it lay, or in the next new block. -/
structure Apps (w w' : World) (v v' : Value) : Prop where
  keep : ∀ k, k < w.heap.size → v.ownBlock ≠ some k → w'.heap[k]? = w.heap[k]?
  at_ : v'.ownBlock = v.ownBlock ∨ ∃ k, v'.ownBlock = some k ∧ w.heap.size ≤ k
theorem Apps.cell {w w' : World} {v v' : Value} (h : Apps w w' v v') {b o : Nat} (hb : b < w.heap.size) (hne : v.ownBlock ≠ some b) : w'.cell? ⟨b, o, none⟩ = w.cell? ⟨b, o, none⟩ := World.cell?_of_block (h.keep b hb hne)
theorem Apps.frozen {w w' : World} {v v' : Value} (h : Apps w w' v v') {b o : Nat} (hb : b < w.heap.size) (hne : v.ownBlock ≠ some b) : w'.frozen? ⟨b, o, none⟩ = w.frozen? ⟨b, o, none⟩ := World.frozen?_of_block (h.keep b hb hne)
theorem Apps.ne {w w' : World} {v v' : Value} (h : Apps w w' v v') {b : Nat} (hb : b < w.heap.size) (hne : v.ownBlock ≠ some b) : v'.ownBlock ≠ some b := fun e => by
  rcases h.at_ with h1 | ⟨k, h1, h2⟩
  · exact hne (by rw [← h1]; exact e)
  · rw [h1] at e; injection e with e; omega
theorem own_lt {w : World} {base : Nat} {e : TypeId} {s n : Nat} {v : Value} {xs : List Value} (h : w.ownsRow base e s v n xs) {k : Nat} (hk : w.heap.size ≤ k) : v.ownBlock ≠ some k := fun e => by
  rcases h.2 with ⟨rfl, _⟩ | ⟨g, cap, cur, rfl, _, hh, _⟩
  · simp [Value.ownBlock] at e
  · simp [Value.ownBlock] at e
    subst e
    rw [Array.getElem?_eq_none hk] at hh; cases hh
theorem own_base {w : World} {base base' : Nat} {e : TypeId} {s n : Nat} {v : Value} {xs : List Value} (h : w.ownsRow base e s v n xs) (hb : base' ≤ base) : w.ownsRow base' e s v n xs := by
  obtain ⟨h1, h2⟩ := h
  refine ⟨h1, h2.imp id fun ⟨g, cap, cur, hv, hg, r⟩ => ⟨g, cap, cur, hv, by omega, r⟩⟩
theorem own_set {w : World} {base : Nat} {e : TypeId} {s n : Nat} {v : Value} {xs : List Value} (h : w.ownsRow base e s v n xs) {a : Addr} (ha : v.ownBlock ≠ some a.block) (u : Value) : (w.setCell a u).ownsRow base e s v n xs := by
  obtain ⟨h1, h2⟩ := h
  refine ⟨h1, ?_⟩
  rcases h2 with h2 | ⟨g, cap, cur, rfl, hg, hh, r⟩
  · exact .inl h2
  · refine .inr ⟨g, cap, cur, rfl, hg, ?_, r⟩
    rw [Below.heap_setCell _ _ _ _ (fun e => ha (by rw [← e]; rfl))]
    exact hh
theorem own_below {w w' : World} {base : Nat} {e : TypeId} {s n : Nat} {v : Value} {xs : List Value} (h : w.ownsRow base e s v n xs) (hb : Below w.heap.size w w') : w'.ownsRow base e s v n xs := by
  obtain ⟨h1, h2⟩ := h
  refine ⟨h1, ?_⟩
  rcases h2 with h2 | ⟨g, cap, cur, rfl, hg, hh, r⟩
  · exact .inl h2
  · refine .inr ⟨g, cap, cur, rfl, hg, ?_, r⟩
    have : g < w.heap.size := by
      rcases Nat.lt_or_ge g w.heap.size with h | h
      · exact h
      · rw [Array.getElem?_eq_none h] at hh; cases hh
    rw [hb.block g this]
    exact hh

section
variable {P : Program}
/-- 'append(out, x)': x's cells lie in a block that was just made. -/
theorem wpList_app1 {ops : Array Oper} {rest : List Oper} {o : Oper} {a : Act} {Q : Exit → Act → World → Prop} {w : World} (hgd : o.guard = none) (s x : Operand) (t : TypeId)
    (ho : o.op = .call { callee := .builtin .append, args := #[s, x], argTypes := #[t, t] })
    (base : Nat) (e : TypeId) (i : TypeInfo) (z : Value) (size bytes : Nat) (ht : P.underlying t = some (.slice e)) (hi : P.info? e = some i) (hz : i.zero = some z)
    (hsize : i.size = size) (hby : i.bytes = bytes) (hzs : z.cells.size = size) (hsz : 0 < size)
    (v : Value) (n : Nat) (xs : List Value) (hs : a.eval s = v) (w0 : World) (vs : List Value) (hw : w = w0.alloc (.cells vs.toArray e)) (hown : w0.ownsRow base e size v n xs)
    (g : Nat) (hx : a.eval x = .slice (some ⟨g, 0, none⟩) 1 1) (hg : g = w0.heap.size) (hl : vs.length = size) (h1 : ∀ u ∈ vs, u.oneCell' = true)
    (hn : n ≤ 1000000) (hbb : bytes ≤ 1000) (hbase : base ≤ w0.heap.size)
    (h : ∀ v' w', w'.ownsRow base e size v' (n + 1) (xs ++ vs) → Below base w0 w' → Apps w0 w' v v' → wpList P ops Q rest (a.put o.dst v') w') : wpList P ops Q (o :: rest) a w := by
  subst hw
  subst hg
  have hb1 : (n + 1) * bytes ≤ 1000001 * 1000 := Nat.mul_le_mul (by omega) hbb
  refine wpList_plain hgd fun K hK => ?_
  obtain ⟨v', w', hrun, h2, h3, _, h5⟩ := run_append_own_at (P := P) (w0.alloc (.cells vs.toArray e)) base t o.type e i z size bytes ht hi hz hsize hby hzs hsz v n xs (hown.alloc _) ⟨w0.heap.size, 0, none⟩ 1 1 vs (by rw [hl]; omega)
    (fun j u hj => by rw [add_mk, Nat.zero_add, new_cell]; simpa using hj) h1 (by unfold maxLen; omega) (by omega) (by simp; omega)
  unfold Oper.wp execOp
  simp only [ho, resolve, invoke, builtin, Sem.run_bind, Sem.run_pure, Result.andThen_ok, List.map_toArray, List.map_cons, List.map_nil, hs, hx, hrun]
  refine hK _ _ (h v' w' h2 (((Below.refl _ _).alloc hbase _).grown h3 (by simp; omega) (own_block_le hown)) ⟨fun k hk hne => ?_, ?_⟩)
  · exact (h3.block k (by simp; omega) (fun e => hne e.symm)).trans (Below.heap_alloc _ _ _ hk)
  · rcases h5 with h5 | h5
    · exact .inl h5
    · exact .inr ⟨_, h5, by simp⟩
end
end Go.Proofs.Ytbikjmafddndpaa

/-
  A region that draws its order and ends in stores: the condition S is not asked behind the stores 'ts', which wait for all that reads.
-/
namespace Go.Proofs.Ytbikjmafddndpaa
open Go Go.RowKit

/-- Operation t waits for operation i. -/
def waitsFor (ops : Array Oper) (t i : Nat) : Bool := match ops[t]? with
  | some o => o.after.any fun e => Region.binds .any e && e.on == i
  | none => false
def goodFromT (ops : Array Oper) (ts : List Nat) : Array Bool → List (Nat × Bool) → Bool
  | listed, [] => (Region.ready .any ops listed).isEmpty
  | listed, (i, true) :: l => Region.ready .any ops listed == [i] && goodFromT ops ts (listed.setIfInBounds i true) l
  | listed, (i, false) :: l => (Region.ready .any ops listed).contains i && Region.free .any ops listed i && ts.all (fun t => waitsFor ops t i) && goodFromT ops ts (listed.setIfInBounds i true) l
def goodOrdT (ops : Array Oper) (ts : List Nat) (l : List (Nat × Bool)) : Bool := decide (l.length ≤ ops.size) && goodFromT ops ts (Array.replicate ops.size false) l

section
variable {P : Program} {ops : Array Oper} {Q : Exit → Act → World → Prop} {S : World → Prop} {ts : List Nat}
def wpAnyT (P : Program) (ops : Array Oper) (Q : Exit → Act → World → Prop) (S : World → Prop) (ts : List Nat) : Nat → Array Bool → Act → World → Prop
  | 0, listed, a, w => Region.ready .any ops listed = [] ∧ Q .normal a w
  | fuel + 1, listed, a, w =>
    (Region.ready .any ops listed = [] → Q .normal a w) ∧
    ∀ i ∈ Region.ready .any ops listed, wpOp P ops Q i (fun a' w' => (ts.contains i = false → S w') ∧ wpAnyT P ops Q S ts fuel (listed.setIfInBounds i true) a' w') a w
theorem wpAny_of_T : ∀ (fuel : Nat) (listed : Array Bool) (a : Act) (w : World), wpAnyT P ops Q S ts fuel listed a w → wpAny P .any ops Q fuel listed a w
  | 0, _, _, _, h => h
  | fuel + 1, _, _, _, h => ⟨h.1, fun i hi => wpOp_mono (fun a' w' h' => wpAny_of_T fuel _ a' w' h'.2) (h.2 i hi)⟩
theorem wpAnyT_first {i : Nat} {oi : Oper} {v : Value} (hi : ops[i]? = some oi) (hsel : ∀ (j : Nat) (o : Oper) cs b, ops[j]? = some o → o.op ≠ .select cs b)
    (hQ : ∀ c a w, Q (.panic c) (a.put oi.dst v) w → Q (.panic c) a w) (hts : ∀ t ∈ ts, waitsFor ops t i = true) :
    ∀ (fuel : Nat) (listed : Array Bool) (a : Act) (w : World),
      (∀ j oj, ops[j]? = some oj → j ≠ i → listed.getD j true = false → (∀ e ∈ oj.after, Region.binds .any e = true → e.on ≠ i) → oi.apart ops oj = true) →
      i ∈ Region.ready .any ops listed → YieldsIf P ops S oi v a → S w →
      wpAnyT P ops Q S ts fuel (listed.setIfInBounds i true) (a.put oi.dst v) w → wpAnyT P ops Q S ts (fuel + 1) listed a w := by
  intro fuel
  induction fuel with
  | zero =>
    intro listed a w _ hr hy hS H
    refine ⟨fun h => (by rw [h] at hr; cases hr), fun j hj => ?_⟩
    by_cases hji : j = i
    · subst hji; exact hy.wpOp hi hS ⟨fun _ => hS, H⟩
    · have h1 := ready_mono hj hji
      rw [H.1] at h1
      cases h1
  | succ fuel ih =>
    intro listed a w hfree hr hy hS H
    refine ⟨fun h => (by rw [h] at hr; cases hr), fun j hj => ?_⟩
    by_cases hji : j = i
    · subst hji; exact hy.wpOp hi hS ⟨fun _ => hS, H⟩
    · obtain ⟨hjun, oj, hoj, hall⟩ := mem_ready.1 hj
      have hiun := (mem_ready.1 hr).1
      have hnot : ∀ e ∈ oj.after, Region.binds .any e = true → e.on ≠ i := fun e he hb heq => by
        have h2 := hall e he hb
        rw [heq] at h2
        rcases Nat.lt_or_ge i listed.size with h' | h'
        · simp [h'] at hiun h2; rw [hiun] at h2; cases h2
        · simp [Array.getElem?_eq_none h'] at h2
      have hjt : ts.contains j = false := by
        cases hc : ts.contains j
        · rfl
        · have hw := hts j (by simpa using hc)
          unfold waitsFor at hw
          simp only [hoj] at hw
          obtain ⟨k, hk, he⟩ := Array.any_eq_true.1 hw
          simp only [Bool.and_eq_true, beq_iff_eq] at he
          exact absurd he.2 (hnot _ (Array.getElem_mem hk) he.1)
      have h2 := wpOp_putIf hoj (hfree j oj hoj hji hjun hnot) (fun cs b => hsel i oi cs b hi) (fun cs b => hsel j oj cs b hoj) hQ hy (H.2 j (ready_mono hj hji))
      have hfree' : ∀ k ok, ops[k]? = some ok → k ≠ i → (listed.setIfInBounds j true).getD k true = false →
          (∀ e ∈ ok.after, Region.binds .any e = true → e.on ≠ i) → oi.apart ops ok = true := fun k ok hk hki hun hno => by
        refine hfree k ok hk hki ?_ hno
        by_cases hjk : j = k
        · subst hjk; exact hjun
        · rw [getD_set_ne true hjk] at hun; exact hun
      refine wpOp_mono (fun a' w' h3 => ?_) h2
      have hS' := h3.2.1 hjt
      refine ⟨fun _ => hS', ih (listed.setIfInBounds j true) a' w' hfree' (ready_mono hr (Ne.symm hji)) h3.1 hS' ?_⟩
      rw [Array.setIfInBounds_comm _ _ hji]
      exact h3.2.2

def wpOrdT (P : Program) (ops : Array Oper) (Q : Exit → Act → World → Prop) (S : World → Prop) (ts : List Nat) : List (Nat × Bool) → Act → World → Prop
  | [], a, w => Q .normal a w
  | (i, true) :: l, a, w => wpOp P ops Q i (fun a' w' => (ts.contains i = false → S w') ∧ wpOrdT P ops Q S ts l a' w') a w
  | (i, false) :: l, a, w => ∃ oi v, ops[i]? = some oi ∧ YieldsIf P ops S oi v a ∧ S w ∧ wpOrdT P ops Q S ts l (a.put oi.dst v) w
theorem wpAnyT_of_ord (hs : Region.noSelect ops = true) (hQ : ∀ d v c a w, Q (.panic c) (Act.put a (some d) v) w → Q (.panic c) a w) :
    ∀ (l : List (Nat × Bool)) (fuel : Nat) (listed : Array Bool) (a : Act) (w : World), l.length ≤ fuel → goodFromT ops ts listed l = true → wpOrdT P ops Q S ts l a w →
      wpAnyT P ops Q S ts fuel listed a w := by
  intro l
  induction l with
  | nil =>
    intro fuel listed a w _ hg h
    have hr : Region.ready .any ops listed = [] := by simpa [goodFromT] using hg
    cases fuel with
    | zero => exact ⟨hr, h⟩
    | succ fuel => exact ⟨fun _ => h, by rw [hr]; simp⟩
  | cons x l ih =>
    intro fuel listed a w hf hg h
    obtain ⟨fuel, rfl⟩ : ∃ f, fuel = f + 1 := ⟨fuel - 1, by simp at hf; omega⟩
    have hf' : l.length ≤ fuel := by simp at hf; omega
    obtain ⟨i, b⟩ := x
    cases b with
    | true =>
      simp only [goodFromT, Bool.and_eq_true, beq_iff_eq] at hg
      refine ⟨fun h0 => absurd (h0.symm.trans hg.1) (by simp), fun j hj => ?_⟩
      rw [hg.1] at hj
      obtain rfl : j = i := by simpa using hj
      exact wpOp_mono (fun a' w' h' => ⟨h'.1, ih fuel _ a' w' hf' hg.2 h'.2⟩) h
    | false =>
      simp only [goodFromT, Bool.and_eq_true, List.all_eq_true] at hg
      obtain ⟨oi, v, hi, hy, hS, h'⟩ := h
      refine wpAnyT_first hi (Region.noSelect_spec hs) (fun c a w hh => ?_) hg.1.2 fuel listed a w (Region.free_spec hi hg.1.1.2) (by simpa using hg.1.1.1) hy hS (ih fuel _ _ w hf' hg.2 h')
      cases hd : oi.dst with
      | none => rw [hd] at hh; exact hh
      | some d => rw [hd] at hh; exact hQ d v c a w hh
theorem ordT_below {id : Nat} {a : Act} {w : World} (ts : List Nat) (l : List (Nat × Bool)) (hm : P.follows .mixedOrders = true) (hs : Region.noSelect ops = true) (hg : goodOrdT ops ts l = true)
    (hQ : ∀ d v c a w, Q (.panic c) (Act.put a (some d) v) w → Q (.panic c) a w) (h : ∀ W, Below w.heap.size w W → wpOrdT P ops Q (Below w.heap.size w) ts l a W) : (Code.region id ops true).wp P Q a w := by
  unfold goodOrdT at hg
  simp only [Bool.and_eq_true, decide_eq_true_eq] at hg
  exact wp_region_any hm (wpAny_of_T _ _ _ _ (wpAnyT_of_ord hs hQ l _ _ a _ hg.1 hg.2 (h _ (Below.refl _ _).drew)))

theorem ordT_nil {a : Act} {w : World} (h : Q .normal a w) : wpOrdT P ops Q S ts [] a w := h
theorem ordT_skip {i : Nat} {o : Oper} {l : List (Nat × Bool)} {a : Act} {w : World} (ho' : nthO ops.toList i = some o) (hw : Region.wanted o (yielded ops a.tmps) = false) (hS : S w)
    (h : wpOrdT P ops Q S ts l (a.put o.dst undef) w) : wpOrdT P ops Q S ts ((i, false) :: l) a w := ⟨o, undef, nthO_spec ho', .inr ⟨hw, rfl⟩, hS, h⟩
theorem ordT_cskip {i : Nat} {o : Oper} {l : List (Nat × Bool)} {a : Act} {w : World} (ho' : nthO ops.toList i = some o) (hw : Region.wanted o (yielded ops a.tmps) = false) (hS : S w)
    (h : wpOrdT P ops Q S ts l (a.put o.dst undef) w) : wpOrdT P ops Q S ts ((i, true) :: l) a w := by
  have ho := nthO_spec ho'
  show wpOp P ops Q i _ a w
  unfold wpOp
  rw [ho]
  show if Region.wanted o (yielded ops a.tmps) = true then _ else _
  rw [if_neg (by rw [hw]; decide)]
  exact ⟨fun _ => hS, h⟩
theorem ordT_take {i : Nat} {o : Oper} {v : Value} {l : List (Nat × Bool)} {a : Act} {w : World} (ho' : nthO ops.toList i = some o) (hw : Region.wanted o (yielded ops a.tmps) = true) (hS : S w)
    (hy : ∀ W, S W → (execOp a.eval o).run P W = .ok (.value v) W)
    (h : wpOrdT P ops Q S ts l (a.put o.dst v) w) : wpOrdT P ops Q S ts ((i, false) :: l) a w := ⟨o, v, nthO_spec ho', .inl ⟨hw, hy⟩, hS, h⟩
theorem ordT_call {i : Nat} {o : Oper} {l : List (Nat × Bool)} {a : Act} {w : World} (ho' : nthO ops.toList i = some o) (hw : Region.wanted o (yielded ops a.tmps) = true)
    (h : ∀ K' : Act → World → Prop, Shut (∀ a w, (ts.contains i = false → S w) → wpOrdT P ops Q S ts l a w → K' a w) → Oper.wp P o a w K' Q) : wpOrdT P ops Q S ts ((i, true) :: l) a w := by
  have ho := nthO_spec ho'
  show wpOp P ops Q i _ a w
  refine wpOp_step ho fun K' hK => ?_
  rw [if_pos hw]
  exact h K' fun a w hS hW => hK a w ⟨hS, hW⟩
end
end Go.Proofs.Ytbikjmafddndpaa

/-
  Blocks that are known whole, beside rows of the call's own.
-/
namespace Go.Proofs.Ytbikjmafddndpaa
open Go Go.RowKit

/-- Block g holds just the cells cs, none frozen. -/
def Blk (w : World) (g : Nat) (t : TypeId) (cs : Array Value) : Prop := w.heap[g]? = some (.cells cs t (0, 0))
section
variable {w w' : World} {g : Nat} {t : TypeId} {cs : Array Value}
theorem Blk.lt (h : Blk w g t cs) : g < w.heap.size := by
  rcases Nat.lt_or_ge g w.heap.size with hlt | hge
  · exact hlt
  · unfold Blk at h; rw [Array.getElem?_eq_none hge] at h; cases h
theorem Blk.cell (h : Blk w g t cs) (i : Nat) : w.cell? ⟨g, i, none⟩ = cs[i]? := by
  unfold Blk at h; unfold World.cell?; simp only [h]; rfl
theorem Blk.frozen (h : Blk w g t cs) (i : Nat) : w.frozen? ⟨g, i, none⟩ = false := by
  unfold Blk at h; unfold World.frozen?; simp only [h]; simp
theorem Blk.new (w : World) (t : TypeId) (cs : Array Value) : Blk (w.alloc (.cells cs t)) w.heap.size t cs := heap_alloc_new w _
theorem Blk.new_ {w : World} {g : Nat} {t : TypeId} {cs : Array Value} (hg : g = w.heap.size) : Blk (w.alloc (.cells cs t)) g t cs := by subst hg; exact heap_alloc_new w _
theorem Blk.alloc (h : Blk w g t cs) (o : Obj) : Blk (w.alloc o) g t cs := (Below.heap_alloc w o g h.lt).trans h
theorem Blk.drewN (h : Blk w g t cs) (n : Nat) : Blk (w.drewN n) g t cs := h
theorem Blk.set_ (h : Blk w g t cs) (i : Nat) (u : Value) : Blk (w.setCell ⟨g, i, none⟩ u) g t (cs.setIfInBounds i u) := by
  unfold Blk at h ⊢
  simp [World.setCell, Array.getElem?_modify, h]
theorem Blk.far (h : Blk w g t cs) {p : Addr} (hp : g ≠ p.block) (u : Value) : Blk (w.setCell p u) g t cs := (Below.heap_setCell w p u g hp).trans h
theorem Blk.below {B : Nat} (h : Blk w g t cs) (hb : Below B w w') (hg : g < B) : Blk w' g t cs := (hb.block g hg).trans h
theorem Blk.apps {v v' : Value} (h : Blk w g t cs) (ha : Apps w w' v v') (hne : v.ownBlock ≠ some g) : Blk w' g t cs := (ha.keep g h.lt hne).trans h
end
section
variable {w w' : World} {base : Nat} {e e' : TypeId} {s s' n n' : Nat} {v v' v2 : Value} {xs xs' : List Value}
/-- A row is kept where its block is. -/
theorem own_keep (h : w.ownsRow base e s v n xs) (hk : ∀ g, v.ownBlock = some g → g < w.heap.size → w'.heap[g]? = w.heap[g]?) : w'.ownsRow base e s v n xs := by
  obtain ⟨h1, h2⟩ := h
  refine ⟨h1, ?_⟩
  rcases h2 with h2 | ⟨g, cap, cur, rfl, hg, hh, r⟩
  · exact .inl h2
  · refine .inr ⟨g, cap, cur, rfl, hg, ?_, r⟩
    have : g < w.heap.size := by
      rcases Nat.lt_or_ge g w.heap.size with h | h
      · exact h
      · rw [Array.getElem?_eq_none h] at hh; cases hh
    rw [hk g rfl this]
    exact hh
/-- Rows of different types lie in different blocks. -/
theorem own_ne (h : w.ownsRow base e s v n xs) {base' : Nat} (h' : w.ownsRow base' e' s' v' n' xs') (hne : e ≠ e') (g : Nat) (hg : v.ownBlock = some g) : v'.ownBlock ≠ some g := fun hg' => by
  rcases h.2 with ⟨rfl, _⟩ | ⟨g1, cap, cur, rfl, _, hh, _⟩
  · simp [Value.ownBlock] at hg
  · rcases h'.2 with ⟨rfl, _⟩ | ⟨g2, cap', cur', rfl, _, hh', _⟩
    · simp [Value.ownBlock] at hg'
    · simp [Value.ownBlock] at hg hg'
      subst hg; subst hg'
      rw [hh] at hh'
      injection hh' with hh'
      injection hh' with _ ht
      exact hne ht
theorem own_blk_ne (h : w.ownsRow base e s v n xs) {g : Nat} {t : TypeId} {cs : Array Value} (hb : Blk w g t cs) (hne : e ≠ t) : v.ownBlock ≠ some g := fun hg => by
  rcases h.2 with ⟨rfl, _⟩ | ⟨g1, cap, cur, rfl, _, hh, _⟩
  · simp [Value.ownBlock] at hg
  · simp [Value.ownBlock] at hg
    subst hg
    unfold Blk at hb
    rw [hh] at hb
    injection hb with hb
    injection hb with _ ht
    exact hne ht
theorem own_apps (h : w.ownsRow base e s v n xs) {base' : Nat} (h' : w.ownsRow base' e' s' v2 n' xs') (hne : e ≠ e') {v2' : Value} (ha : Apps w w' v2 v2') : w'.ownsRow base e s v n xs :=
  own_keep h fun g hg hlt => ha.keep g hlt (own_ne h h' hne g hg)
end
theorem own_lit (w : World) (cs : Array Value) (e : TypeId) (s n base g : Nat) (hg : g = w.heap.size) (hb : base ≤ w.heap.size) (hs : cs.size = n * s) (hn : n ≤ maxLen) :
    (w.alloc (.cells cs e)).ownsRow base e s (.slice (some ⟨g, 0, none⟩) n n) n cs.toList := by
  subst hg
  have h : (w.alloc (.cells cs e)).heap[w.heap.size]? = some (.cells cs e) := heap_alloc_new w _
  exact ⟨by simpa using hs, .inr ⟨w.heap.size, n, cs, rfl, hb, h, Nat.le_refl _, hn, hs, by rw [List.take_of_length_le (by simp [hs])]⟩⟩
theorem flatMap_one {α β : Type} (f : α → β) (l : List α) : l.flatMap (fun x => [f x]) = l.map f := by
  induction l with
  | nil => rfl
  | cons x l ih => rw [List.flatMap_cons, ih]; rfl
/-- A row of the call's own, as a list of strings or numbers. -/
theorem own_strs {w : World} {base : Nat} {e : TypeId} {v : Value} {n : Nat} {xs : List ByteArray} (h : w.ownsRow base e 1 v n (xs.map Value.string)) (hn : n = xs.length) :
    ∃ A cap, v = .slice A n cap ∧ n ≤ cap ∧ cap ≤ maxLen ∧ SlR 1 RStr w A xs :=
  own_slr (enc := fun s => [.string s]) (by rw [flatMap_one]; exact h) (fun _ => rfl) (fun _ => rfl) hn
theorem own_ints {w : World} {base : Nat} {e : TypeId} {v : Value} {n : Nat} {xs : List Int} (h : w.ownsRow base e 1 v n (xs.map (Value.int .i64))) (hn : n = xs.length) :
    ∃ A cap, v = .slice A n cap ∧ n ≤ cap ∧ cap ≤ maxLen ∧ SlR 1 RInt w A xs :=
  own_slr (enc := fun s => [.int .i64 s]) (by rw [flatMap_one]; exact h) (fun _ => rfl) (fun _ => rfl) hn
end Go.Proofs.Ytbikjmafddndpaa

/-
  The plain law of layer 16: the first way that is not among some ways is found by the tree of their beginnings.
-/
namespace Go.Proofs.Ytbikjmafddndpaa
open List

structure Oth where
  there : Bool
  cost : Int
  links : List Int
/-- One link of a node, while the node is visited. -/
def visStep (g : Gr) (rec : Oth → List (List Int) → Nat → Int → Int → Oth) (head : List Int) (n : Nat) (c : Int) (s : Oth × List (List Int)) (i : Int) : Oth × List (List Int) :=
  let l := lkAt g i
  if hAt g l.to < 0 then s else
  let same := s.2.takeWhile (fun w => decide (w.getD n 0 = i))
  if same ≠ [] then (rec s.1 same (n + 1) l.to (c + l.cost), s.2.drop same.length) else
  if s.1.there = false ∨ c + l.cost + hAt g l.to < s.1.cost then (⟨true, c + l.cost + hAt g l.to, head ++ [i]⟩, s.2) else s
def visitM (g : Gr) : Nat → Oth → List (List Int) → Nat → Int → Int → Oth
  | 0, o, _, _, _, _ => o
  | f + 1, o, ways, n, v, c =>
    if o.there = true ∧ o.cost ≤ c + hAt g v then o else
    ((lvs g v).foldl (visStep g (visitM g f) ((ways.headD []).take n) n c) (o, ways)).1

/-- What the other way stands for: the first of the ways S. -/
def Rep (g : Gr) (L : List (List Int)) (o : Oth) (S : List Int → Prop) : Prop :=
  (o.there = false ∧ ∀ s, ¬ S s) ∨ (o.there = true ∧ ∃ m, S m ∧ o.cost = sumC g m ∧ (∃ r, m = o.links ++ r) ∧ (∀ w ∈ L, ¬ ∃ r, w = o.links ++ r) ∧
    ∀ s, S s → sumC g m < sumC g s ∨ (sumC g m = sumC g s ∧ (m = s ∨ lexLt m s = true)))
theorem Rep.iff {g : Gr} {L : List (List Int)} {o : Oth} {S T : List Int → Prop} (h : Rep g L o S) (e : ∀ s, S s ↔ T s) : Rep g L o T := by
  rcases h with ⟨h1, h2⟩ | ⟨h1, m, h2, h3, h4, h5, h6⟩
  · exact .inl ⟨h1, fun s hs => h2 s ((e s).2 hs)⟩
  · exact .inr ⟨h1, m, (e m).1 h2, h3, h4, h5, fun s hs => h6 s ((e s).2 hs)⟩
/-- Ways that cost at least as much and come later change nothing. -/
theorem Rep.more {g : Gr} {L : List (List Int)} {o : Oth} {S T : List Int → Prop} (h : Rep g L o S) (ht : o.there = true) (hST : ∀ s, S s → T s)
    (hT : ∀ s, T s → S s ∨ (o.cost ≤ sumC g s ∧ ∀ m, S m → lexLt m s = true)) : Rep g L o T := by
  rcases h with ⟨h1, _⟩ | ⟨h1, m, h2, h3, h4, h5, h6⟩
  · rw [h1] at ht; cases ht
  · refine .inr ⟨h1, m, hST m h2, h3, h4, h5, fun s hs => ?_⟩
    rcases hT s hs with h | ⟨h7, h8⟩
    · exact h6 s h
    · rcases Int.lt_or_le (sumC g m) (sumC g s) with h9 | h9
      · exact .inl h9
      · exact .inr ⟨by omega, .inr (h8 m h2)⟩
theorem getD_pre {p r : List Int} {i : Int} : (p ++ i :: r).getD p.length 0 = i := by simp
theorem take_first {L : List (List Int)} {p : List Int} {i : Int} (hs : L.Pairwise (fun a b => lexLt b a = false)) (hw : ∀ w ∈ L, ∃ j r, w = p ++ j :: r ∧ i ≤ j) :
    ∀ w, w ∈ L.takeWhile (fun w => decide (w.getD p.length 0 = i)) ↔ w ∈ L ∧ w.getD p.length 0 = i := by
  induction L with
  | nil => simp
  | cons x L ih =>
    intro w
    obtain ⟨h1, h2⟩ := pairwise_cons.1 hs
    obtain ⟨j, r, rfl, hij⟩ := hw x (by simp)
    rw [takeWhile_cons]
    by_cases hj : j = i
    · subst hj
      rw [if_pos (by simp), mem_cons, mem_cons, ih h2 (fun w hw' => hw w (by simp [hw']))]
      constructor
      · rintro (rfl | ⟨h3, h4⟩)
        · exact ⟨.inl rfl, getD_pre⟩
        · exact ⟨.inr h3, h4⟩
      · rintro ⟨rfl | h3, h4⟩
        · exact .inl rfl
        · exact .inr ⟨h3, h4⟩
    · rw [if_neg (by simpa using hj)]
      constructor
      · intro h; cases h
      · rintro ⟨h3, h4⟩
        exfalso
        rcases mem_cons.1 h3 with rfl | h3
        · rw [getD_pre] at h4; exact hj h4
        · obtain ⟨j', r', rfl, hij'⟩ := hw w (by simp [h3])
          rw [getD_pre] at h4
          have := h1 _ h3
          rw [lex_pre] at this
          unfold lexLt at this
          rw [if_pos (by omega)] at this
          cases this
theorem drop_first {L : List (List Int)} {p : List Int} {i : Int} (hs : L.Pairwise (fun a b => lexLt b a = false)) (hw : ∀ w ∈ L, ∃ j r, w = p ++ j :: r ∧ i ≤ j) :
    ∀ w, w ∈ L.drop (L.takeWhile (fun w => decide (w.getD p.length 0 = i))).length ↔ w ∈ L ∧ w.getD p.length 0 ≠ i := by
  induction L with
  | nil => simp
  | cons x L ih =>
    intro w
    obtain ⟨h1, h2⟩ := pairwise_cons.1 hs
    obtain ⟨j, r, rfl, hij⟩ := hw x (by simp)
    rw [takeWhile_cons]
    by_cases hj : j = i
    · subst hj
      rw [if_pos (by simp), length_cons, drop_succ_cons, ih h2 (fun w hw' => hw w (by simp [hw'])), mem_cons]
      constructor
      · rintro ⟨h3, h4⟩; exact ⟨.inr h3, h4⟩
      · rintro ⟨rfl | h3, h4⟩
        · exact absurd getD_pre h4
        · exact ⟨h3, h4⟩
    · rw [if_neg (by simpa using hj)]
      simp only [length_nil, drop_zero]
      refine ⟨fun h3 => ⟨h3, fun h4 => ?_⟩, fun h => h.1⟩
      rcases mem_cons.1 h3 with rfl | h3
      · rw [getD_pre] at h4; exact hj h4
      · obtain ⟨j', r', rfl, hij'⟩ := hw w (by simp [h3])
        rw [getD_pre] at h4
        have := h1 _ h3
        rw [lex_pre] at this
        unfold lexLt at this
        rw [if_pos (by omega)] at this
        cases this
/-- A beginning that leads to a node at a cost. -/
def PreOK (g : Gr) (p : List Int) (_v c : Int) : Prop := ∀ w, sumC g (p ++ w) = c + sumC g w
theorem PreOK.snoc {g : Gr} {p : List Int} {v c i : Int} (h : PreOK g p v c) : PreOK g (p ++ [i]) (lkAt g i).to (c + (lkAt g i).cost) := fun w => by
  rw [append_assoc, h]
  show c + ((lkAt g i).cost + sumC g w) = _
  omega
set_option maxHeartbeats 1000000 in
theorem visit_rep {g : Gr} (hg : GrOK g) (L : List (List Int)) : ∀ (f : Nat) (o : Oth) (W : List (List Int)) (p : List Int) (v c : Int) (S : List Int → Prop),
    0 ≤ v → v < g.n → g.n - v ≤ (f : Int) → PreOK g p v c → W ≠ [] → W.Pairwise (fun a b => lexLt b a = false) → (∀ w ∈ W, w ∈ L ∧ ∃ r, w = p ++ r ∧ wayB g v r = true) →
    (∀ w ∈ L, (∃ r, w = p ++ r) → w ∈ W) → Rep g L o S → (∀ s, S s → ∀ r, wayB g v r = true → lexLt s (p ++ r) = true) →
    Rep g L (visitM g f o W p.length v c) (fun s => S s ∨ ∃ r, wayB g v r = true ∧ s = p ++ r ∧ s ∉ L) := by
  intro f
  induction f with
  | zero => intro o W p v c S h0 h1 h2; exfalso; omega
  | succ f ih =>
    intro o W p v c S h0 h1 h2 hp hW hsort hWL hLW hR hS
    obtain ⟨w0, hw0⟩ : ∃ w0, w0 ∈ W := exists_mem_of_ne_nil W hW
    obtain ⟨hw0L, r0, hr0, hr0w⟩ := hWL w0 hw0
    have hhv := (way_h hg r0 v h0 h1 hr0w).1
    unfold visitM
    by_cases hcut : o.there = true ∧ o.cost ≤ c + hAt g v
    · rw [if_pos hcut]
      refine hR.more hcut.1 (fun s hs => .inl hs) fun s hs => ?_
      rcases hs with hs | ⟨r, hr, rfl, _⟩
      · exact .inl hs
      · right
        refine ⟨?_, fun m hm => hS m hm r hr⟩
        rw [hp]
        have := (way_h hg r v h0 h1 hr).2
        omega
    · rw [if_neg hcut]
      have hhead : (W.headD []).take p.length = p := by
        cases W with
        | nil => exact absurd rfl hW
        | cons x W =>
          obtain ⟨_, r, hr, _⟩ := hWL x (by simp)
          show x.take p.length = p
          rw [hr]; simp
      rw [hhead]
      by_cases hv : v = g.n - 1
      · have hl : lvs g v = [] := by
          rcases h : lvs g v with _ | ⟨i, l⟩
          · rfl
          · have hi' := lvs_iff.1 (show i ∈ lvs g v by rw [h]; simp)
            have hok := lkAt_ok hg ⟨hi'.1, hi'.2.1⟩
            have hto := hok.to
            have hlt := hok.lt
            omega
        rw [hl]
        refine hR.iff fun s => ⟨fun h => .inl h, ?_⟩
        rintro (h | ⟨r, hr, rfl, hn⟩)
        · exact h
        · exfalso
          have hnil : ∀ r, wayB g v r = true → r = [] := fun r hr => by
            cases r with
            | nil => rfl
            | cons i r => have := (way_cons.1 hr).1; rw [hl] at this; cases this
          rw [hnil r0 hr0w] at hr0
          rw [hnil r hr] at hn
          rw [hr0] at hw0L
          exact hn hw0L
      -- the links one after the other
      have key : ∀ (R D : List Int) (o' : Oth) (W' : List (List Int)), lvs g v = D ++ R →
          Rep g L o' (fun s => S s ∨ ∃ i r, i ∈ D ∧ wayB g v (i :: r) = true ∧ s = p ++ i :: r ∧ s ∉ L) →
          W'.Pairwise (fun a b => lexLt b a = false) → (∀ w ∈ W', w ∈ W ∧ ∃ i r, w = p ++ i :: r ∧ i ∈ R) → (∀ w ∈ W, (∃ i r, w = p ++ i :: r ∧ i ∈ R) → w ∈ W') →
          Rep g L ((R.foldl (visStep g (visitM g f) p p.length c) (o', W')).1) (fun s => S s ∨ ∃ i r, i ∈ D ++ R ∧ wayB g v (i :: r) = true ∧ s = p ++ i :: r ∧ s ∉ L) := by
        intro R
        induction R with
        | nil =>
          intro D o' W' _ hR' _ _ _
          rw [foldl_nil, append_nil]
          exact hR'
        | cons i R ihR =>
          intro D o' W' hD hR' hsort' hW1 hW2
          have hinc := lvs_inc g v
          rw [hD] at hinc
          obtain ⟨_, hincR, hincDR⟩ := pairwise_append.1 hinc
          obtain ⟨hiR, _⟩ := pairwise_cons.1 hincR
          have hil : i ∈ lvs g v := by rw [hD]; simp
          have hil' := lvs_iff.1 hil
          have hok := lkAt_ok hg ⟨hil'.1, hil'.2.1⟩
          have hto := hok.to
          have hlt := hok.lt
          have hcost := hok.cost
          have hge : ∀ w ∈ W', ∃ j r, w = p ++ j :: r ∧ i ≤ j := fun w hw => by
            obtain ⟨_, j, r, h3, h4⟩ := hW1 w hw
            refine ⟨j, r, h3, ?_⟩
            rcases mem_cons.1 h4 with rfl | h4
            · exact Int.le_refl _
            · have := hiR j h4; omega
          -- what has been met comes before what is still to come
          have hbefore : ∀ s, (S s ∨ ∃ i r, i ∈ D ∧ wayB g v (i :: r) = true ∧ s = p ++ i :: r ∧ s ∉ L) → ∀ r, wayB g v (i :: r) = true → lexLt s (p ++ i :: r) = true := fun s hs r hr => by
            rcases hs with hs | ⟨j, r', hj, _, rfl, _⟩
            · exact hS s hs _ hr
            · rw [lex_pre]
              unfold lexLt
              rw [if_pos (hincDR j hj i (by simp))]
          have e1 : D ++ i :: R = (D ++ [i]) ++ R := by simp
          rw [foldl_cons]
          have hnext : ∀ (o2 : Oth) (W2 : List (List Int)), visStep g (visitM g f) p p.length c (o', W') i = (o2, W2) →
              Rep g L o2 (fun s => S s ∨ ∃ j r, j ∈ D ++ [i] ∧ wayB g v (j :: r) = true ∧ s = p ++ j :: r ∧ s ∉ L) →
              W2.Pairwise (fun a b => lexLt b a = false) → (∀ w ∈ W2, w ∈ W ∧ ∃ j r, w = p ++ j :: r ∧ j ∈ R) → (∀ w ∈ W, (∃ j r, w = p ++ j :: r ∧ j ∈ R) → w ∈ W2) →
              Rep g L ((R.foldl (visStep g (visitM g f) p p.length c) (visStep g (visitM g f) p p.length c (o', W') i)).1) (fun s => S s ∨ ∃ j r, j ∈ D ++ i :: R ∧ wayB g v (j :: r) = true ∧ s = p ++ j :: r ∧ s ∉ L) := by
            intro o2 W2 he h3 h4 h5 h6
            rw [he, e1]
            exact ihR (D ++ [i]) o2 W2 (by rw [hD, e1]) h3 h4 h5 h6
          by_cases hneg : hAt g (lkAt g i).to < 0
          · -- nothing leads on
            have hno : ∀ r, ¬ wayB g v (i :: r) = true := fun r hr => by
              have := (way_h hg r _ (by omega) (by omega) (way_cons.1 hr).2).1
              omega
            refine hnext o' W' (by unfold visStep; dsimp only; rw [if_pos hneg]) (hR'.iff fun s => ?_) hsort' (fun w hw => ?_) (fun w hw hr => ?_)
            · constructor
              · rintro (h | ⟨j, r, hj, h⟩)
                · exact .inl h
                · exact .inr ⟨j, r, by simp [hj], h⟩
              · rintro (h | ⟨j, r, hj, h⟩)
                · exact .inl h
                · rcases mem_append.1 hj with hj | hj
                  · exact .inr ⟨j, r, hj, h⟩
                  · obtain rfl := mem_singleton.1 hj
                    exact absurd h.1 (hno r)
            · obtain ⟨h3, j, r, h4, h5⟩ := hW1 w hw
              refine ⟨h3, j, r, h4, ?_⟩
              rcases mem_cons.1 h5 with rfl | h5
              · obtain ⟨_, r', h6, h7⟩ := hWL w h3
                rw [h4] at h6
                have := append_cancel_left h6
                rw [← this] at h7
                exact absurd h7 (hno r)
              · exact h5
            · obtain ⟨j, r, h4, h5⟩ := hr
              exact hW2 w hw ⟨j, r, h4, by simp [h5]⟩
          · obtain ⟨same, hsame⟩ : ∃ same, W'.takeWhile (fun w => decide (w.getD p.length 0 = i)) = same := ⟨_, rfl⟩
            have hmem := take_first hsort' hge
            have hdrop := drop_first hsort' hge
            rw [hsame] at hmem hdrop
            have hdr : ∀ w ∈ W'.drop same.length, w ∈ W ∧ ∃ j r, w = p ++ j :: r ∧ j ∈ R := fun w hw => by
              obtain ⟨h3, h4⟩ := (hdrop w).1 hw
              obtain ⟨h5, j, r, h6, h7⟩ := hW1 w h3
              refine ⟨h5, j, r, h6, ?_⟩
              rcases mem_cons.1 h7 with rfl | h7
              · rw [h6, getD_pre] at h4; exact absurd rfl h4
              · exact h7
            have hdr2 : ∀ w ∈ W, (∃ j r, w = p ++ j :: r ∧ j ∈ R) → w ∈ W'.drop same.length := fun w hw ⟨j, r, h4, h5⟩ => by
              refine (hdrop w).2 ⟨hW2 w hw ⟨j, r, h4, by simp [h5]⟩, ?_⟩
              rw [h4, getD_pre]
              have := hiR j h5
              omega
            by_cases hs0 : same = []
            · -- all ways that go on by this link are others
              have hnoL : ∀ r, p ++ i :: r ∉ L := fun r hr => by
                have h3 := hLW _ hr ⟨i :: r, rfl⟩
                have h4 := hW2 _ h3 ⟨i, r, rfl, by simp⟩
                have h5 := (hmem _).2 ⟨h4, getD_pre⟩
                rw [hs0] at h5
                cases h5
              have hdr' : ∀ w ∈ W', w ∈ W ∧ ∃ j r, w = p ++ j :: r ∧ j ∈ R := fun w hw => hdr w (by rw [hs0]; exact hw)
              have hdr2' : ∀ w ∈ W, (∃ j r, w = p ++ j :: r ∧ j ∈ R) → w ∈ W' := fun w hw h => by have := hdr2 w hw h; rw [hs0] at this; exact this
              have hti : 0 ≤ hAt g (lkAt g i).to := by omega
              obtain ⟨hb1, hb2⟩ := best_way hg f (lkAt g i).to (by omega) (by omega) (by omega) hti
              by_cases hrep : o'.there = false ∨ c + (lkAt g i).cost + hAt g (lkAt g i).to < o'.cost
              · refine hnext ⟨true, c + (lkAt g i).cost + hAt g (lkAt g i).to, p ++ [i]⟩ W' (by unfold visStep; dsimp only; rw [if_neg hneg, hsame, if_neg (by simpa using hs0), if_pos hrep]) (.inr ⟨rfl, p ++ i :: bestW g f (lkAt g i).to, ?_, ?_, ⟨bestW g f (lkAt g i).to, by simp⟩, ?_, ?_⟩) hsort' hdr' hdr2'
                · exact .inr ⟨i, _, by simp, way_cons.2 ⟨hil, hb1⟩, rfl, hnoL _⟩
                · rw [hp]
                  show c + (lkAt g i).cost + hAt g (lkAt g i).to = c + ((lkAt g i).cost + sumC g _)
                  omega
                · rintro w hw ⟨r, hr⟩
                  exact hnoL r (by rw [show p ++ i :: r = w by rw [hr]; simp]; exact hw)
                · intro s hs
                  have hm : sumC g (p ++ i :: bestW g f (lkAt g i).to) = c + (lkAt g i).cost + hAt g (lkAt g i).to := by
                    rw [hp]
                    show c + ((lkAt g i).cost + sumC g _) = _
                    omega
                  rw [hm]
                  have hold : (S s ∨ ∃ i r, i ∈ D ∧ wayB g v (i :: r) = true ∧ s = p ++ i :: r ∧ s ∉ L) → c + (lkAt g i).cost + hAt g (lkAt g i).to < sumC g s := fun h3 => by
                    rcases hR' with ⟨_, h4⟩ | ⟨h4, m, _, h5, _, _, h6⟩
                    · exact absurd h3 (h4 s)
                    · rcases hrep with h7 | h7
                      · rw [h4] at h7; cases h7
                      · rcases h6 s h3 with h8 | ⟨h8, _⟩ <;> omega
                  rcases hs with h3 | ⟨j, r, hj, hr, he, hn⟩
                  · exact .inl (hold (.inl h3))
                  · rcases mem_append.1 hj with hj | hj
                    · exact .inl (hold (.inr ⟨j, r, hj, hr, he, hn⟩))
                    · obtain rfl := mem_singleton.1 hj
                      subst he
                      obtain ⟨_, hr'⟩ := way_cons.1 hr
                      have h4 := (way_h hg r _ (by omega) (by omega) hr').2
                      have h5 : sumC g (p ++ j :: r) = c + ((lkAt g j).cost + sumC g r) := hp _
                      rcases Int.lt_or_le (hAt g (lkAt g j).to) (sumC g r) with h6 | h6
                      · left; omega
                      · right
                        refine ⟨by omega, ?_⟩
                        rcases best_first hg f (lkAt g j).to (by omega) (by omega) (by omega) r hr' (by omega) with h7 | h7
                        · left; rw [h7]
                        · right; rw [lex_pre]; unfold lexLt; rw [if_neg (by omega), if_neg (by omega)]; exact h7
              · have hth : o'.there = true := by
                  cases h3 : o'.there with
                  | true => rfl
                  | false => exact absurd (.inl h3) hrep
                refine hnext o' W' (by unfold visStep; dsimp only; rw [if_neg hneg, hsame, if_neg (by simpa using hs0), if_neg hrep]) (hR'.more hth (fun s hs => ?_) fun s hs => ?_) hsort' hdr' hdr2'
                · rcases hs with h | ⟨j, r, hj, h⟩
                  · exact .inl h
                  · exact .inr ⟨j, r, by simp [hj], h⟩
                · rcases hs with h | ⟨j, r, hj, hr, rfl, hn⟩
                  · exact .inl (.inl h)
                  · rcases mem_append.1 hj with hj | hj
                    · exact .inl (.inr ⟨j, r, hj, hr, rfl, hn⟩)
                    · obtain rfl := mem_singleton.1 hj
                      right
                      obtain ⟨_, hr'⟩ := way_cons.1 hr
                      have h4 := (way_h hg r _ (by omega) (by omega) hr').2
                      have h5 : sumC g (p ++ j :: r) = c + ((lkAt g j).cost + sumC g r) := hp _
                      refine ⟨?_, fun m hm => hbefore m hm r hr⟩
                      have : ¬ c + (lkAt g j).cost + hAt g (lkAt g j).to < o'.cost := fun h => hrep (.inr h)
                      omega
            · -- into the tree
              have hsub : ∀ w ∈ same, w ∈ W' := fun w hw => ((hmem w).1 hw).1
              have hin := ih o' same (p ++ [i]) (lkAt g i).to (c + (lkAt g i).cost) (fun s => S s ∨ ∃ i r, i ∈ D ∧ wayB g v (i :: r) = true ∧ s = p ++ i :: r ∧ s ∉ L) (by omega) (by omega) (by omega) (hp.snoc (v := v)) hs0
                (by rw [← hsame]; exact Pairwise.sublist (takeWhile_sublist _) hsort')
                (fun w hw => by
                  obtain ⟨h3, h4⟩ := (hmem w).1 hw
                  obtain ⟨h5, j, r, h6, _⟩ := hW1 w h3
                  obtain ⟨h7, r', h8, h9⟩ := hWL w h5
                  have hji : j = i := by rw [h6, getD_pre] at h4; exact h4
                  subst hji
                  rw [h6] at h8
                  have := append_cancel_left h8
                  rw [← this] at h9
                  exact ⟨h7, r, by rw [h6]; simp, (way_cons.1 h9).2⟩)
                (fun w hw ⟨r, hr⟩ => by
                  have hr2 : w = p ++ i :: r := by rw [hr]; simp
                  exact (hmem w).2 ⟨hW2 w (hLW w hw ⟨i :: r, hr2⟩) ⟨i, r, hr2, by simp⟩, by rw [hr2, getD_pre]⟩)
                hR'
                (fun s hs r hr => by
                  have := hbefore s hs r (way_cons.2 ⟨hil, hr⟩)
                  rw [show p ++ [i] ++ r = p ++ i :: r by simp]
                  exact this)
              have elen : (p ++ [i]).length = p.length + 1 := by simp
              rw [elen] at hin
              refine hnext (visitM g f o' same (p.length + 1) (lkAt g i).to (c + (lkAt g i).cost)) (W'.drop same.length) (by unfold visStep; dsimp only; rw [if_neg hneg, hsame, if_pos (by simpa using hs0)]) (hin.iff fun s => ?_) (Pairwise.sublist (drop_sublist _ _) hsort') hdr hdr2
              constructor
              · rintro ((h | ⟨j, r, hj, h⟩) | ⟨r, hr, rfl, hn⟩)
                · exact .inl h
                · exact .inr ⟨j, r, by simp [hj], h⟩
                · exact .inr ⟨i, r, by simp, way_cons.2 ⟨hil, hr⟩, by simp, hn⟩
              · rintro (h | ⟨j, r, hj, hr, he, hn⟩)
                · exact .inl (.inl h)
                · rcases mem_append.1 hj with hj | hj
                  · exact .inl (.inr ⟨j, r, hj, hr, he, hn⟩)
                  · obtain rfl := mem_singleton.1 hj
                    exact .inr ⟨r, (way_cons.1 hr).2, by rw [he]; simp, hn⟩
      have hfin := key (lvs g v) [] o W rfl (hR.iff fun s => by simp) hsort
        (fun w hw => by
          obtain ⟨h3, r, h4, h5⟩ := hWL w hw
          refine ⟨hw, ?_⟩
          cases r with
          | nil => exfalso; unfold wayB at h5; simp at h5; exact hv h5
          | cons i r => exact ⟨i, r, h4, (way_cons.1 h5).1⟩)
        (fun w hw _ => hw)
      refine hfin.iff fun s => ?_
      rw [nil_append]
      constructor
      · rintro (h | ⟨i, r, _, hr, he, hn⟩)
        · exact .inl h
        · exact .inr ⟨i :: r, hr, he, hn⟩
      · rintro (h | ⟨r, hr, he, hn⟩)
        · exact .inl h
        · cases r with
          | nil => exfalso; unfold wayB at hr; simp at hr; exact hv hr
          | cons i r => exact .inr ⟨i, r, (way_cons.1 hr).1, hr, he, hn⟩
end Go.Proofs.Ytbikjmafddndpaa

/-
  The plain law of layer 16: what Check finds is what a comparison with all candidates finds.
-/
namespace Go.Proofs.Ytbikjmafddndpaa
open List

def canLt (a b : Can) : Bool := decide (a.cost < b.cost) || (decide (a.cost = b.cost) && lexLt a.links b.links)
theorem canLt_iff {a b : Can} : canLt a b = true ↔ a.cost < b.cost ∨ (a.cost = b.cost ∧ lexLt a.links b.links = true) := by
  unfold canLt; simp
theorem canLt_irrefl (a : Can) : canLt a a = false := by unfold canLt; simp [lex_irrefl]
theorem canLt_trans {a b c : Can} (h1 : canLt a b = true) (h2 : canLt b c = true) : canLt a c = true := by
  rw [canLt_iff] at *
  rcases h1 with h1 | ⟨h1, h3⟩ <;> rcases h2 with h2 | ⟨h2, h4⟩
  · left; omega
  · left; omega
  · left; omega
  · right; exact ⟨by omega, lex_trans h3 h4⟩
theorem canLt_asymm {a b : Can} (h : canLt a b = true) : canLt b a = false := by
  cases hb : canLt b a with
  | false => rfl
  | true => have := canLt_trans h hb; rw [canLt_irrefl] at this; cases this
theorem canLt_total (a b : Can) : canLt a b = true ∨ a = b ∨ canLt b a = true := by
  rcases Int.lt_or_le a.cost b.cost with h | h
  · left; rw [canLt_iff]; exact .inl h
  · rcases Int.lt_or_le b.cost a.cost with h2 | h2
    · right; right; rw [canLt_iff]; exact .inl h2
    · have h3 : a.cost = b.cost := by omega
      rcases lex_total a.links b.links with h4 | h4 | h4
      · left; rw [canLt_iff]; exact .inr ⟨h3, h4⟩
      · right; left; cases a; cases b; simp at h3 h4 ⊢; exact ⟨h4, h3⟩
      · right; right; rw [canLt_iff]; exact .inr ⟨h3.symm, h4⟩
def canB (g : Gr) (c : Can) : Bool := wayB g 0 c.links && decide (c.cost = sumC g c.links)
def IsCan (g : Gr) (c : Can) : Prop := wayB g 0 c.links = true ∧ c.cost = sumC g c.links
theorem canB_iff {g : Gr} {c : Can} : canB g c = true ↔ IsCan g c := by unfold canB IsCan; simp
def Sorted (A : List Can) : Prop := A.Pairwise (fun a b => canLt a b = true)
/-- All candidates, in their order. -/
def IsAll (g : Gr) (A : List Can) : Prop := Sorted A ∧ ∀ c, c ∈ A ↔ IsCan g c
theorem Sorted.nodup {A : List Can} (h : Sorted A) : A.Nodup := h.imp fun {a b} hab e => by subst e; rw [canLt_irrefl] at hab; cases hab
theorem sorted_same {A B : List Can} (hA : Sorted A) (hB : Sorted B) (h : ∀ c, c ∈ A ↔ c ∈ B) : A = B :=
  ((perm_ext_iff_of_nodup hA.nodup hB.nodup).2 h).eq_of_pairwise (fun a b _ _ h1 h2 => by have := canLt_asymm h1; rw [h2] at this; cases this) hA hB
theorem isAll_unique {g : Gr} {A B : List Can} (hA : IsAll g A) (hB : IsAll g B) : A = B := sorted_same hA.1 hB.1 fun c => by rw [hA.2, hB.2]

/-- How many elements at the beginning are ways with their costs, each before the next one. -/
def ordN (g : Gr) : Option Can → List Can → Nat
  | _, [] => 0
  | prev, c :: r => if canB g c && (match prev with | none => true | some p => canLt p c) then ordN g (some c) r + 1 else 0
theorem ordN_le (g : Gr) : ∀ (l : List Can) (prev : Option Can), ordN g prev l ≤ l.length := by
  intro l
  induction l with
  | nil => intro _; simp [ordN]
  | cons c l ih =>
    intro prev
    unfold ordN
    by_cases h : (canB g c && (match prev with | none => true | some p => canLt p c)) = true
    · rw [if_pos h]; have := ih (some c); rw [length_cons]; omega
    · rw [if_neg h]; exact Nat.zero_le _
theorem ordN_spec (g : Gr) : ∀ (l : List Can) (prev : Option Can), Sorted (l.take (ordN g prev l)) ∧ (∀ c ∈ l.take (ordN g prev l), IsCan g c ∧ ∀ p, prev = some p → canLt p c = true) ∧
    ∀ c, l[ordN g prev l]? = some c → ¬ (IsCan g c ∧ (∀ p, prev = some p → canLt p c = true) ∧ ∀ q ∈ l.take (ordN g prev l), canLt q c = true) := by
  intro l
  induction l with
  | nil => intro _; exact ⟨Pairwise.nil, by simp, by simp⟩
  | cons c l ih =>
    intro prev
    unfold ordN
    by_cases h : (canB g c && (match prev with | none => true | some p => canLt p c)) = true
    · rw [if_pos h]
      obtain ⟨h1, h2, h3⟩ := ih (some c)
      rw [Bool.and_eq_true] at h
      have hc := canB_iff.1 h.1
      have hp : ∀ p, prev = some p → canLt p c = true := fun p hp => by rw [hp] at h; exact h.2
      rw [take_succ_cons]
      refine ⟨pairwise_cons.2 ⟨fun b hb => (h2 b hb).2 c rfl, h1⟩, fun d hd => ?_, fun d hd => ?_⟩
      · rcases mem_cons.1 hd with rfl | hd
        · exact ⟨hc, hp⟩
        · exact ⟨(h2 d hd).1, fun p hp' => canLt_trans (hp p hp') ((h2 d hd).2 c rfl)⟩
      · rw [getElem?_cons_succ] at hd
        rintro ⟨h4, h5, h6⟩
        exact h3 d hd ⟨h4, fun p hp' => by rw [← Option.some.inj hp']; exact h6 c (by simp), fun q hq => h6 q (by simp [hq])⟩
    · rw [if_neg h]
      refine ⟨Pairwise.nil, by simp, fun d hd => ?_⟩
      simp at hd
      subst hd
      rintro ⟨h4, h5, _⟩
      apply h
      rw [Bool.and_eq_true]
      refine ⟨canB_iff.2 h4, ?_⟩
      cases prev with
      | none => rfl
      | some p => exact h5 p rfl

def sortW (l : List (List Int)) : List (List Int) := l.mergeSort fun x y => !lexLt y x
def leastM (g : Gr) (l : List Can) : Oth :=
  if l = [] then ⟨decide (0 ≤ hAt g 0), max (hAt g 0) 0, []⟩ else visitM g g.n.toNat ⟨false, 0, []⟩ (sortW (l.map (·.links))) 0 0 0
def befB (o : Oth) (c : Can) : Bool := if o.cost ≠ c.cost then decide (o.cost < c.cost) else lexLt o.links c.links
theorem sortW_perm (l : List (List Int)) : sortW l ~ l := mergeSort_perm _ _
theorem sortW_sorted (l : List (List Int)) : (sortW l).Pairwise (fun a b => lexLt b a = false) := by
  have h := pairwise_mergeSort (le := fun x y => !lexLt y x) (fun a b c h1 h2 => by
    simp only [Bool.not_eq_true'] at *
    cases h : lexLt c a with
    | false => rfl
    | true =>
      rcases lex_total b c with h3 | h3 | h3
      · rw [lex_trans h3 h] at h1; cases h1
      · subst h3; rw [h] at h1; cases h1
      · rw [h3] at h2; cases h2) (fun a b => by
    cases h : lexLt b a with
    | false => simp
    | true => have := lex_asymm h; simp [this]) l
  exact h.imp fun {a b} hab => by simpa using hab
/-- No way is a proper beginning of another one. -/
theorem way_pre {g : Gr} (hg : GrOK g) : ∀ (a r : List Int) (v : Int), wayB g v a = true → wayB g v (a ++ r) = true → r = [] := by
  intro a
  induction a with
  | nil =>
    intro r v h1 h2
    cases r with
    | nil => rfl
    | cons i r =>
      unfold wayB at h1
      simp at h1
      have hi' := lvs_iff.1 (way_cons.1 h2).1
      have hok := lkAt_ok hg ⟨hi'.1, hi'.2.1⟩
      have hto := hok.to
      have hlt := hok.lt
      omega
  | cons i a ih =>
    intro r v h1 h2
    exact ih r _ (way_cons.1 h1).2 (way_cons.1 h2).2
/-- Lists of which neither begins with the other are told apart by what is put behind neither. -/
theorem lex_app : ∀ (a b r : List Int), (¬ ∃ t, b = a ++ t) → (¬ ∃ t, a = b ++ t) → lexLt (a ++ r) b = lexLt a b
  | [], b, _, h, _ => absurd ⟨b, rfl⟩ h
  | x :: a, [], _, _, h => absurd ⟨x :: a, rfl⟩ h
  | x :: a, y :: b, r, h1, h2 => by
    rw [cons_append]
    unfold lexLt
    by_cases h3 : x < y
    · rw [if_pos h3, if_pos h3]
    · by_cases h4 : y < x
      · rw [if_neg h3, if_pos h4, if_neg h3, if_pos h4]
      · have : x = y := by omega
        subst this
        rw [if_neg h3, if_neg h3, if_neg h3, if_neg h3]
        exact lex_app a b r (fun ⟨t, ht⟩ => h1 ⟨t, by rw [ht]; rfl⟩) (fun ⟨t, ht⟩ => h2 ⟨t, by rw [ht]; rfl⟩)
theorem least_spec {g : Gr} (hg : GrOK g) {l : List Can} (hl : ∀ c ∈ l, IsCan g c) :
    ((leastM g l).there = false ∧ ∀ c, IsCan g c → c ∈ l) ∨
    ((leastM g l).there = true ∧ ∃ m, IsCan g m ∧ m ∉ l ∧ (∀ c, IsCan g c → c ∉ l → c = m ∨ canLt m c = true) ∧ ∀ c ∈ l, befB (leastM g l) c = canLt m c) := by
  have hn := hg.n
  by_cases h0 : l = []
  · subst h0
    unfold leastM
    rw [if_pos rfl]
    by_cases hh : 0 ≤ hAt g 0
    · right
      obtain ⟨h1, h2⟩ := best_way hg g.n.toNat 0 (by omega) (by omega) (by omega) hh
      refine ⟨by simpa using hh, ⟨bestW g g.n.toNat 0, hAt g 0⟩, ⟨h1, h2.symm⟩, by simp, fun c hc _ => ?_, by simp⟩
      obtain ⟨h3, h4⟩ := hc
      have h5 := (way_h hg _ 0 (by omega) (by omega) h3).2
      rcases Int.lt_or_le (hAt g 0) (sumC g c.links) with h6 | h6
      · right; rw [canLt_iff]; left; show hAt g 0 < c.cost; omega
      · rcases best_first hg g.n.toNat 0 (by omega) (by omega) (by omega) _ h3 (by omega) with h7 | h7
        · left; cases c; simp at h4 h7 h6 h5 ⊢; exact ⟨h7.symm, by omega⟩
        · right; rw [canLt_iff]; right; exact ⟨by show hAt g 0 = c.cost; omega, h7⟩
    · left
      refine ⟨by simpa using hh, fun c hc => ?_⟩
      have := (way_h hg _ 0 (by omega) (by omega) hc.1).1
      exact absurd this hh
  · unfold leastM
    rw [if_neg h0]
    have hW : sortW (l.map (·.links)) ≠ [] := fun h => h0 (by
      have := (sortW_perm (l.map (·.links))).length_eq
      rw [h] at this
      simpa using this.symm)
    have hmem : ∀ w, w ∈ sortW (l.map (·.links)) ↔ w ∈ l.map (·.links) := fun w => (sortW_perm _).mem_iff
    have hrep := visit_rep hg (l.map (·.links)) g.n.toNat ⟨false, 0, []⟩ (sortW (l.map (·.links))) [] 0 0 (fun _ => False) (by omega) (by omega) (by omega) (fun w => by show sumC g w = 0 + sumC g w; omega) hW (sortW_sorted _)
      (fun w hw => by
        have h1 := (hmem w).1 hw
        obtain ⟨c, hc, rfl⟩ := mem_map.1 h1
        exact ⟨h1, c.links, rfl, (hl c hc).1⟩)
      (fun w hw _ => (hmem w).2 hw) (.inl ⟨rfl, fun s h => h⟩) (fun s h => h.elim)
    rw [length_nil] at hrep
    generalize visitM g g.n.toNat ⟨false, 0, []⟩ (sortW (l.map (·.links))) 0 0 0 = o at *
    have hout : ∀ c, IsCan g c → (c.links ∈ l.map (·.links) ↔ c ∈ l) := fun c hc => by
      constructor
      · intro h
        obtain ⟨d, hd, he⟩ := mem_map.1 h
        have := hl d hd
        have : d = c := by
          cases c; cases d
          simp at he
          subst he
          have h1 := hc.2
          have h2 := this.2
          simp at h1 h2 ⊢
          omega
        rw [← this]; exact hd
      · intro h; exact mem_map_of_mem h
    rcases hrep with ⟨h1, h2⟩ | ⟨h1, m, h2, h3, ⟨r, hr⟩, h5, h6⟩
    · left
      refine ⟨h1, fun c hc => ?_⟩
      rcases Classical.em (c ∈ l) with h | h
      · exact h
      · exact absurd (.inr ⟨c.links, hc.1, rfl, fun h' => h ((hout c hc).1 h')⟩) (h2 c.links)
    · right
      rcases h2 with h2 | ⟨w, hw, he, hn'⟩
      · exact h2.elim
      · rw [nil_append] at he
        subst he
        have hm : IsCan g ⟨m, o.cost⟩ := ⟨hw, h3⟩
        refine ⟨h1, ⟨m, o.cost⟩, hm, fun h => hn' ((hout _ hm).2 h), fun c hc hcl => ?_, fun c hc => ?_⟩
        · have h7 := h6 c.links (.inr ⟨c.links, hc.1, rfl, fun h => hcl ((hout c hc).1 h)⟩)
          have h8 := hc.2
          rcases h7 with h7 | ⟨h7, h9 | h9⟩
          · right; rw [canLt_iff]; left; show o.cost < c.cost; omega
          · left; cases c; simp at h8 h9 ⊢; exact ⟨h9.symm, by rw [h8, ← h9]; omega⟩
          · right; rw [canLt_iff]; right; exact ⟨by show o.cost = c.cost; omega, h9⟩
        · have hcw := (hl c hc).1
          have hx := lex_app o.links c.links r (h5 _ (mem_map_of_mem hc)) (fun ⟨t, ht⟩ => by
            rw [ht, append_assoc] at hr
            rw [hr] at hw
            have := way_pre hg _ _ _ hcw hw
            rw [this, append_nil] at hr
            exact hn' (by rw [hr]; exact mem_map_of_mem hc))
          rw [← hr] at hx
          unfold befB canLt
          rw [← hx]
          by_cases he : o.cost = c.cost
          · rw [if_neg (by simpa using he)]; simp [he]
          · rw [if_pos he]; simp [he]

/-- Where a list first differs from the beginning of another one. -/
def diffAt : List Can → List Can → Nat → Option Nat
  | [], _, _ => none
  | _ :: _, [], k => some k
  | c :: l, a :: A, k => if c = a then diffAt l A (k + 1) else some k
def refCheckM (A l : List Can) (whole : Bool) : Int × Int :=
  match diffAt l A 0 with
  | some i => ((i : Int), 160)
  | none => if whole ≠ decide (l.length = A.length) then ((l.length : Int), 160) else ((l.length : Int), 0)
def checkM (g : Gr) (l : List Can) (whole : Bool) : Int × Int :=
  let n := ordN g none l
  let o := leastM g (l.take n)
  match (if o.there = true then (l.take n).findIdx? (befB o) else none) with
  | some i => ((i : Int), 160)
  | none => if n < l.length ∨ whole = o.there then ((n : Int), 160) else ((n : Int), 0)
theorem diffAt_pre : ∀ (p l A : List Can) (k : Nat), diffAt (p ++ l) (p ++ A) k = diffAt l A (k + p.length)
  | [], l, A, k => rfl
  | c :: p, l, A, k => by
    show (if c = c then diffAt (p ++ l) (p ++ A) (k + 1) else some k) = _
    rw [if_pos rfl, diffAt_pre p l A (k + 1), length_cons, show k + 1 + p.length = k + (p.length + 1) by omega]
/-- A sorted list parts at an element. -/
theorem sorted_split {A : List Can} (h : Sorted A) {m : Can} (hm : m ∈ A) : A = A.filter (fun c => canLt c m) ++ m :: A.filter (fun c => canLt m c) := by
  refine sorted_same h ?_ fun c => ?_
  · unfold Sorted
    rw [pairwise_append]
    refine ⟨Pairwise.sublist filter_sublist h, pairwise_cons.2 ⟨fun c hc => (mem_filter.1 hc).2, Pairwise.sublist filter_sublist h⟩, fun a ha b hb => ?_⟩
    have h1 := (mem_filter.1 ha).2
    rcases mem_cons.1 hb with rfl | hb
    · exact h1
    · exact canLt_trans h1 (mem_filter.1 hb).2
  · rw [mem_append, mem_cons, mem_filter, mem_filter]
    constructor
    · intro hc
      rcases canLt_total c m with h1 | h1 | h1
      · exact .inl ⟨hc, h1⟩
      · exact .inr (.inl h1)
      · exact .inr (.inr ⟨hc, h1⟩)
    · rintro (h1 | h1 | h1)
      · exact h1.1
      · rw [h1]; exact hm
      · exact h1.1
theorem find_split {l : List Can} (hs : Sorted l) {m : Can} (hm : m ∉ l) {f : Can → Bool} (hf : ∀ c ∈ l, f c = canLt m c) :
    l = l.filter (fun c => canLt c m) ++ l.filter (fun c => canLt m c) ∧
    (l.findIdx? f = if l.filter (fun c => canLt m c) = [] then none else some (l.filter (fun c => canLt c m)).length) := by
  induction l with
  | nil => exact ⟨rfl, rfl⟩
  | cons c l ih =>
    obtain ⟨h1, h2⟩ := pairwise_cons.1 hs
    obtain ⟨h3, h4⟩ := ih h2 (fun h => hm (by simp [h])) (fun d hd => hf d (by simp [hd]))
    rcases canLt_total c m with h5 | h5 | h5
    · have h6 := canLt_asymm h5
      rw [filter_cons_of_pos (p := fun c => canLt c m) h5, filter_cons_of_neg (p := fun c => canLt m c) (by rw [h6]; simp), findIdx?_cons, hf c (by simp), h6, h4]
      refine ⟨by rw [cons_append, ← h3], ?_⟩
      by_cases h7 : l.filter (fun c => canLt m c) = []
      · simp [h7]
      · simp [h7]
    · exact absurd (by simp [h5]) hm
    · have h6 := canLt_asymm h5
      have hall : ∀ d ∈ l, canLt m d = true := fun d hd => canLt_trans h5 (h1 d hd)
      have e1 : l.filter (fun c => canLt c m) = [] := filter_eq_nil_iff.2 fun d hd => by rw [canLt_asymm (hall d hd)]; simp
      have e2 : l.filter (fun c => canLt m c) = l := filter_eq_self.2 hall
      rw [filter_cons_of_neg (p := fun c => canLt c m) (by rw [h6]; simp), filter_cons_of_pos (p := fun c => canLt m c) h5, e1, e2, findIdx?_cons, hf c (by simp), h5]
      simp
theorem check_eq {g : Gr} (hg : GrOK g) {A : List Can} (hA : IsAll g A) (l : List Can) (whole : Bool) : checkM g l whole = refCheckM A l whole := by
  obtain ⟨hs, hc, hstop⟩ := ordN_spec g l none
  have hle := ordN_le g l none
  unfold checkM refCheckM
  dsimp only
  generalize ordN g none l = n at *
  have hlen : (l.take n).length = n := by rw [length_take]; omega
  have hl : l = l.take n ++ l.drop n := (take_append_drop n l).symm
  have hcan : ∀ c ∈ l.take n, IsCan g c := fun c h => (hc c h).1
  rcases least_spec hg hcan with ⟨h1, h2⟩ | ⟨h1, m, h2, h3, h4, h5⟩
  · -- there is no other
    have hAL : A = l.take n := sorted_same hA.1 hs fun c => by rw [hA.2]; exact ⟨h2 c, hcan c⟩
    rw [h1, if_neg (by simp)]
    rw [show diffAt l A 0 = diffAt (l.take n ++ l.drop n) (l.take n ++ []) 0 by rw [← hl, append_nil, ← hAL], diffAt_pre, hlen]
    have hAn : A.length = n := by rw [hAL, hlen]
    cases hd : l.drop n with
    | nil =>
      have hn : l.length ≤ n := by simpa using hd
      have hn' : l.length = n := by omega
      show (if n < l.length ∨ whole = false then _ else _) = (if whole ≠ decide (l.length = A.length) then _ else _)
      rw [hn', hAn]
      cases whole <;> simp
    | cons c r =>
      have hlt : n < l.length := by
        have := congrArg length hd
        rw [length_drop] at this
        simp at this
        omega
      show (if n < l.length ∨ whole = false then _ else _) = _
      rw [if_pos (.inl hlt)]
      show _ = (((0 + n : Nat) : Int), (160 : Int))
      rw [Nat.zero_add]
  · -- there is one
    have hmA : m ∈ A := (hA.2 m).2 h2
    have hsp := sorted_split hA.1 hmA
    obtain ⟨hf1, hf2⟩ := find_split hs h3 h5
    have hpre : A.filter (fun c => canLt c m) = (l.take n).filter (fun c => canLt c m) := sorted_same (Pairwise.sublist filter_sublist hA.1) (Pairwise.sublist filter_sublist hs) fun c => by
      rw [mem_filter, mem_filter, hA.2]
      constructor
      · rintro ⟨h6, h7⟩
        refine ⟨?_, h7⟩
        rcases Classical.em (c ∈ l.take n) with h | h
        · exact h
        · rcases h4 c h6 h with h8 | h8
          · rw [h8, canLt_irrefl] at h7; cases h7
          · have := canLt_asymm h8; rw [h7] at this; cases this
      · rintro ⟨h6, h7⟩; exact ⟨hcan c h6, h7⟩
    rw [hpre] at hsp
    rw [h1, if_pos rfl, hf2]
    by_cases hemp : (l.take n).filter (fun c => canLt m c) = []
    · rw [if_pos hemp]
      rw [hemp, append_nil] at hf1
      rw [← hf1] at hsp
      have hAl : n < A.length := by rw [hsp, length_append, hlen]; simp
      rw [show diffAt l A 0 = diffAt (l.take n ++ l.drop n) (l.take n ++ m :: A.filter (fun c => canLt m c)) 0 by rw [← hl, ← hsp], diffAt_pre, hlen]
      cases hd : l.drop n with
      | nil =>
        have hn : l.length ≤ n := by simpa using hd
        have hn' : l.length = n := by omega
        show (if n < l.length ∨ whole = true then _ else _) = (if whole ≠ decide (l.length = A.length) then _ else _)
        rw [hn', decide_eq_false (show ¬ n = A.length by omega)]
        cases whole <;> simp
      | cons c r =>
        have hlt : n < l.length := by
          have := congrArg length hd
          rw [length_drop] at this
          simp at this
          omega
        have hcn : l[n]? = some c := by
          have := getElem?_drop (xs := l) (i := n) (j := 0)
          rw [hd] at this
          simpa using this.symm
        have hne : c ≠ m := fun e => by
          subst e
          refine hstop c hcn ⟨h2, by simp, fun q hq => ?_⟩
          rw [hf1] at hq
          exact (mem_filter.1 hq).2
        show (if n < l.length ∨ whole = true then _ else _) = _
        rw [if_pos (.inl hlt)]
        unfold diffAt
        rw [if_neg hne, Nat.zero_add]
    · rw [if_neg hemp]
      obtain ⟨L1, hL1⟩ : ∃ L1, (l.take n).filter (fun c => canLt c m) = L1 := ⟨_, rfl⟩
      obtain ⟨L2, hL2⟩ : ∃ L2, (l.take n).filter (fun c => canLt m c) = L2 := ⟨_, rfl⟩
      rw [hL1] at hsp hf1 ⊢
      rw [hL2] at hf1 hemp
      cases L2 with
      | nil => exact absurd rfl hemp
      | cons d L2 =>
        have hdm : d ≠ m := fun e => by
          have : d ∈ (l.take n).filter (fun c => canLt m c) := by rw [hL2]; simp
          have := (mem_filter.1 this).2
          rw [e, canLt_irrefl] at this; cases this
        rw [show diffAt l A 0 = diffAt (L1 ++ (d :: L2 ++ l.drop n)) (L1 ++ m :: A.filter (fun c => canLt m c)) 0 by rw [← append_assoc, ← hf1, ← hl, ← hsp], diffAt_pre]
        show _ = (match diffAt (d :: (L2 ++ l.drop n)) _ (0 + L1.length) with | some i => _ | none => _)
        unfold diffAt
        rw [if_neg hdm, Nat.zero_add]
end Go.Proofs.Ytbikjmafddndpaa

/-
  The plain law of layer 15: the reference goes through all ways, and puts them in order.
-/
namespace Go.Proofs.Ytbikjmafddndpaa
open List

/-- Adding what follows the link i, as far as there is room. -/
def addW (g : Gr) (most : Nat) (rest : List Can) (out : List Can) (i : Int) : List Can :=
  out ++ (rest.take (most - out.length)).map (fun r => (⟨i :: r.links, r.cost + (lkAt g i).cost⟩ : Can))
def waysM (g : Gr) (most : Nat) : Nat → Int → List Can
  | 0, _ => []
  | f + 1, v => if v = g.n - 1 then [⟨[], 0⟩] else (lvs g v).foldl (fun out i => addW g most (waysM g most f (lkAt g i).to) out i) []
/-- The same without a limit. -/
def waysF (g : Gr) : Nat → Int → List Can
  | 0, _ => []
  | f + 1, v => if v = g.n - 1 then [⟨[], 0⟩] else (lvs g v).flatMap (fun i => (waysF g f (lkAt g i).to).map (fun r => (⟨i :: r.links, r.cost + (lkAt g i).cost⟩ : Can)))
theorem lvs_last {g : Gr} (hg : GrOK g) : lvs g (g.n - 1) = [] := by
  rcases h : lvs g (g.n - 1) with _ | ⟨i, l⟩
  · rfl
  · have hi' := lvs_iff.1 (show i ∈ lvs g (g.n - 1) by rw [h]; simp)
    have hok := lkAt_ok hg ⟨hi'.1, hi'.2.1⟩
    have hto := hok.to
    have hlt := hok.lt
    omega
theorem waysF_mem {g : Gr} (hg : GrOK g) : ∀ (f : Nat) (v : Int), 0 ≤ v → v < g.n → g.n - v ≤ (f : Int) → ∀ c, c ∈ waysF g f v ↔ wayB g v c.links = true ∧ c.cost = sumC g c.links := by
  intro f
  induction f with
  | zero => intro v h0 h1 h2; exfalso; omega
  | succ f ih =>
    intro v h0 h1 h2 c
    unfold waysF
    by_cases hv : v = g.n - 1
    · rw [if_pos hv, mem_singleton]
      constructor
      · rintro rfl; exact ⟨by unfold wayB; simpa using hv, rfl⟩
      · rintro ⟨h3, h4⟩
        obtain ⟨w, k⟩ := c
        cases w with
        | nil => simp at h4; rw [h4]; rfl
        | cons i w =>
          have := (way_cons.1 h3).1
          rw [hv, lvs_last hg] at this
          cases this
    · rw [if_neg hv, mem_flatMap]
      constructor
      · rintro ⟨i, hi, hc⟩
        obtain ⟨r, hr, rfl⟩ := mem_map.1 hc
        have hi' := lvs_iff.1 hi
        have hok := lkAt_ok hg ⟨hi'.1, hi'.2.1⟩
        have hto := hok.to
        have hlt := hok.lt
        obtain ⟨h3, h4⟩ := (ih _ (by omega) (by omega) (by omega) r).1 hr
        exact ⟨way_cons.2 ⟨hi, h3⟩, by show r.cost + (lkAt g i).cost = (lkAt g i).cost + sumC g r.links; omega⟩
      · rintro ⟨h3, h4⟩
        obtain ⟨w, k⟩ := c
        cases w with
        | nil => unfold wayB at h3; simp at h3; exact absurd h3 hv
        | cons i w =>
          obtain ⟨hi, hw⟩ := way_cons.1 h3
          have hi' := lvs_iff.1 hi
          have hok := lkAt_ok hg ⟨hi'.1, hi'.2.1⟩
          have hto := hok.to
          have hlt := hok.lt
          refine ⟨i, hi, mem_map.2 ⟨⟨w, sumC g w⟩, (ih _ (by omega) (by omega) (by omega) _).2 ⟨hw, rfl⟩, ?_⟩⟩
          have h4' : k = (lkAt g i).cost + sumC g w := h4
          simp
          omega
theorem waysF_nodup (g : Gr) : ∀ (f : Nat) (v : Int), (waysF g f v).Nodup := by
  intro f
  induction f with
  | zero => intro v; exact Pairwise.nil
  | succ f ih =>
    intro v
    unfold waysF
    split
    · exact pairwise_singleton _ _
    · have hinc := lvs_inc g v
      generalize lvs g v = L at *
      induction L with
      | nil => exact Pairwise.nil
      | cons i L ihL =>
        obtain ⟨h1, h2⟩ := pairwise_cons.1 hinc
        rw [flatMap_cons]
        refine nodup_append.2 ⟨?_, ihL h2, ?_⟩
        · refine (ih _).map _ fun a b hab e => hab ?_
          obtain ⟨w, k⟩ := a
          obtain ⟨w', k'⟩ := b
          simp at e ⊢
          exact ⟨e.1, by omega⟩
        · intro a ha b hb e
          subst e
          obtain ⟨r, _, rfl⟩ := mem_map.1 ha
          obtain ⟨j, hj, hb⟩ := mem_flatMap.1 hb
          obtain ⟨r', _, he⟩ := mem_map.1 hb
          simp at he
          have := h1 j hj
          omega
/-- How many links leave a node or a later one. -/
def outE (g : Gr) (v : Int) : Nat := g.ls.countP (fun l => decide (v ≤ l.fr))
theorem lvTo_len (ls : List Lk) (v : Int) : ∀ k, k ≤ ls.length → (lvTo ls v k).length = (ls.take k).countP (fun l => decide (l.fr = v)) := by
  intro k
  induction k with
  | zero => intro _; rfl
  | succ k ih =>
    intro hk
    have hl : ls[k]? = some ls[k] := List.getElem?_eq_getElem (by omega)
    rw [lvTo_succ hl, take_succ_of hl, countP_append]
    split
    · rename_i h
      rw [length_append, ih (by omega)]
      simp [h]
    · rename_i h
      rw [ih (by omega)]
      simp [h]
theorem outE_step (g : Gr) (v : Int) : outE g v = (lvs g v).length + outE g (v + 1) := by
  unfold lvs outE
  rw [lvTo_len _ _ _ (Nat.le_refl _), take_length]
  generalize g.ls = l
  induction l with
  | nil => rfl
  | cons x l ih =>
    rw [countP_cons, countP_cons, countP_cons, ih]
    by_cases h1 : x.fr = v
    · simp [h1, show ¬ (v + 1 ≤ v) by omega]; omega
    · by_cases h2 : v ≤ x.fr
      · have h3 : v + 1 ≤ x.fr := by omega
        simp [h1, h2, h3]; omega
      · have h3 : ¬ v + 1 ≤ x.fr := by omega
        simp [h1, h2, h3]
theorem outE_mono (g : Gr) {u v : Int} (h : u ≤ v) : outE g v ≤ outE g u := by
  unfold outE
  exact countP_mono_left fun l _ hl => by simp at hl ⊢; omega
theorem cube_le (d : Nat) : d * d * d ≤ 3 ^ d := by
  match d with
  | 0 => decide
  | 1 => decide
  | 2 => decide
  | 3 => decide
  | d + 4 =>
    induction d with
    | zero => decide
    | succ d ih =>
      have h1 : (d + 1 + 4) * (d + 1 + 4) * (d + 1 + 4) ≤ 3 * ((d + 4) * (d + 4) * (d + 4)) := by
        rw [show d + 1 + 4 = (d + 4) + 1 by omega]
        have hx : 4 ≤ d + 4 := by omega
        generalize d + 4 = x at *
        have e : (x + 1) * (x + 1) * (x + 1) = x * x * x + 3 * (x * x) + 3 * x + 1 := by
          simp only [Nat.add_mul, Nat.mul_add, Nat.one_mul, Nat.mul_one]
          omega
        have h3 : 4 * x ≤ x * x := Nat.mul_le_mul_right x hx
        have h4 : 4 * (x * x) ≤ x * x * x := by rw [Nat.mul_assoc x x x, ]; exact Nat.mul_le_mul_right (x * x) hx
        rw [e]
        omega
      have h2 : 3 ^ (d + 1 + 4) = 3 * 3 ^ (d + 4) := by rw [show d + 1 + 4 = (d + 4) + 1 by omega, Nat.pow_succ]; omega
      rw [h2]
      exact Nat.le_trans h1 (Nat.mul_le_mul_left 3 ih)
theorem sum_cube {α : Type} (L : List α) (f : α → Nat) (B : Nat) (h : ∀ x ∈ L, f x * f x * f x ≤ B) : ∃ M, M * M * M ≤ B ∧ (L.map f).sum ≤ L.length * M := by
  induction L with
  | nil => exact ⟨0, by simp, by simp⟩
  | cons x L ih =>
    obtain ⟨M, h1, h2⟩ := ih fun y hy => h y (by simp [hy])
    have hx := h x (by simp)
    rcases Nat.le_total (f x) M with h3 | h3
    · refine ⟨M, h1, ?_⟩
      rw [map_cons, sum_cons, length_cons, Nat.add_mul, Nat.one_mul]
      omega
    · refine ⟨f x, hx, ?_⟩
      rw [map_cons, sum_cons, length_cons, Nat.add_mul, Nat.one_mul]
      have := Nat.mul_le_mul_left L.length h3
      omega
theorem waysF_len {g : Gr} (hg : GrOK g) : ∀ (f : Nat) (v : Int), (waysF g f v).length * (waysF g f v).length * (waysF g f v).length ≤ 3 ^ outE g v := by
  intro f
  induction f with
  | zero => intro v; simp [waysF]
  | succ f ih =>
    intro v
    unfold waysF
    split
    · simp
      exact Nat.one_le_pow _ _ (by decide)
    · obtain ⟨M, h1, h2⟩ := sum_cube (lvs g v) (fun i => (waysF g f (lkAt g i).to).length) (3 ^ outE g (v + 1)) (fun i hi => by
        have hi' := lvs_iff.1 hi
        have hok := lkAt_ok hg ⟨hi'.1, hi'.2.1⟩
        have hlt := hok.lt
        exact Nat.le_trans (ih _) (Nat.pow_le_pow_right (by decide) (outE_mono g (by omega))))
      have e : ((lvs g v).flatMap (fun i => (waysF g f (lkAt g i).to).map (fun r => (⟨i :: r.links, r.cost + (lkAt g i).cost⟩ : Can)))).length = ((lvs g v).map (fun i => (waysF g f (lkAt g i).to).length)).sum := by
        rw [length_flatMap]
        simp
      rw [e, outE_step, Nat.pow_add]
      generalize ((lvs g v).map (fun i => (waysF g f (lkAt g i).to).length)).sum = s at *
      generalize (lvs g v).length = d at *
      have h3 : s * s * s ≤ (d * M) * (d * M) * (d * M) := Nat.mul_le_mul (Nat.mul_le_mul h2 h2) h2
      have h4 : (d * M) * (d * M) * (d * M) = (d * d * d) * (M * M * M) := by
        rw [Nat.mul_mul_mul_comm d M d M, Nat.mul_mul_mul_comm]
      rw [h4] at h3
      exact Nat.le_trans h3 (Nat.mul_le_mul (cube_le d) h1)
theorem waysF_small {g : Gr} (hg : GrOK g) (h14 : g.ls.length ≤ 14) (f : Nat) (v : Int) : (waysF g f v).length ≤ 168 := by
  have h1 := waysF_len hg f v
  have h2 : outE g v ≤ 14 := Nat.le_trans countP_le_length h14
  have h3 : 3 ^ outE g v ≤ 3 ^ 14 := Nat.pow_le_pow_right (by decide) h2
  rcases Nat.lt_or_ge 168 (waysF g f v).length with h | h
  · exfalso
    have h4 : 169 * 169 * 169 ≤ (waysF g f v).length * (waysF g f v).length * (waysF g f v).length := Nat.mul_le_mul (Nat.mul_le_mul h h) h
    have h5 : 3 ^ 14 = 4782969 := by decide
    omega
  · exact h
theorem waysM_eq {g : Gr} (hg : GrOK g) (h14 : g.ls.length ≤ 14) {most : Nat} (hm : 168 ≤ most) : ∀ (f : Nat) (v : Int), waysM g most f v = waysF g f v := by
  intro f
  induction f with
  | zero => intro v; rfl
  | succ f ih =>
    intro v
    have hs := waysF_small hg h14 (f + 1) v
    unfold waysM waysF
    unfold waysF at hs
    split
    · rfl
    · rename_i hv
      rw [if_neg hv] at hs
      have key : ∀ (L : List Int) (out : List Can), (out ++ L.flatMap (fun i => (waysF g f (lkAt g i).to).map (fun r => (⟨i :: r.links, r.cost + (lkAt g i).cost⟩ : Can)))).length ≤ 168 →
          L.foldl (fun out i => addW g most (waysM g most f (lkAt g i).to) out i) out = out ++ L.flatMap (fun i => (waysF g f (lkAt g i).to).map (fun r => (⟨i :: r.links, r.cost + (lkAt g i).cost⟩ : Can))) := by
        intro L
        induction L with
        | nil => intro out _; simp
        | cons i L ihL =>
          intro out ho
          rw [flatMap_cons] at ho ⊢
          rw [foldl_cons, ih]
          have e : addW g most (waysF g f (lkAt g i).to) out i = out ++ (waysF g f (lkAt g i).to).map (fun r => (⟨i :: r.links, r.cost + (lkAt g i).cost⟩ : Can)) := by
            unfold addW
            rw [take_of_length_le (by simp at ho; omega)]
          rw [e, ihL _ (by rw [append_assoc]; exact ho), append_assoc]
      have := key (lvs g v) [] (by simpa using hs)
      simpa using this

/-- The reference's way to put candidates in order. -/
def insC (out : List Can) (x : Can) : List Can :=
  out.takeWhile (fun c => canLt c x) ++ [x] ++ out.drop (out.takeWhile (fun c => canLt c x)).length
def orderedM (l : List Can) : List Can := l.foldl insC []
theorem insC_perm (out : List Can) (x : Can) : insC out x ~ x :: out := by
  unfold insC
  have h : out.takeWhile (fun c => canLt c x) ++ out.drop (out.takeWhile (fun c => canLt c x)).length = out := by
    have h1 := congrArg (List.take (out.takeWhile (fun c => canLt c x)).length) (takeWhile_append_dropWhile (p := fun c => canLt c x) (l := out))
    rw [take_left] at h1
    conv => lhs; lhs; rw [h1]
    exact take_append_drop _ _
  rw [append_assoc, singleton_append]
  refine perm_middle.trans ?_
  rw [h]
theorem insC_sorted {out : List Can} {x : Can} (h : Sorted out) (hx : x ∉ out) : Sorted (insC out x) := by
  induction out with
  | nil => exact pairwise_singleton _ _
  | cons c out ih =>
    obtain ⟨h1, h2⟩ := pairwise_cons.1 h
    unfold insC
    rw [takeWhile_cons]
    by_cases hc : canLt c x = true
    · rw [if_pos hc, length_cons, drop_succ_cons]
      have ihs := ih h2 (fun hm => hx (by simp [hm]))
      show Sorted (c :: insC out x)
      refine pairwise_cons.2 ⟨fun d hd => ?_, ihs⟩
      have := (insC_perm out x).mem_iff.1 hd
      rcases mem_cons.1 this with rfl | hd
      · exact hc
      · exact h1 d hd
    · rw [if_neg hc]
      show Sorted (x :: c :: out)
      have hxc : canLt x c = true := by
        rcases canLt_total x c with h3 | h3 | h3
        · exact h3
        · exact absurd (by simp [h3]) hx
        · exact absurd h3 hc
      exact pairwise_cons.2 ⟨fun d hd => by
        rcases mem_cons.1 hd with rfl | hd
        · exact hxc
        · exact canLt_trans hxc (h1 d hd), h⟩
theorem ordered_spec {l : List Can} (h : l.Nodup) : Sorted (orderedM l) ∧ ∀ c, c ∈ orderedM l ↔ c ∈ l := by
  unfold orderedM
  have key : ∀ (l out : List Can), Sorted out → (out ++ l).Nodup → Sorted (l.foldl insC out) ∧ l.foldl insC out ~ out ++ l := by
    intro l
    induction l with
    | nil => intro out h1 _; exact ⟨h1, by simp⟩
    | cons x l ih =>
      intro out h1 h2
      have hx : x ∉ out := fun hm => by
        obtain ⟨_, _, h3⟩ := nodup_append.1 h2
        exact h3 x hm x (by simp) rfl
      have hp := insC_perm out x
      have hp2 : insC out x ++ l ~ out ++ x :: l := (hp.append_right l).trans (by rw [cons_append]; exact perm_middle.symm)
      obtain ⟨h3, h4⟩ := ih (insC out x) (insC_sorted h1 hx) (hp2.nodup_iff.2 h2)
      exact ⟨h3, h4.trans hp2⟩
  obtain ⟨h1, h2⟩ := key l [] Pairwise.nil (by simpa using h)
  exact ⟨h1, fun c => by rw [h2.mem_iff]; simp⟩
/-- All candidates of a small graph, as the reference has them. -/
theorem ref_all {g : Gr} (hg : GrOK g) (h14 : g.ls.length ≤ 14) {most : Nat} (hm : 168 ≤ most) : IsAll g (orderedM (waysM g most g.n.toNat 0)) := by
  have hn := hg.n
  rw [waysM_eq hg h14 hm]
  obtain ⟨h1, h2⟩ := ordered_spec (waysF_nodup g g.n.toNat 0)
  exact ⟨h1, fun c => by rw [h2]; exact waysF_mem hg _ 0 (by omega) (by omega) (by omega) c⟩
end Go.Proofs.Ytbikjmafddndpaa

/-
  The plain law of layer 16: the links that leave each node, counted and sorted into one list.
-/
namespace Go.Proofs.Ytbikjmafddndpaa
open List

/-- Where the links of a node begin in the list of all. -/
def stN (g : Gr) : Nat → Nat
  | 0 => 0
  | v + 1 => stN g v + (lvs g (v : Int)).length
def cntN (g : Gr) (v k : Nat) : Nat := (lvTo g.ls (v : Int) k).length
theorem countP_split (l : List Lk) (v : Int) (hv : 0 ≤ v) : l.countP (fun l => decide (0 ≤ l.fr ∧ l.fr < v + 1)) = l.countP (fun l => decide (0 ≤ l.fr ∧ l.fr < v)) + l.countP (fun l => decide (l.fr = v)) := by
  induction l with
  | nil => rfl
  | cons x l ih =>
    rw [countP_cons, countP_cons, countP_cons, ih]
    by_cases h1 : x.fr = v
    · have a1 : decide (0 ≤ x.fr ∧ x.fr < v + 1) = true := decide_eq_true (by omega)
      have a2 : decide (0 ≤ x.fr ∧ x.fr < v) = false := decide_eq_false (by omega)
      have a3 : decide (x.fr = v) = true := decide_eq_true h1
      rw [a1, a2, a3]
      simp
      omega
    · have a3 : decide (x.fr = v) = false := decide_eq_false h1
      by_cases h2 : 0 ≤ x.fr ∧ x.fr < v
      · have a1 : decide (0 ≤ x.fr ∧ x.fr < v + 1) = true := decide_eq_true (by omega)
        have a2 : decide (0 ≤ x.fr ∧ x.fr < v) = true := decide_eq_true h2
        rw [a1, a2, a3]
        simp
        omega
      · have a1 : decide (0 ≤ x.fr ∧ x.fr < v + 1) = false := decide_eq_false (by omega)
        have a2 : decide (0 ≤ x.fr ∧ x.fr < v) = false := decide_eq_false h2
        rw [a1, a2, a3]
        simp
theorem stN_count (g : Gr) : ∀ v : Nat, stN g v = g.ls.countP (fun l => decide (0 ≤ l.fr ∧ l.fr < (v : Int)))
  | 0 => by
    show 0 = _
    rw [eq_comm, countP_eq_zero]
    intro l _
    simp
  | v + 1 => by
    show stN g v + (lvs g (v : Int)).length = _
    have h := countP_split g.ls (v : Int) (by omega)
    have e : ((v + 1 : Nat) : Int) = (v : Int) + 1 := by omega
    rw [e, h, stN_count g v]
    unfold lvs
    rw [lvTo_len _ _ _ (Nat.le_refl _), take_length]
theorem stN_le (g : Gr) (v : Nat) : stN g v ≤ g.ls.length := by rw [stN_count]; exact countP_le_length
theorem stN_succ (g : Gr) (v : Nat) : stN g (v + 1) = stN g v + (lvs g (v : Int)).length := rfl
theorem stN_mono (g : Gr) {u v : Nat} (h : u ≤ v) : stN g u ≤ stN g v := by
  induction v with
  | zero => obtain rfl : u = 0 := by omega
            exact Nat.le_refl _
  | succ v ih =>
    rcases Nat.lt_or_ge u (v + 1) with h1 | h1
    · have := ih (by omega); rw [stN_succ]; omega
    · obtain rfl : u = v + 1 := by omega
      exact Nat.le_refl _
theorem cntN_le (g : Gr) (v : Nat) {k : Nat} (hk : k ≤ g.ls.length) : cntN g v k ≤ (lvs g (v : Int)).length := by
  unfold cntN lvs
  rw [lvTo_len _ _ _ hk, lvTo_len _ _ _ (Nat.le_refl _), take_length]
  exact Sublist.countP_le (take_sublist _ _)
theorem cntN_all (g : Gr) (v : Nat) : cntN g v g.ls.length = (lvs g (v : Int)).length := rfl
theorem cntN_zero (g : Gr) (v : Nat) : cntN g v 0 = 0 := rfl
theorem cntN_succ {g : Gr} {v k : Nat} {l : Lk} (h : g.ls[k]? = some l) : cntN g v (k + 1) = if l.fr = (v : Int) then cntN g v k + 1 else cntN g v k := by
  unfold cntN
  rw [lvTo_succ h]
  split
  · rw [length_append]; rfl
  · rfl
theorem range_set {f f' : Nat → Int} {n i : Nat} (hi : i < n) (h : ∀ v, v < n → v ≠ i → f' v = f v) : (range n).map f' = ((range n).map f).set i (f' i) := by
  apply ext_getElem?
  intro j
  rw [getElem?_set]
  by_cases hj : i = j
  · subst hj
    rw [if_pos rfl]
    simp [hi]
  · rw [if_neg hj]
    rcases Nat.lt_or_ge j n with h1 | h1
    · simp [h1, h j h1 (fun e => hj e.symm)]
    · simp [h1]
theorem range_at {f : Nat → Int} {n i : Nat} (hi : i < n) : ((range n).map f)[i]? = some (f i) := by simp [hi]
def endsA (g : Gr) (n k : Nat) : List Int := (range n).map (fun v => (cntN g v k : Int))
def endsB (g : Gr) (n k : Nat) : List Int := (range n).map (fun v => if v < k then (stN g v : Int) else ((lvs g (v : Int)).length : Int))
def endsC (g : Gr) (n k : Nat) : List Int := (range n).map (fun v => ((stN g v + cntN g v k : Nat) : Int))
theorem endsA_zero (g : Gr) (n : Nat) : endsA g n 0 = replicate n 0 := by
  unfold endsA
  simp only [cntN_zero]
  apply ext_getElem?
  intro j
  by_cases h : j < n
  · simp [h]
  · simp [h]
theorem endsA_step {g : Gr} {n k f : Nat} {l : Lk} (h : g.ls[k]? = some l) (hf : l.fr = (f : Int)) (hn : f < n) : endsA g n (k + 1) = (endsA g n k).set f ((cntN g f k : Int) + 1) := by
  have e : ((cntN g f k : Int) + 1) = (fun v => (cntN g v (k + 1) : Int)) f := by
    show _ = (cntN g f (k + 1) : Int)
    rw [cntN_succ h, if_pos hf]; omega
  rw [e]
  refine range_set hn fun v _ hv => ?_
  show (cntN g v (k + 1) : Int) = (cntN g v k : Int)
  rw [cntN_succ h, if_neg (by omega)]
theorem endsA_all (g : Gr) (n : Nat) : endsA g n g.ls.length = endsB g n 0 := by
  unfold endsA endsB
  simp only [cntN_all, Nat.not_lt_zero, if_false]
theorem endsB_step (g : Gr) {n k : Nat} (hk : k < n) : endsB g n (k + 1) = (endsB g n k).set k (stN g k) := by
  have e : (stN g k : Int) = (fun v => if v < k + 1 then (stN g v : Int) else ((lvs g (v : Int)).length : Int)) k := by
    show _ = if k < k + 1 then (stN g k : Int) else _
    rw [if_pos (by omega)]
  rw [e]
  refine range_set hk fun v _ hv => ?_
  show (if v < k + 1 then (stN g v : Int) else ((lvs g (v : Int)).length : Int)) = if v < k then (stN g v : Int) else ((lvs g (v : Int)).length : Int)
  by_cases h : v < k
  · rw [if_pos h, if_pos (by omega)]
  · rw [if_neg h, if_neg (by omega)]
theorem endsB_at (g : Gr) {n k : Nat} (hk : k < n) : (endsB g n k)[k]? = some ((lvs g (k : Int)).length : Int) := by
  unfold endsB
  rw [range_at hk, if_neg (by omega)]
theorem endsB_all (g : Gr) (n : Nat) : endsB g n n = endsC g n 0 := by
  unfold endsB endsC
  apply map_congr_left
  intro v hv
  rw [if_pos (mem_range.1 hv), cntN_zero]
  rfl
theorem endsA_at (g : Gr) {n k f : Nat} (hf : f < n) : (endsA g n k)[f]? = some (cntN g f k : Int) := by unfold endsA; rw [range_at hf]
theorem endsC_at (g : Gr) {n k f : Nat} (hf : f < n) : (endsC g n k)[f]? = some ((stN g f + cntN g f k : Nat) : Int) := by unfold endsC; rw [range_at hf]
theorem endsC_end (g : Gr) {n f : Nat} (hf : f < n) : (endsC g n g.ls.length)[f]? = some ((stN g (f + 1) : Nat) : Int) := by rw [endsC_at g hf, cntN_all, stN_succ]
theorem endsC_step {g : Gr} {n k f : Nat} {l : Lk} (h : g.ls[k]? = some l) (hf : l.fr = (f : Int)) (hn : f < n) : endsC g n (k + 1) = (endsC g n k).set f (((stN g f + cntN g f k : Nat) : Int) + 1) := by
  have e : (((stN g f + cntN g f k : Nat) : Int) + 1) = (fun v => ((stN g v + cntN g v (k + 1) : Nat) : Int)) f := by
    show _ = ((stN g f + cntN g f (k + 1) : Nat) : Int)
    rw [cntN_succ h, if_pos hf]; omega
  rw [e]
  refine range_set hn fun v _ hv => ?_
  show ((stN g v + cntN g v (k + 1) : Nat) : Int) = ((stN g v + cntN g v k : Nat) : Int)
  rw [cntN_succ h, if_neg (by omega)]
/-- The list of all, when k links have been put into it. -/
def AllTo (g : Gr) (k : Nat) (al : List Int) : Prop := al.length = g.ls.length ∧ ∀ (v j : Nat) (x : Int), (lvTo g.ls (v : Int) k)[j]? = some x → al[stN g v + j]? = some x
theorem AllTo.zero (g : Gr) : AllTo g 0 (replicate g.ls.length 0) := ⟨by simp, fun v j x h => by simp [lvTo] at h⟩
theorem cntN_lt {g : Gr} {k f : Nat} {l : Lk} (h : g.ls[k]? = some l) (hf : l.fr = (f : Int)) : cntN g f k < (lvs g (f : Int)).length := by
  have h1 := (List.getElem?_eq_some_iff.1 h).1
  have h2 := cntN_le g f (k := k + 1) h1
  rw [cntN_succ h, if_pos hf] at h2
  omega
theorem AllTo.step {g : Gr} {k f : Nat} {al : List Int} {l : Lk} (ha : AllTo g k al) (h : g.ls[k]? = some l) (hf : l.fr = (f : Int)) : AllTo g (k + 1) (al.set (stN g f + cntN g f k) (k : Int)) := by
  obtain ⟨h1, h2⟩ := ha
  have hlt := cntN_lt h hf
  have hkl := (List.getElem?_eq_some_iff.1 h).1
  have hs := stN_le g (f + 1)
  rw [stN_succ] at hs
  refine ⟨by rw [length_set, h1], fun v j x hx => ?_⟩
  rw [getElem?_set]
  by_cases hv : l.fr = (v : Int)
  · obtain rfl : v = f := by omega
    rw [lvTo_succ h, if_pos hf] at hx
    rcases Nat.lt_or_ge j (cntN g v k) with hj | hj
    · rw [getElem?_append_left hj] at hx
      rw [if_neg (by omega)]
      exact h2 v j x hx
    · rw [getElem?_append_right hj] at hx
      have hj2 : j = cntN g v k := by
        have := (List.getElem?_eq_some_iff.1 hx).1
        simp at this
        unfold cntN at hj ⊢
        omega
      subst hj2
      unfold cntN at hx
      simp at hx
      rw [if_pos rfl, if_pos (by omega), hx]
  · rw [lvTo_succ h, if_neg hv] at hx
    have hj := (List.getElem?_eq_some_iff.1 hx).1
    have hj2 : j < (lvs g (v : Int)).length := Nat.lt_of_lt_of_le hj (cntN_le g v (Nat.le_of_lt hkl))
    rw [if_neg]
    · exact h2 v j x hx
    · intro e
      rcases Nat.lt_or_ge v f with h3 | h3
      · have := stN_mono g (u := v + 1) (v := f) h3
        rw [stN_succ] at this
        omega
      · have h4 : f < v := by omega
        have := stN_mono g (u := f + 1) (v := v) h4
        rw [stN_succ] at this
        omega
theorem AllTo.lt {g : Gr} {k f : Nat} {al : List Int} {l : Lk} (ha : AllTo g k al) (h : g.ls[k]? = some l) (hf : l.fr = (f : Int)) : stN g f + cntN g f k < al.length := by
  have hlt := cntN_lt h hf
  have hs := stN_le g (f + 1)
  rw [stN_succ] at hs
  rw [ha.1]
  omega
end Go.Proofs.Ytbikjmafddndpaa

/-
  A region that draws its order, walked as a tree: where two operations that make memory may come up in either order, both are walked.
-/
namespace Go.Proofs.Ytbikjmafddndpaa
open Go Go.RowKit

inductive OTree where
  | done
  | quiet (i : Nat) (t : OTree)
  | only (i : Nat) (t : OTree)
  | fork (i j : Nat) (t u : OTree)
  | fork3 (i j k : Nat) (t u v : OTree)
def OTree.depth : OTree → Nat
  | .done => 0
  | .quiet _ t => t.depth + 1
  | .only _ t => t.depth + 1
  | .fork _ _ t u => max t.depth u.depth + 1
  | .fork3 _ _ _ t u v => max t.depth (max u.depth v.depth) + 1
def goodB (ops : Array Oper) : OTree → Array Bool → Bool
  | .done, listed => (Region.ready .any ops listed).isEmpty
  | .quiet i t, listed => (Region.ready .any ops listed).contains i && Region.free .any ops listed i && goodB ops t (listed.setIfInBounds i true)
  | .only i t, listed => Region.ready .any ops listed == [i] && goodB ops t (listed.setIfInBounds i true)
  | .fork i j t u, listed => Region.ready .any ops listed == [i, j] && goodB ops t (listed.setIfInBounds i true) && goodB ops u (listed.setIfInBounds j true)
  | .fork3 i j k t u v, listed => Region.ready .any ops listed == [i, j, k] && goodB ops t (listed.setIfInBounds i true) && goodB ops u (listed.setIfInBounds j true) && goodB ops v (listed.setIfInBounds k true)
def goodTree (ops : Array Oper) (t : OTree) : Bool := decide (t.depth ≤ ops.size) && goodB ops t (Array.replicate ops.size false)

section
variable {P : Program} {ops : Array Oper} {Q : Exit → Act → World → Prop} {S : World → Prop}
def wpB (P : Program) (ops : Array Oper) (Q : Exit → Act → World → Prop) (S : World → Prop) : OTree → Act → World → Prop
  | .done, a, w => Q .normal a w
  | .quiet i t, a, w => ∃ oi v, ops[i]? = some oi ∧ YieldsIf P ops S oi v a ∧ wpB P ops Q S t (a.put oi.dst v) w
  | .only i t, a, w => wpOp P ops Q i (fun a' w' => S w' ∧ wpB P ops Q S t a' w') a w
  | .fork i j t u, a, w => wpOp P ops Q i (fun a' w' => S w' ∧ wpB P ops Q S t a' w') a w ∧ wpOp P ops Q j (fun a' w' => S w' ∧ wpB P ops Q S u a' w') a w
  | .fork3 i j k t u v, a, w => wpOp P ops Q i (fun a' w' => S w' ∧ wpB P ops Q S t a' w') a w ∧ wpOp P ops Q j (fun a' w' => S w' ∧ wpB P ops Q S u a' w') a w ∧ wpOp P ops Q k (fun a' w' => S w' ∧ wpB P ops Q S v a' w') a w

theorem wpAnyH_of_tree (hs : Region.noSelect ops = true) (hQ : ∀ d v c a w, Q (.panic c) (Act.put a (some d) v) w → Q (.panic c) a w) :
    ∀ (t : OTree) (fuel : Nat) (listed : Array Bool) (a : Act) (w : World), t.depth ≤ fuel → goodB ops t listed = true → S w → wpB P ops Q S t a w →
      wpAnyH P .any ops Q S fuel listed a w := by
  intro t
  induction t with
  | done =>
    intro fuel listed a w _ hg _ h
    exact wpAnyH_done (by simpa [goodB] using hg) h fuel
  | quiet i t ih =>
    intro fuel listed a w hf hg hS h
    obtain ⟨fuel, rfl⟩ : ∃ f, fuel = f + 1 := ⟨fuel - 1, by simp [OTree.depth] at hf; omega⟩
    have hf' : t.depth ≤ fuel := by simp [OTree.depth] at hf; omega
    simp only [goodB, Bool.and_eq_true] at hg
    obtain ⟨oi, v, hi, hy, h'⟩ := h
    exact wpAnyH_take hi hs hg.1.2 hg.1.1 (fun c a w hh => by
      cases hd : oi.dst with
      | none => rw [hd] at hh; exact hh
      | some d => rw [hd] at hh; exact hQ d v c a w hh) hy hS (ih fuel _ _ w hf' hg.2 hS h')
  | only i t ih =>
    intro fuel listed a w hf hg hS h
    obtain ⟨fuel, rfl⟩ : ∃ f, fuel = f + 1 := ⟨fuel - 1, by simp [OTree.depth] at hf; omega⟩
    have hf' : t.depth ≤ fuel := by simp [OTree.depth] at hf; omega
    simp only [goodB, Bool.and_eq_true, beq_iff_eq] at hg
    refine wpAnyH_all hg.1 (by simp) fun j hj => ?_
    obtain rfl : j = i := by simpa using hj
    exact wpOp_mono (fun a' w' h' => ⟨h'.1, ih fuel _ a' w' hf' hg.2 h'.1 h'.2⟩) h
  | fork i j t u iht ihu =>
    intro fuel listed a w hf hg hS h
    obtain ⟨fuel, rfl⟩ : ∃ f, fuel = f + 1 := ⟨fuel - 1, by simp [OTree.depth] at hf; omega⟩
    have hf1 : t.depth ≤ fuel := by simp [OTree.depth] at hf; omega
    have hf2 : u.depth ≤ fuel := by simp [OTree.depth] at hf; omega
    simp only [goodB, Bool.and_eq_true, beq_iff_eq] at hg
    refine wpAnyH_all hg.1.1 (by simp) fun k hk => ?_
    have hk' : k = i ∨ k = j := by simpa using hk
    rcases hk' with rfl | rfl
    · exact wpOp_mono (fun a' w' h' => ⟨h'.1, iht fuel _ a' w' hf1 hg.1.2 h'.1 h'.2⟩) h.1
    · exact wpOp_mono (fun a' w' h' => ⟨h'.1, ihu fuel _ a' w' hf2 hg.2 h'.1 h'.2⟩) h.2
  | fork3 i j k t u v iht ihu ihv =>
    intro fuel listed a w hf hg hS h
    obtain ⟨fuel, rfl⟩ : ∃ f, fuel = f + 1 := ⟨fuel - 1, by simp [OTree.depth] at hf; omega⟩
    have hf1 : t.depth ≤ fuel := by simp [OTree.depth] at hf; omega
    have hf2 : u.depth ≤ fuel := by simp [OTree.depth] at hf; omega
    have hf3 : v.depth ≤ fuel := by simp [OTree.depth] at hf; omega
    simp only [goodB, Bool.and_eq_true, beq_iff_eq] at hg
    refine wpAnyH_all hg.1.1.1 (by simp) fun n hn => ?_
    have hn' : n = i ∨ n = j ∨ n = k := by simpa using hn
    rcases hn' with rfl | rfl | rfl
    · exact wpOp_mono (fun a' w' h' => ⟨h'.1, iht fuel _ a' w' hf1 hg.1.1.2 h'.1 h'.2⟩) h.1
    · exact wpOp_mono (fun a' w' h' => ⟨h'.1, ihu fuel _ a' w' hf2 hg.1.2 h'.1 h'.2⟩) h.2.1
    · exact wpOp_mono (fun a' w' h' => ⟨h'.1, ihv fuel _ a' w' hf3 hg.2 h'.1 h'.2⟩) h.2.2

theorem ordB_below {id : Nat} {a : Act} {w : World} (t : OTree) (hm : P.follows .mixedOrders = true) (hs : Region.noSelect ops = true) (hg : goodTree ops t = true)
    (hQ : ∀ d v c a w, Q (.panic c) (Act.put a (some d) v) w → Q (.panic c) a w) (h : ∀ W, Below w.heap.size w W → wpB P ops Q (Below w.heap.size w) t a W) : (Code.region id ops true).wp P Q a w := by
  unfold goodTree at hg
  simp only [Bool.and_eq_true, decide_eq_true_eq] at hg
  have hS : Below w.heap.size w w.drew := (Below.refl _ _).drew
  exact wp_region_held_drew hm hS fun hS => wpAnyH_of_tree hs hQ t _ _ a _ hg.1 hg.2 hS (h _ hS)

theorem ordB_nil {a : Act} {w : World} (h : Q .normal a w) : wpB P ops Q S .done a w := h
theorem ordB_skip {i : Nat} {o : Oper} {t : OTree} {a : Act} {w : World} (ho' : nthO ops.toList i = some o) (hw : Region.wanted o (yielded ops a.tmps) = false)
    (h : wpB P ops Q S t (a.put o.dst undef) w) : wpB P ops Q S (.quiet i t) a w := ⟨o, undef, nthO_spec ho', .inr ⟨hw, rfl⟩, h⟩
theorem ordB_take {i : Nat} {o : Oper} {v : Value} {t : OTree} {a : Act} {w : World} (ho' : nthO ops.toList i = some o) (hw : Region.wanted o (yielded ops a.tmps) = true)
    (hy : ∀ W, S W → (execOp a.eval o).run P W = .ok (.value v) W)
    (h : wpB P ops Q S t (a.put o.dst v) w) : wpB P ops Q S (.quiet i t) a w := ⟨o, v, nthO_spec ho', .inl ⟨hw, hy⟩, h⟩
theorem opB_call {i : Nat} {o : Oper} {t : OTree} {a : Act} {w : World} (ho' : nthO ops.toList i = some o) (hw : Region.wanted o (yielded ops a.tmps) = true)
    (h : ∀ K' : Act → World → Prop, Shut (∀ a w, S w → (S w → wpB P ops Q S t a w) → K' a w) → Oper.wp P o a w K' Q) : wpOp P ops Q i (fun a' w' => S w' ∧ wpB P ops Q S t a' w') a w := by
  have ho := nthO_spec ho'
  refine wpOp_step ho fun K' hK => ?_
  rw [if_pos hw]
  exact h K' fun a w hS hW => hK a w ⟨hS, hW hS⟩
theorem opB_cskip {i : Nat} {o : Oper} {t : OTree} {a : Act} {w : World} (ho' : nthO ops.toList i = some o) (hw : Region.wanted o (yielded ops a.tmps) = false) (hS : S w)
    (h : wpB P ops Q S t (a.put o.dst undef) w) : wpOp P ops Q i (fun a' w' => S w' ∧ wpB P ops Q S t a' w') a w := by
  have ho := nthO_spec ho'
  unfold wpOp
  rw [ho]
  show if Region.wanted o (yielded ops a.tmps) = true then _ else _
  rw [if_neg (by rw [hw]; decide)]
  exact ⟨hS, h⟩
theorem ordB_only {i : Nat} {t : OTree} {a : Act} {w : World} (h : wpOp P ops Q i (fun a' w' => S w' ∧ wpB P ops Q S t a' w') a w) : wpB P ops Q S (.only i t) a w := h
theorem ordB_fork {i j : Nat} {t u : OTree} {a : Act} {w : World} (h1 : wpOp P ops Q i (fun a' w' => S w' ∧ wpB P ops Q S t a' w') a w) (h2 : wpOp P ops Q j (fun a' w' => S w' ∧ wpB P ops Q S u a' w') a w) : wpB P ops Q S (.fork i j t u) a w := ⟨h1, h2⟩
theorem ordB_fork3 {i j k : Nat} {t u v : OTree} {a : Act} {w : World} (h1 : wpOp P ops Q i (fun a' w' => S w' ∧ wpB P ops Q S t a' w') a w) (h2 : wpOp P ops Q j (fun a' w' => S w' ∧ wpB P ops Q S u a' w') a w) (h3 : wpOp P ops Q k (fun a' w' => S w' ∧ wpB P ops Q S v a' w') a w) : wpB P ops Q S (.fork3 i j k t u v) a w := ⟨h1, h2, h3⟩
end
end Go.Proofs.Ytbikjmafddndpaa

/-
  A region that draws its order, walked as a tree, under any condition on the world that holds throughout; all blocks but one as they were.
-/
namespace Go.Proofs.Ytbikjmafddndpaa
open Go Go.RowKit

theorem ordB_start {P : Program} {ops : Array Oper} {Q : Exit → Act → World → Prop} {id : Nat} {a : Act} {w : World} (S : World → Prop) (t : OTree) (hm : P.follows .mixedOrders = true) (hs : Region.noSelect ops = true) (hg : goodTree ops t = true)
    (hQ : ∀ d v c a w, Q (.panic c) (Act.put a (some d) v) w → Q (.panic c) a w) (hS : S w.drew) (h : wpB P ops Q S t a w.drew) : (Code.region id ops true).wp P Q a w := by
  unfold goodTree at hg
  simp only [Bool.and_eq_true, decide_eq_true_eq] at hg
  exact wp_region_held_drew hm hS fun hS => wpAnyH_of_tree hs hQ t _ _ a _ hg.1 hg.2 hS h
/-- All old blocks but g are as they were. -/
structure ButB (g : Nat) (w w' : World) : Prop where
  size : w.heap.size ≤ w'.heap.size
  block : ∀ b, b < w.heap.size → b ≠ g → w'.heap[b]? = w.heap[b]?
section
variable {g : Nat} {w w' w2 : World}
theorem ButB.refl (g : Nat) (w : World) : ButB g w w := ⟨Nat.le_refl _, fun _ _ _ => rfl⟩
theorem ButB.of_below (h : Below w.heap.size w w') : ButB g w w' := ⟨h.size, fun b hb _ => h.block b hb⟩
theorem ButB.trans (h : ButB g w w') (h2 : ButB g w' w2) : ButB g w w2 := ⟨Nat.le_trans h.size h2.size, fun b hb hn => (h2.block b (Nat.lt_of_lt_of_le hb h.size) hn).trans (h.block b hb hn)⟩
theorem ButB.set_ (h : ButB g w w') (o : Nat) (v : Value) : ButB g w (w'.setCell ⟨g, o, none⟩ v) := ⟨by simpa using h.size, fun b hb hn => (Below.heap_setCell w' ⟨g, o, none⟩ v b hn).trans (h.block b hb hn)⟩
theorem ButB.cell (h : ButB g w w') : ∀ b o, b < w.heap.size → b ≠ g → w'.cell? ⟨b, o, none⟩ = w.cell? ⟨b, o, none⟩ := fun b _ hb hn => World.cell?_of_block (h.block b hb hn)
theorem ButB.blk {b : Nat} {t : TypeId} {cs : Array Value} (h : ButB g w w') (hb : Blk w b t cs) (hn : b ≠ g) : Blk w' b t cs := (h.block b hb.lt hn).trans hb
end
end Go.Proofs.Ytbikjmafddndpaa

/-
  The plain law of layer 16: bounds of potentials; the row in which they are reckoned.
-/
namespace Go.Proofs.Ytbikjmafddndpaa
open List

theorem potS_succ (g : Gr) {k : Nat} (hk : 1 ≤ k) : potS g (k + 1) = (lvs g (g.n - (k + 1))).foldl (potStep g (g.n - (k + 1)) (potS g k)) (-1) :: potS g k := by
  obtain ⟨j, rfl⟩ : ∃ j, k = j + 1 := ⟨k - 1, by omega⟩
  show (lvs g (g.n - ((j : Int) + 2))).foldl (potStep g (g.n - ((j : Int) + 2)) (potS g (j + 1))) (-1) :: potS g (j + 1) = _
  have e : g.n - ((j : Int) + 2) = g.n - (((j + 1 : Nat) : Int) + 1) := by omega
  rw [e]
theorem getD_bd {l : List Int} {B : Int} (h : ∀ x ∈ l, -1 ≤ x ∧ x ≤ B) (hB : 0 ≤ B) (i : Nat) : -1 ≤ l.getD i 0 ∧ l.getD i 0 ≤ B := by
  rw [getD_eq_getElem?_getD]
  cases hi : l[i]? with
  | none => simp; omega
  | some x => exact h x (mem_of_getElem? hi)
theorem step_bd {g : Gr} (hg : GrOK g) {v B : Int} {tail : List Int} (ht : ∀ x ∈ tail, -1 ≤ x ∧ x ≤ B) (hB : 0 ≤ B) {L : List Int} (hL : ∀ i ∈ L, 0 ≤ i ∧ i < g.ls.length) : ∀ a : Int, -1 ≤ a ∧ a ≤ B + 1000000 → -1 ≤ L.foldl (potStep g v tail) a ∧ L.foldl (potStep g v tail) a ≤ B + 1000000 := by
  induction L with
  | nil => intro a h; exact h
  | cons i L ih =>
    intro a h
    rw [foldl_cons]
    refine ih (fun j hj => hL j (by simp [hj])) _ ?_
    have hok := lkAt_ok hg (hL i (by simp))
    have hc := hok.cost
    have hb := getD_bd ht hB ((lkAt g i).to - v - 1).toNat
    unfold potStep
    dsimp only
    split <;> omega
theorem potS_bd {g : Gr} (hg : GrOK g) : ∀ k : Nat, ∀ x ∈ potS g k, -1 ≤ x ∧ x ≤ 1000000 * (k : Int)
  | 0 => by simp [potS]
  | 1 => by simp [potS]
  | k + 2 => by
    intro x hx
    have ih := potS_bd hg (k + 1)
    rw [potS_succ g (k := k + 1) (by omega)] at hx
    rcases mem_cons.1 hx with rfl | hx
    · have := step_bd hg (v := g.n - (((k + 1 : Nat) : Int) + 1)) (tail := potS g (k + 1)) (B := 1000000 * ((k + 1 : Nat) : Int)) ih (by omega) (L := lvs g (g.n - (((k + 1 : Nat) : Int) + 1))) (fun i hi => by have := lvs_iff.1 hi; omega) (-1) (by omega)
      omega
    · have := ih x hx
      omega
theorem lvTo_ok {g : Gr} {v : Int} {k : Nat} (hk : k ≤ g.ls.length) : ∀ i ∈ lvTo g.ls v k, 0 ≤ i ∧ i < g.ls.length := fun i hi => by
  obtain ⟨j, hj, rfl, _⟩ := (lvTo_mem k hk i).1 hi
  omega
/-- The row of potentials while they are reckoned: m nodes still to come, one at hand, the others done. -/
def potRow (m : Nat) (acc : Int) (tail : List Int) : List Int := replicate m 0 ++ acc :: tail
theorem potRow_at (m : Nat) (acc : Int) (tail : List Int) : (potRow m acc tail)[m]? = some acc := by
  unfold potRow
  rw [getElem?_append_right (by simp)]
  simp
theorem potRow_tail {m : Nat} {acc : Int} {tail : List Int} {j : Nat} (h : m < j) (hj : j < m + 1 + tail.length) : (potRow m acc tail)[j]? = some (tail.getD (j - m - 1) 0) := by
  unfold potRow
  rw [getElem?_append_right (by simp; omega)]
  simp only [length_replicate]
  obtain ⟨i, hi⟩ : ∃ i, j - m = i + 1 := ⟨j - m - 1, by omega⟩
  rw [hi, getElem?_cons_succ, Nat.add_sub_cancel, getD_eq_getElem?_getD, getElem?_eq_getElem (by omega)]
  rfl
theorem potRow_set (m : Nat) (acc x : Int) (tail : List Int) : (potRow m acc tail).set m x = potRow m x tail := by
  unfold potRow
  rw [set_append_right _ _ (by simp)]
  simp
theorem potRow_start (m : Nat) (tail : List Int) : replicate (m + 1) 0 ++ tail = potRow m 0 tail := by
  unfold potRow
  rw [replicate_succ', append_assoc]
  rfl
/-- One more link of the reference's loop. -/
theorem acc_snoc {g : Gr} {v : Int} {tail : List Int} {j : Nat} {l : Lk} (h : g.ls[j]? = some l) :
    (lvTo g.ls v (j + 1)).foldl (potStep g v tail) (-1) = if l.fr = v then potStep g v tail ((lvTo g.ls v j).foldl (potStep g v tail) (-1)) (j : Int) else (lvTo g.ls v j).foldl (potStep g v tail) (-1) := by
  rw [lvTo_succ h]
  split
  · rw [foldl_append]; rfl
  · rfl
theorem lkAt_nat {g : Gr} {j : Nat} {l : Lk} (h : g.ls[j]? = some l) : lkAt g (j : Int) = l := by
  unfold lkAt
  rw [Int.toNat_natCast, getD_eq_getElem?_getD, h]
  rfl
end Go.Proofs.Ytbikjmafddndpaa

/-
  A region that draws its order and holds chains that may come up in any order beside each other: one condition for each state of the chains, one proof for each operation.
-/
namespace Go.Proofs.Ytbikjmafddndpaa
open Go Go.RowKit

/-- All blocks but g are as they were. -/
def Far (g : Nat) (w w' : World) : Prop := ∀ b, b ≠ g → w'.heap[b]? = w.heap[b]?
theorem Far.cell {g : Nat} {w w' : World} (h : Far g w w') : ∀ b o, b ≠ g → w'.cell? ⟨b, o, none⟩ = w.cell? ⟨b, o, none⟩ := fun b _ hb => World.cell?_of_block (h b hb)
theorem Far.set {g : Nat} {w w' : World} (h : Far g w w') (o : Nat) (v : Value) : Far g w (w'.setCell ⟨g, o, none⟩ v) := fun b hb => (Below.heap_setCell w' ⟨g, o, none⟩ v b hb).trans (h b hb)
/-- What some slots of a frame of N slots hold. -/
def Slots (N : Nat) (a : Act) (l : List (Nat × Value)) : Prop := a.tmps.size = N ∧ a.defers = [] ∧ ∀ kv ∈ l, a.tmps.getD kv.1 undef = kv.2
section
variable {N : Nat} {a : Act} {l : List (Nat × Value)}
theorem Slots.at_ (h : Slots N a l) {k : Nat} {v : Value} (hm : (k, v) ∈ l) : a.tmps.getD k undef = v := h.2.2 (k, v) hm
theorem Slots.put (h : Slots N a l) (d : Nat) (v : Value) (hd : ∀ kv ∈ l, kv.1 ≠ d) : Slots N (a.put (some d) v) l := by
  obtain ⟨h1, h2, h3⟩ := h
  refine ⟨by simp [Act.put, h1], h2, fun kv hkv => ?_⟩
  have := h3 kv hkv
  have hne := hd kv hkv
  simp only [Act.put, Array.getD_eq_getD_getElem?] at this ⊢
  rw [Array.getElem?_setIfInBounds_ne (Ne.symm hne)]
  exact this
theorem Slots.add (h : Slots N a l) (d : Nat) (v : Value) (hd : d < N) (hn : ∀ kv ∈ l, kv.1 ≠ d) : Slots N (a.put (some d) v) ((d, v) :: l) := by
  obtain ⟨h1, h2, h3⟩ := h.put d v hn
  refine ⟨h1, h2, fun kv hkv => ?_⟩
  rcases List.mem_cons.1 hkv with rfl | hkv
  · simp [Act.put, h.1, hd]
  · exact h3 kv hkv
theorem put_self {N : Nat} {a : Act} {l : List (Nat × Value)} (h : Slots N a l) (d : Nat) (v : Value) (hd : d < N) : (a.put (some d) v).tmps.getD d undef = v := by
  simp [Act.put, h.1, hd]
theorem put_other {a : Act} {d k : Nat} {v : Value} (h : k ≠ d) : (a.put (some d) v).tmps.getD k undef = a.tmps.getD k undef := by
  simp only [Act.put, Array.getD_eq_getD_getElem?]
  rw [Array.getElem?_setIfInBounds_ne (Ne.symm h)]
end
theorem slr_cells_ {α : Type} {s : Nat} {R : World → α → List Value → Prop} {enc : α → List Value} {w : World} {a : Addr} {xs : List α} (h : SlR s R w (some a) xs) (_hs : 0 < s) (hR : ∀ w x vs, R w x vs → vs = enc x) :
    ∀ j u, (xs.flatMap enc)[j]? = some u → w.cell? (a.add j) = some u := by
  by_cases hn : xs = []
  · subst hn; intro j u hj; simp at hj
  · obtain ⟨b, off, ha, _, hc⟩ := h hn
    injection ha with ha
    subst ha
    have key : ∀ (l : List α) (o : Nat), (∀ k x, l[k]? = some x → (enc x).length = s ∧ ∀ j v, (enc x)[j]? = some v → w.cell? ⟨b, o + k * s + j, none⟩ = some v) → ∀ j u, (l.flatMap enc)[j]? = some u → w.cell? ⟨b, o + j, none⟩ = some u := by
      intro l
      induction l with
      | nil => intro o _ j u hj; simp at hj
      | cons x l ih =>
        intro o hl j u hj
        obtain ⟨h0, h1⟩ := hl 0 x rfl
        rw [List.flatMap_cons] at hj
        rcases Nat.lt_or_ge j (enc x).length with hlt | hge
        · rw [List.getElem?_append_left hlt] at hj
          have := h1 j u hj
          simpa using this
        · rw [List.getElem?_append_right hge] at hj
          have := ih (o + s) (fun k y hy => by
            obtain ⟨h2, h3⟩ := hl (k + 1) y (by simpa using hy)
            refine ⟨h2, fun j v hv => ?_⟩
            have := h3 j v hv
            rwa [show o + (k + 1) * s + j = o + s + k * s + j by rw [Nat.add_mul]; omega] at this) (j - (enc x).length) u hj
          rwa [show o + s + (j - (enc x).length) = o + j by omega] at this
    intro j u hj
    rw [add_mk]
    refine key xs off (fun k x hx => ?_) j u hj
    obtain ⟨vs, hr, hl, hv⟩ := hc k x hx
    have := hR _ _ _ hr
    subst this
    exact ⟨hl, hv⟩

theorem flatMap_len_ {α β : Type} {s : Nat} {enc : α → List β} (h : ∀ x, (enc x).length = s) (xs : List α) : (xs.flatMap enc).length = xs.length * s := by
  induction xs with
  | nil => simp
  | cons x l ih => rw [List.flatMap_cons, List.length_append, h, ih, List.length_cons, Nat.add_mul]; omega
section
variable {P : Program} {ops : Array Oper} {Q : Exit → Act → World → Prop} {S : World → Prop} {ts : List Nat}
/-- One operation that only reads is taken first. -/
theorem takeT {i : Nat} {o : Oper} {v : Value} {fuel : Nat} {listed : Array Bool} {a : Act} {w : World} (ho' : nthO ops.toList i = some o) (hs : Region.noSelect ops = true)
    (hg : ((Region.ready .any ops listed).contains i && Region.free .any ops listed i && ts.all (fun t => waitsFor ops t i)) = true)
    (hQ : ∀ d v c a w, Q (.panic c) (Act.put a (some d) v) w → Q (.panic c) a w) (hw : Region.wanted o (yielded ops a.tmps) = true) (hS : S w)
    (hy : ∀ W, S W → (execOp a.eval o).run P W = .ok (.value v) W)
    (h : wpAnyT P ops Q S ts fuel (listed.setIfInBounds i true) (a.put o.dst v) w) : wpAnyT P ops Q S ts (fuel + 1) listed a w := by
  simp only [Bool.and_eq_true, List.all_eq_true] at hg
  have hi := nthO_spec ho'
  refine wpAnyT_first hi (Region.noSelect_spec hs) (fun c a w hh => ?_) hg.2 fuel listed a w (Region.free_spec hi hg.1.2) (by simpa using hg.1.1) (.inl ⟨hw, hy⟩) hS h
  cases hd : o.dst with
  | none => rw [hd] at hh; exact hh
  | some d => rw [hd] at hh; exact hQ d v c a w hh
/-- The region begins. -/
theorem startT {id : Nat} {a : Act} {w : World} (hm : P.follows .mixedOrders = true) (h : wpAnyT P ops Q S ts ops.size (Array.replicate ops.size false) a w.drew) : (Code.region id ops true).wp P Q a w :=
  wp_region_any hm (wpAny_of_T _ _ _ _ h)
/-- What may be taken at once: it only reads. -/
def QuietT (P : Program) (ops : Array Oper) (ts : List Nat) (S : World → Prop) (listed : Array Bool) (i : Nat) (o : Oper) (v : Value) (a : Act) : Prop :=
  nthO ops.toList i = some o ∧ ((Region.ready .any ops listed).contains i && Region.free .any ops listed i && ts.all (fun t => waitsFor ops t i)) = true ∧ Region.wanted o (yielded ops a.tmps) = true ∧ ∀ W, S W → (execOp a.eval o).run P W = .ok (.value v) W
/-- Chains. -/
theorem chainsT {σ : Type} (next : σ → List (Nat × σ)) (L : σ → Array Bool) (rank : σ → Nat) (F : σ → Act → World → Prop) (fin : σ) (fe : Nat) (hs : Region.noSelect ops = true)
    (hQ : ∀ d v c a w, Q (.panic c) (Act.put a (some d) v) w → Q (.panic c) a w)
    (htab : ∀ s a w, F s a w → S w → s = fin ∨ (next s ≠ [] ∧ Region.ready .any ops (L s) = (next s).map (·.1) ∧ ∀ p ∈ next s, (L s).setIfInBounds p.1 true = L p.2 ∧ rank p.2 + 1 = rank s ∧ ts.contains p.1 = false) ∨
      (∃ i o v s', QuietT P ops ts S (L s) i o v a ∧ F s' (a.put o.dst v) w ∧ (L s).setIfInBounds i true = L s' ∧ rank s' + 1 = rank s))
    (hstep : ∀ s p a w, p ∈ next s → F s a w → S w → wpOp P ops Q p.1 (fun a' w' => S w' ∧ F p.2 a' w') a w)
    (hrank : rank fin = 0) (hfin : ∀ a w, F fin a w → S w → wpAnyT P ops Q S ts fe (L fin) a w) :
    ∀ (n : Nat) (s : σ) (a : Act) (w : World), rank s = n → F s a w → S w → wpAnyT P ops Q S ts (n + fe) (L s) a w := by
  intro n
  induction n with
  | zero =>
    intro s a w hr hF hS
    rcases htab s a w hF hS with rfl | ⟨hne, _, hp⟩ | ⟨i, o, v, s', _, _, _, h⟩
    · rw [Nat.zero_add]; exact hfin a w hF hS
    · obtain ⟨p, hp'⟩ : ∃ p, p ∈ next s := List.exists_mem_of_ne_nil _ hne
      have := (hp p hp').2.1
      omega
    · omega
  | succ n ih =>
    intro s a w hr hF hS
    rcases htab s a w hF hS with rfl | ⟨hne, hready, hp⟩ | ⟨i, o, v, s', ⟨h1, h2, h3, h4⟩, h5, h6, h7⟩
    · omega
    · rw [show n + 1 + fe = (n + fe) + 1 by omega]
      refine ⟨fun h0 => ?_, fun i hi => ?_⟩
      · rw [hready] at h0
        exact absurd (List.map_eq_nil_iff.1 h0) hne
      · rw [hready] at hi
        obtain ⟨p, hpn, rfl⟩ := List.mem_map.1 hi
        obtain ⟨h1, h2, h3⟩ := hp p hpn
        refine wpOp_mono (fun a' w' hh => ⟨fun _ => hh.1, ?_⟩) (hstep s p a w hpn hF hS)
        rw [h1]
        exact ih p.2 a' w' (by omega) hh.2 hh.1
    · rw [show n + 1 + fe = (n + fe) + 1 by omega]
      refine takeT h1 hs h2 hQ h3 hS h4 ?_
      rw [h6]
      exact ih s' _ w (by omega) h5 hS
/-- An operation of the region, by itself. -/
theorem op_of {i : Nat} {o : Oper} {K : Act → World → Prop} {a : Act} {w : World} (ho' : nthO ops.toList i = some o) (hg : o.guard = none) (h : ∀ K' : Act → World → Prop, Shut (∀ a w, K a w → K' a w) → Oper.wp P o a w K' Q) : wpOp P ops Q i K a w := by
  have ho := nthO_spec ho'
  refine wpOp_step ho fun K' hK => ?_
  rw [if_pos (by simp [Region.wanted, hg])]
  exact h K' hK
theorem run_append_of_nil (w : World) (base : Nat) (t ty e : TypeId) (i : TypeInfo) (size : Nat) (ht : P.underlying t = some (.slice e)) (hi : P.info? e = some i)
    (v : Value) (n : Nat) (xs : List Value) (hown : w.ownsRow base e size v n xs) (c : Nat) : (Builtin.append_ #[t, t] ty #[v, .slice none 0 c]).run P w = .ok v w := by
  rcases hown.2 with ⟨rfl, rfl⟩ | ⟨g, cap, cur, rfl, _, _, hnc, _⟩
  · simp [Builtin.append_, run_underlying ht, sizeOf, typeInfo, hi, Builtin.lenOf, Builtin.firstCells]
  · simp [Builtin.append_, run_underlying ht, sizeOf, typeInfo, hi, Builtin.lenOf, Builtin.firstCells, hnc, storeCells]
/-- 'append(out, xs...)' onto a row of the call's own, xs in any memory. -/
theorem wp_appS {α : Type} {enc : α → List Value} {R : World → α → List Value → Prop} {o : Oper} {a : Act} {K : Act → World → Prop} {w : World} (s x : Operand) (t : TypeId)
    (ho : o.op = .call { callee := .builtin .append, args := #[s, x], argTypes := #[t, t] })
    (base : Nat) (e : TypeId) (i : TypeInfo) (z : Value) (size bytes : Nat) (ht : P.underlying t = some (.slice e)) (hi : P.info? e = some i) (hz : i.zero = some z)
    (hsize : i.size = size) (hby : i.bytes = bytes) (hzs : z.cells.size = size) (hsz : 0 < size)
    (v : Value) (n : Nat) (xs : List Value) (hs : a.eval s = v) (hown : w.ownsRow base e size v n xs)
    (A : Option Addr) (c : Nat) (ys : List α) (hx : a.eval x = .slice A ys.length c) (hr : SlR size R w A ys) (hR : ∀ w x vs, R w x vs → vs = enc x) (hl : ∀ x, (enc x).length = size) (h1 : ∀ u ∈ ys.flatMap enc, u.oneCell' = true)
    (hn : n + ys.length ≤ 1000000) (hbb : bytes ≤ 1000) (hbase : base ≤ w.heap.size)
    (h : ∀ v' w', w'.ownsRow base e size v' (n + ys.length) (xs ++ ys.flatMap enc) → Below base w w' → Apps w w' v v' → K (a.put o.dst v') w') : o.wp P a w K Q := by
  have hb1 : (n + ys.length) * bytes ≤ 1000000 * 1000 := Nat.mul_le_mul hn hbb
  have key : ∃ v' w', (Builtin.append_ #[t, t] o.type #[v, .slice A ys.length c]).run P w = .ok v' w' ∧ w'.ownsRow base e size v' (n + ys.length) (xs ++ ys.flatMap enc) ∧ w.grownBy w' v.ownBlock ∧ (v'.ownBlock = v.ownBlock ∨ v'.ownBlock = some w.heap.size) := by
    rcases A with _ | ad
    · have hy : ys = [] := Classical.byContradiction fun hne => by obtain ⟨_, _, h, _⟩ := hr hne; cases h
      subst hy
      exact ⟨v, w, run_append_of_nil w base t o.type e i size ht hi v n xs hown c, by simpa using hown, World.grownBy.refl w _, .inl rfl⟩
    · obtain ⟨v', w', hrun, h2, h3, _, h5⟩ := run_append_own_at (P := P) w base t o.type e i z size bytes ht hi hz hsize hby hzs hsz v n xs hown ad ys.length c (ys.flatMap enc) (flatMap_len_ hl ys) (slr_cells_ hr hsz hR) h1 (by unfold maxLen; omega) (by omega) hbase
      exact ⟨v', w', hrun, h2, h3, h5⟩
  obtain ⟨v', w', hrun, h2, h3, h5⟩ := key
  unfold Oper.wp execOp
  simp only [ho, resolve, invoke, builtin, Sem.run_bind, Sem.run_pure, Result.andThen_ok, List.map_toArray, List.map_cons, List.map_nil, hs, hx, hrun]
  refine h v' w' h2 ((Below.refl _ _).grown h3 hbase (own_block_le hown)) ⟨fun k hk hne => h3.block k hk (fun e => hne e.symm), ?_⟩
  rcases h5 with h5 | h5
  · exact .inl h5
  · exact .inr ⟨_, h5, Nat.le_refl _⟩
end
end Go.Proofs.Ytbikjmafddndpaa

/-
  The plain law of layer 15: the links of a node in the order of the first ways that they begin; the first way from a node.
-/
namespace Go.Proofs.Ytbikjmafddndpaa
open List

def viaLe (g : Gr) (i j : Int) : Bool := decide (viaOf g i < viaOf g j) || (decide (viaOf g i = viaOf g j) && decide (i ≤ j))
theorem viaLe_iff {g : Gr} {i j : Int} : viaLe g i j = true ↔ viaOf g i < viaOf g j ∨ (viaOf g i = viaOf g j ∧ i ≤ j) := by unfold viaLe; simp
def onL (g : Gr) (v : Int) : List Int := (lvs g v).filter (fun i => decide (0 ≤ hAt g (lkAt g i).to))
def frL (g : Gr) (v : Int) : List Int := (onL g v).mergeSort (viaLe g)
theorem frL_perm (g : Gr) (v : Int) : frL g v ~ onL g v := mergeSort_perm _ _
theorem viaLe_anti {g : Gr} {a b : Int} (h1 : viaLe g a b = true) (h2 : viaLe g b a = true) : a = b := by rw [viaLe_iff] at *; omega
theorem frL_sorted (g : Gr) (v : Int) : (frL g v).Pairwise (fun a b => viaLe g a b = true) :=
  pairwise_mergeSort (le := viaLe g) (fun a b c h1 h2 => by rw [viaLe_iff] at *; omega) (fun a b => by
    rcases Int.lt_or_le (viaOf g a) (viaOf g b) with h | h
    · rw [viaLe_iff.2 (.inl h)]; rfl
    · rcases Int.lt_or_le (viaOf g b) (viaOf g a) with h2 | h2
      · rw [viaLe_iff.2 (.inl h2)]; simp
      · rcases Int.le_total a b with h3 | h3
        · rw [viaLe_iff.2 (.inr ⟨by omega, h3⟩)]; rfl
        · rw [viaLe_iff.2 (.inr ⟨by omega, h3⟩)]; simp) _
theorem frL_unique {g : Gr} {v : Int} {l : List Int} (hp : l ~ onL g v) (hs : l.Pairwise (fun a b => viaLe g b a = true → a = b)) : l = frL g v :=
  (hp.trans (frL_perm g v).symm).eq_of_pairwise (le := fun a b => viaLe g b a = true → a = b) (fun a b _ _ h1 h2 => by
    rcases Int.lt_or_le (viaOf g a) (viaOf g b) with h | h
    · exact (h2 (viaLe_iff.2 (.inl h))).symm
    · rcases Int.lt_or_le (viaOf g b) (viaOf g a) with h3 | h3
      · exact h1 (viaLe_iff.2 (.inl h3))
      · rcases Int.le_total a b with h4 | h4
        · exact (h2 (viaLe_iff.2 (.inr ⟨by omega, h4⟩))).symm
        · exact h1 (viaLe_iff.2 (.inr ⟨by omega, h4⟩))) hs ((frL_sorted g v).imp fun {a b} h h' => viaLe_anti h h')
theorem frL_mem {g : Gr} {v i : Int} : i ∈ frL g v ↔ i ∈ lvs g v ∧ 0 ≤ hAt g (lkAt g i).to := by
  rw [(frL_perm g v).mem_iff]; unfold onL; rw [mem_filter]; simp
theorem frL_len {g : Gr} {v : Int} : (frL g v).length ≤ (lvs g v).length := by
  rw [(frL_perm g v).length_eq]; exact length_filter_le _ _
theorem frL_nodup {g : Gr} {v : Int} : (frL g v).Nodup := (frL_perm g v).nodup_iff.2 (((lvs_inc g v).imp fun h => by omega : (lvs g v).Nodup).filter _)
theorem frL_strict (g : Gr) (v : Int) : (frL g v).Pairwise (fun a b => viaOf g a < viaOf g b ∨ (viaOf g a = viaOf g b ∧ a < b)) :=
  ((frL_sorted g v).and frL_nodup).imp fun {a b} h => by have h1 := viaLe_iff.1 h.1; have h2 := h.2; omega
theorem frL_last {g : Gr} (hg : GrOK g) : frL g (g.n - 1) = [] := by
  rw [eq_nil_iff_forall_not_mem]
  intro i hi
  have := (frL_mem.1 hi).1
  rw [lvs_last hg] at this
  cases this
theorem frL_via {g : Gr} {v i : Int} (h : i ∈ frL g v) : viaOf g i = (lkAt g i).cost + hAt g (lkAt g i).to := by
  unfold viaOf; rw [if_pos (frL_mem.1 h).2]
theorem frL_link {g : Gr} (hg : GrOK g) {v i : Int} (h : i ∈ frL g v) : 0 ≤ i ∧ i < g.ls.length ∧ (lkAt g i).fr = v ∧ v < (lkAt g i).to ∧ (lkAt g i).to < g.n ∧ 0 ≤ (lkAt g i).cost ∧ (lkAt g i).cost ≤ 1000000 ∧ 0 ≤ hAt g (lkAt g i).to := by
  obtain ⟨h1, h2⟩ := frL_mem.1 h
  have h3 := lvs_iff.1 h1
  have hok := lkAt_ok hg ⟨h3.1, h3.2.1⟩
  have := hok.lt; have := hok.to; have := hok.cost
  omega
theorem frL_nil {g : Gr} (hg : GrOK g) {v : Int} (h0 : 0 ≤ v) (h1 : v < g.n - 1) : frL g v = [] ↔ hAt g v < 0 := by
  have hst := hAt_step hg h0 h1
  constructor
  · intro h
    rcases min_spec (viaOf g) (lvs g v) with ⟨h4, _⟩ | ⟨⟨i, hi, h5⟩, h4, _⟩
    · omega
    · have hn : i ∉ frL g v := by rw [h]; simp
      rw [frL_mem] at hn
      exfalso
      apply hn
      refine ⟨hi, ?_⟩
      rcases Int.lt_or_le (hAt g (lkAt g i).to) 0 with h6 | h6
      · have : viaOf g i = -1 := by unfold viaOf; rw [if_neg (by omega)]
        omega
      · exact h6
  · intro h
    rw [eq_nil_iff_forall_not_mem]
    intro i hi
    have hl := frL_link hg hi
    have hv := frL_via hi
    rcases min_spec (viaOf g) (lvs g v) with ⟨_, h5⟩ | ⟨_, h4, _⟩
    · have := h5 i (frL_mem.1 hi).1; omega
    · omega
theorem frL_head {g : Gr} (hg : GrOK g) {v i : Int} {r : List Int} (h0 : 0 ≤ v) (h1 : v < g.n - 1) (h : frL g v = i :: r) : viaOf g i = hAt g v := by
  have hst := hAt_step hg h0 h1
  have hi : i ∈ frL g v := by rw [h]; simp
  have hl := frL_link hg hi
  have hvi := frL_via hi
  have hs := frL_sorted g v
  rw [h] at hs
  have hs := (pairwise_cons.1 hs).1
  rcases min_spec (viaOf g) (lvs g v) with ⟨_, h5⟩ | ⟨⟨j, hj, h5⟩, h4, h6⟩
  · have := h5 i (frL_mem.1 hi).1; omega
  · have h7 := h6 i (frL_mem.1 hi).1 (by omega)
    have hjf : j ∈ frL g v := frL_mem.2 ⟨hj, by
      rcases Int.lt_or_le (hAt g (lkAt g j).to) 0 with h6 | h6
      · have : viaOf g j = -1 := by unfold viaOf; rw [if_neg (by omega)]
        omega
      · exact h6⟩
    rw [h] at hjf
    rcases mem_cons.1 hjf with rfl | hjf
    · omega
    · have := viaLe_iff.1 (hs j hjf); omega
/-- The first way from a node. -/
def bw (g : Gr) (v : Int) : List Int := bestW g (g.n - 1 - v).toNat v
theorem bestW_fuel {g : Gr} (hg : GrOK g) : ∀ (k k' : Nat) (v : Int), 0 ≤ v → v < g.n → g.n - 1 - v ≤ (k : Int) → g.n - 1 - v ≤ (k' : Int) → bestW g k v = bestW g k' v := by
  intro k
  induction k with
  | zero =>
    intro k' v h0 h1 h2 h3
    have hv : v = g.n - 1 := by omega
    cases k' with
    | zero => rfl
    | succ k' => unfold bestW; rw [if_pos hv]
  | succ k ih =>
    intro k' v h0 h1 h2 h3
    by_cases hv : v = g.n - 1
    · cases k' with
      | zero => unfold bestW; rw [if_pos hv]
      | succ k' => unfold bestW; rw [if_pos hv, if_pos hv]
    · cases k' with
      | zero => omega
      | succ k' =>
        unfold bestW
        rw [if_neg hv, if_neg hv]
        cases hf : (lvs g v).find? (fun i => decide (viaOf g i = hAt g v)) with
        | none => rfl
        | some i =>
          have hi' := lvs_iff.1 (mem_of_find?_eq_some hf)
          have hok := lkAt_ok hg ⟨hi'.1, hi'.2.1⟩
          have hto := hok.to
          have hlt := hok.lt
          dsimp only
          rw [ih k' _ (by omega) (by omega) (by omega) (by omega)]
theorem bw_last (g : Gr) : bw g (g.n - 1) = [] := by unfold bw; rw [show (g.n - 1 - (g.n - 1)).toNat = 0 by omega]; rfl
theorem bw_step {g : Gr} (hg : GrOK g) {v i : Int} {r : List Int} (h0 : 0 ≤ v) (h1 : v < g.n - 1) (h : frL g v = i :: r) : bw g v = i :: bw g (lkAt g i).to := by
  have hi : i ∈ frL g v := by rw [h]; simp
  have hl := frL_link hg hi
  have hvh := frL_head hg h0 h1 h
  have hil := (frL_mem.1 hi).1
  have hf : (lvs g v).find? (fun i => decide (viaOf g i = hAt g v)) = some i := by
    cases hf : (lvs g v).find? (fun i => decide (viaOf g i = hAt g v)) with
    | none => have := find?_eq_none.1 hf i hil; simp at this; omega
    | some j =>
      rcases find_first (lvs_inc g v) hf hil (by simpa using hvh) with rfl | hlt
      · rfl
      · have hvj : viaOf g j = hAt g v := by simpa using find?_some hf
        have hst := hAt_step hg h0 h1
        have hvi := frL_via hi
        have hjf : j ∈ frL g v := frL_mem.2 ⟨mem_of_find?_eq_some hf, by
          rcases Int.lt_or_le (hAt g (lkAt g j).to) 0 with h6 | h6
          · unfold viaOf at hvj; rw [if_neg (by omega)] at hvj; omega
          · exact h6⟩
        have hs := frL_sorted g v
        rw [h] at hs hjf
        rcases mem_cons.1 hjf with rfl | hjf
        · omega
        · have := viaLe_iff.1 ((pairwise_cons.1 hs).1 j hjf); omega
  obtain ⟨k, hk⟩ : ∃ k : Nat, (g.n - 1 - v).toNat = k + 1 := ⟨(g.n - 1 - v).toNat - 1, by omega⟩
  unfold bw
  rw [hk]
  conv => lhs; unfold bestW
  rw [if_neg (by omega), hf]
  dsimp only
  rw [bestW_fuel hg k _ _ (by omega) (by omega) (by omega) (Int.self_le_toNat _)]
theorem bw_way {g : Gr} (hg : GrOK g) {v : Int} (h0 : 0 ≤ v) (h1 : v < g.n) (h : 0 ≤ hAt g v) : wayB g v (bw g v) = true ∧ sumC g (bw g v) = hAt g v := best_way hg _ v h0 h1 (by omega) h
theorem bw_first {g : Gr} (hg : GrOK g) {v : Int} (h0 : 0 ≤ v) (h1 : v < g.n) {w : List Int} (hw : wayB g v w = true) (hs : sumC g w = hAt g v) : bw g v = w ∨ lexLt (bw g v) w = true := best_first hg _ v h0 h1 (by omega) w hw hs
theorem bw_len {g : Gr} (hg : GrOK g) : ∀ (k : Nat) (v : Int), 0 ≤ v → v < g.n → g.n - 1 - v ≤ (k : Int) → 0 ≤ hAt g v → (bw g v).length ≤ k := by
  intro k
  induction k with
  | zero => intro v h0 h1 h2 _; rw [show v = g.n - 1 by omega, bw_last]; simp
  | succ k ih =>
    intro v h0 h1 h2 h3
    by_cases hv : v = g.n - 1
    · rw [hv, bw_last]; simp
    · cases hf : frL g v with
      | nil => have := (frL_nil hg h0 (by omega)).1 hf; omega
      | cons i r =>
        have hl := frL_link hg (show i ∈ frL g v by rw [hf]; simp)
        rw [bw_step hg h0 (by omega) hf, length_cons]
        have := ih (lkAt g i).to (by omega) (by omega) (by omega) hl.2.2.2.2.2.2.2
        omega
/-- The way's links are links of the first ways. -/
theorem way_frL {g : Gr} (hg : GrOK g) {v i : Int} {t : List Int} (h0 : 0 ≤ v) (_h1 : v < g.n) (h : wayB g v (i :: t) = true) : i ∈ frL g v ∧ wayB g (lkAt g i).to t = true := by
  obtain ⟨h2, h3⟩ := way_cons.1 h
  have hi := lvs_iff.1 h2
  have hok := lkAt_ok hg ⟨hi.1, hi.2.1⟩
  have hto := hok.to
  have hlt := hok.lt
  exact ⟨frL_mem.2 ⟨h2, (way_h hg t _ (by omega) (by omega) h3).1⟩, h3⟩

/-- A path: links, each of which begins where the one before it ends. -/
def pathB (g : Gr) : Int → List Int → Bool
  | _, [] => true
  | v, i :: r => decide (0 ≤ i ∧ i < g.ls.length ∧ (lkAt g i).fr = v) && pathB g (lkAt g i).to r
def endP (g : Gr) : Int → List Int → Int
  | v, [] => v
  | _, i :: r => endP g (lkAt g i).to r
theorem path_cons {g : Gr} {v i : Int} {r : List Int} : pathB g v (i :: r) = true ↔ i ∈ lvs g v ∧ pathB g (lkAt g i).to r = true := by
  rw [lvs_iff]
  conv => lhs; unfold pathB
  simp
theorem wayB_cons (g : Gr) (v i : Int) (r : List Int) : wayB g v (i :: r) = (decide (0 ≤ i ∧ i < g.ls.length ∧ (lkAt g i).fr = v) && wayB g (lkAt g i).to r) := rfl
theorem pathB_cons (g : Gr) (v i : Int) (r : List Int) : pathB g v (i :: r) = (decide (0 ≤ i ∧ i < g.ls.length ∧ (lkAt g i).fr = v) && pathB g (lkAt g i).to r) := rfl
theorem sumC_cons (g : Gr) (i : Int) (r : List Int) : sumC g (i :: r) = (lkAt g i).cost + sumC g r := rfl
theorem endP_cons (g : Gr) (v i : Int) (r : List Int) : endP g v (i :: r) = endP g (lkAt g i).to r := rfl
theorem way_app (g : Gr) : ∀ (p r : List Int) (v : Int), wayB g v (p ++ r) = (pathB g v p && wayB g (endP g v p) r)
  | [], r, v => by simp [pathB, endP]
  | i :: p, r, v => by
    rw [cons_append, wayB_cons, way_app g p r, pathB_cons, endP_cons, Bool.and_assoc]
theorem path_app (g : Gr) : ∀ (p r : List Int) (v : Int), pathB g v (p ++ r) = (pathB g v p && pathB g (endP g v p) r)
  | [], r, v => by simp [pathB, endP]
  | i :: p, r, v => by
    rw [cons_append, pathB_cons, path_app g p r, pathB_cons, endP_cons, Bool.and_assoc]
theorem endP_app (g : Gr) : ∀ (p r : List Int) (v : Int), endP g v (p ++ r) = endP g (endP g v p) r
  | [], _, _ => rfl
  | i :: p, r, v => by
    rw [cons_append]
    exact endP_app g p r _
theorem sumC_app (g : Gr) : ∀ (p r : List Int), sumC g (p ++ r) = sumC g p + sumC g r
  | [], r => by simp [sumC]
  | i :: p, r => by
    rw [cons_append, sumC_cons, sumC_cons, sumC_app g p r]
    omega
theorem path_bd {g : Gr} (hg : GrOK g) : ∀ (p : List Int) (v : Int), 0 ≤ v → v < g.n → pathB g v p = true → v + p.length ≤ endP g v p ∧ endP g v p < g.n ∧ 0 ≤ sumC g p ∧ sumC g p ≤ 1000000 * (endP g v p - v)
  | [], v, h0, h1, _ => by simp [endP, sumC]; omega
  | i :: p, v, h0, h1, h => by
    obtain ⟨h2, h3⟩ := path_cons.1 h
    have hi := lvs_iff.1 h2
    have hok := lkAt_ok hg ⟨hi.1, hi.2.1⟩
    have hto := hok.to
    have hlt := hok.lt
    have hc := hok.cost
    have := path_bd hg p _ (by omega) (by omega) h3
    show v + ((i :: p).length : Int) ≤ endP g _ p ∧ endP g _ p < g.n ∧ 0 ≤ (lkAt g i).cost + sumC g p ∧ (lkAt g i).cost + sumC g p ≤ 1000000 * (endP g _ p - v)
    rw [length_cons]
    omega
theorem way_bd {g : Gr} (hg : GrOK g) {w : List Int} (h : wayB g 0 w = true) : (w.length : Int) < g.n ∧ 0 ≤ sumC g w ∧ sumC g w ≤ 1000000 * g.n := by
  have hn := hg.n
  have h2 : pathB g 0 w = true := by
    have := way_app g w [] 0
    rw [append_nil, h] at this
    have := this.symm
    rw [Bool.and_eq_true] at this
    exact this.1
  have := path_bd hg w 0 (by omega) (by omega) h2
  omega
end Go.Proofs.Ytbikjmafddndpaa

/-
  The plain law of layer 15: a heap in a list, its elements sifted up and down; it gives back the least one.
-/
namespace Go.Proofs.Ytbikjmafddndpaa
open List

section heap
variable {α : Type}
/-- What the order says agrees with an order of keys, for different places. -/
def Ag (key : α → Can) (lt : α → α → Bool) (l : List α) : Prop := l.Pairwise fun a b => lt a b = canLt (key a) (key b) ∧ lt b a = canLt (key b) (key a)
theorem Ag.perm {key : α → Can} {lt : α → α → Bool} {l l' : List α} (h : Ag key lt l) (hp : l' ~ l) : Ag key lt l' :=
  (hp.pairwise_iff (fun {a b} h => ⟨h.2, h.1⟩)).2 h
def kl (key : α → Can) (a b : α) : Bool := canLt (key a) (key b)
/-- a comes not behind b. -/
def LE (key : α → Can) (a b : α) : Prop := canLt (key b) (key a) = false
section
variable {key : α → Can} {a b c : α}
theorem LE.refl : LE key a a := canLt_irrefl _
theorem LE.trans (h1 : LE key a b) (h2 : LE key b c) : LE key a c := by
  unfold LE at *
  cases h : canLt (key c) (key a) with
  | false => rfl
  | true =>
    rcases canLt_total (key a) (key b) with h3 | h3 | h3
    · have := canLt_trans h h3; rw [h2] at this; cases this
    · rw [h3] at h; rw [h] at h2; cases h2
    · rw [h3] at h1; cases h1
theorem LE.lt (h : kl key a b = true) : LE key a b := canLt_asymm h
theorem LE.not (h : ¬ kl key a b = true) : LE key b a := by unfold LE; unfold kl at h; simpa using h
end
variable [Inhabited α]
def swp (l : List α) (i j : Nat) : List α := (l.set i (l.getD j default)).set j (l.getD i default)
def upM (lt : α → α → Bool) : Nat → List α → Nat → List α
  | 0, l, _ => l
  | f + 1, l, i => if i = 0 then l else if lt (l.getD i default) (l.getD ((i - 1) / 2) default) = true then upM lt f (swp l i ((i - 1) / 2)) ((i - 1) / 2) else l
def lsA (lt : α → α → Bool) (l : List α) (i : Nat) : Nat := if 2 * i + 1 < l.length ∧ lt (l.getD (2 * i + 1) default) (l.getD i default) = true then 2 * i + 1 else i
def lsM (lt : α → α → Bool) (l : List α) (i : Nat) : Nat := if 2 * i + 2 < l.length ∧ lt (l.getD (2 * i + 2) default) (l.getD (lsA lt l i) default) = true then 2 * i + 2 else lsA lt l i
def dnM (lt : α → α → Bool) : Nat → List α → Nat → List α
  | 0, l, _ => l
  | f + 1, l, i => if lsM lt l i = i then l else dnM lt f (swp l i (lsM lt l i)) (lsM lt l i)
def pushM (lt : α → α → Bool) (l : List α) (x : α) : List α := upM lt (l.length + 1) (l ++ [x]) l.length
def popM (lt : α → α → Bool) (l : List α) : List α := dnM lt l.length ((l.set 0 (l.getD (l.length - 1) default)).take (l.length - 1)) 0
theorem swp_len (l : List α) (i j : Nat) : (swp l i j).length = l.length := by unfold swp; simp
theorem swp_getD {l : List α} {i j : Nat} (hi : i < l.length) (hj : j < l.length) (k : Nat) : (swp l i j).getD k default = if k = j then l.getD i default else if k = i then l.getD j default else l.getD k default := by
  unfold swp
  simp only [getD_eq_getElem?_getD, getElem?_set, length_set]
  by_cases h1 : k = j
  · subst h1; simp [hj]
  · by_cases h2 : k = i
    · subst h2; simp [hi, Ne.symm h1, h1]
    · simp [Ne.symm h1, Ne.symm h2, h1, h2]
theorem swp_perm {l : List α} {i j : Nat} (hi : i < l.length) (hj : j < l.length) : swp l i j ~ l := by
  unfold swp
  have h1 : l.getD i default = l[i] := by simp [hi]
  have h2 : l.getD j default = l[j] := by simp [hj]
  rw [h1, h2]
  exact set_set_perm hi hj
theorem lsA_lt {lt : α → α → Bool} {l : List α} {i : Nat} (hi : i < l.length) : lsA lt l i < l.length := by unfold lsA; split <;> omega
theorem lsM_lt {lt : α → α → Bool} {l : List α} {i : Nat} (hi : i < l.length) : lsM lt l i < l.length := by unfold lsM; have := lsA_lt (lt := lt) hi; split <;> omega
theorem lsA_cases (lt : α → α → Bool) (l : List α) (i : Nat) : lsA lt l i = i ∨ lsA lt l i = 2 * i + 1 := by unfold lsA; split <;> simp
theorem lsM_cases (lt : α → α → Bool) (l : List α) (i : Nat) : lsM lt l i = i ∨ lsM lt l i = 2 * i + 1 ∨ lsM lt l i = 2 * i + 2 := by
  unfold lsM; rcases lsA_cases lt l i with h | h <;> split <;> simp [h]
theorem Ag.at_ {key : α → Can} {lt : α → α → Bool} {l : List α} (h : Ag key lt l) {i j : Nat} (hi : i < l.length) (hj : j < l.length) (hne : i ≠ j) :
    lt (l.getD i default) (l.getD j default) = canLt (key (l.getD i default)) (key (l.getD j default)) := by
  have h1 : l.getD i default = l[i] := by simp [hi]
  have h2 : l.getD j default = l[j] := by simp [hj]
  rw [h1, h2]
  rcases Nat.lt_or_ge i j with h3 | h3
  · exact (pairwise_iff_getElem.1 h i j hi hj h3).1
  · exact (pairwise_iff_getElem.1 h j i hj hi (by omega)).2
theorem upM_ag {key : α → Can} {lt : α → α → Bool} : ∀ (f : Nat) (l : List α) (i : Nat), i < l.length → Ag key lt l → upM lt f l i = upM (kl key) f l i := by
  intro f
  induction f with
  | zero => intros; rfl
  | succ f ih =>
    intro l i hi h
    unfold upM
    by_cases h0 : i = 0
    · rw [if_pos h0, if_pos h0]
    · rw [if_neg h0, if_neg h0, h.at_ hi (show (i - 1) / 2 < l.length by omega) (by omega)]
      rw [show kl key (l.getD i default) (l.getD ((i - 1) / 2) default) = canLt (key (l.getD i default)) (key (l.getD ((i - 1) / 2) default)) from rfl]
      rw [ih _ _ (by rw [swp_len]; omega) (h.perm (swp_perm hi (by omega)))]
theorem lsA_ag {key : α → Can} {lt : α → α → Bool} {l : List α} {i : Nat} (hi : i < l.length) (h : Ag key lt l) : lsA lt l i = lsA (kl key) l i := by
  unfold lsA
  by_cases h1 : 2 * i + 1 < l.length
  · rw [h.at_ h1 hi (by omega)]; rfl
  · rw [if_neg (fun h => h1 h.1), if_neg (fun h => h1 h.1)]
theorem lsM_ag {key : α → Can} {lt : α → α → Bool} {l : List α} {i : Nat} (hi : i < l.length) (h : Ag key lt l) : lsM lt l i = lsM (kl key) l i := by
  unfold lsM
  rw [lsA_ag hi h]
  by_cases h1 : 2 * i + 2 < l.length
  · rw [h.at_ h1 (lsA_lt hi) (by rcases lsA_cases (kl key) l i with h | h <;> omega)]; rfl
  · rw [if_neg (fun h => h1 h.1), if_neg (fun h => h1 h.1)]
theorem dnM_ag {key : α → Can} {lt : α → α → Bool} : ∀ (f : Nat) (l : List α) (i : Nat), i < l.length → Ag key lt l → dnM lt f l i = dnM (kl key) f l i := by
  intro f
  induction f with
  | zero => intros; rfl
  | succ f ih =>
    intro l i hi h
    unfold dnM
    rw [lsM_ag hi h, ih _ _ (by rw [swp_len]; exact lsM_lt hi) (h.perm (swp_perm hi (lsM_lt hi)))]
def HeapO (key : α → Can) (l : List α) : Prop := ∀ j, 0 < j → j < l.length → LE key (l.getD ((j - 1) / 2) default) (l.getD j default)
theorem up_heap {key : α → Can} : ∀ (f : Nat) (l : List α) (i : Nat), i < l.length → i < f →
    (∀ j, 0 < j → j < l.length → j ≠ i → LE key (l.getD ((j - 1) / 2) default) (l.getD j default)) →
    (∀ j, 0 < j → j < l.length → (j - 1) / 2 = i → 0 < i → LE key (l.getD ((i - 1) / 2) default) (l.getD j default)) →
    HeapO key (upM (kl key) f l i) ∧ upM (kl key) f l i ~ l := by
  intro f
  induction f with
  | zero => intro l i _ h; omega
  | succ f ih =>
    intro l i hi hf h1 h2
    unfold upM
    by_cases h0 : i = 0
    · rw [if_pos h0]
      exact ⟨fun j hj hl => h1 j hj hl (by omega), Perm.refl _⟩
    · rw [if_neg h0]
      have hp : (i - 1) / 2 < l.length := by omega
      by_cases hlt : kl key (l.getD i default) (l.getD ((i - 1) / 2) default) = true
      · rw [if_pos hlt]
        have hsp := swp_perm hi hp
        have := ih (swp l i ((i - 1) / 2)) ((i - 1) / 2) (by rw [swp_len]; omega) (by omega) ?_ ?_
        · exact ⟨this.1, this.2.trans hsp⟩
        · intro j hj hjl hne
          rw [swp_len] at hjl
          rw [swp_getD hi hp, swp_getD hi hp, if_neg hne]
          by_cases e1 : j = i
          · subst e1
            rw [if_pos rfl, if_pos rfl]
            exact LE.lt hlt
          · rw [if_neg e1]
            by_cases e2 : (j - 1) / 2 = (i - 1) / 2
            · rw [if_pos e2]
              have := h1 j hj hjl e1
              rw [e2] at this
              exact (LE.lt hlt).trans this
            · rw [if_neg e2]
              by_cases e3 : (j - 1) / 2 = i
              · rw [if_pos e3]
                exact h2 j hj hjl e3 (by omega)
              · rw [if_neg e3]
                exact h1 j hj hjl e1
        · intro j hj hjl he h0'
          rw [swp_len] at hjl
          have hpp : ((i - 1) / 2 - 1) / 2 ≠ (i - 1) / 2 := by omega
          have hpi : ((i - 1) / 2 - 1) / 2 ≠ i := by omega
          rw [swp_getD hi hp, swp_getD hi hp, if_neg hpp, if_neg hpi, if_neg (show j ≠ (i - 1) / 2 by omega)]
          have hP := h1 ((i - 1) / 2) h0' hp (by omega)
          by_cases e1 : j = i
          · rw [if_pos e1]; exact hP
          · rw [if_neg e1]
            have := h1 j hj hjl e1
            rw [he] at this
            exact hP.trans this
      · rw [if_neg hlt]
        refine ⟨fun j hj hl => ?_, Perm.refl _⟩
        by_cases e : j = i
        · subst e; exact LE.not hlt
        · exact h1 j hj hl e
theorem lsM_least {key : α → Can} {l : List α} {i : Nat} : LE key (l.getD (lsM (kl key) l i) default) (l.getD i default) ∧
    ∀ j, 0 < j → j < l.length → (j - 1) / 2 = i → LE key (l.getD (lsM (kl key) l i) default) (l.getD j default) := by
  have hA : LE key (l.getD (lsA (kl key) l i) default) (l.getD i default) ∧ (2 * i + 1 < l.length → LE key (l.getD (lsA (kl key) l i) default) (l.getD (2 * i + 1) default)) := by
    unfold lsA
    by_cases h : 2 * i + 1 < l.length ∧ kl key (l.getD (2 * i + 1) default) (l.getD i default) = true
    · rw [if_pos h]; exact ⟨LE.lt h.2, fun _ => LE.refl⟩
    · rw [if_neg h]; exact ⟨LE.refl, fun h1 => LE.not (fun h2 => h ⟨h1, h2⟩)⟩
  have hB : LE key (l.getD (lsM (kl key) l i) default) (l.getD (lsA (kl key) l i) default) ∧ (2 * i + 2 < l.length → LE key (l.getD (lsM (kl key) l i) default) (l.getD (2 * i + 2) default)) := by
    unfold lsM
    by_cases h : 2 * i + 2 < l.length ∧ kl key (l.getD (2 * i + 2) default) (l.getD (lsA (kl key) l i) default) = true
    · rw [if_pos h]; exact ⟨LE.lt h.2, fun _ => LE.refl⟩
    · rw [if_neg h]; exact ⟨LE.refl, fun h1 => LE.not (fun h2 => h ⟨h1, h2⟩)⟩
  refine ⟨hB.1.trans hA.1, fun j hj hl he => ?_⟩
  rcases (by omega : j = 2 * i + 1 ∨ j = 2 * i + 2) with rfl | rfl
  · exact hB.1.trans (hA.2 hl)
  · exact hB.2 hl
theorem dn_heap {key : α → Can} : ∀ (f : Nat) (l : List α) (i : Nat), i < l.length → l.length ≤ f + i →
    (∀ j, 0 < j → j < l.length → (j - 1) / 2 ≠ i → LE key (l.getD ((j - 1) / 2) default) (l.getD j default)) →
    (∀ j, 0 < j → j < l.length → (j - 1) / 2 = i → 0 < i → LE key (l.getD ((i - 1) / 2) default) (l.getD j default)) →
    HeapO key (dnM (kl key) f l i) ∧ dnM (kl key) f l i ~ l := by
  intro f
  induction f with
  | zero => intro l i h1 h2; omega
  | succ f ih =>
    intro l i hi hf h1 h2
    unfold dnM
    have hls := lsM_least (key := key) (l := l) (i := i)
    have hlt := lsM_lt (lt := kl key) hi
    have hcs := lsM_cases (kl key) l i
    generalize lsM (kl key) l i = c at *
    by_cases h0 : c = i
    · rw [if_pos h0]
      subst h0
      refine ⟨fun j hj hl => ?_, Perm.refl _⟩
      by_cases e : (j - 1) / 2 = c
      · rw [e]; exact hls.2 j hj hl e
      · exact h1 j hj hl e
    · rw [if_neg h0]
      have hci : (c - 1) / 2 = i := by omega
      have hsp := swp_perm hi hlt
      have := ih (swp l i c) c (by rw [swp_len]; omega) (by rw [swp_len]; omega) ?_ ?_
      · exact ⟨this.1, this.2.trans hsp⟩
      · intro j hj hjl hne
        rw [swp_len] at hjl
        rw [swp_getD hi hlt, swp_getD hi hlt, if_neg hne]
        by_cases e1 : (j - 1) / 2 = i
        · rw [if_pos e1]
          by_cases e2 : j = c
          · rw [if_pos e2]; exact hls.1
          · rw [if_neg e2, if_neg (show j ≠ i by omega)]; exact hls.2 j hj hjl e1
        · rw [if_neg e1, if_neg (show j ≠ c by intro e; rw [e] at e1; exact e1 hci)]
          by_cases e2 : j = i
          · rw [if_pos e2]
            subst e2
            exact h2 c (by omega) hlt hci hj
          · rw [if_neg e2]; exact h1 j hj hjl e1
      · intro j hj hjl he hc0
        rw [swp_len] at hjl
        rw [hci, swp_getD hi hlt, swp_getD hi hlt, if_neg (fun e => h0 e.symm), if_pos rfl, if_neg (show j ≠ c by omega), if_neg (show j ≠ i by omega)]
        have := h1 j hj hjl (by omega)
        rw [he] at this
        exact this
theorem heap_root {key : α → Can} {l : List α} (h : HeapO key l) : ∀ j, j < l.length → LE key (l.getD 0 default) (l.getD j default) := by
  intro j
  induction j using Nat.strongRecOn with
  | _ j ih =>
    intro hj
    rcases Nat.eq_zero_or_pos j with rfl | h0
    · exact LE.refl
    · exact (ih ((j - 1) / 2) (by omega) (by omega)).trans (h j h0 hj)
theorem push_spec {key : α → Can} {lt : α → α → Bool} {l : List α} {x : α} (h : HeapO key l) (ha : Ag key lt (l ++ [x])) : HeapO key (pushM lt l x) ∧ pushM lt l x ~ l ++ [x] := by
  unfold pushM
  rw [upM_ag _ _ _ (by simp) ha]
  refine up_heap _ _ _ (by simp) (by omega) (fun j hj hl hne => ?_) (fun j hj hl he _ => ?_)
  · rw [length_append, length_singleton] at hl
    have e1 : (l ++ [x]).getD j default = l.getD j default := by simp only [getD_eq_getElem?_getD]; rw [getElem?_append_left (by omega)]
    have e2 : (l ++ [x]).getD ((j - 1) / 2) default = l.getD ((j - 1) / 2) default := by simp only [getD_eq_getElem?_getD]; rw [getElem?_append_left (by omega)]
    rw [e1, e2]
    exact h j hj (by omega)
  · rw [length_append, length_singleton] at hl; omega
theorem pop_list {l : List α} (hl : 0 < l.length) : l.getD 0 default :: (l.set 0 (l.getD (l.length - 1) default)).take (l.length - 1) ~ l := by
  cases l with
  | nil => simp at hl
  | cons x t =>
    cases ht : t.reverse with
    | nil =>
      have : t = [] := by simpa using ht
      subst this
      simp
    | cons y s =>
      have : t = s.reverse ++ [y] := by rw [← reverse_reverse t, ht]; simp
      subst this
      have e1 : (x :: (s.reverse ++ [y])).getD ((x :: (s.reverse ++ [y])).length - 1) default = y := by simp
      rw [e1]
      have e2 : ((x :: (s.reverse ++ [y])).set 0 y).take ((x :: (s.reverse ++ [y])).length - 1) = y :: s.reverse := by
        simp only [set_cons_zero, length_cons, length_append, length_reverse, length_nil, Nat.add_sub_cancel]
        rw [take_succ_cons, take_append_of_le_length (by simp), take_of_length_le (by simp)]
      rw [e2]
      show x :: y :: s.reverse ~ x :: (s.reverse ++ [y])
      exact Perm.cons x (perm_append_singleton y s.reverse).symm
theorem pop_spec {key : α → Can} {lt : α → α → Bool} {l : List α} (hl : 0 < l.length) (h : HeapO key l) (ha : Ag key lt l) :
    HeapO key (popM lt l) ∧ l.getD 0 default :: popM lt l ~ l ∧ ∀ x ∈ l, LE key (l.getD 0 default) x := by
  have hroot : ∀ x ∈ l, LE key (l.getD 0 default) x := fun x hx => by
    obtain ⟨j, hj, rfl⟩ := getElem_of_mem hx
    have := heap_root h j hj
    rw [show l.getD j default = l[j] by simp [hj]] at this
    exact this
  have hpl := pop_list hl
  unfold popM
  rcases Nat.lt_or_ge 1 l.length with h1 | h1
  · have hag : Ag key lt ((l.set 0 (l.getD (l.length - 1) default)).take (l.length - 1)) := (pairwise_cons.1 (ha.perm hpl)).2
    have hlen : ((l.set 0 (l.getD (l.length - 1) default)).take (l.length - 1)).length = l.length - 1 := by simp
    have hget : ∀ j, 0 < j → j < l.length - 1 → ((l.set 0 (l.getD (l.length - 1) default)).take (l.length - 1)).getD j default = l.getD j default := fun j hj hjl => by
      simp only [getD_eq_getElem?_getD]
      rw [getElem?_take_of_lt hjl, getElem?_set_ne (by omega)]
    rw [dnM_ag _ _ _ (by rw [hlen]; omega) hag]
    obtain ⟨h2, h3⟩ := dn_heap (key := key) l.length _ 0 (by rw [hlen]; omega) (by rw [hlen]; omega) (fun j hj hjl hne => by
      rw [hlen] at hjl
      rw [hget j hj hjl, hget _ (by omega) (by omega)]
      exact h j hj (by omega)) (fun j _ _ _ h0 => by omega)
    exact ⟨h2, (Perm.cons _ h3).trans hpl, hroot⟩
  · have h4 : l.length = 1 := by omega
    rw [h4] at hpl ⊢
    simp only [Nat.sub_self, take_zero] at hpl ⊢
    have e : dnM lt 1 ([] : List α) 0 = [] := by unfold dnM; simp [lsM, lsA]
    rw [e]
    exact ⟨fun j _ hj => by simp at hj, hpl, hroot⟩
end heap
end Go.Proofs.Ytbikjmafddndpaa

/-
  The plain law of layer 15: groups of ways, parted by their first ways; what a list of first candidates is; the loop of List.
-/
namespace Go.Proofs.Ytbikjmafddndpaa
open List

structure Gp where
  head : List Int
  rank : Nat
  link : Int
  cost : Int
deriving Inhabited
/-- The ways that begin with head and go on with a link of rank r or more, or end there. -/
def InH (g : Gr) (head : List Int) (r : Nat) (w : List Int) : Prop := ∃ t, w = head ++ t ∧ wayB g 0 w = true ∧ ∀ i t', t = i :: t' → i ∈ (frL g (endP g 0 head)).drop r
def fw (g : Gr) (G : Gp) : List Int := G.head ++ G.link :: bw g (lkAt g G.link).to
def fc (g : Gr) (G : Gp) : Can := ⟨fw g G, G.cost⟩
structure GOK (g : Gr) (G : Gp) : Prop where
  path : pathB g 0 G.head = true
  link : (frL g (endP g 0 G.head))[G.rank]? = some G.link
  cost : G.cost = sumC g G.head + viaOf g G.link
/-- A first rest of a way, from rank r on. -/
def FirstT (g : Gr) (v : Int) (r : Nat) (t : List Int) : Prop := (t = [] ∧ v = g.n - 1) ∨ ∃ i, t = i :: bw g (lkAt g i).to ∧ (frL g v)[r]? = some i
theorem mem_drop_of {α : Type} {l : List α} {r : Nat} {x : α} (h : l[r]? = some x) : x ∈ l.drop r := by
  have : (l.drop r)[0]? = some x := by rw [getElem?_drop]; simpa using h
  exact mem_of_getElem? this
theorem drop_split {α : Type} {l : List α} {r : Nat} {x y : α} (h : l[r]? = some x) (hy : y ∈ l.drop r) : y = x ∨ y ∈ l.drop (r + 1) := by
  obtain ⟨hr, rfl⟩ := List.getElem?_eq_some_iff.1 h
  rw [drop_eq_getElem_cons hr] at hy
  rcases mem_cons.1 hy with h | h
  · exact .inl h
  · exact .inr h
theorem nodup_drop {α : Type} {l : List α} (hn : l.Nodup) {r : Nat} {x : α} (h : l[r]? = some x) : x ∉ l.drop (r + 1) := by
  obtain ⟨hr, rfl⟩ := List.getElem?_eq_some_iff.1 h
  have := (drop_sublist r l).nodup hn
  rw [drop_eq_getElem_cons hr] at this
  exact (nodup_cons.1 this).1
theorem head_append {α : Type} {a t s : List α} {x y : α} (h : a ++ x :: t = a ++ y :: s) : x = y ∧ t = s := by
  have := append_cancel_left h
  injection this with h1 h2
  exact ⟨h1, h2⟩
theorem end_bd {g : Gr} (hg : GrOK g) {p : List Int} (h : pathB g 0 p = true) : 0 ≤ endP g 0 p ∧ endP g 0 p < g.n ∧ 0 ≤ sumC g p ∧ sumC g p ≤ 1000000 * g.n ∧ (p.length : Int) < g.n := by
  have hn := hg.n
  have := path_bd hg p 0 (by omega) (by omega) h
  omega
/-- The first way of a group. -/
theorem GOK.first {g : Gr} {G : Gp} (h : GOK g G) : FirstT g (endP g 0 G.head) G.rank (G.link :: bw g (lkAt g G.link).to) := .inr ⟨_, rfl, h.link⟩
theorem GOK.mem {g : Gr} {G : Gp} (h : GOK g G) : G.link ∈ frL g (endP g 0 G.head) := mem_of_getElem? h.link
theorem first_way {g : Gr} (hg : GrOK g) {hd t : List Int} {r : Nat} (hp : pathB g 0 hd = true) (hf : FirstT g (endP g 0 hd) r t) : wayB g 0 (hd ++ t) = true ∧ InH g hd r (hd ++ t) := by
  have hb := end_bd hg hp
  have hw : wayB g 0 (hd ++ t) = true := by
    rw [way_app, hp, Bool.true_and]
    rcases hf with ⟨rfl, hv⟩ | ⟨i, rfl, hi⟩
    · unfold wayB; simpa using hv
    · have hm := mem_of_getElem? hi
      have hl := frL_link hg hm
      exact way_cons.2 ⟨(frL_mem.1 hm).1, (bw_way hg (by omega) (by omega) hl.2.2.2.2.2.2.2).1⟩
  refine ⟨hw, t, rfl, hw, fun i t' he => ?_⟩
  rcases hf with ⟨rfl, _⟩ | ⟨j, rfl, hj⟩
  · cases he
  · injection he with h1 _
    subst h1
    exact mem_drop_of hj
theorem first_sum {g : Gr} (hg : GrOK g) {hd : List Int} {i : Int} (hp : pathB g 0 hd = true) (hi : i ∈ frL g (endP g 0 hd)) : sumC g (hd ++ i :: bw g (lkAt g i).to) = sumC g hd + viaOf g i := by
  have hb := end_bd hg hp
  have hl := frL_link hg hi
  rw [sumC_app, sumC_cons, (bw_way hg (by omega) (by omega) hl.2.2.2.2.2.2.2).2, frL_via hi]
theorem GOK.sum {g : Gr} (hg : GrOK g) {G : Gp} (h : GOK g G) : sumC g (fw g G) = G.cost := by
  unfold fw
  rw [first_sum hg h.path h.mem, h.cost]
/-- No way of the ways from a rank on comes before the first one. -/
theorem first_least {g : Gr} (hg : GrOK g) {hd t : List Int} {r : Nat} (hp : pathB g 0 hd = true) (hf : FirstT g (endP g 0 hd) r t) {w : List Int} (hw : InH g hd r w) :
    w = hd ++ t ∨ canLt ⟨hd ++ t, sumC g (hd ++ t)⟩ ⟨w, sumC g w⟩ = true := by
  have hb := end_bd hg hp
  obtain ⟨s, rfl, hws, hi⟩ := hw
  rw [way_app, hp, Bool.true_and] at hws
  rcases hf with ⟨rfl, hv⟩ | ⟨i, rfl, hfi⟩
  · cases s with
    | nil => exact .inl rfl
    | cons j s =>
      have := (way_frL hg hb.1 hb.2.1 hws).1
      rw [hv, frL_last hg] at this
      cases this
  · have hmi := mem_of_getElem? hfi
    have hli := frL_link hg hmi
    cases s with
    | nil =>
      have : endP g 0 hd = g.n - 1 := by unfold wayB at hws; simpa using hws
      rw [this, frL_last hg] at hmi
      cases hmi
    | cons j s =>
      obtain ⟨hjf, hws'⟩ := way_frL hg hb.1 hb.2.1 hws
      have hlj := frL_link hg hjf
      have hvj := frL_via hjf
      have hvi := frL_via hmi
      have hh := way_h hg s _ (by omega) (by omega) hws'
      have hbi := bw_way hg (v := (lkAt g i).to) (by omega) (by omega) hli.2.2.2.2.2.2.2
      have e1 : sumC g (hd ++ i :: bw g (lkAt g i).to) = sumC g hd + viaOf g i := first_sum hg hp hmi
      have e2 : sumC g (hd ++ j :: s) = sumC g hd + ((lkAt g j).cost + sumC g s) := by rw [sumC_app, sumC_cons]
      rw [e1, e2, canLt_iff]
      rcases drop_split hfi (hi j s rfl) with rfl | hjd
      · rcases Int.lt_or_le (hAt g (lkAt g j).to) (sumC g s) with h1 | h1
        · right; left; show _ < _; simp only; omega
        · rcases bw_first hg (by omega) (by omega) hws' (by omega) with h2 | h2
          · left; rw [h2]
          · right; right
            refine ⟨by simp only; omega, ?_⟩
            show lexLt (hd ++ _) (hd ++ _) = true
            rw [lex_pre]
            unfold lexLt
            rw [if_neg (by omega), if_neg (by omega)]
            exact h2
      · right
        have hlt : viaOf g i < viaOf g j ∨ (viaOf g i = viaOf g j ∧ i < j) := by
          have hs := (frL_strict g (endP g 0 hd)).sublist (drop_sublist r _)
          obtain ⟨hr, he⟩ := List.getElem?_eq_some_iff.1 hfi
          rw [drop_eq_getElem_cons hr, he] at hs
          exact (pairwise_cons.1 hs).1 j hjd
        rcases Int.lt_or_le (sumC g hd + viaOf g i) (sumC g hd + ((lkAt g j).cost + sumC g s)) with h1 | h1
        · exact .inl h1
        · right
          refine ⟨by simp only; omega, ?_⟩
          show lexLt (hd ++ _) (hd ++ _) = true
          rw [lex_pre]
          unfold lexLt
          rw [if_pos (by omega)]
/-- Groups that part a set of ways. -/
structure Part (g : Gr) (Gs : List Gp) (S : List Int → Prop) : Prop where
  ok : ∀ G ∈ Gs, GOK g G
  iff : ∀ w, S w ↔ ∃ G ∈ Gs, InH g G.head G.rank w
  apart : Gs.Pairwise fun a b => ∀ w, InH g a.head a.rank w → ¬ InH g b.head b.rank w
theorem Part.congr {g : Gr} {Gs : List Gp} {S T : List Int → Prop} (h : Part g Gs S) (e : ∀ w, T w ↔ S w) : Part g Gs T := ⟨h.ok, fun w => (e w).trans (h.iff w), h.apart⟩
theorem Part.perm {g : Gr} {Gs Gs' : List Gp} {S : List Int → Prop} (h : Part g Gs S) (hp : Gs' ~ Gs) : Part g Gs' S :=
  ⟨fun G hG => h.ok G (hp.mem_iff.1 hG), fun w => by rw [h.iff]; simp [hp.mem_iff], (hp.pairwise_iff (fun {a b} h w h1 h2 => h w h2 h1)).2 h.apart⟩
theorem Part.app {g : Gr} {As Bs : List Gp} {S T : List Int → Prop} (h : Part g As S) (h' : Part g Bs T) (hd : ∀ w, S w → ¬ T w) : Part g (As ++ Bs) (fun w => S w ∨ T w) :=
  ⟨fun G hG => (mem_append.1 hG).elim (h.ok G) (h'.ok G), fun w => by
    rw [h.iff, h'.iff]
    constructor
    · rintro (⟨G, hG, h⟩ | ⟨G, hG, h⟩)
      · exact ⟨G, mem_append.2 (.inl hG), h⟩
      · exact ⟨G, mem_append.2 (.inr hG), h⟩
    · rintro ⟨G, hG, h⟩
      rcases mem_append.1 hG with hG | hG
      · exact .inl ⟨G, hG, h⟩
      · exact .inr ⟨G, hG, h⟩, pairwise_append.2 ⟨h.apart, h'.apart, fun a ha b hb w h1 h2 => hd w ((h.iff w).2 ⟨a, ha, h1⟩) ((h'.iff w).2 ⟨b, hb, h2⟩)⟩⟩
/-- What split makes of a group whose first way goes on with t, from its head on. -/
def spl (g : Gr) (pre : List Int) (v : Int) (spent : Int) (r : Nat) : List Int → List Gp
  | [] => []
  | i :: t => (match (frL g v)[r + 1]? with | some l => [⟨pre, r + 1, l, spent + viaOf g l⟩] | none => []) ++ spl g (pre ++ [i]) (lkAt g i).to (spent + (lkAt g i).cost) 0 t
theorem first_next {g : Gr} (hg : GrOK g) {v : Int} (h0 : 0 ≤ v) (h1 : v < g.n) (h : 0 ≤ hAt g v) : FirstT g v 0 (bw g v) := by
  by_cases hv : v = g.n - 1
  · left; rw [hv]; exact ⟨bw_last g, rfl⟩
  · right
    cases hf : frL g v with
    | nil => have := (frL_nil hg h0 (by omega)).1 hf; omega
    | cons i r => exact ⟨i, bw_step hg h0 (by omega) hf, rfl⟩
theorem spl_part {g : Gr} (hg : GrOK g) : ∀ (t pre : List Int) (v spent : Int) (r : Nat), pathB g 0 pre = true → endP g 0 pre = v → spent = sumC g pre → FirstT g v r t →
    Part g (spl g pre v spent r t) (fun w => InH g pre r w ∧ w ≠ pre ++ t) := by
  intro t
  induction t with
  | nil =>
    intro pre v spent r hp hv hs hf
    rcases hf with ⟨_, hv'⟩ | ⟨i, h, _⟩
    · refine ⟨(fun _ h => (not_mem_nil h).elim), fun w => ⟨?_, fun ⟨_, h, _⟩ => (not_mem_nil h).elim⟩, Pairwise.nil⟩
      rintro ⟨⟨s, rfl, hw, _⟩, hne⟩
      exfalso
      apply hne
      rw [way_app, hp, Bool.true_and, hv, hv'] at hw
      cases s with
      | nil => rfl
      | cons j s =>
        have := (way_cons.1 hw).1
        rw [lvs_last hg] at this
        cases this
    · cases h
  | cons i t ih =>
    intro pre v spent r hp hv hs hf
    have hb := end_bd hg hp
    rw [hv] at hb
    rcases hf with ⟨h, _⟩ | ⟨i', h, hfi⟩
    · cases h
    · injection h with h1 h2
      subst h1
      have hmi := mem_of_getElem? hfi
      have hli := frL_link hg hmi
      have hpi : pathB g 0 (pre ++ [i]) = true := by
        rw [path_app, hp, hv, Bool.true_and]
        exact path_cons.2 ⟨(frL_mem.1 hmi).1, rfl⟩
      have hei : endP g 0 (pre ++ [i]) = (lkAt g i).to := by rw [endP_app]; rfl
      have hsi : spent + (lkAt g i).cost = sumC g (pre ++ [i]) := by rw [sumC_app, hs]; simp [sumC]
      have hft : FirstT g (lkAt g i).to 0 t := by
        rw [h2]; exact first_next hg (by omega) (by omega) hli.2.2.2.2.2.2.2
      have hP2 := ih (pre ++ [i]) (lkAt g i).to (spent + (lkAt g i).cost) 0 hpi hei hsi hft
      have hP1 : Part g (match (frL g v)[r + 1]? with | some l => [⟨pre, r + 1, l, spent + viaOf g l⟩] | none => []) (fun w => InH g pre (r + 1) w) := by
        have hne : ∀ w, InH g pre (r + 1) w → ∃ j s, w = pre ++ j :: s ∧ j ∈ (frL g v).drop (r + 1) := by
          rintro w ⟨s, rfl, hw, hs⟩
          rw [hv] at hs
          cases s with
          | nil =>
            rw [way_app, hp, hv, Bool.true_and] at hw
            have : v = g.n - 1 := by unfold wayB at hw; simpa using hw
            rw [this, frL_last hg] at hmi
            cases hmi
          | cons j s => exact ⟨j, s, rfl, hs j s rfl⟩
        cases hn : (frL g v)[r + 1]? with
        | none =>
          refine ⟨(fun _ h => (not_mem_nil h).elim), fun w => ⟨fun h => ?_, fun ⟨_, h, _⟩ => (not_mem_nil h).elim⟩, Pairwise.nil⟩
          obtain ⟨j, s, _, hj⟩ := hne w h
          rw [drop_eq_nil_of_le (by simpa using hn)] at hj
          cases hj
        | some l =>
          refine ⟨fun G hG => ?_, fun w => by simp, pairwise_singleton _ _⟩
          obtain rfl := mem_singleton.1 hG
          exact ⟨hp, by rw [hv]; exact hn, by rw [hs]⟩
      refine (hP1.app hP2 ?_).congr fun w => ?_
      · rintro w ⟨s, rfl, hw, hs⟩ ⟨⟨s', he, _, _⟩, _⟩
        rw [append_assoc] at he
        have he := append_cancel_left he
        have := hs i s' (by rw [he]; rfl)
        rw [hv] at this
        exact nodup_drop frL_nodup hfi this
      · constructor
        · rintro ⟨⟨s, rfl, hw, hs⟩, hne⟩
          rw [hv] at hs
          cases s with
          | nil =>
            rw [way_app, hp, hv, Bool.true_and] at hw
            have : v = g.n - 1 := by unfold wayB at hw; simpa using hw
            rw [this, frL_last hg] at hmi
            cases hmi
          | cons j s =>
            rcases drop_split hfi (hs j s rfl) with rfl | hjd
            · right
              refine ⟨⟨s, by simp, hw, fun k s' he => ?_⟩, fun e => hne (by rw [e]; simp)⟩
              subst he
              rw [way_app, hp, hv, Bool.true_and] at hw
              have hw2 := (way_frL hg hb.1 hb.2.1 hw).2
              rw [drop_zero, hei]
              exact (way_frL hg (by omega) (by omega) hw2).1
            · left
              refine ⟨j :: s, rfl, hw, fun k s' he => ?_⟩
              injection he with e1 _
              rw [← e1, hv]
              exact hjd
        · rintro (⟨s, rfl, hw, hs⟩ | ⟨⟨s, rfl, hw, hs⟩, hne⟩)
          · refine ⟨⟨s, rfl, hw, fun k s' he => ?_⟩, fun e => ?_⟩
            · have := hs k s' he
              rw [← drop_drop] at this
              exact mem_of_mem_drop this
            · have e := append_cancel_left e
              have := hs i t e
              rw [hv] at this
              exact nodup_drop frL_nodup hfi this
          · refine ⟨⟨i :: s, by simp, hw, fun k s' he => ?_⟩, fun e => hne (by rw [e]; simp)⟩
            injection he with e1 _
            rw [← e1, hv]
            exact mem_drop_of hfi
end Go.Proofs.Ytbikjmafddndpaa

/-
  The plain law of layer 15: the order of groups agrees with that of their first ways; List's loop gives the first candidates.
-/
namespace Go.Proofs.Ytbikjmafddndpaa
open List

def placeM (G : Gp) (n : Nat) : Int := if n < G.head.length then G.head.getD n 0 else G.link
def earlierM (a b : Gp) : Bool := if a.cost ≠ b.cost then decide (a.cost < b.cost) else
  if a.head.take (min a.head.length b.head.length) ≠ b.head.take (min a.head.length b.head.length) then lexLt (a.head.take (min a.head.length b.head.length)) (b.head.take (min a.head.length b.head.length))
  else decide (placeM a (min a.head.length b.head.length) < placeM b (min a.head.length b.head.length))
theorem lex_app2 {a b r : List Int} (h1 : ¬ ∃ t, b = a ++ t) (h2 : ¬ ∃ t, a = b ++ t) : lexLt a (b ++ r) = lexLt a b := by
  rcases lex_total a b with h | h | h
  · rw [h]
    have := lex_app b a r h2 h1
    rcases lex_total a (b ++ r) with h3 | h3 | h3
    · exact h3
    · exact absurd ⟨r, h3⟩ h2
    · rw [this, lex_asymm h] at h3; cases h3
  · exact absurd ⟨[], by rw [h]; simp⟩ h1
  · rw [lex_asymm h]
    have := lex_app b a r h2 h1
    rw [h] at this
    exact lex_asymm this
theorem lex_heads : ∀ (x y : List Int) (p q : Int), (¬ ∃ t, y ++ [q] = x ++ p :: t) → (¬ ∃ t, x ++ [p] = y ++ q :: t) →
    lexLt (x ++ [p]) (y ++ [q]) = (if x.take (min x.length y.length) ≠ y.take (min x.length y.length) then lexLt (x.take (min x.length y.length)) (y.take (min x.length y.length))
      else decide ((if min x.length y.length < x.length then x.getD (min x.length y.length) 0 else p) < (if min x.length y.length < y.length then y.getD (min x.length y.length) 0 else q)))
  | [], [], p, q, h1, h2 => by
    have hne : p ≠ q := fun e => h1 ⟨[], by rw [e]⟩
    simp only [length_nil, Nat.min_self, take_nil, nil_append, Nat.lt_irrefl, if_false, ne_eq, not_true_eq_false]
    unfold lexLt
    by_cases h : p < q
    · simp [h]
    · rw [if_neg h, if_pos (by omega)]; simp [h]
  | [], b :: y, p, q, h1, h2 => by
    have hne : p ≠ b := fun e => h1 ⟨y ++ [q], by rw [e]; rfl⟩
    simp only [length_nil, length_cons, Nat.zero_min, take_zero, Nat.lt_irrefl, if_false, ne_eq, not_true_eq_false, nil_append, cons_append, getD_cons_zero, Nat.zero_lt_succ, if_true]
    unfold lexLt
    by_cases h : p < b
    · simp [h]
    · rw [if_neg h, if_pos (by omega)]; simp [h]
  | a :: x, [], p, q, h1, h2 => by
    have hne : a ≠ q := fun e => h2 ⟨x ++ [p], by rw [e]; rfl⟩
    simp only [length_nil, length_cons, Nat.min_zero, take_zero, Nat.lt_irrefl, if_false, ne_eq, not_true_eq_false, nil_append, cons_append, getD_cons_zero, Nat.zero_lt_succ, if_true]
    unfold lexLt
    by_cases h : a < q
    · simp [h]
    · rw [if_neg h, if_pos (by omega)]; simp [h]
  | a :: x, b :: y, p, q, h1, h2 => by
    have hm : min (a :: x).length (b :: y).length = min x.length y.length + 1 := by rw [length_cons, length_cons]; omega
    rw [hm, take_succ_cons, take_succ_cons, cons_append, cons_append]
    conv => lhs; unfold lexLt
    by_cases h3 : a < b
    · rw [if_pos h3, if_pos (by intro e; injection e with e _; omega)]
      unfold lexLt; rw [if_pos h3]
    · rw [if_neg h3]
      by_cases h4 : b < a
      · rw [if_pos h4, if_pos (by intro e; injection e with e _; omega)]
        unfold lexLt; rw [if_neg h3, if_pos h4]
      · have : a = b := by omega
        subst this
        rw [if_neg h4, lex_heads x y p q (fun ⟨t, e⟩ => h1 ⟨t, by rw [cons_append, cons_append, e]⟩) (fun ⟨t, e⟩ => h2 ⟨t, by rw [cons_append, cons_append, e]⟩)]
        simp only [getD_cons_succ, length_cons, Nat.add_lt_add_iff_right]
        by_cases h5 : x.take (min x.length y.length) ≠ y.take (min x.length y.length)
        · rw [if_pos h5, if_pos (by intro e; injection e with _ e; exact h5 e)]
          conv => rhs; unfold lexLt
          rw [if_neg h3, if_neg h3]
        · have h6 := Classical.not_not.1 h5
          rw [if_neg h5, h6]; simp
/-- Groups without a way in common: the order tells their first ways apart. -/
theorem earlier_eq {g : Gr} (hg : GrOK g) {a b : Gp} (ha : GOK g a) (hb : GOK g b) (hd : ∀ w, InH g a.head a.rank w → ¬ InH g b.head b.rank w) : earlierM a b = canLt (fc g a) (fc g b) := by
  have key : ∀ {a b : Gp}, GOK g a → GOK g b → (∀ w, InH g a.head a.rank w → ¬ InH g b.head b.rank w) → ¬ ∃ t, b.head ++ [b.link] = a.head ++ a.link :: t := by
    intro a b ha hb hd ⟨t, e⟩
    have hw := first_way hg hb.path hb.first
    refine hd _ ⟨a.link :: (t ++ bw g (lkAt g b.link).to), ?_, hw.1, ?_⟩ hw.2
    · rw [show b.head ++ b.link :: bw g (lkAt g b.link).to = (b.head ++ [b.link]) ++ bw g (lkAt g b.link).to by simp, e]; simp
    · intro i t' he
      injection he with he _
      rw [← he]
      exact mem_drop_of ha.link
  have k1 := key ha hb hd
  have k2 := key hb ha (fun w h1 h2 => hd w h2 h1)
  have hl : lexLt (fw g a) (fw g b) = lexLt (a.head ++ [a.link]) (b.head ++ [b.link]) := by
    have e1 : fw g a = (a.head ++ [a.link]) ++ bw g (lkAt g a.link).to := by unfold fw; simp
    have e2 : fw g b = (b.head ++ [b.link]) ++ bw g (lkAt g b.link).to := by unfold fw; simp
    have q1 : ¬ ∃ t, b.head ++ [b.link] = (a.head ++ [a.link]) ++ t := fun ⟨t, e⟩ => k1 ⟨t, by rw [e]; simp⟩
    have q2 : ¬ ∃ t, a.head ++ [a.link] = (b.head ++ [b.link]) ++ t := fun ⟨t, e⟩ => k2 ⟨t, by rw [e]; simp⟩
    have hne : ¬ ∃ t, fw g b = (a.head ++ [a.link]) ++ t := by
      rintro ⟨t, e⟩
      have hwb := first_way hg hb.path hb.first
      refine hd (fw g b) ⟨a.link :: t, by rw [e]; simp, hwb.1, fun i t' he => ?_⟩ hwb.2
      injection he with he _
      rw [← he]
      exact mem_drop_of ha.link
    have hne2 : ¬ ∃ t, a.head ++ [a.link] = fw g b ++ t := by
      rintro ⟨t, e⟩
      exact q2 ⟨bw g (lkAt g b.link).to ++ t, by rw [e, e2]; simp⟩
    rw [e1, lex_app _ _ _ hne hne2, e2, lex_app2 q1 q2]
  unfold earlierM
  rw [show canLt (fc g a) (fc g b) = (decide (a.cost < b.cost) || (decide (a.cost = b.cost) && lexLt (fw g a) (fw g b))) from rfl, hl, lex_heads _ _ _ _ k1 k2]
  by_cases h : a.cost ≠ b.cost
  · rw [if_pos h]
    have : decide (a.cost = b.cost) = false := decide_eq_false h
    rw [this]
    simp
  · rw [if_neg h]
    have h := Classical.not_not.1 h
    rw [h]
    simp only [Int.lt_irrefl, decide_false, decide_true, Bool.false_or, Bool.true_and]
    rfl
theorem part_ag {g : Gr} (hg : GrOK g) {Gs : List Gp} {S : List Int → Prop} (h : Part g Gs S) : Ag (fc g) earlierM Gs := by
  unfold Ag
  rw [pairwise_iff_getElem]
  intro i j hi hj hij
  have hd := pairwise_iff_getElem.1 h.apart i j hi hj hij
  exact ⟨earlier_eq hg (h.ok _ (getElem_mem hi)) (h.ok _ (getElem_mem hj)) hd, earlier_eq hg (h.ok _ (getElem_mem hj)) (h.ok _ (getElem_mem hi)) (fun w h1 h2 => hd w h2 h1)⟩
/-- What a list of the first k candidates is. -/
structure IsList (g : Gr) (k : Nat) (L : List Can) : Prop where
  sorted : Sorted L
  can : ∀ c ∈ L, IsCan g c
  len : L.length ≤ k
  rest : ∀ c, IsCan g c → c ∉ L → L.length = k ∧ ∀ d ∈ L, canLt d c = true
theorem isList_zero (g : Gr) : IsList g 0 [] := ⟨Pairwise.nil, (fun _ h => (not_mem_nil h).elim), Nat.le_refl _, fun _ _ _ => ⟨rfl, fun _ h => (not_mem_nil h).elim⟩⟩
theorem isList_none {g : Gr} (hg : GrOK g) (k : Nat) (h : hAt g 0 < 0) : IsList g k [] := by
  have hn := hg.n
  exact ⟨Pairwise.nil, (fun _ h => (not_mem_nil h).elim), Nat.zero_le _, fun c hc _ => by have := way_h hg _ 0 (by omega) (by omega) hc.1; omega⟩
theorem isList_unique {g : Gr} {k : Nat} {A B : List Can} (hA : IsList g k A) (hB : IsList g k B) : A = B := by
  have key : ∀ {A B : List Can}, IsList g k A → IsList g k B → ∀ c ∈ A, c ∈ B := by
    intro A B hA hB c hc
    refine Classical.byContradiction fun hn => ?_
    obtain ⟨h1, h2⟩ := hB.rest c (hA.can c hc) hn
    -- all of B lie ahead of c, so they lie in A; then A has more than k
    have hBA : ∀ d ∈ B, d ∈ A := fun d hd => Classical.byContradiction fun hn => by
      have := (hA.rest d (hB.can d hd) hn).2 c hc
      have h3 := canLt_asymm (h2 d hd)
      rw [this] at h3; cases h3
    have hs : A.filter (fun x => decide (x ∈ c :: B)) ~ c :: B := (perm_ext_iff_of_nodup (hA.sorted.nodup.filter _) (nodup_cons.2 ⟨hn, hB.sorted.nodup⟩)).2 fun d => by
      rw [mem_filter, decide_eq_true_iff]
      refine ⟨fun h => h.2, fun h => ⟨?_, h⟩⟩
      rcases mem_cons.1 h with rfl | hd
      · exact hc
      · exact hBA d hd
    have h3 := hs.length_eq
    have h4 := length_filter_le (fun x => decide (x ∈ c :: B)) A
    rw [length_cons] at h3
    have := hA.len
    omega
  exact sorted_same hA.sorted hB.sorted fun c => ⟨key hA hB c, key hB hA c⟩
theorem isList_take {g : Gr} {A : List Can} (hA : IsAll g A) (k : Nat) : IsList g k (A.take k) := by
  have hs : Sorted (A.take k ++ A.drop k) := by rw [take_append_drop]; exact hA.1
  refine ⟨(pairwise_append.1 hs).1, fun c hc => (hA.2 c).1 (mem_of_mem_take hc), by simp; omega, fun c hc hn => ?_⟩
  have hm := (hA.2 c).2 hc
  rw [← take_append_drop k A] at hm
  rcases mem_append.1 hm with h | h
  · exact absurd h hn
  · refine ⟨?_, fun d hd => (pairwise_append.1 hs).2.2 d hd c h⟩
    have : 0 < (A.drop k).length := length_pos_of_mem h
    rw [length_drop] at this
    rw [length_take]; omega
/-- The state at the head of List's loop: the candidates so far; the group whose first way comes next; the heap. -/
structure LInv (g : Gr) (L : List Can) (hd t : List Int) (r : Nat) (c : Int) (H : List Gp) : Prop where
  path : pathB g 0 hd = true
  first : FirstT g (endP g 0 hd) r t
  cost : c = sumC g (hd ++ t)
  part : Part g H (fun w => wayB g 0 w = true ∧ (⟨w, sumC g w⟩ : Can) ∉ L ∧ ¬ InH g hd r w)
  new : ∀ w, InH g hd r w → (⟨w, sumC g w⟩ : Can) ∉ L
  heap : HeapO (fc g) H
  sorted : Sorted L
  can : ∀ d ∈ L, IsCan g d
  ahead : ∀ d ∈ L, canLt d ⟨hd ++ t, c⟩ = true
  behind : ∀ G ∈ H, canLt ⟨hd ++ t, c⟩ (fc g G) = true
theorem linv_start {g : Gr} (hg : GrOK g) (h : 0 ≤ hAt g 0) : LInv g [] [] (bw g 0) 0 (hAt g 0) [] := by
  have hn := hg.n
  have hb := bw_way hg (v := 0) (by omega) (by omega) h
  refine ⟨rfl, first_next hg (v := 0) (by omega) (by omega) h, by rw [nil_append]; exact hb.2.symm, ⟨(fun _ h => (not_mem_nil h).elim), fun w => ⟨?_, fun ⟨_, h, _⟩ => (not_mem_nil h).elim⟩, Pairwise.nil⟩, fun _ _ h => (not_mem_nil h).elim,
    fun j _ hj => by simp at hj, Pairwise.nil, (fun _ h => (not_mem_nil h).elim), (fun _ h => (not_mem_nil h).elim), (fun _ h => (not_mem_nil h).elim)⟩
  rintro ⟨hw, _, hnot⟩
  exfalso
  exact hnot ⟨w, rfl, hw, fun i t' he => by subst he; exact (way_frL hg (v := 0) (by omega) (by omega) hw).1⟩
def pushAll (H : List Gp) (Gs : List Gp) : List Gp := Gs.foldl (pushM earlierM) H
theorem pushAll_spec {g : Gr} (hg : GrOK g) : ∀ (Gs H : List Gp) (S : List Int → Prop), HeapO (fc g) H → Part g (H ++ Gs) S → HeapO (fc g) (pushAll H Gs) ∧ pushAll H Gs ~ H ++ Gs := by
  intro Gs
  induction Gs with
  | nil => intro H S hH _; rw [append_nil]; exact ⟨hH, Perm.refl _⟩
  | cons G Gs ih =>
    intro H S hH hP
    have e : H ++ G :: Gs = (H ++ [G]) ++ Gs := by simp
    have hag : Ag (fc g) earlierM (H ++ [G]) := by
      have := part_ag hg hP
      rw [e] at this
      exact (pairwise_append.1 this).1
    obtain ⟨h1, h2⟩ := push_spec hH hag
    have hp2 : pushM earlierM H G ++ Gs ~ H ++ G :: Gs := by rw [e]; exact h2.append_right Gs
    obtain ⟨h3, h4⟩ := ih (pushM earlierM H G) S h1 (hP.perm hp2)
    exact ⟨h3, h4.trans hp2⟩
theorem LInv.way {g : Gr} (hg : GrOK g) {L : List Can} {hd t : List Int} {r : Nat} {c : Int} {H : List Gp} (h : LInv g L hd t r c H) : IsCan g ⟨hd ++ t, c⟩ := ⟨(first_way hg h.path h.first).1, h.cost⟩
theorem LInv.snoc {g : Gr} (hg : GrOK g) {L : List Can} {hd t : List Int} {r : Nat} {c : Int} {H : List Gp} (h : LInv g L hd t r c H) : Sorted (L ++ [⟨hd ++ t, c⟩]) ∧ (∀ d ∈ L ++ [⟨hd ++ t, c⟩], IsCan g d) :=
  ⟨pairwise_append.2 ⟨h.sorted, pairwise_singleton _ _, fun a ha b hb => by rw [mem_singleton.1 hb]; exact h.ahead a ha⟩, fun d hd => (mem_append.1 hd).elim (h.can d) (fun hd => by rw [mem_singleton.1 hd]; exact h.way hg)⟩
theorem LInv.after {g : Gr} (hg : GrOK g) {L : List Can} {hd t : List Int} {r : Nat} {c : Int} {H : List Gp} (h : LInv g L hd t r c H) {w : List Int} (hw : wayB g 0 w = true) (hn : (⟨w, sumC g w⟩ : Can) ∉ L ++ [⟨hd ++ t, c⟩]) : canLt ⟨hd ++ t, c⟩ ⟨w, sumC g w⟩ = true := by
  rw [mem_append, not_or] at hn
  by_cases hi : InH g hd r w
  · rcases first_least hg h.path h.first hi with rfl | h1
    · exact absurd (mem_singleton.2 (by rw [h.cost])) hn.2
    · rw [h.cost]; exact h1
  · obtain ⟨G, hG, hGw⟩ := (h.part.iff w).1 ⟨hw, hn.1, hi⟩
    have hok := h.part.ok G hG
    have h1 := h.behind G hG
    rcases first_least hg hok.path hok.first hGw with h2 | h2
    · have e : (⟨w, sumC g w⟩ : Can) = fc g G := by
        have h3 : w = fw g G := h2
        rw [h3, hok.sum hg]
        rfl
      rw [e]; exact h1
    · have e : (⟨G.head ++ G.link :: bw g (lkAt g G.link).to, sumC g (G.head ++ G.link :: bw g (lkAt g G.link).to)⟩ : Can) = fc g G := by
        have h3 : sumC g (G.head ++ G.link :: bw g (lkAt g G.link).to) = G.cost := hok.sum hg
        rw [h3]
        rfl
      rw [e] at h2
      exact canLt_trans h1 h2
theorem LInv.full {g : Gr} (hg : GrOK g) {L : List Can} {hd t : List Int} {r : Nat} {c : Int} {H : List Gp} (h : LInv g L hd t r c H) : IsList g (L.length + 1) (L ++ [⟨hd ++ t, c⟩]) := by
  obtain ⟨h1, h2⟩ := h.snoc hg
  refine ⟨h1, h2, by simp, fun d hc hn => ⟨by simp, fun e he => ?_⟩⟩
  obtain ⟨dl, dc⟩ := d
  obtain ⟨hw, hcs⟩ := hc
  simp only at hw hcs
  subst hcs
  have ha := h.after hg hw hn
  rcases mem_append.1 he with he | he
  · exact canLt_trans (h.ahead e he) ha
  · rw [mem_singleton.1 he]; exact ha
/-- What split's groups and the heap hold behind the way that was just taken. -/
theorem LInv.split {g : Gr} (hg : GrOK g) {L : List Can} {hd t : List Int} {r : Nat} {c : Int} {H : List Gp} (h : LInv g L hd t r c H) :
    HeapO (fc g) (pushAll H (spl g hd (endP g 0 hd) (sumC g hd) r t)) ∧ Part g (pushAll H (spl g hd (endP g 0 hd) (sumC g hd) r t)) (fun w => wayB g 0 w = true ∧ (⟨w, sumC g w⟩ : Can) ∉ L ++ [⟨hd ++ t, c⟩]) := by
  have hS := spl_part hg t hd _ _ r h.path rfl rfl h.first
  have hP := (h.part.app hS (fun w h1 h2 => h1.2.2 h2.1)).congr (T := fun w => wayB g 0 w = true ∧ (⟨w, sumC g w⟩ : Can) ∉ L ++ [⟨hd ++ t, c⟩]) fun w => by
    rw [mem_append, not_or, mem_singleton]
    constructor
    · rintro ⟨hw, h1, h2⟩
      by_cases hi : InH g hd r w
      · exact .inr ⟨hi, fun e => h2 (by rw [e, h.cost])⟩
      · exact .inl ⟨hw, h1, hi⟩
    · rintro (⟨hw, h1, h2⟩ | ⟨h1, h2⟩)
      · exact ⟨hw, h1, fun e => h2 (by injection e with e _; rw [e]; exact (first_way hg h.path h.first).2)⟩
      · obtain ⟨s, e, hw, _⟩ := id h1
        exact ⟨hw, h.new w h1, fun e => h2 (by injection e)⟩
  obtain ⟨h1, h2⟩ := pushAll_spec hg _ _ _ h.heap hP
  exact ⟨h1, hP.perm h2⟩
theorem LInv.done {g : Gr} (hg : GrOK g) {L : List Can} {hd t : List Int} {r : Nat} {c : Int} {H : List Gp} (h : LInv g L hd t r c H) (he : pushAll H (spl g hd (endP g 0 hd) (sumC g hd) r t) = []) {k : Nat} (hk : L.length + 1 ≤ k) : IsList g k (L ++ [⟨hd ++ t, c⟩]) := by
  obtain ⟨h1, h2⟩ := h.snoc hg
  obtain ⟨_, hP⟩ := h.split hg
  rw [he] at hP
  refine ⟨h1, h2, by simpa using hk, fun d hc hn => ?_⟩
  obtain ⟨dl, dc⟩ := d
  obtain ⟨hw, hcs⟩ := hc
  simp only at hw hcs
  subst hcs
  obtain ⟨_, hG, _⟩ := (hP.iff dl).1 ⟨hw, hn⟩
  cases hG
theorem LInv.next {g : Gr} (hg : GrOK g) {L : List Can} {hd t : List Int} {r : Nat} {c : Int} {H H' : List Gp} (h : LInv g L hd t r c H) (he : pushAll H (spl g hd (endP g 0 hd) (sumC g hd) r t) = H') (hne : 0 < H'.length) :
    LInv g (L ++ [⟨hd ++ t, c⟩]) (H'.getD 0 default).head ((H'.getD 0 default).link :: bw g (lkAt g (H'.getD 0 default).link).to) (H'.getD 0 default).rank (H'.getD 0 default).cost (popM earlierM H') := by
  obtain ⟨h1, h2⟩ := h.snoc hg
  obtain ⟨hH, hP⟩ := h.split hg
  rw [he] at hH hP
  obtain ⟨p1, p2, p3⟩ := pop_spec hne hH (part_ag hg hP)
  have hP' := hP.perm p2
  have hok := hP'.ok _ mem_cons_self
  have hap := pairwise_cons.1 hP'.apart
  generalize H'.getD 0 default = G at *
  have hsub : ∀ w, InH g G.head G.rank w → wayB g 0 w = true ∧ (⟨w, sumC g w⟩ : Can) ∉ L ++ [⟨hd ++ t, c⟩] := fun w hw => (hP'.iff w).2 ⟨G, mem_cons_self, hw⟩
  have hfw := first_way hg hok.path hok.first
  have hcost : G.cost = sumC g (G.head ++ G.link :: bw g (lkAt g G.link).to) := (hok.sum hg).symm
  refine ⟨hok.path, hok.first, hcost, ⟨fun X hX => hP'.ok X (mem_cons_of_mem _ hX), fun w => ?_, hap.2⟩, fun w hw => (hsub w hw).2, p1, h1, h2, fun d hd => ?_, fun X hX => ?_⟩
  · constructor
    · rintro ⟨hw, hn, hnot⟩
      obtain ⟨X, hX, hXw⟩ := (hP'.iff w).1 ⟨hw, hn⟩
      rcases mem_cons.1 hX with rfl | hX
      · exact absurd hXw hnot
      · exact ⟨X, hX, hXw⟩
    · rintro ⟨X, hX, hXw⟩
      obtain ⟨hw, hn⟩ := (hP'.iff w).2 ⟨X, mem_cons_of_mem _ hX, hXw⟩
      exact ⟨hw, hn, fun hGw => hap.1 X hX w hGw hXw⟩
  · have := (h.full hg).rest ⟨_, G.cost⟩ ⟨hfw.1, hcost⟩ (by rw [hcost]; exact (hsub _ hfw.2).2)
    exact this.2 d hd
  · have hXok := hP'.ok X (mem_cons_of_mem _ hX)
    have hle := p3 X (p2.mem_iff.1 (mem_cons_of_mem _ hX))
    rcases canLt_total (fc g G) (fc g X) with h3 | h3 | h3
    · exact h3
    · exfalso
      have hfX := first_way hg hXok.path hXok.first
      have e : G.head ++ G.link :: bw g (lkAt g G.link).to = X.head ++ X.link :: bw g (lkAt g X.link).to := by
        have := congrArg Can.links h3
        exact this
      refine hap.1 X hX _ hfw.2 ?_
      rw [e]; exact hfX.2
    · unfold LE at hle
      rw [hle] at h3
      cases h3
end Go.Proofs.Ytbikjmafddndpaa

/-
  The plain things of layers 15 and 16: the graphs that the laws draw.
-/
namespace Go.Proofs.Ytbikjmafddndpaa
open Go Go.RowKit

structure T3 where
  a : Int
  b : Int
  c : Int
deriving Inhabited
def RT3 (_ : World) (x : T3) (vs : List Value) : Prop := vs = [.int .u8 x.a, .int .u8 x.b, .int .u8 x.c]
theorem keeps_t3 : Keeps RT3 := fun _ _ _ _ _ h => h
def T3OK (x : T3) : Prop := (0 ≤ x.a ∧ x.a ≤ 255) ∧ (0 ≤ x.b ∧ x.b ≤ 255) ∧ (0 ≤ x.c ∧ x.c ≤ 255)
theorem SlR.t3 {w : World} {A : Option Addr} {k : Nat} {xs : List T3} (h : SlR 3 RT3 w A xs) (hk : k < xs.length) : ∃ b off x, A = some ⟨b, off, none⟩ ∧ b < w.heap.size ∧ xs[k]? = some x ∧
    w.cell? ⟨b, off + k * 3, none⟩ = some (.int .u8 x.a) ∧ w.cell? ⟨b, off + k * 3 + 1, none⟩ = some (.int .u8 x.b) ∧ w.cell? ⟨b, off + k * 3 + 2, none⟩ = some (.int .u8 x.c) := by
  obtain ⟨b, off, x, vs, hA, hlt, hx, hr, _, hv⟩ := h.at_ hk
  exact ⟨b, off, x, hA, hlt, hx, hv 0 _ (by rw [hr]; rfl), hv 1 _ (by rw [hr]; rfl), hv 2 _ (by rw [hr]; rfl)⟩

/-- The link that three numbers describe. -/
def mkLk (n : Int) (k : Nat) (p : T3) : Lk := ⟨p.a % (n - 1), p.a % (n - 1) + 1 + p.b % (n - 1 - p.a % (n - 1)), (k : Int), p.c % 5⟩
def mkTo (n : Int) (l : List T3) : Nat → List Lk
  | 0 => []
  | k + 1 => match l[k]? with
    | some p => mkTo n l k ++ [mkLk n k p]
    | none => mkTo n l k
theorem mk_succ {n : Int} {l : List T3} {k : Nat} {p : T3} (h : l[k]? = some p) : mkTo n l (k + 1) = mkTo n l k ++ [mkLk n k p] := by
  show (match l[k]? with | some p => mkTo n l k ++ [mkLk n k p] | none => mkTo n l k) = _
  rw [h]
theorem mk_len {n : Int} {l : List T3} : ∀ k, (mkTo n l k).length ≤ k
  | 0 => by simp [mkTo]
  | k + 1 => by
    have := mk_len (n := n) (l := l) k
    unfold mkTo
    split
    · simp; omega
    · omega
def madeG (x : Int) (l : List T3) : Gr := ⟨1 + x % 7, if 1 < 1 + x % 7 then mkTo (1 + x % 7) l (min l.length 14) else []⟩
/-- The bounds of a link that is made. -/
structure LkM (n : Int) (l : Lk) : Prop where
  fr : 0 ≤ l.fr ∧ l.fr ≤ 5
  lt : l.fr < l.to
  to : l.to < n
  lb : 0 ≤ l.lb ∧ l.lb ≤ 13
  cost : 0 ≤ l.cost ∧ l.cost ≤ 4
theorem mkLk_ok {n : Int} {k : Nat} {p : T3} (hp : T3OK p) (hn : 1 < n ∧ n ≤ 7) (hk : k < 14) : LkM n (mkLk n k p) := by
  obtain ⟨⟨a1, a2⟩, ⟨b1, b2⟩, c1, c2⟩ := hp
  have h1 := Int.emod_nonneg p.a (show n - 1 ≠ 0 by omega)
  have h2 := Int.emod_lt_of_pos p.a (show 0 < n - 1 by omega)
  have h3 := Int.emod_nonneg p.b (show n - 1 - p.a % (n - 1) ≠ 0 by omega)
  have h4 := Int.emod_lt_of_pos p.b (show 0 < n - 1 - p.a % (n - 1) by omega)
  unfold mkLk
  exact ⟨by dsimp only; omega, by dsimp only; omega, by dsimp only; omega, by dsimp only; omega, by dsimp only; omega⟩
theorem mk_ok {n : Int} {l : List T3} (hl : ∀ p ∈ l, T3OK p) (hn : 1 < n ∧ n ≤ 7) : ∀ k, k ≤ 14 → ∀ x ∈ mkTo n l k, LkM n x := by
  intro k
  induction k with
  | zero => intro _ x hx; simp [mkTo] at hx
  | succ k ih =>
    intro hk x hx
    unfold mkTo at hx
    split at hx
    · rename_i p hp
      rcases List.mem_append.1 hx with h | h
      · exact ih (by omega) x h
      · obtain rfl := List.mem_singleton.1 h
        exact mkLk_ok (hl p (List.mem_of_getElem? hp)) hn (by omega)
    · exact ih (by omega) x hx
theorem madeG_m {x : Int} {l : List T3} (hl : ∀ p ∈ l, T3OK p) : ∀ k ∈ (madeG x l).ls, LkM (madeG x l).n k := by
  intro k hk
  unfold madeG at hk ⊢
  dsimp only at hk ⊢
  split at hk
  · exact mk_ok hl (by omega) _ (Nat.min_le_right _ _) k hk
  · cases hk
theorem madeG_n (x : Int) (l : List T3) : 1 ≤ (madeG x l).n ∧ (madeG x l).n ≤ 7 := by unfold madeG; dsimp only; omega
theorem madeG_len (x : Int) (l : List T3) : (madeG x l).ls.length ≤ 14 := by
  unfold madeG
  dsimp only
  split
  · exact Nat.le_trans (mk_len _) (Nat.min_le_right _ _)
  · simp
theorem madeG_ok {x : Int} {l : List T3} (hl : ∀ p ∈ l, T3OK p) : GrOK (madeG x l) := by
  have h1 := madeG_n x l
  have h2 := madeG_len x l
  refine ⟨by omega, by omega, fun k hk => ?_⟩
  obtain ⟨h3, h4, h5, h6, h7⟩ := madeG_m hl k hk
  exact ⟨by omega, h4, h5, by omega, by omega⟩
theorem madeG_all {x : Int} {l : List T3} (hl : ∀ p ∈ l, T3OK p) {most : Nat} (hm : 168 ≤ most) : IsAll (madeG x l) (orderedM (waysM (madeG x l) most (madeG x l).n.toNat 0)) := ref_all (madeG_ok hl) (madeG_len x l) hm
end Go.Proofs.Ytbikjmafddndpaa

/-
  As XOrdT; an operation of 'ts' may wait for another one of 'ts' in place of what only reads.
-/
namespace Go.Proofs.Ytbikjmafddndpaa
open Go Go.RowKit

def goodFromU (ops : Array Oper) (ts : List Nat) : Array Bool → List (Nat × Bool) → Bool
  | listed, [] => (Region.ready .any ops listed).isEmpty
  | listed, (i, true) :: l => Region.ready .any ops listed == [i] && goodFromU ops ts (listed.setIfInBounds i true) l
  | listed, (i, false) :: l => (Region.ready .any ops listed).contains i && Region.free .any ops listed i && ts.all (fun t => (waitsFor ops t i || ts.any (fun t' => waitsFor ops t t')) && !(listed.getD t true)) && goodFromU ops ts (listed.setIfInBounds i true) l
def goodOrdU (ops : Array Oper) (ts : List Nat) (l : List (Nat × Bool)) : Bool := decide (l.length ≤ ops.size) && goodFromU ops ts (Array.replicate ops.size false) l

section
variable {P : Program} {ops : Array Oper} {Q : Exit → Act → World → Prop} {S : World → Prop} {ts : List Nat}
theorem wpAnyT_firstU {i : Nat} {oi : Oper} {v : Value} (hi : ops[i]? = some oi) (hsel : ∀ (j : Nat) (o : Oper) cs b, ops[j]? = some o → o.op ≠ .select cs b)
    (hQ : ∀ c a w, Q (.panic c) (a.put oi.dst v) w → Q (.panic c) a w) (hts : ∀ t ∈ ts, waitsFor ops t i = true ∨ ∃ t' ∈ ts, waitsFor ops t t' = true) :
    ∀ (fuel : Nat) (listed : Array Bool) (a : Act) (w : World),
      (∀ j oj, ops[j]? = some oj → j ≠ i → listed.getD j true = false → (∀ e ∈ oj.after, Region.binds .any e = true → e.on ≠ i) → oi.apart ops oj = true) →
      (∀ t ∈ ts, listed.getD t true = false) → i ∈ Region.ready .any ops listed → YieldsIf P ops S oi v a → S w →
      wpAnyT P ops Q S ts fuel (listed.setIfInBounds i true) (a.put oi.dst v) w → wpAnyT P ops Q S ts (fuel + 1) listed a w := by
  intro fuel
  induction fuel with
  | zero =>
    intro listed a w _ _ hr hy hS H
    refine ⟨fun h => (by rw [h] at hr; cases hr), fun j hj => ?_⟩
    by_cases hji : j = i
    · subst hji; exact hy.wpOp hi hS ⟨fun _ => hS, H⟩
    · have h1 := ready_mono hj hji
      rw [H.1] at h1
      cases h1
  | succ fuel ih =>
    intro listed a w hfree hun0 hr hy hS H
    refine ⟨fun h => (by rw [h] at hr; cases hr), fun j hj => ?_⟩
    by_cases hji : j = i
    · subst hji; exact hy.wpOp hi hS ⟨fun _ => hS, H⟩
    · obtain ⟨hjun, oj, hoj, hall⟩ := mem_ready.1 hj
      have hiun := (mem_ready.1 hr).1
      have hnot : ∀ e ∈ oj.after, Region.binds .any e = true → e.on ≠ i := fun e he hb heq => by
        have h2 := hall e he hb
        rw [heq] at h2
        rcases Nat.lt_or_ge i listed.size with h' | h'
        · simp [h'] at hiun h2; rw [hiun] at h2; cases h2
        · simp [Array.getElem?_eq_none h'] at h2
      have hjt : ts.contains j = false := by
        cases hc : ts.contains j
        · rfl
        · exfalso
          rcases hts j (by simpa using hc) with hw | ⟨t', ht', hw⟩
          · unfold waitsFor at hw
            simp only [hoj] at hw
            obtain ⟨k, hk, he⟩ := Array.any_eq_true.1 hw
            simp only [Bool.and_eq_true, beq_iff_eq] at he
            exact absurd he.2 (hnot _ (Array.getElem_mem hk) he.1)
          · unfold waitsFor at hw
            simp only [hoj] at hw
            obtain ⟨k, hk, he⟩ := Array.any_eq_true.1 hw
            simp only [Bool.and_eq_true, beq_iff_eq] at he
            have h2 := hall _ (Array.getElem_mem hk) he.1
            rw [he.2] at h2
            have h3 := hun0 t' ht'
            rcases Nat.lt_or_ge t' listed.size with h' | h'
            · simp [h'] at h2 h3; rw [h3] at h2; cases h2
            · simp [Array.getElem?_eq_none h'] at h2
      have h2 := wpOp_putIf hoj (hfree j oj hoj hji hjun hnot) (fun cs b => hsel i oi cs b hi) (fun cs b => hsel j oj cs b hoj) hQ hy (H.2 j (ready_mono hj hji))
      have hfree' : ∀ k ok, ops[k]? = some ok → k ≠ i → (listed.setIfInBounds j true).getD k true = false →
          (∀ e ∈ ok.after, Region.binds .any e = true → e.on ≠ i) → oi.apart ops ok = true := fun k ok hk hki hun hno => by
        refine hfree k ok hk hki ?_ hno
        by_cases hjk : j = k
        · subst hjk; exact hjun
        · rw [getD_set_ne true hjk] at hun; exact hun
      refine wpOp_mono (fun a' w' h3 => ?_) h2
      have hS' := h3.2.1 hjt
      refine ⟨fun _ => hS', ih (listed.setIfInBounds j true) a' w' hfree' (fun t ht => by rw [getD_set_ne true (fun e => by subst e; simp [ht] at hjt)]; exact hun0 t ht) (ready_mono hr (Ne.symm hji)) h3.1 hS' ?_⟩
      rw [Array.setIfInBounds_comm _ _ hji]
      exact h3.2.2

theorem wpAnyU_of_ord (hs : Region.noSelect ops = true) (hQ : ∀ d v c a w, Q (.panic c) (Act.put a (some d) v) w → Q (.panic c) a w) :
    ∀ (l : List (Nat × Bool)) (fuel : Nat) (listed : Array Bool) (a : Act) (w : World), l.length ≤ fuel → goodFromU ops ts listed l = true → wpOrdT P ops Q S ts l a w →
      wpAnyT P ops Q S ts fuel listed a w := by
  intro l
  induction l with
  | nil =>
    intro fuel listed a w _ hg h
    have hr : Region.ready .any ops listed = [] := by simpa [goodFromU] using hg
    cases fuel with
    | zero => exact ⟨hr, h⟩
    | succ fuel => exact ⟨fun _ => h, by rw [hr]; simp⟩
  | cons x l ih =>
    intro fuel listed a w hf hg h
    obtain ⟨fuel, rfl⟩ : ∃ f, fuel = f + 1 := ⟨fuel - 1, by simp at hf; omega⟩
    have hf' : l.length ≤ fuel := by simp at hf; omega
    obtain ⟨i, b⟩ := x
    cases b with
    | true =>
      simp only [goodFromU, Bool.and_eq_true, beq_iff_eq] at hg
      refine ⟨fun h0 => absurd (h0.symm.trans hg.1) (by simp), fun j hj => ?_⟩
      rw [hg.1] at hj
      obtain rfl : j = i := by simpa using hj
      exact wpOp_mono (fun a' w' h' => ⟨h'.1, ih fuel _ a' w' hf' hg.2 h'.2⟩) h
    | false =>
      simp only [goodFromU, Bool.and_eq_true, List.all_eq_true] at hg
      obtain ⟨oi, v, hi, hy, hS, h'⟩ := h
      refine wpAnyT_firstU hi (Region.noSelect_spec hs) (fun c a w hh => ?_) (fun t ht => by have := (hg.1.2 t ht).1; simpa using this) fuel listed a w (Region.free_spec hi hg.1.1.2) (fun t ht => by have := (hg.1.2 t ht).2; simpa using this) (by simpa using hg.1.1.1) hy hS (ih fuel _ _ w hf' hg.2 h')
      cases hd : oi.dst with
      | none => rw [hd] at hh; exact hh
      | some d => rw [hd] at hh; exact hQ d v c a w hh
theorem ordU_below {id : Nat} {a : Act} {w : World} (ts : List Nat) (l : List (Nat × Bool)) (hm : P.follows .mixedOrders = true) (hs : Region.noSelect ops = true) (hg : goodOrdU ops ts l = true)
    (hQ : ∀ d v c a w, Q (.panic c) (Act.put a (some d) v) w → Q (.panic c) a w) (h : ∀ W, Below w.heap.size w W → wpOrdT P ops Q (Below w.heap.size w) ts l a W) : (Code.region id ops true).wp P Q a w := by
  unfold goodOrdU at hg
  simp only [Bool.and_eq_true, decide_eq_true_eq] at hg
  exact wp_region_any hm (wpAny_of_T _ _ _ _ (wpAnyU_of_ord hs hQ l _ _ a _ hg.1 hg.2 (h _ (Below.refl _ _).drew)))

end
end Go.Proofs.Ytbikjmafddndpaa

/-
  A region that draws its order and ends in stores, some of whose reading operations may come up behind a store: R holds always, S as long as no store of 'ts' has come up.
-/
namespace Go.Proofs.Ytbikjmafddndpaa
open Go Go.RowKit

def goodFromV (ops : Array Oper) (ts : List Nat) : Array Bool → List (Nat × Option Bool) → Bool
  | listed, [] => (Region.ready .any ops listed).isEmpty
  | listed, (i, some true) :: l => Region.ready .any ops listed == [i] && goodFromV ops ts (listed.setIfInBounds i true) l
  | listed, (i, some false) :: l => (Region.ready .any ops listed).contains i && Region.free .any ops listed i && ts.all (fun t => (waitsFor ops t i || ts.any (fun t' => waitsFor ops t t')) && !(listed.getD t true)) && goodFromV ops ts (listed.setIfInBounds i true) l
  | listed, (i, none) :: l => (Region.ready .any ops listed).contains i && Region.free .any ops listed i && goodFromV ops ts (listed.setIfInBounds i true) l
def goodOrdV (ops : Array Oper) (ts : List Nat) (l : List (Nat × Option Bool)) : Bool := decide (l.length ≤ ops.size) && goodFromV ops ts (Array.replicate ops.size false) l
section
variable {P : Program} {ops : Array Oper} {Q : Exit → Act → World → Prop} {S R : World → Prop} {ts : List Nat}
def wpAnyV (P : Program) (ops : Array Oper) (Q : Exit → Act → World → Prop) (S R : World → Prop) (ts : List Nat) : Nat → Array Bool → Act → World → Prop
  | 0, listed, a, w => Region.ready .any ops listed = [] ∧ Q .normal a w
  | fuel + 1, listed, a, w =>
    (Region.ready .any ops listed = [] → Q .normal a w) ∧
    ∀ i ∈ Region.ready .any ops listed, wpOp P ops Q i (fun a' w' => (R w' ∧ (S w → ts.contains i = false → S w')) ∧ wpAnyV P ops Q S R ts fuel (listed.setIfInBounds i true) a' w') a w
theorem wpAny_of_V : ∀ (fuel : Nat) (listed : Array Bool) (a : Act) (w : World), wpAnyV P ops Q S R ts fuel listed a w → wpAny P .any ops Q fuel listed a w
  | 0, _, _, _, h => h
  | fuel + 1, _, _, _, h => ⟨h.1, fun i hi => wpOp_mono (fun a' w' h' => wpAny_of_V fuel _ a' w' h'.2) (h.2 i hi)⟩
theorem firstV1 {i : Nat} {oi : Oper} {v : Value} (hi : ops[i]? = some oi) (hsel : ∀ (j : Nat) (o : Oper) cs b, ops[j]? = some o → o.op ≠ .select cs b)
    (hQ : ∀ c a w, Q (.panic c) (a.put oi.dst v) w → Q (.panic c) a w) (hts : ∀ t ∈ ts, waitsFor ops t i = true ∨ ∃ t' ∈ ts, waitsFor ops t t' = true) :
    ∀ (fuel : Nat) (listed : Array Bool) (a : Act) (w : World),
      (∀ j oj, ops[j]? = some oj → j ≠ i → listed.getD j true = false → (∀ e ∈ oj.after, Region.binds .any e = true → e.on ≠ i) → oi.apart ops oj = true) →
      (∀ t ∈ ts, listed.getD t true = false) → i ∈ Region.ready .any ops listed → YieldsIf P ops S oi v a → S w → R w →
      wpAnyV P ops Q S R ts fuel (listed.setIfInBounds i true) (a.put oi.dst v) w → wpAnyV P ops Q S R ts (fuel + 1) listed a w := by
  intro fuel
  induction fuel with
  | zero =>
    intro listed a w _ _ hr hy hS hR H
    refine ⟨fun h => (by rw [h] at hr; cases hr), fun j hj => ?_⟩
    by_cases hji : j = i
    · subst hji; exact hy.wpOp hi hS ⟨⟨hR, fun h _ => h⟩, H⟩
    · have h1 := ready_mono hj hji
      rw [H.1] at h1
      cases h1
  | succ fuel ih =>
    intro listed a w hfree hun0 hr hy hS hR H
    refine ⟨fun h => (by rw [h] at hr; cases hr), fun j hj => ?_⟩
    by_cases hji : j = i
    · subst hji; exact hy.wpOp hi hS ⟨⟨hR, fun h _ => h⟩, H⟩
    · obtain ⟨hjun, oj, hoj, hall⟩ := mem_ready.1 hj
      have hiun := (mem_ready.1 hr).1
      have hnot : ∀ e ∈ oj.after, Region.binds .any e = true → e.on ≠ i := fun e he hb heq => by
        have h2 := hall e he hb
        rw [heq] at h2
        rcases Nat.lt_or_ge i listed.size with h' | h'
        · simp [h'] at hiun h2; rw [hiun] at h2; cases h2
        · simp [Array.getElem?_eq_none h'] at h2
      have hjt : ts.contains j = false := by
        cases hc : ts.contains j
        · rfl
        · exfalso
          rcases hts j (by simpa using hc) with hw | ⟨t', ht', hw⟩
          · unfold waitsFor at hw
            simp only [hoj] at hw
            obtain ⟨k, hk, he⟩ := Array.any_eq_true.1 hw
            simp only [Bool.and_eq_true, beq_iff_eq] at he
            exact absurd he.2 (hnot _ (Array.getElem_mem hk) he.1)
          · unfold waitsFor at hw
            simp only [hoj] at hw
            obtain ⟨k, hk, he⟩ := Array.any_eq_true.1 hw
            simp only [Bool.and_eq_true, beq_iff_eq] at he
            have h2 := hall _ (Array.getElem_mem hk) he.1
            rw [he.2] at h2
            have h3 := hun0 t' ht'
            rcases Nat.lt_or_ge t' listed.size with h' | h'
            · simp [h'] at h2 h3; rw [h3] at h2; cases h2
            · simp [Array.getElem?_eq_none h'] at h2
      have h2 := wpOp_putIf hoj (hfree j oj hoj hji hjun hnot) (fun cs b => hsel i oi cs b hi) (fun cs b => hsel j oj cs b hoj) hQ hy (H.2 j (ready_mono hj hji))
      have hfree' : ∀ k ok, ops[k]? = some ok → k ≠ i → (listed.setIfInBounds j true).getD k true = false →
          (∀ e ∈ ok.after, Region.binds .any e = true → e.on ≠ i) → oi.apart ops ok = true := fun k ok hk hki hun hno => by
        refine hfree k ok hk hki ?_ hno
        by_cases hjk : j = k
        · subst hjk; exact hjun
        · rw [getD_set_ne true hjk] at hun; exact hun
      refine wpOp_mono (fun a' w' h3 => ?_) h2
      have hS' := h3.2.1.2 hS hjt
      have hR' := h3.2.1.1
      refine ⟨h3.2.1, ih (listed.setIfInBounds j true) a' w' hfree' (fun t ht => by rw [getD_set_ne true (fun e => by subst e; simp [ht] at hjt)]; exact hun0 t ht) (ready_mono hr (Ne.symm hji)) h3.1 hS' hR' ?_⟩
      rw [Array.setIfInBounds_comm _ _ hji]
      exact h3.2.2

theorem firstV2 {i : Nat} {oi : Oper} {v : Value} (hi : ops[i]? = some oi) (hsel : ∀ (j : Nat) (o : Oper) cs b, ops[j]? = some o → o.op ≠ .select cs b)
    (hQ : ∀ c a w, Q (.panic c) (a.put oi.dst v) w → Q (.panic c) a w) :
    ∀ (fuel : Nat) (listed : Array Bool) (a : Act) (w : World),
      (∀ j oj, ops[j]? = some oj → j ≠ i → listed.getD j true = false → (∀ e ∈ oj.after, Region.binds .any e = true → e.on ≠ i) → oi.apart ops oj = true) →
      i ∈ Region.ready .any ops listed → YieldsIf P ops R oi v a → R w →
      wpAnyV P ops Q S R ts fuel (listed.setIfInBounds i true) (a.put oi.dst v) w → wpAnyV P ops Q S R ts (fuel + 1) listed a w := by
  intro fuel
  induction fuel with
  | zero =>
    intro listed a w _ hr hy hR H
    refine ⟨fun h => (by rw [h] at hr; cases hr), fun j hj => ?_⟩
    by_cases hji : j = i
    · subst hji; exact hy.wpOp hi hR ⟨⟨hR, fun h _ => h⟩, H⟩
    · have h1 := ready_mono hj hji
      rw [H.1] at h1
      cases h1
  | succ fuel ih =>
    intro listed a w hfree hr hy hR H
    refine ⟨fun h => (by rw [h] at hr; cases hr), fun j hj => ?_⟩
    by_cases hji : j = i
    · subst hji; exact hy.wpOp hi hR ⟨⟨hR, fun h _ => h⟩, H⟩
    · obtain ⟨hjun, oj, hoj, hall⟩ := mem_ready.1 hj
      have hiun := (mem_ready.1 hr).1
      have hnot : ∀ e ∈ oj.after, Region.binds .any e = true → e.on ≠ i := fun e he hb heq => by
        have h2 := hall e he hb
        rw [heq] at h2
        rcases Nat.lt_or_ge i listed.size with h' | h'
        · simp [h'] at hiun h2; rw [hiun] at h2; cases h2
        · simp [Array.getElem?_eq_none h'] at h2
      have h2 := wpOp_putIf hoj (hfree j oj hoj hji hjun hnot) (fun cs b => hsel i oi cs b hi) (fun cs b => hsel j oj cs b hoj) hQ hy (H.2 j (ready_mono hj hji))
      have hfree' : ∀ k ok, ops[k]? = some ok → k ≠ i → (listed.setIfInBounds j true).getD k true = false →
          (∀ e ∈ ok.after, Region.binds .any e = true → e.on ≠ i) → oi.apart ops ok = true := fun k ok hk hki hun hno => by
        refine hfree k ok hk hki ?_ hno
        by_cases hjk : j = k
        · subst hjk; exact hjun
        · rw [getD_set_ne true hjk] at hun; exact hun
      refine wpOp_mono (fun a' w' h3 => ?_) h2
      have hR' := h3.2.1.1
      refine ⟨h3.2.1, ih (listed.setIfInBounds j true) a' w' hfree' (ready_mono hr (Ne.symm hji)) h3.1 hR' ?_⟩
      rw [Array.setIfInBounds_comm _ _ hji]
      exact h3.2.2


def wpOrdV (P : Program) (ops : Array Oper) (Q : Exit → Act → World → Prop) (S R : World → Prop) (ts : List Nat) : List (Nat × Option Bool) → Act → World → Prop
  | [], a, w => Q .normal a w
  | (i, some true) :: l, a, w => wpOp P ops Q i (fun a' w' => (R w' ∧ (S w → ts.contains i = false → S w')) ∧ wpOrdV P ops Q S R ts l a' w') a w
  | (i, some false) :: l, a, w => ∃ oi v, ops[i]? = some oi ∧ YieldsIf P ops S oi v a ∧ S w ∧ wpOrdV P ops Q S R ts l (a.put oi.dst v) w
  | (i, none) :: l, a, w => ∃ oi v, ops[i]? = some oi ∧ YieldsIf P ops R oi v a ∧ wpOrdV P ops Q S R ts l (a.put oi.dst v) w
theorem wpAnyV_of_ord (hs : Region.noSelect ops = true) (hQ : ∀ d v c a w, Q (.panic c) (Act.put a (some d) v) w → Q (.panic c) a w) :
    ∀ (l : List (Nat × Option Bool)) (fuel : Nat) (listed : Array Bool) (a : Act) (w : World), l.length ≤ fuel → goodFromV ops ts listed l = true → R w → wpOrdV P ops Q S R ts l a w →
      wpAnyV P ops Q S R ts fuel listed a w := by
  intro l
  induction l with
  | nil =>
    intro fuel listed a w _ hg _ h
    have hr : Region.ready .any ops listed = [] := by simpa [goodFromV] using hg
    cases fuel with
    | zero => exact ⟨hr, h⟩
    | succ fuel => exact ⟨fun _ => h, by rw [hr]; simp⟩
  | cons x l ih =>
    intro fuel listed a w hf hg hR h
    obtain ⟨fuel, rfl⟩ : ∃ f, fuel = f + 1 := ⟨fuel - 1, by simp at hf; omega⟩
    have hf' : l.length ≤ fuel := by simp at hf; omega
    obtain ⟨i, b⟩ := x
    rcases b with _ | _ | _
    · simp only [goodFromV, Bool.and_eq_true] at hg
      obtain ⟨oi, v, hi, hy, h'⟩ := h
      refine firstV2 hi (Region.noSelect_spec hs) (fun c a w hh => ?_) fuel listed a w (Region.free_spec hi hg.1.2) (by simpa using hg.1.1) hy hR (ih fuel _ _ w hf' hg.2 hR h')
      cases hd : oi.dst with
      | none => rw [hd] at hh; exact hh
      | some d => rw [hd] at hh; exact hQ d v c a w hh
    · simp only [goodFromV, Bool.and_eq_true, List.all_eq_true] at hg
      obtain ⟨oi, v, hi, hy, hS, h'⟩ := h
      refine firstV1 hi (Region.noSelect_spec hs) (fun c a w hh => ?_) (fun t ht => by have := (hg.1.2 t ht).1; simpa using this) fuel listed a w (Region.free_spec hi hg.1.1.2) (fun t ht => by have := (hg.1.2 t ht).2; simpa using this) (by simpa using hg.1.1.1) hy hS hR (ih fuel _ _ w hf' hg.2 hR h')
      cases hd : oi.dst with
      | none => rw [hd] at hh; exact hh
      | some d => rw [hd] at hh; exact hQ d v c a w hh
    · simp only [goodFromV, Bool.and_eq_true, beq_iff_eq] at hg
      refine ⟨fun h0 => absurd (h0.symm.trans hg.1) (by simp), fun j hj => ?_⟩
      rw [hg.1] at hj
      obtain rfl : j = i := by simpa using hj
      exact wpOp_mono (fun a' w' h' => ⟨h'.1, ih fuel _ a' w' hf' hg.2 h'.1.1 h'.2⟩) h
theorem ordV_start {id : Nat} {a : Act} {w : World} (S R : World → Prop) (ts : List Nat) (l : List (Nat × Option Bool)) (hm : P.follows .mixedOrders = true) (hs : Region.noSelect ops = true) (hg : goodOrdV ops ts l = true)
    (hQ : ∀ d v c a w, Q (.panic c) (Act.put a (some d) v) w → Q (.panic c) a w) (hR : R w.drew) (h : wpOrdV P ops Q S R ts l a w.drew) : (Code.region id ops true).wp P Q a w := by
  unfold goodOrdV at hg
  simp only [Bool.and_eq_true, decide_eq_true_eq] at hg
  exact wp_region_any hm (wpAny_of_V _ _ _ _ (wpAnyV_of_ord hs hQ l _ _ a _ hg.1 hg.2 hR h))
theorem ordV_nil {a : Act} {w : World} (h : Q .normal a w) : wpOrdV P ops Q S R ts [] a w := h
theorem ordV_takeS {i : Nat} {o : Oper} {v : Value} {l : List (Nat × Option Bool)} {a : Act} {w : World} (ho' : nthO ops.toList i = some o) (hw : Region.wanted o (yielded ops a.tmps) = true) (hS : S w)
    (hy : ∀ W, S W → (execOp a.eval o).run P W = .ok (.value v) W)
    (h : wpOrdV P ops Q S R ts l (a.put o.dst v) w) : wpOrdV P ops Q S R ts ((i, some false) :: l) a w := ⟨o, v, nthO_spec ho', .inl ⟨hw, hy⟩, hS, h⟩
theorem ordV_takeR {i : Nat} {o : Oper} {v : Value} {l : List (Nat × Option Bool)} {a : Act} {w : World} (ho' : nthO ops.toList i = some o) (hw : Region.wanted o (yielded ops a.tmps) = true)
    (hy : ∀ W, R W → (execOp a.eval o).run P W = .ok (.value v) W)
    (h : wpOrdV P ops Q S R ts l (a.put o.dst v) w) : wpOrdV P ops Q S R ts ((i, none) :: l) a w := ⟨o, v, nthO_spec ho', .inl ⟨hw, hy⟩, h⟩
theorem ordV_call {i : Nat} {o : Oper} {l : List (Nat × Option Bool)} {a : Act} {w : World} (ho' : nthO ops.toList i = some o) (hw : Region.wanted o (yielded ops a.tmps) = true)
    (h : ∀ K' : Act → World → Prop, Shut (∀ a w', R w' → (S w → ts.contains i = false → S w') → wpOrdV P ops Q S R ts l a w' → K' a w') → Oper.wp P o a w K' Q) : wpOrdV P ops Q S R ts ((i, some true) :: l) a w := by
  have ho := nthO_spec ho'
  show wpOp P ops Q i _ a w
  refine wpOp_step ho fun K' hK => ?_
  rw [if_pos hw]
  exact h K' fun a w' hR hS hW => hK a w' ⟨⟨hR, hS⟩, hW⟩
end
end Go.Proofs.Ytbikjmafddndpaa

/-
  Returns of a struct that lies in a block of the call's own.
-/
namespace Go.Proofs.Ytbikjmafddndpaa
open Go Go.RowKit

section
variable {P : Program} {fn : Func} {p u : Tmp} {ty : TypeId} {R : Ending → World → Prop} {a : Act} {w : World} {g : Nat} {t : TypeId} {cs : Array Value} {d : TypeDesc}
theorem ret_cell (hB : Blk w g t cs) (h : fn.results = #[.cell p ty]) (hp : a.tmps.getD p undef = .pointer (some ⟨g, 0, none⟩))
    (hu : P.underlying ty = some d) (hd : (match d with | .struct _ | .array _ _ => true | _ => false) = true) (hi : (P.info? ty).map (·.size) = some cs.size) (hdf : a.defers = [])
    (hR : R (.returned (.agg cs)) w) : bodyPost P fn R .ret a w :=
  bodyPost_ret (results_cell_row h a.tmps w g t cs (0, 0) d hp hB hu hd hi) hdf hR
theorem ret_cell_tmp (hB : Blk w g t cs) (h : fn.results = #[.cell p ty, .tmp u]) (hp : a.tmps.getD p undef = .pointer (some ⟨g, 0, none⟩))
    (hu : P.underlying ty = some d) (hd : (match d with | .struct _ | .array _ _ => true | _ => false) = true) (hi : (P.info? ty).map (·.size) = some cs.size) (hdf : a.defers = [])
    (hR : R (.returned (.tuple #[.agg cs, a.tmps.getD u undef])) w) : bodyPost P fn R .ret a w := by
  refine bodyPost_ret ?_ hdf hR
  have e : ({ fn with results := #[.cell p ty] } : Func).results = #[.cell p ty] := rfl
  rw [results_cell_tmp h]
  have h1 : (loadVar ty ⟨g, 0, none⟩).run P w = .ok (.agg cs) w := run_loadVar_row w g t ty cs (0, 0) d hB hu hd hi
  rw [hp]
  show (((asAddr (.pointer (some ⟨g, 0, none⟩))).run P w).andThen _) = _
  simp only [asAddr, Sem.run_pure, Result.andThen_ok, h1]
end
end Go.Proofs.Ytbikjmafddndpaa

/-
  The plain law of layer 15: split's loop over a way.
-/
namespace Go.Proofs.Ytbikjmafddndpaa
open List

theorem way_at {g : Gr} (hg : GrOK g) {W : List Int} (hW : wayB g 0 W = true) {j : Nat} {i : Int} (hj : W[j]? = some i) :
    i ∈ frL g (endP g 0 (W.take j)) ∧ endP g 0 (W.take (j + 1)) = (lkAt g i).to ∧ sumC g (W.take (j + 1)) = sumC g (W.take j) + (lkAt g i).cost ∧ 0 ≤ endP g 0 (W.take j) ∧ endP g 0 (W.take j) < g.n ∧
      0 ≤ sumC g (W.take j) ∧ sumC g (W.take j) ≤ 1000000 * g.n ∧ pathB g 0 (W.take j) = true ∧ W.drop j = i :: W.drop (j + 1) ∧ W.take (j + 1) = W.take j ++ [i] := by
  obtain ⟨hl, rfl⟩ := List.getElem?_eq_some_iff.1 hj
  have hd : W.drop j = W[j] :: W.drop (j + 1) := drop_eq_getElem_cons hl
  have ht : W.take (j + 1) = W.take j ++ [W[j]] := take_succ_eq_append_getElem hl
  have hw : wayB g 0 (W.take j ++ W[j] :: W.drop (j + 1)) = true := by rw [← hd, take_append_drop]; exact hW
  rw [way_app, Bool.and_eq_true] at hw
  have hb := end_bd hg hw.1
  refine ⟨(way_frL hg hb.1 hb.2.1 hw.2).1, ?_, ?_, hb.1, hb.2.1, hb.2.2.1, hb.2.2.2.1, hw.1, hd, ht⟩
  · rw [ht, endP_app]; rfl
  · rw [ht, sumC_app]; simp [sumC]
/-- The rank at the place j of the way. -/
def rkAt (hl r j : Nat) : Nat := if j = hl then r else 0
def SpInv (g : Gr) (W : List Int) (hl r : Nat) (L0 R : List Gp) (j : Nat) (L : List Gp) : Prop :=
  if j < hl then L = L0 else pushAll L (spl g (W.take j) (endP g 0 (W.take j)) (sumC g (W.take j)) (rkAt hl r j) (W.drop j)) = R
theorem SpInv.start {g : Gr} {hd t : List Int} {r : Nat} {L0 R : List Gp} (hR : pushAll L0 (spl g hd (endP g 0 hd) (sumC g hd) r t) = R) : ∀ j, j = hd.length → SpInv g (hd ++ t) hd.length r L0 R j L0 := by
  rintro j rfl
  unfold SpInv
  rw [if_neg (by omega), take_left, drop_left]
  unfold rkAt
  rw [if_pos rfl]
  exact hR
theorem SpInv.zero {g : Gr} {hd t : List Int} {r : Nat} {L0 R : List Gp} (hR : pushAll L0 (spl g hd (endP g 0 hd) (sumC g hd) r t) = R) : SpInv g (hd ++ t) hd.length r L0 R 0 L0 := by
  by_cases h : 0 < hd.length
  · unfold SpInv; rw [if_pos h]
  · exact SpInv.start hR 0 (by omega)
theorem SpInv.skip {g : Gr} {hd t : List Int} {r : Nat} {L0 R L : List Gp} {j : Nat} (hR : pushAll L0 (spl g hd (endP g 0 hd) (sumC g hd) r t) = R) (h : SpInv g (hd ++ t) hd.length r L0 R j L) (hj : j < hd.length) : SpInv g (hd ++ t) hd.length r L0 R (j + 1) L := by
  unfold SpInv at h
  rw [if_pos hj] at h
  subst h
  by_cases h2 : j + 1 < hd.length
  · unfold SpInv; rw [if_pos h2]
  · exact SpInv.start hR (j + 1) (by omega)
theorem SpInv.step {g : Gr} (hg : GrOK g) {W : List Int} (hW : wayB g 0 W = true) {hl r : Nat} {L0 R L : List Gp} {j : Nat} {i : Int} (hi : W[j]? = some i) (h : SpInv g W hl r L0 R j L) (hj : ¬ j < hl) :
    SpInv g W hl r L0 R (j + 1) (match (frL g (endP g 0 (W.take j)))[rkAt hl r j + 1]? with | some l => pushM earlierM L ⟨W.take j, rkAt hl r j + 1, l, sumC g (W.take j) + viaOf g l⟩ | none => L) := by
  obtain ⟨_, h2, h3, _, _, _, _, _, h4, h5⟩ := way_at hg hW hi
  unfold SpInv at h ⊢
  rw [if_neg hj, h4] at h
  rw [if_neg (by omega), ← h, h2, h3, h5]
  have hr : rkAt hl r (j + 1) = 0 := by unfold rkAt; rw [if_neg (by omega)]
  rw [hr]
  show _ = pushAll L ((match (frL g (endP g 0 (W.take j)))[rkAt hl r j + 1]? with | some l => _ | none => _) ++ _)
  cases (frL g (endP g 0 (W.take j)))[rkAt hl r j + 1]? with
  | none => rfl
  | some l => rfl
theorem SpInv.fin {g : Gr} {W : List Int} {hl r : Nat} {L0 R L : List Gp} (h : SpInv g W hl r L0 R W.length L) (hj : hl ≤ W.length) : L = R := by
  unfold SpInv at h
  rw [if_neg (by omega), drop_length] at h
  exact h
theorem dnM_len {α : Type} [Inhabited α] {lt : α → α → Bool} : ∀ (f : Nat) (l : List α) (i : Nat), (dnM lt f l i).length = l.length := by
  intro f
  induction f with
  | zero => intros; rfl
  | succ f ih =>
    intro l i
    unfold dnM
    split
    · rfl
    · rw [ih, swp_len]
theorem popM_len {α : Type} [Inhabited α] {lt : α → α → Bool} (l : List α) : (popM lt l).length = l.length - 1 := by
  unfold popM
  rw [dnM_len, length_take, length_set]
  omega
theorem potL_at {g : Gr} (_hg : GrOK g) {v : Int} (h0 : 0 ≤ v) (h1 : v < g.n) : (potL g)[v.toNat]? = some (hAt g v) := by
  have hl : (potL g).length = g.n.toNat := potS_len g _
  unfold hAt
  rw [List.getD_eq_getElem?_getD, List.getElem?_eq_getElem (by omega)]
  rfl
end Go.Proofs.Ytbikjmafddndpaa

/-
  The plain law of layer 15: the number of ways, at most a thousand million.
-/
namespace Go.Proofs.Ytbikjmafddndpaa
open List

def numStep (g : Gr) (v : Int) (tail : List Int) (acc i : Int) : Int := min (acc + tail.getD ((lkAt g i).to - v - 1).toNat 0) 1000000000
/-- The numbers of ways from the last k nodes. -/
def numS (g : Gr) : Nat → List Int
  | 0 => []
  | 1 => [1]
  | k + 2 => (lvs g (g.n - (k + 2))).foldl (numStep g (g.n - (k + 2)) (numS g (k + 1))) 0 :: numS g (k + 1)
theorem numS_len (g : Gr) : ∀ k, (numS g k).length = k
  | 0 => rfl
  | 1 => rfl
  | k + 2 => by simp [numS, numS_len g (k + 1)]
theorem numS_succ (g : Gr) {k : Nat} (hk : 1 ≤ k) : numS g (k + 1) = (lvs g (g.n - (k + 1))).foldl (numStep g (g.n - (k + 1)) (numS g k)) 0 :: numS g k := by
  obtain ⟨j, rfl⟩ : ∃ j, k = j + 1 := ⟨k - 1, by omega⟩
  rfl
def numM (g : Gr) : Int := (numS g g.n.toNat).headD 0
def numOf (g : Gr) : Int := if grB g = true then numM g else 0
theorem numStep_bd {g : Gr} {v : Int} {tail : List Int} (ht : ∀ x ∈ tail, 0 ≤ x ∧ x ≤ 1000000000) : ∀ (L : List Int) (a : Int), 0 ≤ a ∧ a ≤ 1000000000 → 0 ≤ L.foldl (numStep g v tail) a ∧ L.foldl (numStep g v tail) a ≤ 1000000000 := by
  intro L
  induction L with
  | nil => intro a h; exact h
  | cons i L ih =>
    intro a h
    rw [foldl_cons]
    refine ih _ ?_
    unfold numStep
    have h1 : 0 ≤ tail.getD ((lkAt g i).to - v - 1).toNat 0 := by
      rw [getD_eq_getElem?_getD]
      cases hx : tail[((lkAt g i).to - v - 1).toNat]? with
      | none => simp
      | some x => exact (ht x (mem_of_getElem? hx)).1
    omega
theorem numS_bd (g : Gr) : ∀ k, ∀ x ∈ numS g k, 0 ≤ x ∧ x ≤ 1000000000
  | 0 => fun x h => by simp [numS] at h
  | 1 => fun x h => by simp [numS] at h; omega
  | k + 2 => fun x h => by
    have ih := numS_bd g (k + 1)
    rcases mem_cons.1 h with rfl | h
    · exact numStep_bd ih _ 0 (by omega)
    · exact ih x h
theorem getD_bdn {l : List Int} (h : ∀ x ∈ l, 0 ≤ x ∧ x ≤ 1000000000) (i : Nat) : 0 ≤ l.getD i 0 ∧ l.getD i 0 ≤ 1000000000 := by
  rw [getD_eq_getElem?_getD]
  cases hx : l[i]? with
  | none => simp
  | some x => exact h x (mem_of_getElem? hx)
theorem num_snoc {g : Gr} {v : Int} {tail : List Int} {j : Nat} {l : Lk} (h : g.ls[j]? = some l) :
    (lvTo g.ls v (j + 1)).foldl (numStep g v tail) 0 = if l.fr = v then numStep g v tail ((lvTo g.ls v j).foldl (numStep g v tail) 0) (j : Int) else (lvTo g.ls v j).foldl (numStep g v tail) 0 := by
  rw [lvTo_succ h]
  split
  · rw [foldl_append]; rfl
  · rfl
end Go.Proofs.Ytbikjmafddndpaa
