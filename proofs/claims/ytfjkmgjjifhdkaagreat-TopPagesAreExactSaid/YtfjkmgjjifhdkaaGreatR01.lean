/-
  Lib, GrMath, GrLaw, Ord, App, joined. No conditions.
-/
import Derived.WalkKit
import Derived.OwnWalk
import Derived.Below
import Derived.Lib.Hide
import Derived.Deep.Draws
import Derived.Deep.QuietTactic
import Derived.Deep.RegionHeld
import Derived.Laws.AppendOwn
import Derived.Laws.OwnMore
import Derived.Maps.AppendAt
/-
  Words for memory that all walks of this seat use: a slice that reads as a list of things, whatever memory lies beside it.
-/
namespace Go.Proofs.YtfjkmgjjifhdkaaGreat
open Go Go.RowKit

/-- A slice at A reads as the list xs: element k lies in s cells, which R holds to x. -/
def SlR {α : Type} (s : Nat) (R : World → α → List Value → Prop) (w : World) (A : Option Addr) (xs : List α) : Prop :=
  xs ≠ [] → ∃ b off, A = some ⟨b, off, none⟩ ∧ b < w.heap.size ∧
    ∀ k x, xs[k]? = some x → ∃ vs, R w x vs ∧ vs.length = s ∧ ∀ j v, vs[j]? = some v → w.cell? ⟨b, off + k * s + j, none⟩ = some v

/-- What R says stays true while the old blocks stay. -/
def Keeps {α : Type} (R : World → α → List Value → Prop) : Prop := ∀ w w' x vs, Below w.heap.size w w' → R w x vs → R w' x vs

def RInt (_ : World) (x : Int) (vs : List Value) : Prop := vs = [.int .i64 x]
def RU8 (_ : World) (x : Int) (vs : List Value) : Prop := vs = [.int .u8 x]
def RStr (_ : World) (x : ByteArray) (vs : List Value) : Prop := vs = [.string x]
theorem keeps_int : Keeps RInt := fun _ _ _ _ _ h => h
theorem keeps_u8 : Keeps RU8 := fun _ _ _ _ _ h => h
theorem keeps_str : Keeps RStr := fun _ _ _ _ _ h => h

section
variable {α : Type} {s : Nat} {R : World → α → List Value → Prop} {w w' : World} {A : Option Addr} {xs : List α}

theorem SlR.nil : SlR s R w A ([] : List α) := fun h => absurd rfl h
theorem SlR.below (hR : Keeps R) (h : SlR s R w A xs) (hb : Below w.heap.size w w') : SlR s R w' A xs := fun hn => by
  obtain ⟨b, off, rfl, hlt, hc⟩ := h hn
  refine ⟨b, off, rfl, Nat.lt_of_lt_of_le hlt hb.size, fun k x hx => ?_⟩
  obtain ⟨vs, hr, hl, hv⟩ := hc k x hx
  exact ⟨vs, hR _ _ _ _ hb hr, hl, fun j v hj => (hb.cell (p := ⟨b, _, none⟩) hlt).trans (hv j v hj)⟩
theorem SlR.at_ (h : SlR s R w A xs) {k : Nat} (hk : k < xs.length) : ∃ b off x vs, A = some ⟨b, off, none⟩ ∧ b < w.heap.size ∧ xs[k]? = some x ∧ R w x vs ∧ vs.length = s ∧
    ∀ j v, vs[j]? = some v → w.cell? ⟨b, off + k * s + j, none⟩ = some v := by
  obtain ⟨b, off, hA, hlt, hc⟩ := h (by intro e; subst e; simp at hk)
  obtain ⟨vs, hr, hl, hv⟩ := hc k xs[k] (List.getElem?_eq_getElem hk)
  exact ⟨b, off, xs[k], vs, hA, hlt, List.getElem?_eq_getElem hk, hr, hl, hv⟩
end

/-- All that is known of an int slice's element k. -/
theorem SlR.int {w : World} {A : Option Addr} {xs : List Int} (h : SlR 1 RInt w A xs) {k : Nat} (hk : k < xs.length) :
    ∃ b off x, A = some ⟨b, off, none⟩ ∧ b < w.heap.size ∧ xs[k]? = some x ∧ w.cell? ⟨b, off + k, none⟩ = some (.int .i64 x) := by
  obtain ⟨b, off, x, vs, hA, hlt, hx, hr, _, hv⟩ := h.at_ hk
  have h0 := hv 0 (.int .i64 x) (by rw [hr]; rfl)
  simp only [Nat.mul_one, Nat.add_zero] at h0
  exact ⟨b, off, x, hA, hlt, hx, h0⟩
theorem SlR.u8 {w : World} {A : Option Addr} {xs : List Int} (h : SlR 1 RU8 w A xs) {k : Nat} (hk : k < xs.length) :
    ∃ b off x, A = some ⟨b, off, none⟩ ∧ b < w.heap.size ∧ xs[k]? = some x ∧ w.cell? ⟨b, off + k, none⟩ = some (.int .u8 x) := by
  obtain ⟨b, off, x, vs, hA, hlt, hx, hr, _, hv⟩ := h.at_ hk
  have h0 := hv 0 (.int .u8 x) (by rw [hr]; rfl)
  simp only [Nat.mul_one, Nat.add_zero] at h0
  exact ⟨b, off, x, hA, hlt, hx, h0⟩
theorem SlR.str {w : World} {A : Option Addr} {xs : List ByteArray} (h : SlR 1 RStr w A xs) {k : Nat} (hk : k < xs.length) :
    ∃ b off x, A = some ⟨b, off, none⟩ ∧ b < w.heap.size ∧ xs[k]? = some x ∧ w.cell? ⟨b, off + k, none⟩ = some (.string x) := by
  obtain ⟨b, off, x, vs, hA, hlt, hx, hr, _, hv⟩ := h.at_ hk
  have h0 := hv 0 (.string x) (by rw [hr]; rfl)
  simp only [Nat.mul_one, Nat.add_zero] at h0
  exact ⟨b, off, x, hA, hlt, hx, h0⟩

theorem ret_int {k : IntKind} {a b : Int} (h : a = b) : Ending.returned (.int k a) = .returned (.int k b) := by rw [h]
theorem ret_bool {a b : Bool} (h : a = b) : Ending.returned (.bool a) = .returned (.bool b) := by rw [h]
theorem vint {k : IntKind} {a b : Int} (h : a = b) : Value.int k a = .int k b := by rw [h]
theorem bcell {W w1 : World} (hb : Below W.heap.size W w1) : (∀ b o, b < W.heap.size → w1.cell? ⟨b, o, none⟩ = W.cell? ⟨b, o, none⟩) ∧ (∀ b o, b < W.heap.size → w1.frozen? ⟨b, o, none⟩ = W.frozen? ⟨b, o, none⟩) :=
  ⟨fun b o h => hb.cell (p := ⟨b, o, none⟩) h, fun b o h => hb.frozen (p := ⟨b, o, none⟩) h⟩
theorem new_cell (w : World) (cs : Array Value) (t : TypeId) (i : Nat) : (w.alloc (.cells cs t)).cell? ⟨w.heap.size, i, none⟩ = cs[i]? := by
  have h : (w.alloc (.cells cs t)).heap[w.heap.size]? = some (.cells cs t) := heap_alloc_new w _
  unfold World.cell?
  simp only [h]
  rfl
theorem new_lt (w : World) (o : Obj) : w.heap.size < (w.alloc o).heap.size := by simp
/-- What a box of the call's own still holds behind whatever left it alone. -/
theorem box_cell {w wr : World} {cs : Array Value} {t : TypeId} (hb : Below (w.heap.size + 1) (w.alloc (.cells cs t)) wr) (i : Nat) : wr.cell? ⟨w.heap.size, i, none⟩ = cs[i]? :=
  (hb.cell (p := ⟨w.heap.size, i, none⟩) (by show w.heap.size < _; omega)).trans (new_cell _ _ _ _)
theorem box_frozen {w wr : World} {cs : Array Value} {t : TypeId} (hb : Below (w.heap.size + 1) (w.alloc (.cells cs t)) wr) (i : Nat) : wr.frozen? ⟨w.heap.size, i, none⟩ = false :=
  (hb.frozen (p := ⟨w.heap.size, i, none⟩) (by show w.heap.size < _; omega)).trans (by
    have h : (w.alloc (.cells cs t)).heap[w.heap.size]? = some (.cells cs t) := heap_alloc_new w _
    unfold World.frozen?
    simp only [h]
    simp)
theorem box_size {w wr : World} {o : Obj} (hb : Below (w.heap.size + 1) (w.alloc o) wr) : w.heap.size < wr.heap.size := by
  have := hb.size; simp at this; omega
theorem unbox {w wr : World} {o : Obj} (hb : Below (w.heap.size + 1) (w.alloc o) wr) : Below w.heap.size w wr :=
  ((Below.refl _ _).alloc (Nat.le_refl _) o).trans (hb.mono (by omega))
theorem rebox (w : World) (o : Obj) : Below (w.heap.size + 1) (w.alloc o) (w.alloc o) := Below.refl _ _
theorem below_drewN {B : Nat} {a w : World} (h : Below B a w) (n : Nat) : Below B a (w.drewN n) := ⟨h.os, h.tape, h.output, h.size, h.block⟩
/-- A quiet callee in a region that draws, its contract in the form 'w = w''. -/
theorem quiet_l {P : Program} {f : FuncId} {args : Array Value} {w : World} {n : Nat} {v : Value}
    (h : Calls P f args (w.drewN n) fun e w' => e = .returned v ∧ w.drewN n = w') : Calls P f args (w.drewN n) fun e w'' => e = .returned v ∧ ∃ m, w'' = w.drewN m :=
  h.mono fun _ _ ⟨he, hm⟩ => ⟨he, n, hm.symm⟩
theorem take_succ_of {α : Type} {xs : List α} {k : Nat} {x : α} (h : xs[k]? = some x) : xs.take (k + 1) = xs.take k ++ [x] := by
  obtain ⟨hk, rfl⟩ := List.getElem?_eq_some_iff.1 h
  rw [List.take_succ_eq_append_getElem hk]
end Go.Proofs.YtfjkmgjjifhdkaaGreat

/-
  The plain things of layers 15 and 16: graphs, links, candidates; potentials.
-/
namespace Go.Proofs.YtfjkmgjjifhdkaaGreat
open Go Go.RowKit

structure Lk where
  fr : Int
  to : Int
  lb : Int
  cost : Int
deriving DecidableEq, Inhabited
structure Gr where
  n : Int
  ls : List Lk
deriving DecidableEq, Inhabited
structure Can where
  links : List Int
  cost : Int
deriving DecidableEq, Inhabited

def lkB (n : Int) (l : Lk) : Bool :=
  !(decide (l.fr < 0) || decide (l.to ≤ l.fr) || decide (n ≤ l.to)) && !(decide (l.lb < 0) || decide (1000000 < l.lb) || decide (l.cost < 0) || decide (1000000 < l.cost))
def grB (g : Gr) : Bool := !(decide (g.n < 1) || decide (2000 < g.n) || decide (20000 < g.ls.length)) && g.ls.all (lkB g.n)
/-- What a valid link is. -/
structure LkOK (n : Int) (l : Lk) : Prop where
  fr : 0 ≤ l.fr
  lt : l.fr < l.to
  to : l.to < n
  lb : 0 ≤ l.lb ∧ l.lb ≤ 1000000
  cost : 0 ≤ l.cost ∧ l.cost ≤ 1000000
structure GrOK (g : Gr) : Prop where
  n : 1 ≤ g.n ∧ g.n ≤ 2000
  len : g.ls.length ≤ 20000
  ls : ∀ l ∈ g.ls, LkOK g.n l
theorem lkB_iff {n : Int} {l : Lk} : lkB n l = true ↔ LkOK n l := by
  unfold lkB
  constructor
  · intro h
    simp at h
    exact ⟨by omega, by omega, by omega, by omega, by omega⟩
  · rintro ⟨h1, h2, h3, h4, h5⟩
    simp
    omega
theorem grB_iff {g : Gr} : grB g = true ↔ GrOK g := by
  unfold grB
  rw [Bool.and_eq_true, List.all_eq_true]
  constructor
  · rintro ⟨h1, h2⟩
    simp at h1
    exact ⟨by omega, by omega, fun l hl => lkB_iff.1 (h2 l hl)⟩
  · rintro ⟨h1, h2, h3⟩
    exact ⟨by simp; omega, fun l hl => lkB_iff.2 (h3 l hl)⟩

/-- The indices of the links that leave a node, in increasing order. -/
def lvTo (ls : List Lk) (v : Int) : Nat → List Int
  | 0 => []
  | k + 1 => match ls[k]? with
    | some l => if l.fr = v then lvTo ls v k ++ [(k : Int)] else lvTo ls v k
    | none => lvTo ls v k
def lvs (g : Gr) (v : Int) : List Int := lvTo g.ls v g.ls.length
theorem lvTo_succ {ls : List Lk} {v : Int} {k : Nat} {l : Lk} (h : ls[k]? = some l) : lvTo ls v (k + 1) = if l.fr = v then lvTo ls v k ++ [(k : Int)] else lvTo ls v k := by
  show (match ls[k]? with | some l => if l.fr = v then lvTo ls v k ++ [(k : Int)] else lvTo ls v k | none => lvTo ls v k) = _
  rw [h]
theorem lvTo_mem {ls : List Lk} {v : Int} : ∀ k, k ≤ ls.length → ∀ i, i ∈ lvTo ls v k ↔ ∃ j : Nat, j < k ∧ i = (j : Int) ∧ ∃ l, ls[j]? = some l ∧ l.fr = v := by
  intro k
  induction k with
  | zero => intro _ i; simp [lvTo]
  | succ k ih =>
    intro hk i
    have hl : ls[k]? = some ls[k] := List.getElem?_eq_getElem (by omega)
    rw [lvTo_succ hl]
    have h := ih (by omega) i
    constructor
    · intro hi
      split at hi
      · rename_i hf
        rcases List.mem_append.1 hi with h1 | h1
        · obtain ⟨j, hj, r⟩ := h.1 h1
          exact ⟨j, by omega, r⟩
        · obtain rfl := List.mem_singleton.1 h1
          exact ⟨k, by omega, rfl, _, hl, hf⟩
      · obtain ⟨j, hj, r⟩ := h.1 hi
        exact ⟨j, by omega, r⟩
    · rintro ⟨j, hj, hij, l, hlj, hf⟩
      rcases Nat.lt_or_ge j k with h1 | h1
      · have := h.2 ⟨j, h1, hij, l, hlj, hf⟩
        split
        · exact List.mem_append.2 (.inl this)
        · exact this
      · obtain rfl : j = k := by omega
        rw [hl] at hlj
        rw [if_pos (by rw [Option.some.inj hlj]; exact hf)]
        exact List.mem_append.2 (.inr (by simp [hij]))
theorem lvs_mem {g : Gr} {v i : Int} : i ∈ lvs g v ↔ ∃ (j : Nat) (l : Lk), i = (j : Int) ∧ g.ls[j]? = some l ∧ l.fr = v := by
  unfold lvs
  rw [lvTo_mem _ (Nat.le_refl _)]
  constructor
  · rintro ⟨j, _, h1, l, h2, h3⟩; exact ⟨j, l, h1, h2, h3⟩
  · rintro ⟨j, l, h1, h2, h3⟩; exact ⟨j, (List.getElem?_eq_some_iff.1 h2).1, h1, l, h2, h3⟩
theorem lvTo_inc {ls : List Lk} {v : Int} : ∀ k, k ≤ ls.length → (lvTo ls v k).Pairwise (· < ·) := by
  intro k
  induction k with
  | zero => intro _; exact List.Pairwise.nil
  | succ k ih =>
    intro hk
    have hl : ls[k]? = some ls[k] := List.getElem?_eq_getElem (by omega)
    rw [lvTo_succ hl]
    split
    · rw [List.pairwise_append]
      refine ⟨ih (by omega), List.pairwise_singleton _ _, fun a ha b hb => ?_⟩
      obtain rfl := List.mem_singleton.1 hb
      obtain ⟨j, hj, rfl, _⟩ := (lvTo_mem k (by omega) a).1 ha
      omega
    · exact ih (by omega)
theorem lvs_inc (g : Gr) (v : Int) : (lvs g v).Pairwise (· < ·) := lvTo_inc _ (Nat.le_refl _)

/-- The link of an index. -/
def lkAt (g : Gr) (i : Int) : Lk := g.ls.getD i.toNat default
/-- One step of a potential: the link i, where tail has the potentials of the nodes behind v. -/
def potStep (g : Gr) (v : Int) (tail : List Int) (acc i : Int) : Int :=
  let l := lkAt g i
  let t := tail.getD (l.to - v - 1).toNat 0
  if 0 ≤ t ∧ (acc < 0 ∨ l.cost + t < acc) then l.cost + t else acc
/-- The potentials of the last k nodes. -/
def potS (g : Gr) : Nat → List Int
  | 0 => []
  | 1 => [0]
  | k + 2 => (lvs g (g.n - (k + 2))).foldl (potStep g (g.n - (k + 2)) (potS g (k + 1))) (-1) :: potS g (k + 1)
theorem potS_len (g : Gr) : ∀ k, (potS g k).length = k
  | 0 => rfl
  | 1 => rfl
  | k + 2 => by simp [potS, potS_len g (k + 1)]
def potL (g : Gr) : List Int := potS g g.n.toNat
def potsOf (g : Gr) : List Int × Int := if grB g = true then (potL g, 0) else ([], 150)
end Go.Proofs.YtfjkmgjjifhdkaaGreat

/-
  The plain law of layers 15 and 16: ways, their order, potentials as least costs, the first of the cheapest ways.
-/
namespace Go.Proofs.YtfjkmgjjifhdkaaGreat
open List

/-- Go's order of lists: at the first place at which they differ. -/
def lexLt : List Int → List Int → Bool
  | [], [] => false
  | [], _ :: _ => true
  | _ :: _, [] => false
  | a :: x, b :: y => if a < b then true else if b < a then false else lexLt x y
theorem lex_irrefl (a : List Int) : lexLt a a = false := by
  induction a with
  | nil => rfl
  | cons x a ih => unfold lexLt; simp [ih]
theorem lex_trans : ∀ {a b c : List Int}, lexLt a b = true → lexLt b c = true → lexLt a c = true
  | [], [], _, h, _ => by simp [lexLt] at h
  | [], _ :: _, [], _, h => by simp [lexLt] at h
  | [], _ :: _, _ :: _, _, _ => rfl
  | _ :: _, [], _, h, _ => by simp [lexLt] at h
  | _ :: _, _ :: _, [], _, h => by simp [lexLt] at h
  | x :: a, y :: b, z :: c, h1, h2 => by
    unfold lexLt at h1 h2 ⊢
    by_cases h3 : x < y
    · by_cases h4 : y < z
      · rw [if_pos (by omega)]
      · by_cases h5 : z < y
        · rw [if_neg h4, if_pos h5] at h2; cases h2
        · rw [if_pos (by omega)]
    · by_cases h4 : y < x
      · rw [if_neg h3, if_pos h4] at h1; cases h1
      · rw [if_neg h3, if_neg h4] at h1
        have : x = y := by omega
        subst this
        by_cases h5 : x < z
        · rw [if_pos h5]
        · by_cases h6 : z < x
          · rw [if_neg h5, if_pos h6] at h2; cases h2
          · rw [if_neg h5, if_neg h6] at h2 ⊢
            exact lex_trans h1 h2
theorem lex_total : ∀ (a b : List Int), lexLt a b = true ∨ a = b ∨ lexLt b a = true
  | [], [] => .inr (.inl rfl)
  | [], _ :: _ => .inl rfl
  | _ :: _, [] => .inr (.inr rfl)
  | x :: a, y :: b => by
    unfold lexLt
    by_cases h1 : x < y
    · left; rw [if_pos h1]
    · by_cases h2 : y < x
      · right; right; rw [if_pos h2]
      · have : x = y := by omega
        subst this
        simp only [Int.lt_irrefl, if_false]
        rcases lex_total a b with h | h | h
        · left; exact h
        · right; left; rw [h]
        · right; right; exact h
theorem lex_asymm {a b : List Int} (h : lexLt a b = true) : lexLt b a = false := by
  cases hb : lexLt b a with
  | false => rfl
  | true => have := lex_trans h hb; rw [lex_irrefl] at this; cases this
theorem lex_pre (p a b : List Int) : lexLt (p ++ a) (p ++ b) = lexLt a b := by
  induction p with
  | nil => rfl
  | cons x p ih => rw [cons_append, cons_append]; conv => lhs; unfold lexLt
                   rw [if_neg (by omega), if_neg (by omega), ih]

/-- A way from a node to the last one. -/
def wayB (g : Gr) : Int → List Int → Bool
  | v, [] => decide (v = g.n - 1)
  | v, i :: r => decide (0 ≤ i ∧ i < g.ls.length ∧ (lkAt g i).fr = v) && wayB g (lkAt g i).to r
def sumC (g : Gr) : List Int → Int
  | [] => 0
  | i :: r => (lkAt g i).cost + sumC g r
theorem lkAt_mem {g : Gr} {i : Int} (h : 0 ≤ i ∧ i < g.ls.length) : g.ls[i.toNat]? = some (lkAt g i) := by
  unfold lkAt
  rw [List.getD_eq_getElem?_getD, List.getElem?_eq_getElem (by omega)]
  rfl
theorem lkAt_ok {g : Gr} (hg : GrOK g) {i : Int} (h : 0 ≤ i ∧ i < g.ls.length) : LkOK g.n (lkAt g i) := hg.ls _ (List.mem_of_getElem? (lkAt_mem h))
theorem lvs_iff {g : Gr} {v i : Int} : i ∈ lvs g v ↔ 0 ≤ i ∧ i < g.ls.length ∧ (lkAt g i).fr = v := by
  rw [lvs_mem]
  constructor
  · rintro ⟨j, l, rfl, h2, h3⟩
    have hj := (List.getElem?_eq_some_iff.1 h2).1
    have := lkAt_mem (g := g) (i := (j : Int)) (by omega)
    rw [Int.toNat_natCast] at this
    rw [h2] at this
    exact ⟨by omega, by omega, by rw [← Option.some.inj this]; exact h3⟩
  · rintro ⟨h1, h2, h3⟩
    exact ⟨i.toNat, lkAt g i, by omega, lkAt_mem ⟨h1, h2⟩, h3⟩
theorem way_cons {g : Gr} {v i : Int} {r : List Int} : wayB g v (i :: r) = true ↔ i ∈ lvs g v ∧ wayB g (lkAt g i).to r = true := by
  rw [lvs_iff]
  conv => lhs; unfold wayB
  simp

/-- The potential of a node, in the list of all. -/
def hAt (g : Gr) (v : Int) : Int := (potL g).getD v.toNat 0
/-- The least cost by the link i, or -1. -/
def viaOf (g : Gr) (i : Int) : Int := if 0 ≤ hAt g (lkAt g i).to then (lkAt g i).cost + hAt g (lkAt g i).to else -1
def minStep (f : Int → Int) (acc i : Int) : Int := if 0 ≤ f i ∧ (acc < 0 ∨ f i < acc) then f i else acc
theorem min_spec_ (f : Int → Int) : ∀ (L : List Int) (a : Int), (a < 0 → a = -1) →
    (L.foldl (minStep f) a = a ∧ ∀ i ∈ L, 0 ≤ f i → 0 ≤ a ∧ a ≤ f i) ∨ ((∃ i ∈ L, f i = L.foldl (minStep f) a ∧ 0 ≤ f i) ∧ (∀ i ∈ L, 0 ≤ f i → L.foldl (minStep f) a ≤ f i) ∧ (0 ≤ a → L.foldl (minStep f) a ≤ a)) := by
  intro L
  induction L with
  | nil => intro a _; exact .inl ⟨rfl, by simp⟩
  | cons x L ih =>
    intro a ha
    rw [foldl_cons]
    by_cases hx : 0 ≤ f x ∧ (a < 0 ∨ f x < a)
    · have e : minStep f a x = f x := by unfold minStep; rw [if_pos hx]
      rw [e]
      rcases ih (f x) (by omega) with ⟨h1, h2⟩ | ⟨⟨i, hi, h1, h2⟩, h3, h4⟩
      · right
        refine ⟨⟨x, by simp, h1.symm, hx.1⟩, fun i hi hf => ?_, fun _ => by omega⟩
        rcases mem_cons.1 hi with rfl | hi
        · omega
        · have := h2 i hi hf; omega
      · right
        refine ⟨⟨i, by simp [hi], h1, h2⟩, fun j hj hf => ?_, fun h0 => by have := h4 hx.1; omega⟩
        rcases mem_cons.1 hj with rfl | hj
        · exact h4 hx.1
        · exact h3 j hj hf
    · have e : minStep f a x = a := by unfold minStep; rw [if_neg hx]
      rw [e]
      rcases ih a ha with ⟨h1, h2⟩ | ⟨⟨i, hi, h1, h2⟩, h3, h4⟩
      · left
        refine ⟨h1, fun i hi hf => ?_⟩
        rcases mem_cons.1 hi with rfl | hi
        · omega
        · exact h2 i hi hf
      · right
        refine ⟨⟨i, by simp [hi], h1, h2⟩, fun j hj hf => ?_, h4⟩
        rcases mem_cons.1 hj with rfl | hj
        · have := h4 (by omega); omega
        · exact h3 j hj hf
theorem min_spec (f : Int → Int) (L : List Int) : (L.foldl (minStep f) (-1) = -1 ∧ ∀ i ∈ L, f i < 0) ∨
    ((∃ i ∈ L, f i = L.foldl (minStep f) (-1)) ∧ 0 ≤ L.foldl (minStep f) (-1) ∧ ∀ i ∈ L, 0 ≤ f i → L.foldl (minStep f) (-1) ≤ f i) := by
  rcases min_spec_ f L (-1) (fun _ => rfl) with ⟨h1, h2⟩ | ⟨⟨i, hi, h1, h2⟩, h3, _⟩
  · left
    refine ⟨h1, fun i hi => ?_⟩
    rcases Int.lt_or_le (f i) 0 with h | h
    · exact h
    · have := h2 i hi h; omega
  · exact .inr ⟨⟨i, hi, h1⟩, by omega, h3⟩

theorem potS_drop (g : Gr) : ∀ k m, k ≤ m → (potS g m).drop (m - k) = potS g k := by
  intro k m
  induction m with
  | zero => intro h; obtain rfl : k = 0 := by omega
            rfl
  | succ m ih =>
    intro h
    rcases Nat.lt_or_ge k (m + 1) with h1 | h1
    · cases m with
      | zero => obtain rfl : k = 0 := by omega
                rfl
      | succ m =>
        have e : potS g (m + 2) = (lvs g (g.n - (m + 2))).foldl (potStep g (g.n - (m + 2)) (potS g (m + 1))) (-1) :: potS g (m + 1) := rfl
        rw [show m + 1 + 1 - k = (m + 1 - k) + 1 by omega, e, drop_succ_cons]
        exact ih (by omega)
    · obtain rfl : k = m + 1 := by omega
      simp
theorem hAt_eq {g : Gr} (hg : GrOK g) {k : Nat} (hk : k ≤ g.n.toNat) {v : Int} (h0 : g.n - k ≤ v) (_h1 : v < g.n) : (potS g k).getD (v - (g.n - k)).toNat 0 = hAt g v := by
  have hn := hg.n
  unfold hAt potL
  rw [← potS_drop g k g.n.toNat hk, List.getD_eq_getElem?_getD, List.getD_eq_getElem?_getD, getElem?_drop]
  congr 2
  omega
theorem hAt_last {g : Gr} (hg : GrOK g) : hAt g (g.n - 1) = 0 := by
  have hn := hg.n
  rw [← hAt_eq hg (k := 1) (by omega) (by omega) (by omega)]
  have : (g.n - 1 - (g.n - (1 : Nat))).toNat = 0 := by omega
  rw [this]
  rfl
theorem hAt_step {g : Gr} (hg : GrOK g) {v : Int} (h0 : 0 ≤ v) (h1 : v < g.n - 1) : hAt g v = (lvs g v).foldl (minStep (viaOf g)) (-1) := by
  have hn := hg.n
  obtain ⟨k, hk⟩ : ∃ k : Nat, g.n - v = (k : Int) + 2 := ⟨(g.n - v - 2).toNat, by omega⟩
  rw [← hAt_eq hg (k := k + 2) (by omega) (v := v) (by omega) (by omega)]
  have e1 : (v - (g.n - ((k + 2 : Nat) : Int))).toNat = 0 := by omega
  rw [e1]
  unfold potS
  rw [List.getD_cons_zero]
  have e2 : g.n - ((k : Int) + 2) = v := by omega
  rw [e2]
  have : ∀ (L : List Int) (a : Int), (∀ i ∈ L, i ∈ lvs g v) → L.foldl (potStep g v (potS g (k + 1))) a = L.foldl (minStep (viaOf g)) a := by
    intro L
    induction L with
    | nil => intro a _; rfl
    | cons x L ih =>
      intro a h
      rw [foldl_cons, foldl_cons]
      have hx := lvs_iff.1 (h x (by simp))
      have hok := lkAt_ok hg ⟨hx.1, hx.2.1⟩
      have e : potStep g v (potS g (k + 1)) a x = minStep (viaOf g) a x := by
        unfold potStep minStep viaOf
        dsimp only
        have hto := hok.to
        have hlt := hok.lt
        have hcost := hok.cost
        have hh := hAt_eq hg (k := k + 1) (by omega) (v := (lkAt g x).to) (by omega) (by omega)
        have e3 : ((lkAt g x).to - (g.n - ((k + 1 : Nat) : Int))).toNat = ((lkAt g x).to - v - 1).toNat := by omega
        rw [e3] at hh
        rw [hh]
        by_cases h1 : 0 ≤ hAt g (lkAt g x).to
        · rw [if_pos h1]
          by_cases h2 : a < 0 ∨ (lkAt g x).cost + hAt g (lkAt g x).to < a
          · rw [if_pos ⟨h1, h2⟩, if_pos ⟨by omega, h2⟩]
          · rw [if_neg (fun h => h2 h.2), if_neg (fun h => h2 h.2)]
        · rw [if_neg (fun h => h1 h.1), if_neg h1, if_neg (by omega)]
      rw [e]
      exact ih _ fun i hi => h i (by simp [hi])
  exact this _ _ fun _ h => h
/-- No way costs less than the potential. -/
theorem way_h {g : Gr} (hg : GrOK g) : ∀ (w : List Int) (v : Int), 0 ≤ v → v < g.n → wayB g v w = true → 0 ≤ hAt g v ∧ hAt g v ≤ sumC g w := by
  intro w
  induction w with
  | nil =>
    intro v h0 h1 h
    unfold wayB at h
    have : v = g.n - 1 := by simpa using h
    rw [this, hAt_last hg]
    exact ⟨by omega, by unfold sumC; omega⟩
  | cons i w ih =>
    intro v h0 h1 h
    obtain ⟨hi, hw⟩ := way_cons.1 h
    have hi' := lvs_iff.1 hi
    have hok := lkAt_ok hg ⟨hi'.1, hi'.2.1⟩
    have hto := hok.to
    have hlt := hok.lt
    have hcost := hok.cost
    obtain ⟨h2, h3⟩ := ih (lkAt g i).to (by omega) (by omega) hw
    have hv : v < g.n - 1 := by omega
    have hvia : viaOf g i = (lkAt g i).cost + hAt g (lkAt g i).to := by unfold viaOf; rw [if_pos h2]
    unfold sumC
    rw [hAt_step hg h0 hv]
    rcases min_spec (viaOf g) (lvs g v) with ⟨h4, h5⟩ | ⟨_, h4, h5⟩
    · have := h5 i hi; omega
    · have := h5 i hi (by omega); omega
/-- The first of the cheapest ways from a node. -/
def bestW (g : Gr) : Nat → Int → List Int
  | 0, _ => []
  | k + 1, v => if v = g.n - 1 then [] else match (lvs g v).find? (fun i => decide (viaOf g i = hAt g v)) with
    | some i => i :: bestW g k (lkAt g i).to
    | none => []
theorem best_way {g : Gr} (hg : GrOK g) : ∀ (k : Nat) (v : Int), 0 ≤ v → v < g.n → g.n - v ≤ (k : Int) + 1 → 0 ≤ hAt g v → wayB g v (bestW g k v) = true ∧ sumC g (bestW g k v) = hAt g v := by
  intro k
  induction k with
  | zero =>
    intro v h0 h1 h2 _
    have : v = g.n - 1 := by omega
    unfold bestW
    rw [this, hAt_last hg]
    exact ⟨by unfold wayB; simp, rfl⟩
  | succ k ih =>
    intro v h0 h1 h2 h3
    unfold bestW
    by_cases hv : v = g.n - 1
    · rw [if_pos hv, hv, hAt_last hg]
      exact ⟨by unfold wayB; simp, rfl⟩
    · rw [if_neg hv]
      have hst := hAt_step hg h0 (by omega)
      rcases min_spec (viaOf g) (lvs g v) with ⟨h4, _⟩ | ⟨⟨i0, hi0, h5⟩, h4, _⟩
      · omega
      · cases hf : (lvs g v).find? (fun i => decide (viaOf g i = hAt g v)) with
        | none =>
          have := find?_eq_none.1 hf i0 hi0
          simp at this
          omega
        | some i =>
          have hi := mem_of_find?_eq_some hf
          have hvi := find?_some hf
          simp at hvi
          have hi' := lvs_iff.1 hi
          have hok := lkAt_ok hg ⟨hi'.1, hi'.2.1⟩
          have hto := hok.to
          have hlt := hok.lt
          have ht : 0 ≤ hAt g (lkAt g i).to := by
            rcases Int.lt_or_le (hAt g (lkAt g i).to) 0 with h | h
            · unfold viaOf at hvi; rw [if_neg (by omega)] at hvi; omega
            · exact h
          obtain ⟨h6, h7⟩ := ih (lkAt g i).to (by omega) (by omega) (by omega) ht
          have hvia : viaOf g i = (lkAt g i).cost + hAt g (lkAt g i).to := by unfold viaOf; rw [if_pos ht]
          exact ⟨way_cons.2 ⟨hi, h6⟩, by show (lkAt g i).cost + sumC g _ = _; omega⟩
theorem find_first {p : Int → Bool} : ∀ {L : List Int}, L.Pairwise (· < ·) → ∀ {i j : Int}, L.find? p = some i → j ∈ L → p j = true → i = j ∨ i < j := by
  intro L
  induction L with
  | nil => intro _ i j h; simp at h
  | cons x L ih =>
    intro hp i j h hj hpj
    obtain ⟨h1, h2⟩ := pairwise_cons.1 hp
    rw [find?_cons] at h
    cases hx : p x with
    | true =>
      rw [hx] at h
      obtain rfl := Option.some.inj h
      rcases mem_cons.1 hj with rfl | hj
      · exact .inl rfl
      · exact .inr (h1 j hj)
    | false =>
      rw [hx] at h
      rcases mem_cons.1 hj with rfl | hj
      · rw [hx] at hpj; cases hpj
      · exact ih h2 h hj hpj
theorem best_first {g : Gr} (hg : GrOK g) : ∀ (k : Nat) (v : Int), 0 ≤ v → v < g.n → g.n - v ≤ (k : Int) + 1 → ∀ w, wayB g v w = true → sumC g w = hAt g v → bestW g k v = w ∨ lexLt (bestW g k v) w = true := by
  intro k
  induction k with
  | zero =>
    intro v h0 h1 h2 w hw _
    cases w with
    | nil => exact .inl rfl
    | cons i w =>
      obtain ⟨hi, _⟩ := way_cons.1 hw
      have hi' := lvs_iff.1 hi
      have hok := lkAt_ok hg ⟨hi'.1, hi'.2.1⟩
      have hto := hok.to
      have hlt := hok.lt
      omega
  | succ k ih =>
    intro v h0 h1 h2 w hw hs
    unfold bestW
    by_cases hv : v = g.n - 1
    · rw [if_pos hv]
      cases w with
      | nil => exact .inl rfl
      | cons i w => exact .inr rfl
    · rw [if_neg hv]
      cases w with
      | nil => unfold wayB at hw; simp at hw; omega
      | cons j w =>
        obtain ⟨hj, hw'⟩ := way_cons.1 hw
        have hj' := lvs_iff.1 hj
        have hok := lkAt_ok hg ⟨hj'.1, hj'.2.1⟩
        have hto := hok.to
        have hlt := hok.lt
        obtain ⟨h3, h4⟩ := way_h hg w _ (by omega) (by omega) hw'
        have hst := hAt_step hg h0 (by omega)
        have hvia : viaOf g j = (lkAt g j).cost + hAt g (lkAt g j).to := by unfold viaOf; rw [if_pos h3]
        have hs' : (lkAt g j).cost + sumC g w = hAt g v := hs
        have hcost := hok.cost
        have hmin : hAt g v ≤ viaOf g j := by
          rcases min_spec (viaOf g) (lvs g v) with ⟨_, h5⟩ | ⟨_, _, h5⟩
          · have := h5 j hj; omega
          · have := h5 j hj (by omega); omega
        have hje : viaOf g j = hAt g v := by omega
        have hse : sumC g w = hAt g (lkAt g j).to := by omega
        cases hf : (lvs g v).find? (fun i => decide (viaOf g i = hAt g v)) with
        | none =>
          have := find?_eq_none.1 hf j hj
          simp at this
          omega
        | some i =>
          dsimp only
          rcases find_first (lvs_inc g v) hf hj (by simpa using hje) with rfl | hij
          · rcases ih (lkAt g i).to (by omega) (by omega) (by omega) w hw' hse with h | h
            · left; rw [h]
            · right; unfold lexLt; rw [if_neg (by omega), if_neg (by omega)]; exact h
          · right; unfold lexLt; rw [if_pos hij]
end Go.Proofs.YtfjkmgjjifhdkaaGreat

/-
  A region that draws its order, walked once: what only reads is taken as soon as it may come up; what makes memory comes up in one forced order. One condition S on the world holds behind each step.
-/
namespace Go.Proofs.YtfjkmgjjifhdkaaGreat
open Go Go.RowKit

theorem add_mk (b o n : Nat) : (Addr.mk b o none).add n = ⟨b, o + n, none⟩ := by
  unfold Addr.add; split <;> simp_all
theorem SlR.drop {α : Type} {s : Nat} {R : World → α → List Value → Prop} {w : World} {A : Option Addr} {xs : List α} (h : SlR s R w A xs) (f : Nat) :
    SlR s R w (A.map (fun x => x.add (f * s))) (xs.drop f) := fun hn => by
  obtain ⟨b, off, rfl, hlt, hc⟩ := h (by rintro rfl; simp at hn)
  refine ⟨b, off + f * s, by simp [add_mk], hlt, fun k x hx => ?_⟩
  rw [List.getElem?_drop] at hx
  obtain ⟨vs, hr, hl, hv⟩ := hc (f + k) x hx
  refine ⟨vs, hr, hl, fun j v hj => ?_⟩
  have := hv j v hj
  rwa [show off + f * s + k * s + j = off + (f + k) * s + j by rw [Nat.add_mul]; omega]
theorem bx {w w1 : World} {o : Obj} (h : Below (w.alloc o).heap.size (w.alloc o) w1) : Below (w.heap.size + 1) (w.alloc o) w1 := h.mono (by simp)

def nthO : List Oper → Nat → Option Oper
  | o :: _, 0 => some o
  | _ :: l, n + 1 => nthO l n
  | [], _ => none
theorem nthO_spec {ops : Array Oper} {i : Nat} {o : Oper} (h : nthO ops.toList i = some o) : ops[i]? = some o := by
  rw [← Array.getElem?_toList]
  generalize ops.toList = l at h
  induction l generalizing i with
  | nil => simp [nthO] at h
  | cons x l ih =>
    cases i with
    | zero => simpa [nthO] using h
    | succ i => simpa using ih (by simpa [nthO] using h)
def goodFrom (md : Region.Mode) (ops : Array Oper) : Array Bool → List (Nat × Bool) → Bool
  | listed, [] => (Region.ready md ops listed).isEmpty
  | listed, (i, true) :: l => Region.ready md ops listed == [i] && goodFrom md ops (listed.setIfInBounds i true) l
  | listed, (i, false) :: l => (Region.ready md ops listed).contains i && Region.free md ops listed i && goodFrom md ops (listed.setIfInBounds i true) l
def goodOrd (ops : Array Oper) (l : List (Nat × Bool)) : Bool := decide (l.length ≤ ops.size) && goodFrom .any ops (Array.replicate ops.size false) l

section
variable {P : Program} {ops : Array Oper} {Q : Exit → Act → World → Prop} {S : World → Prop}
def wpOrd (P : Program) (ops : Array Oper) (Q : Exit → Act → World → Prop) (S : World → Prop) : List (Nat × Bool) → Act → World → Prop
  | [], a, w => Q .normal a w
  | (i, true) :: l, a, w => wpOp P ops Q i (fun a' w' => S w' ∧ wpOrd P ops Q S l a' w') a w
  | (i, false) :: l, a, w => ∃ oi v, ops[i]? = some oi ∧ YieldsIf P ops S oi v a ∧ wpOrd P ops Q S l (a.put oi.dst v) w

theorem wpAnyH_of_ord (hs : Region.noSelect ops = true) (hQ : ∀ d v c a w, Q (.panic c) (Act.put a (some d) v) w → Q (.panic c) a w) :
    ∀ (l : List (Nat × Bool)) (fuel : Nat) (listed : Array Bool) (a : Act) (w : World), l.length ≤ fuel → goodFrom .any ops listed l = true → S w → wpOrd P ops Q S l a w →
      wpAnyH P .any ops Q S fuel listed a w := by
  intro l
  induction l with
  | nil =>
    intro fuel listed a w _ hg _ h
    exact wpAnyH_done (by simpa [goodFrom] using hg) h fuel
  | cons x l ih =>
    intro fuel listed a w hf hg hS h
    obtain ⟨fuel, rfl⟩ : ∃ f, fuel = f + 1 := ⟨fuel - 1, by simp at hf; omega⟩
    have hf' : l.length ≤ fuel := by simp at hf; omega
    obtain ⟨i, b⟩ := x
    cases b with
    | true =>
      simp only [goodFrom, Bool.and_eq_true, beq_iff_eq] at hg
      refine wpAnyH_all hg.1 (by simp) fun j hj => ?_
      obtain rfl : j = i := by simpa using hj
      exact wpOp_mono (fun a' w' h' => ⟨h'.1, ih fuel _ a' w' hf' hg.2 h'.1 h'.2⟩) h
    | false =>
      simp only [goodFrom, Bool.and_eq_true] at hg
      obtain ⟨oi, v, hi, hy, h'⟩ := h
      exact wpAnyH_take hi hs hg.1.2 hg.1.1 (fun c a w hh => by
        cases hd : oi.dst with
        | none => rw [hd] at hh; exact hh
        | some d => rw [hd] at hh; exact hQ d v c a w hh) hy hS (ih fuel _ _ w hf' hg.2 hS h')

theorem ord_start {id : Nat} {a : Act} {w : World} (S : World → Prop) (l : List (Nat × Bool)) (hm : P.follows .mixedOrders = true) (hs : Region.noSelect ops = true) (hg : goodOrd ops l = true)
    (hQ : ∀ d v c a w, Q (.panic c) (Act.put a (some d) v) w → Q (.panic c) a w) (hS : S w.drew) (h : S w.drew → wpOrd P ops Q S l a w.drew) : (Code.region id ops true).wp P Q a w := by
  unfold goodOrd at hg
  simp only [Bool.and_eq_true, decide_eq_true_eq] at hg
  exact wp_region_held_drew hm hS fun hS => wpAnyH_of_ord hs hQ l _ _ a _ hg.1 hg.2 hS (h hS)

/-- The usual condition: what was there when the region began is as it was. -/
theorem ord_below {id : Nat} {a : Act} {w : World} (l : List (Nat × Bool)) (hm : P.follows .mixedOrders = true) (hs : Region.noSelect ops = true) (hg : goodOrd ops l = true)
    (hQ : ∀ d v c a w, Q (.panic c) (Act.put a (some d) v) w → Q (.panic c) a w) (h : ∀ W, Below w.heap.size w W → wpOrd P ops Q (Below w.heap.size w) l a W) : (Code.region id ops true).wp P Q a w :=
  ord_start (Below w.heap.size w) l hm hs hg hQ (Below.refl _ _).drew fun hS => h _ hS

theorem ord_nil {a : Act} {w : World} (h : Q .normal a w) : wpOrd P ops Q S [] a w := h
theorem ord_skip {i : Nat} {o : Oper} {l : List (Nat × Bool)} {a : Act} {w : World} (ho' : nthO ops.toList i = some o) (hw : Region.wanted o (yielded ops a.tmps) = false)
    (h : wpOrd P ops Q S l (a.put o.dst undef) w) : wpOrd P ops Q S ((i, false) :: l) a w := ⟨o, undef, nthO_spec ho', .inr ⟨hw, rfl⟩, h⟩
theorem ord_cskip {i : Nat} {o : Oper} {l : List (Nat × Bool)} {a : Act} {w : World} (ho' : nthO ops.toList i = some o) (hw : Region.wanted o (yielded ops a.tmps) = false) (hS : S w)
    (h : wpOrd P ops Q S l (a.put o.dst undef) w) : wpOrd P ops Q S ((i, true) :: l) a w := by
  have ho := nthO_spec ho'
  show wpOp P ops Q i _ a w
  unfold wpOp
  rw [ho]
  show if Region.wanted o (yielded ops a.tmps) = true then _ else _
  rw [if_neg (by rw [hw]; decide)]
  exact ⟨hS, h⟩
theorem ord_take {i : Nat} {o : Oper} {v : Value} {l : List (Nat × Bool)} {a : Act} {w : World} (ho' : nthO ops.toList i = some o) (hw : Region.wanted o (yielded ops a.tmps) = true)
    (hy : ∀ W, S W → (execOp a.eval o).run P W = .ok (.value v) W)
    (h : wpOrd P ops Q S l (a.put o.dst v) w) : wpOrd P ops Q S ((i, false) :: l) a w := ⟨o, v, nthO_spec ho', .inl ⟨hw, hy⟩, h⟩
theorem ord_call {i : Nat} {o : Oper} {l : List (Nat × Bool)} {a : Act} {w : World} (ho' : nthO ops.toList i = some o) (hw : Region.wanted o (yielded ops a.tmps) = true)
    (h : ∀ K' : Act → World → Prop, Shut (∀ a w, S w → (S w → wpOrd P ops Q S l a w) → K' a w) → Oper.wp P o a w K' Q) : wpOrd P ops Q S ((i, true) :: l) a w := by
  have ho := nthO_spec ho'
  show wpOp P ops Q i _ a w
  refine wpOp_step ho fun K' hK => ?_
  rw [if_pos hw]
  exact h K' fun a w hS hW => hK a w ⟨hS, hW hS⟩
end
end Go.Proofs.YtfjkmgjjifhdkaaGreat

/-
  Rows that a call makes for itself: what they read as; an element appended.
-/
namespace Go.Proofs.YtfjkmgjjifhdkaaGreat
open Go Go.RowKit

/-- A row of the call's own reads as the list whose elements' cells it holds. -/
theorem own_slr {α : Type} {w : World} {base : Nat} {e : TypeId} {s n : Nat} {v : Value} {xs : List α} {enc : α → List Value} {R : World → α → List Value → Prop}
    (hown : w.ownsRow base e s v n (xs.flatMap enc)) (hl : ∀ x, (enc x).length = s) (hR : ∀ x, R w x (enc x)) (hn : n = xs.length) :
    ∃ A cap, v = .slice A n cap ∧ n ≤ cap ∧ cap ≤ maxLen ∧ SlR s R w A xs := by
  have hget : ∀ (l : List α) (k : Nat) (x : α), l[k]? = some x → ∀ j u, (enc x)[j]? = some u → (l.flatMap enc)[k * s + j]? = some u := by
    intro l
    induction l with
    | nil => intro k x h; simp at h
    | cons y l ih =>
      intro k x hx j u hu
      cases k with
      | zero =>
        simp at hx; subst hx
        obtain ⟨hj, _⟩ := List.getElem?_eq_some_iff.1 hu
        rw [List.flatMap_cons, Nat.zero_mul, Nat.zero_add, List.getElem?_append_left hj]
        exact hu
      | succ k =>
        rw [List.flatMap_cons, List.getElem?_append_right (by rw [hl, Nat.succ_mul]; omega)]
        rw [hl, show (k + 1) * s + j - s = k * s + j by rw [Nat.succ_mul]; omega]
        exact ih k x (by simpa using hx) j u hu
  rcases hown.2 with ⟨rfl, h0⟩ | ⟨g, cap, cur, rfl, hg, hh, hnc, hcm, hcs, htk⟩
  · subst h0
    have : xs = [] := List.length_eq_zero_iff.1 hn.symm
    subst this
    exact ⟨none, 0, rfl, Nat.le_refl _, Nat.zero_le _, SlR.nil⟩
  · refine ⟨some ⟨g, 0, none⟩, cap, rfl, hnc, hcm, fun _ => ⟨g, 0, rfl, ?_, fun k x hx => ⟨enc x, hR x, hl x, fun j u hu => ?_⟩⟩⟩
    · rcases Nat.lt_or_ge g w.heap.size with h | h
      · exact h
      · rw [Array.getElem?_eq_none h] at hh; cases hh
    · have h1 := hget xs k x hx j u hu
      rw [← htk] at h1
      have h2 : cur.toList[k * s + j]? = some u := by
        rw [List.getElem?_take] at h1
        split at h1
        · exact h1
        · cases h1
      unfold World.cell?
      simp only [hh, Nat.zero_add, Option.isSome_none]
      simpa using h2

theorem own_empty (w : World) (e : TypeId) (s base : Nat) (hb : base ≤ w.heap.size) : (w.alloc (.cells #[] e)).ownsRow base e s (.slice (some ⟨w.heap.size, 0, none⟩) 0 0) 0 [] := by
  have h : (w.alloc (.cells #[] e)).heap[w.heap.size]? = some (.cells #[] e) := heap_alloc_new w _
  exact ⟨by simp, .inr ⟨w.heap.size, 0, #[], rfl, hb, h, Nat.le_refl _, Nat.zero_le _, by simp, by simp⟩⟩
theorem own_nil (w : World) (e : TypeId) (s base : Nat) : w.ownsRow base e s (.slice none 0 0) 0 [] := ⟨by simp, .inl ⟨rfl, rfl⟩⟩
theorem own_block_le {w : World} {base : Nat} {e : TypeId} {s n : Nat} {v : Value} {xs : List Value} (h : w.ownsRow base e s v n xs) : ∀ k, v.ownBlock = some k → base ≤ k := fun k hk => by
  rcases h.2 with ⟨rfl, _⟩ | ⟨g, cap, cur, rfl, hg, _⟩
  · simp [Value.ownBlock] at hk
  · simp [Value.ownBlock] at hk; omega

/-- Behind an append: every old block but the row's own is as it was; the row lies where it lay, or in the next new block. -/
structure Apps (w w' : World) (v v' : Value) : Prop where
  keep : ∀ k, k < w.heap.size → v.ownBlock ≠ some k → w'.heap[k]? = w.heap[k]?
  at_ : v'.ownBlock = v.ownBlock ∨ ∃ k, v'.ownBlock = some k ∧ w.heap.size ≤ k
theorem Apps.cell {w w' : World} {v v' : Value} (h : Apps w w' v v') {b o : Nat} (hb : b < w.heap.size) (hne : v.ownBlock ≠ some b) : w'.cell? ⟨b, o, none⟩ = w.cell? ⟨b, o, none⟩ := World.cell?_of_block (h.keep b hb hne)
theorem Apps.frozen {w w' : World} {v v' : Value} (h : Apps w w' v v') {b o : Nat} (hb : b < w.heap.size) (hne : v.ownBlock ≠ some b) : w'.frozen? ⟨b, o, none⟩ = w.frozen? ⟨b, o, none⟩ := World.frozen?_of_block (h.keep b hb hne)
theorem Apps.ne {w w' : World} {v v' : Value} (h : Apps w w' v v') {b : Nat} (hb : b < w.heap.size) (hne : v.ownBlock ≠ some b) : v'.ownBlock ≠ some b := fun e => by
  rcases h.at_ with h1 | ⟨k, h1, h2⟩
  · exact hne (by rw [← h1]; exact e)
  · rw [h1] at e; injection e with e; omega
theorem own_lt {w : World} {base : Nat} {e : TypeId} {s n : Nat} {v : Value} {xs : List Value} (h : w.ownsRow base e s v n xs) {k : Nat} (hk : w.heap.size ≤ k) : v.ownBlock ≠ some k := fun e => by
  rcases h.2 with ⟨rfl, _⟩ | ⟨g, cap, cur, rfl, _, hh, _⟩
  · simp [Value.ownBlock] at e
  · simp [Value.ownBlock] at e
    subst e
    rw [Array.getElem?_eq_none hk] at hh; cases hh
theorem own_base {w : World} {base base' : Nat} {e : TypeId} {s n : Nat} {v : Value} {xs : List Value} (h : w.ownsRow base e s v n xs) (hb : base' ≤ base) : w.ownsRow base' e s v n xs := by
  obtain ⟨h1, h2⟩ := h
  refine ⟨h1, h2.imp id fun ⟨g, cap, cur, hv, hg, r⟩ => ⟨g, cap, cur, hv, by omega, r⟩⟩
theorem own_set {w : World} {base : Nat} {e : TypeId} {s n : Nat} {v : Value} {xs : List Value} (h : w.ownsRow base e s v n xs) {a : Addr} (ha : v.ownBlock ≠ some a.block) (u : Value) : (w.setCell a u).ownsRow base e s v n xs := by
  obtain ⟨h1, h2⟩ := h
  refine ⟨h1, ?_⟩
  rcases h2 with h2 | ⟨g, cap, cur, rfl, hg, hh, r⟩
  · exact .inl h2
  · refine .inr ⟨g, cap, cur, rfl, hg, ?_, r⟩
    rw [Below.heap_setCell _ _ _ _ (fun e => ha (by rw [← e]; rfl))]
    exact hh
theorem own_below {w w' : World} {base : Nat} {e : TypeId} {s n : Nat} {v : Value} {xs : List Value} (h : w.ownsRow base e s v n xs) (hb : Below w.heap.size w w') : w'.ownsRow base e s v n xs := by
  obtain ⟨h1, h2⟩ := h
  refine ⟨h1, ?_⟩
  rcases h2 with h2 | ⟨g, cap, cur, rfl, hg, hh, r⟩
  · exact .inl h2
  · refine .inr ⟨g, cap, cur, rfl, hg, ?_, r⟩
    have : g < w.heap.size := by
      rcases Nat.lt_or_ge g w.heap.size with h | h
      · exact h
      · rw [Array.getElem?_eq_none h] at hh; cases hh
    rw [hb.block g this]
    exact hh

section
variable {P : Program}
/-- 'append(out, x)': x's cells lie in a block that was just made. -/
theorem wpList_app1 {ops : Array Oper} {rest : List Oper} {o : Oper} {a : Act} {Q : Exit → Act → World → Prop} {w : World} (hgd : o.guard = none) (s x : Operand) (t : TypeId)
    (ho : o.op = .call { callee := .builtin .append, args := #[s, x], argTypes := #[t, t] })
    (base : Nat) (e : TypeId) (i : TypeInfo) (z : Value) (size bytes : Nat) (ht : P.underlying t = some (.slice e)) (hi : P.info? e = some i) (hz : i.zero = some z)
    (hsize : i.size = size) (hby : i.bytes = bytes) (hzs : z.cells.size = size) (hsz : 0 < size)
    (v : Value) (n : Nat) (xs : List Value) (hs : a.eval s = v) (w0 : World) (vs : List Value) (hw : w = w0.alloc (.cells vs.toArray e)) (hown : w0.ownsRow base e size v n xs)
    (g : Nat) (hx : a.eval x = .slice (some ⟨g, 0, none⟩) 1 1) (hg : g = w0.heap.size) (hl : vs.length = size) (h1 : ∀ u ∈ vs, u.oneCell' = true)
    (hn : n ≤ 1000000) (hbb : bytes ≤ 1000) (hbase : base ≤ w0.heap.size)
    (h : ∀ v' w', w'.ownsRow base e size v' (n + 1) (xs ++ vs) → Below base w0 w' → Apps w0 w' v v' → wpList P ops Q rest (a.put o.dst v') w') : wpList P ops Q (o :: rest) a w := by
  subst hw
  subst hg
  have hb1 : (n + 1) * bytes ≤ 1000001 * 1000 := Nat.mul_le_mul (by omega) hbb
  refine wpList_plain hgd fun K hK => ?_
  obtain ⟨v', w', hrun, h2, h3, _, h5⟩ := run_append_own_at (P := P) (w0.alloc (.cells vs.toArray e)) base t o.type e i z size bytes ht hi hz hsize hby hzs hsz v n xs (hown.alloc _) ⟨w0.heap.size, 0, none⟩ 1 1 vs (by rw [hl]; omega)
    (fun j u hj => by rw [add_mk, Nat.zero_add, new_cell]; simpa using hj) h1 (by unfold maxLen; omega) (by omega) (by simp; omega)
  unfold Oper.wp execOp
  simp only [ho, resolve, invoke, builtin, Sem.run_bind, Sem.run_pure, Result.andThen_ok, List.map_toArray, List.map_cons, List.map_nil, hs, hx, hrun]
  refine hK _ _ (h v' w' h2 (((Below.refl _ _).alloc hbase _).grown h3 (by simp; omega) (own_block_le hown)) ⟨fun k hk hne => ?_, ?_⟩)
  · exact (h3.block k (by simp; omega) (fun e => hne e.symm)).trans (Below.heap_alloc _ _ _ hk)
  · rcases h5 with h5 | h5
    · exact .inl h5
    · exact .inr ⟨_, h5, by simp⟩
end
end Go.Proofs.YtfjkmgjjifhdkaaGreat
