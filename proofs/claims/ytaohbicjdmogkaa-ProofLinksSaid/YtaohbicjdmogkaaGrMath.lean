/-
  The plain things of layers 15 and 16: graphs, links, candidates; potentials.
-/
import Derived.Test.YtaohbicjdmogkaaLib
namespace Go.Proofs.Ytaohbicjdmogkaa
open Go Go.RowKit

structure Lk where
  fr : Int
  to : Int
  lb : Int
  cost : Int
deriving DecidableEq, Inhabited
structure Gr where
  n : Int
  ls : List Lk
deriving DecidableEq, Inhabited
structure Can where
  links : List Int
  cost : Int
deriving DecidableEq, Inhabited

def lkB (n : Int) (l : Lk) : Bool :=
  !(decide (l.fr < 0) || decide (l.to ≤ l.fr) || decide (n ≤ l.to)) && !(decide (l.lb < 0) || decide (1000000 < l.lb) || decide (l.cost < 0) || decide (1000000 < l.cost))
def grB (g : Gr) : Bool := !(decide (g.n < 1) || decide (2000 < g.n) || decide (20000 < g.ls.length)) && g.ls.all (lkB g.n)
/-- What a valid link is. -/
structure LkOK (n : Int) (l : Lk) : Prop where
  fr : 0 ≤ l.fr
  lt : l.fr < l.to
  to : l.to < n
  lb : 0 ≤ l.lb ∧ l.lb ≤ 1000000
  cost : 0 ≤ l.cost ∧ l.cost ≤ 1000000
structure GrOK (g : Gr) : Prop where
  n : 1 ≤ g.n ∧ g.n ≤ 2000
  len : g.ls.length ≤ 20000
  ls : ∀ l ∈ g.ls, LkOK g.n l
theorem lkB_iff {n : Int} {l : Lk} : lkB n l = true ↔ LkOK n l := by
  unfold lkB
  constructor
  · intro h
    simp at h
    exact ⟨by omega, by omega, by omega, by omega, by omega⟩
  · rintro ⟨h1, h2, h3, h4, h5⟩
    simp
    omega
theorem grB_iff {g : Gr} : grB g = true ↔ GrOK g := by
  unfold grB
  rw [Bool.and_eq_true, List.all_eq_true]
  constructor
  · rintro ⟨h1, h2⟩
    simp at h1
    exact ⟨by omega, by omega, fun l hl => lkB_iff.1 (h2 l hl)⟩
  · rintro ⟨h1, h2, h3⟩
    exact ⟨by simp; omega, fun l hl => lkB_iff.2 (h3 l hl)⟩

/-- The indices of the links that leave a node, in increasing order. -/
def lvTo (ls : List Lk) (v : Int) : Nat → List Int
  | 0 => []
  | k + 1 => match ls[k]? with
    | some l => if l.fr = v then lvTo ls v k ++ [(k : Int)] else lvTo ls v k
    | none => lvTo ls v k
def lvs (g : Gr) (v : Int) : List Int := lvTo g.ls v g.ls.length
theorem lvTo_succ {ls : List Lk} {v : Int} {k : Nat} {l : Lk} (h : ls[k]? = some l) : lvTo ls v (k + 1) = if l.fr = v then lvTo ls v k ++ [(k : Int)] else lvTo ls v k := by
  show (match ls[k]? with | some l => if l.fr = v then lvTo ls v k ++ [(k : Int)] else lvTo ls v k | none => lvTo ls v k) = _
  rw [h]
theorem lvTo_mem {ls : List Lk} {v : Int} : ∀ k, k ≤ ls.length → ∀ i, i ∈ lvTo ls v k ↔ ∃ j : Nat, j < k ∧ i = (j : Int) ∧ ∃ l, ls[j]? = some l ∧ l.fr = v := by
  intro k
  induction k with
  | zero => intro _ i; simp [lvTo]
  | succ k ih =>
    intro hk i
    have hl : ls[k]? = some ls[k] := List.getElem?_eq_getElem (by omega)
    rw [lvTo_succ hl]
    have h := ih (by omega) i
    constructor
    · intro hi
      split at hi
      · rename_i hf
        rcases List.mem_append.1 hi with h1 | h1
        · obtain ⟨j, hj, r⟩ := h.1 h1
          exact ⟨j, by omega, r⟩
        · obtain rfl := List.mem_singleton.1 h1
          exact ⟨k, by omega, rfl, _, hl, hf⟩
      · obtain ⟨j, hj, r⟩ := h.1 hi
        exact ⟨j, by omega, r⟩
    · rintro ⟨j, hj, hij, l, hlj, hf⟩
      rcases Nat.lt_or_ge j k with h1 | h1
      · have := h.2 ⟨j, h1, hij, l, hlj, hf⟩
        split
        · exact List.mem_append.2 (.inl this)
        · exact this
      · obtain rfl : j = k := by omega
        rw [hl] at hlj
        rw [if_pos (by rw [Option.some.inj hlj]; exact hf)]
        exact List.mem_append.2 (.inr (by simp [hij]))
theorem lvs_mem {g : Gr} {v i : Int} : i ∈ lvs g v ↔ ∃ (j : Nat) (l : Lk), i = (j : Int) ∧ g.ls[j]? = some l ∧ l.fr = v := by
  unfold lvs
  rw [lvTo_mem _ (Nat.le_refl _)]
  constructor
  · rintro ⟨j, _, h1, l, h2, h3⟩; exact ⟨j, l, h1, h2, h3⟩
  · rintro ⟨j, l, h1, h2, h3⟩; exact ⟨j, (List.getElem?_eq_some_iff.1 h2).1, h1, l, h2, h3⟩
theorem lvTo_inc {ls : List Lk} {v : Int} : ∀ k, k ≤ ls.length → (lvTo ls v k).Pairwise (· < ·) := by
  intro k
  induction k with
  | zero => intro _; exact List.Pairwise.nil
  | succ k ih =>
    intro hk
    have hl : ls[k]? = some ls[k] := List.getElem?_eq_getElem (by omega)
    rw [lvTo_succ hl]
    split
    · rw [List.pairwise_append]
      refine ⟨ih (by omega), List.pairwise_singleton _ _, fun a ha b hb => ?_⟩
      obtain rfl := List.mem_singleton.1 hb
      obtain ⟨j, hj, rfl, _⟩ := (lvTo_mem k (by omega) a).1 ha
      omega
    · exact ih (by omega)
theorem lvs_inc (g : Gr) (v : Int) : (lvs g v).Pairwise (· < ·) := lvTo_inc _ (Nat.le_refl _)

/-- The link of an index. -/
def lkAt (g : Gr) (i : Int) : Lk := g.ls.getD i.toNat default
/-- One step of a potential: the link i, where tail has the potentials of the nodes behind v. -/
def potStep (g : Gr) (v : Int) (tail : List Int) (acc i : Int) : Int :=
  let l := lkAt g i
  let t := tail.getD (l.to - v - 1).toNat 0
  if 0 ≤ t ∧ (acc < 0 ∨ l.cost + t < acc) then l.cost + t else acc
/-- The potentials of the last k nodes. -/
def potS (g : Gr) : Nat → List Int
  | 0 => []
  | 1 => [0]
  | k + 2 => (lvs g (g.n - (k + 2))).foldl (potStep g (g.n - (k + 2)) (potS g (k + 1))) (-1) :: potS g (k + 1)
theorem potS_len (g : Gr) : ∀ k, (potS g k).length = k
  | 0 => rfl
  | 1 => rfl
  | k + 2 => by simp [potS, potS_len g (k + 1)]
def potL (g : Gr) : List Int := potS g g.n.toNat
def potsOf (g : Gr) : List Int × Int := if grB g = true then (potL g, 0) else ([], 150)
end Go.Proofs.Ytaohbicjdmogkaa
