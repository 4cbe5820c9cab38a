/-
  The plain law of layer 16: the beginnings of all candidates are right pages.
-/
import Derived.Test.YtbikjmafddndpaaGrWalkM
import Derived.Test.YtbikjmafddndpaaGrWalkR
namespace Go.Proofs.Ytbikjmafddndpaa
open List

theorem allC_is {g : Gr} (hg : GrOK g) (h14 : g.ls.length ≤ 14) : IsAll g (allC g) := ref_all hg h14 (by decide)
theorem diff_take : ∀ (A : List Can) (k m : Nat), diffAt (A.take k) A m = none
  | [], k, m => by simp [diffAt]
  | a :: A, 0, m => by simp [diffAt]
  | a :: A, k + 1, m => by
    rw [take_succ_cons]
    unfold diffAt
    rw [if_pos rfl]
    exact diff_take A k (m + 1)
/-- The first k candidates, with any Whole. -/
theorem first_check {g : Gr} (hg : GrOK g) (h14 : g.ls.length ≤ 14) {k : Nat} (hk : k ≤ (allC g).length) (b : Bool) : checkM g ((allC g).take k) b = if b = decide (k = (allC g).length) then ((k : Int), 0) else ((k : Int), 160) := by
  rw [check_eq hg (allC_is hg h14)]
  unfold refCheckM
  rw [diff_take]
  dsimp only
  rw [length_take, Nat.min_eq_left hk]
  by_cases h : b = decide (k = (allC g).length)
  · rw [if_pos h, if_neg (by simpa using h)]
  · rw [if_neg h, if_pos h]
theorem checkAll_pot {g : Gr} (hg : GrOK g) (l : List Can) (b : Bool) : checkAll g (potL g) l b = checkM g l b := by
  unfold checkAll
  rw [if_neg (by rw [grB_iff.2 hg]; simp), if_neg (by simp)]
theorem checkAll_bad {g : Gr} (hg : GrOK g) {hs : List Int} (h : hs ≠ potL g) (l : List Can) (b : Bool) : checkAll g hs l b = (-1, 160) := by
  unfold checkAll
  rw [if_neg (by rw [grB_iff.2 hg]; simp), if_pos h]
theorem potL_len {g : Gr} (hg : GrOK g) : ((potL g).length : Int) = g.n := by
  have := hg.n
  unfold potL
  rw [potS_len]
  omega
theorem potL_bd {g : Gr} (hg : GrOK g) : ∀ x ∈ potL g, -1 ≤ x ∧ x ≤ 2000000000 := fun x hx => by
  have := potS_bd hg g.n.toNat x hx
  have := hg.n
  omega
theorem set_eq_iff {l : List Int} {i : Nat} {x y : Int} (h : l[i]? = some x) : l.set i y = l ↔ y = x := by
  constructor
  · intro e
    have this : (l.set i y)[i]? = l[i]? := by rw [e]
    have hi := (List.getElem?_eq_some_iff.1 h).1
    rw [getElem?_set, if_pos rfl, if_pos hi, h] at this
    exact Option.some.inj this
  · intro e
    subst e
    apply ext_getElem?
    intro j
    rw [getElem?_set]
    split
    · rename_i hij; subst hij
      split
      · exact h.symm
      · rw [List.getElem?_eq_none (by omega)]
    · rfl
end Go.Proofs.Ytbikjmafddndpaa
