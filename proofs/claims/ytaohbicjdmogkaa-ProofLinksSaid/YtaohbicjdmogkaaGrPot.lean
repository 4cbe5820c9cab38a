/-
  The plain law of layer 16: bounds of potentials; the row in which they are reckoned.
-/
import Derived.Test.YtaohbicjdmogkaaGrLaw
namespace Go.Proofs.Ytaohbicjdmogkaa
open List

theorem potS_succ (g : Gr) {k : Nat} (hk : 1 ≤ k) : potS g (k + 1) = (lvs g (g.n - (k + 1))).foldl (potStep g (g.n - (k + 1)) (potS g k)) (-1) :: potS g k := by
  obtain ⟨j, rfl⟩ : ∃ j, k = j + 1 := ⟨k - 1, by omega⟩
  show (lvs g (g.n - ((j : Int) + 2))).foldl (potStep g (g.n - ((j : Int) + 2)) (potS g (j + 1))) (-1) :: potS g (j + 1) = _
  have e : g.n - ((j : Int) + 2) = g.n - (((j + 1 : Nat) : Int) + 1) := by omega
  rw [e]
theorem getD_bd {l : List Int} {B : Int} (h : ∀ x ∈ l, -1 ≤ x ∧ x ≤ B) (hB : 0 ≤ B) (i : Nat) : -1 ≤ l.getD i 0 ∧ l.getD i 0 ≤ B := by
  rw [getD_eq_getElem?_getD]
  cases hi : l[i]? with
  | none => simp; omega
  | some x => exact h x (mem_of_getElem? hi)
theorem step_bd {g : Gr} (hg : GrOK g) {v B : Int} {tail : List Int} (ht : ∀ x ∈ tail, -1 ≤ x ∧ x ≤ B) (hB : 0 ≤ B) {L : List Int} (hL : ∀ i ∈ L, 0 ≤ i ∧ i < g.ls.length) : ∀ a : Int, -1 ≤ a ∧ a ≤ B + 1000000 → -1 ≤ L.foldl (potStep g v tail) a ∧ L.foldl (potStep g v tail) a ≤ B + 1000000 := by
  induction L with
  | nil => intro a h; exact h
  | cons i L ih =>
    intro a h
    rw [foldl_cons]
    refine ih (fun j hj => hL j (by simp [hj])) _ ?_
    have hok := lkAt_ok hg (hL i (by simp))
    have hc := hok.cost
    have hb := getD_bd ht hB ((lkAt g i).to - v - 1).toNat
    unfold potStep
    dsimp only
    split <;> omega
theorem potS_bd {g : Gr} (hg : GrOK g) : ∀ k : Nat, ∀ x ∈ potS g k, -1 ≤ x ∧ x ≤ 1000000 * (k : Int)
  | 0 => by simp [potS]
  | 1 => by simp [potS]
  | k + 2 => by
    intro x hx
    have ih := potS_bd hg (k + 1)
    rw [potS_succ g (k := k + 1) (by omega)] at hx
    rcases mem_cons.1 hx with rfl | hx
    · have := step_bd hg (v := g.n - (((k + 1 : Nat) : Int) + 1)) (tail := potS g (k + 1)) (B := 1000000 * ((k + 1 : Nat) : Int)) ih (by omega) (L := lvs g (g.n - (((k + 1 : Nat) : Int) + 1))) (fun i hi => by have := lvs_iff.1 hi; omega) (-1) (by omega)
      omega
    · have := ih x hx
      omega
theorem lvTo_ok {g : Gr} {v : Int} {k : Nat} (hk : k ≤ g.ls.length) : ∀ i ∈ lvTo g.ls v k, 0 ≤ i ∧ i < g.ls.length := fun i hi => by
  obtain ⟨j, hj, rfl, _⟩ := (lvTo_mem k hk i).1 hi
  omega
/-- The row of potentials while they are reckoned: m nodes still to come, one at hand, the others done. -/
def potRow (m : Nat) (acc : Int) (tail : List Int) : List Int := replicate m 0 ++ acc :: tail
theorem potRow_at (m : Nat) (acc : Int) (tail : List Int) : (potRow m acc tail)[m]? = some acc := by
  unfold potRow
  rw [getElem?_append_right (by simp)]
  simp
theorem potRow_tail {m : Nat} {acc : Int} {tail : List Int} {j : Nat} (h : m < j) (hj : j < m + 1 + tail.length) : (potRow m acc tail)[j]? = some (tail.getD (j - m - 1) 0) := by
  unfold potRow
  rw [getElem?_append_right (by simp; omega)]
  simp only [length_replicate]
  obtain ⟨i, hi⟩ : ∃ i, j - m = i + 1 := ⟨j - m - 1, by omega⟩
  rw [hi, getElem?_cons_succ, Nat.add_sub_cancel, getD_eq_getElem?_getD, getElem?_eq_getElem (by omega)]
  rfl
theorem potRow_set (m : Nat) (acc x : Int) (tail : List Int) : (potRow m acc tail).set m x = potRow m x tail := by
  unfold potRow
  rw [set_append_right _ _ (by simp)]
  simp
theorem potRow_start (m : Nat) (tail : List Int) : replicate (m + 1) 0 ++ tail = potRow m 0 tail := by
  unfold potRow
  rw [replicate_succ', append_assoc]
  rfl
/-- One more link of the reference's loop. -/
theorem acc_snoc {g : Gr} {v : Int} {tail : List Int} {j : Nat} {l : Lk} (h : g.ls[j]? = some l) :
    (lvTo g.ls v (j + 1)).foldl (potStep g v tail) (-1) = if l.fr = v then potStep g v tail ((lvTo g.ls v j).foldl (potStep g v tail) (-1)) (j : Int) else (lvTo g.ls v j).foldl (potStep g v tail) (-1) := by
  rw [lvTo_succ h]
  split
  · rw [foldl_append]; rfl
  · rfl
theorem lkAt_nat {g : Gr} {j : Nat} {l : Lk} (h : g.ls[j]? = some l) : lkAt g (j : Int) = l := by
  unfold lkAt
  rw [Int.toNat_natCast, getD_eq_getElem?_getD, h]
  rfl
end Go.Proofs.Ytaohbicjdmogkaa
