/-
  The plain law of layer 21: touches that all miss by the same step.
-/
import Derived.Test.YtpjecpefbfobdaaAreaLaw8
namespace Go.Proofs.Ytpjecpefbfobdaa
open List

def nOf : Nat → Nat
  | 0 => 0
  | i + 1 => if nOf i + 1 = 64 then 32 else nOf i + 1
def tsI (key dx dy : Int) : Nat → List Tp
  | 0 => []
  | i + 1 => [⟨key, (nOf (i + 1) : Int) * dx, (nOf (i + 1) : Int) * dy, (nOf (i + 1) : Int)⟩]
theorem nOf_bd (i : Nat) : nOf i ≤ 63 := by
  induction i with
  | zero => simp [nOf]
  | succ i ih => unfold nOf; split <;> omega
theorem nOf_lo (i : Nat) : min i 32 ≤ nOf i := by
  induction i with
  | zero => simp
  | succ i ih => unfold nOf; split <;> omega
theorem tsI_len (key dx dy : Int) (i : Nat) : (tsI key dx dy i).length ≤ 1 := by
  cases i <;> simp [tsI]
theorem mul_bd {n : Nat} {d : Int} (hn : n ≤ 63) (hd : -40 ≤ d ∧ d ≤ 40) : -2520 ≤ (n : Int) * d ∧ (n : Int) * d ≤ 2520 := by
  have h1 : (n : Int) * d ≤ (n : Int) * 40 := Int.mul_le_mul_of_nonneg_left hd.2 (by omega)
  have h2 : (n : Int) * (-40) ≤ (n : Int) * d := Int.mul_le_mul_of_nonneg_left hd.1 (by omega)
  omega
theorem tsI_ok {key dx dy : Int} (hk : 97 ≤ key ∧ key ≤ 122) (hx : -40 ≤ dx ∧ dx ≤ 40) (hy : -40 ≤ dy ∧ dy ≤ 40) (i : Nat) : (∀ t ∈ tsI key dx dy i, TapOK t) ∧ (∀ t ∈ tsI key dx dy i, TpOK t) ∧ (∀ t ∈ tsI key dx dy i, Small t.n) ∧ IncT (tsI key dx dy i) := by
  cases i with
  | zero => simp [tsI, IncT]
  | succ i =>
    have h1 := nOf_bd (i + 1)
    have h2 := nOf_lo (i + 1)
    have bx := mul_bd h1 hx
    have by_ := mul_bd h1 hy
    unfold tsI IncT
    simp only [mem_singleton, forall_eq]
    refine ⟨⟨hk, by first | omega | (dsimp only; omega), by first | omega | (dsimp only; omega), by first | omega | (dsimp only; omega)⟩, ⟨by unfold Small; first | omega | (dsimp only; omega), by unfold Small; first | omega | (dsimp only; omega)⟩, by unfold Small; first | omega | (dsimp only; omega), pairwise_singleton _ _⟩
theorem put_one (t : Tp) : putT [] t.key t = [t] := by simp [putT]
theorem put_same (t u : Tp) (h : u.key = t.key) : putT [u] t.key t = [t] := by simp [putT, h]
theorem adapt_step (a : Ar) (dx dy : Int) (i : Nat) (hin : insideB ⟨(midOf a).x + dx, (midOf a).y + dy⟩ = true) :
    adaptOf [a] (tsI a.key dx dy i) a.key ⟨(midOf a).x + dx, (midOf a).y + dy⟩ = (tsI a.key dx dy (i + 1), 0) := by
  have ha : areaOf [a] a.key = some a := by simp [areaOf]
  unfold adaptOf
  rw [if_pos hin, ha]
  dsimp only
  have ex : (midOf a).x + dx - (midOf a).x = dx := by omega
  have ey : (midOf a).y + dy - (midOf a).y = dy := by omega
  cases i with
  | zero =>
    have : newT (tapOf (tsI a.key dx dy 0) a.key) (midOf a) ⟨(midOf a).x + dx, (midOf a).y + dy⟩ = ⟨a.key, (nOf 1 : Int) * dx, (nOf 1 : Int) * dy, (nOf 1 : Int)⟩ := by
      unfold newT halfT bumpT
      simp [tsI, tapOf, nOf, ex, ey]
    rw [this]
    exact congrArg (·, (0 : Int)) (put_one ⟨a.key, (nOf 1 : Int) * dx, (nOf 1 : Int) * dy, (nOf 1 : Int)⟩)
  | succ i =>
    have ht : tapOf (tsI a.key dx dy (i + 1)) a.key = ⟨a.key, (nOf (i + 1) : Int) * dx, (nOf (i + 1) : Int) * dy, (nOf (i + 1) : Int)⟩ := by simp [tsI, tapOf]
    have : newT (tapOf (tsI a.key dx dy (i + 1)) a.key) (midOf a) ⟨(midOf a).x + dx, (midOf a).y + dy⟩ = ⟨a.key, (nOf (i + 2) : Int) * dx, (nOf (i + 2) : Int) * dy, (nOf (i + 2) : Int)⟩ := by
      rw [ht]
      unfold newT halfT bumpT
      dsimp only
      rw [ex, ey]
      have e1 : (nOf (i + 1) : Int) * dx + dx = ((nOf (i + 1) + 1 : Nat) : Int) * dx := by rw [Int.natCast_add, Int.add_mul]; simp
      have e2 : (nOf (i + 1) : Int) * dy + dy = ((nOf (i + 1) + 1 : Nat) : Int) * dy := by rw [Int.natCast_add, Int.add_mul]; simp
      rw [e1, e2, show nOf (i + 2) = if nOf (i + 1) + 1 = 64 then 32 else nOf (i + 1) + 1 from rfl]
      by_cases h : nOf (i + 1) + 1 = 64
      · rw [if_pos (by omega), if_pos h, h]
        have k1 : ((64 : Nat) : Int) * dx = (32 * dx) * 2 := by omega
        have k2 : ((64 : Nat) : Int) * dy = (32 * dy) * 2 := by omega
        rw [k1, k2, Int.mul_tdiv_cancel _ (by decide), Int.mul_tdiv_cancel _ (by decide)]
        rfl
      · rw [if_neg (by omega), if_neg h]
        simp
    rw [this]
    exact congrArg (·, (0 : Int)) (put_same ⟨a.key, (nOf (i + 2) : Int) * dx, (nOf (i + 2) : Int) * dy, (nOf (i + 2) : Int)⟩ ⟨a.key, (nOf (i + 1) : Int) * dx, (nOf (i + 1) : Int) * dy, (nOf (i + 1) : Int)⟩ rfl)
theorem tsI_shift (key dx dy : Int) {i : Nat} (hi : 4 ≤ i) : shiftOf (tsI key dx dy i) key = ⟨dx, dy⟩ := by
  obtain ⟨j, rfl⟩ : ∃ j, i = j + 1 := ⟨i - 1, by omega⟩
  have h := nOf_lo (j + 1)
  unfold tsI shiftOf
  rw [if_pos ⟨rfl, by dsimp only; omega⟩]
  dsimp only
  rw [Int.mul_comm, Int.mul_tdiv_cancel _ (by omega), Int.mul_comm, Int.mul_tdiv_cancel _ (by omega)]
theorem adapted_touch {a : Ar} {dx dy : Int} {i : Nat} (hi : 4 ≤ i) {p : Pt} (hin : insideB p = true) (hx : a.x0 ≤ p.x - dx ∧ p.x - dx ≤ a.x1) (hy : a.y0 ≤ p.y - dy ∧ p.y - dy ≤ a.y1) :
    touchOf [a] (tsI a.key dx dy i) p = ([⟨a.key, 0⟩], 0) := by
  have hc : chosOf [a] (tsI a.key dx dy i) p = [⟨a.key, 0⟩] := by
    unfold chosOf
    have hp : priceOf a (shiftOf (tsI a.key dx dy i) a.key) p = 0 := by
      rw [tsI_shift _ _ _ hi]
      have h1 : bey (p.x - dx) a.x0 a.x1 = 0 := by unfold bey; omega
      have h2 : bey (p.y - dy) a.y0 a.y1 = 0 := by unfold bey; omega
      unfold priceOf
      dsimp only
      rw [h1, h2]
      rfl
    simp [hp]
  unfold touchOf
  rw [if_pos hin, hc, if_neg (by simp), few_small (by simp)]
end Go.Proofs.Ytpjecpefbfobdaa
