/-
  The plain law of layer 21: going away from the only area of a board.
-/
import Derived.Test.YtpjecpefbfobdaaAreaLaw2
namespace Go.Proofs.Ytpjecpefbfobdaa
open List

def oneAr (p : B2) : Ar := ⟨97, 0, 0, p.a % 21, p.b % 21⟩
theorem made_one (p : B2) : madeA [p] = [oneAr p] := by
  simp [madeA, madeTo, madeStep, oneAr]
/-- The cost at a distance x, the other axis fixed. -/
def cD (y1 y x : Int) : Int := (x * x + (max (y - y1) 0) * (max (y - y1) 0)) / 16
theorem price_one {p : B2} (hp : B2OK p) {x y : Int} (hx : 0 ≤ x) (hy : 0 ≤ y) : priceOf (oneAr p) ⟨0, 0⟩ ⟨p.a % 21 + x, y⟩ = cD (p.b % 21) y x := by
  obtain ⟨⟨p1, p2⟩, p3, p4⟩ := hp
  have h1 : bey (p.a % 21 + x - 0) 0 (p.a % 21) = x := by unfold bey; omega
  have h2 : bey (y - 0) 0 (p.b % 21) = max (y - p.b % 21) 0 := by unfold bey; omega
  unfold priceOf oneAr cD
  dsimp only
  rw [h1, h2]
theorem touch_one {p : B2} (hp : B2OK p) {x y : Int} (hx : 0 ≤ x ∧ x ≤ 400) (hy : 0 ≤ y ∧ y ≤ 255) :
    touchOf [oneAr p] [] ⟨p.a % 21 + x, y⟩ = if cD (p.b % 21) y x ≤ 1000 then ([⟨97, cD (p.b % 21) y x⟩], 0) else ([], 210) := by
  have hin : insideB ⟨p.a % 21 + x, y⟩ = true := by
    obtain ⟨⟨p1, p2⟩, _⟩ := hp
    unfold insideB coordB
    simp; omega
  have hc : chosOf [oneAr p] [] ⟨p.a % 21 + x, y⟩ = if cD (p.b % 21) y x ≤ 1000 then [⟨97, cD (p.b % 21) y x⟩] else [] := by
    unfold chosOf
    have e : shiftOf [] (oneAr p).key = ⟨0, 0⟩ := rfl
    simp only [map_cons, map_nil, e, price_one hp hx.1 hy.1, filter_cons, filter_nil]
    split <;> simp_all [oneAr]
  unfold touchOf
  rw [if_pos hin, hc]
  split
  · rw [if_neg (by simp), few_small (by simp)]
  · rw [if_pos rfl]
theorem cD_mono {y1 y x x' : Int} (h0 : 0 ≤ x) (h : x ≤ x') : cD y1 y x ≤ cD y1 y x' := by
  unfold cD
  have h1 : x * x ≤ x' * x' := Int.mul_le_mul h h h0 (by omega)
  omega
theorem cD_nonneg {y1 y x : Int} : 0 ≤ cD y1 y x := by
  unfold cD
  have h1 : 0 ≤ x * x := by
    rcases Int.le_total 0 x with h | h
    · exact Int.mul_nonneg h h
    · exact Int.mul_nonneg_of_nonpos_of_nonpos h h
  have h2 : 0 ≤ (max (y - y1) 0) * (max (y - y1) 0) := Int.mul_nonneg (by omega) (by omega)
  omega
theorem cD_near {y1 y x : Int} (h0 : 0 ≤ x) (h : cD y1 y x ≤ 1000) : x ≤ 126 := by
  rcases Int.lt_or_le 126 x with h1 | h1
  · have h2 : 127 * 127 ≤ x * x := Int.mul_le_mul (by omega) (by omega) (by omega) h0
    have h3 : 0 ≤ (max (y - y1) 0) * (max (y - y1) 0) := Int.mul_nonneg (by omega) (by omega)
    unfold cD at h
    omega
  · exact h1
theorem cD_far {y1 y x : Int} (h0 : 0 ≤ x) (hy : 0 ≤ y) (hy1 : 0 ≤ y1) (h : ¬ cD y1 y x ≤ 1000) : 100 < x + y := by
  rcases Int.lt_or_le 100 (x + y) with h1 | h1
  · exact h1
  · exfalso
    apply h
    obtain ⟨d, hd⟩ : ∃ d, max (y - y1) 0 = d := ⟨_, rfl⟩
    have hd0 : 0 ≤ d ∧ d ≤ y := by omega
    have h2 : (x + d) * (x + d) ≤ 100 * 100 := Int.mul_le_mul (by omega) (by omega) (by omega) (by omega)
    have h3 : 0 ≤ x * d := Int.mul_nonneg h0 hd0.1
    have h4 : (x + d) * (x + d) = x * x + d * d + 2 * (x * d) := by rw [Int.add_mul, Int.mul_add, Int.mul_add, Int.mul_comm d x]; omega
    unfold cD
    rw [hd]
    omega
end Go.Proofs.Ytpjecpefbfobdaa
