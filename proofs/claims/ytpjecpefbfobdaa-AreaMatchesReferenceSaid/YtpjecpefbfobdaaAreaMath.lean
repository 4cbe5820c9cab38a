/-
  The plain things of layer 21: areas, taps, choices, points; what the functions compute.
-/
import Derived.Test.YtpjecpefbfobdaaLib
namespace Go.Proofs.Ytpjecpefbfobdaa
open Go Go.RowKit

structure Ar where
  key : Int
  x0 : Int
  y0 : Int
  x1 : Int
  y1 : Int
deriving DecidableEq, Inhabited
structure Tp where
  key : Int
  dx : Int
  dy : Int
  n : Int
deriving DecidableEq, Inhabited
structure Cho where
  key : Int
  cost : Int
deriving DecidableEq, Inhabited
structure Pt where
  x : Int
  y : Int
deriving DecidableEq, Inhabited

def letB (c : Int) : Bool := decide (97 ≤ c) && decide (c ≤ 122)
def coordB (v : Int) : Bool := decide (0 ≤ v) && decide (v ≤ 1000)
def insideB (p : Pt) : Bool := coordB p.x && coordB p.y
def bey (v lo hi : Int) : Int := max (max (lo - v) (v - hi)) 0
def shiftOf : List Tp → Int → Pt
  | [], _ => ⟨0, 0⟩
  | t :: l, k => if t.key = k ∧ 4 ≤ t.n then ⟨t.dx.tdiv t.n, t.dy.tdiv t.n⟩ else shiftOf l k
def priceOf (a : Ar) (s p : Pt) : Int :=
  (bey (p.x - s.x) a.x0 a.x1 * bey (p.x - s.x) a.x0 a.x1 + bey (p.y - s.y) a.y0 a.y1 * bey (p.y - s.y) a.y0 a.y1) / 16
def midOf (a : Ar) : Pt := ⟨(a.x0 + a.x1).tdiv 2, (a.y0 + a.y1).tdiv 2⟩

/-- No number of the area, the point, the tap is great. -/
def Small (v : Int) : Prop := -268435456 ≤ v ∧ v ≤ 268435456
structure ArOK (a : Ar) : Prop where
  x0 : Small a.x0
  y0 : Small a.y0
  x1 : Small a.x1
  y1 : Small a.y1
structure PtOK (p : Pt) : Prop where
  x : Small p.x
  y : Small p.y
structure TpOK (t : Tp) : Prop where
  dx : Small t.dx
  dy : Small t.dy

theorem drop_of {α : Type} {xs : List α} {k : Nat} {x : α} (h : xs[k]? = some x) : xs.drop k = x :: xs.drop (k + 1) := by
  obtain ⟨hk, rfl⟩ := List.getElem?_eq_some_iff.1 h
  exact List.drop_eq_getElem_cons hk
theorem drop_end {α : Type} {xs : List α} {k : Nat} (h : ¬ k < xs.length) : xs.drop k = [] := List.drop_eq_nil_of_le (by omega)

theorem bey_bd {v lo hi : Int} (h1 : -536870912 ≤ v ∧ v ≤ 536870912) (h2 : Small lo) (h3 : Small hi) : 0 ≤ bey v lo hi ∧ bey v lo hi ≤ 805306368 := by
  unfold bey Small at *
  omega
theorem sq_bd {v B : Int} (h0 : 0 ≤ v) (h1 : v ≤ B) : 0 ≤ v * v ∧ v * v ≤ B * B :=
  ⟨Int.mul_nonneg h0 h0, Int.mul_le_mul h1 h1 h0 (by omega)⟩
theorem tdiv_small {a n : Int} (h : Small a) (hn : 1 ≤ n) : Small (a.tdiv n) := by
  unfold Small at *
  rcases Int.le_total 0 a with h0 | h0
  · rw [Int.tdiv_eq_ediv_of_nonneg h0]
    have h1 := Int.ediv_nonneg h0 (show 0 ≤ n by omega)
    have h2 := Int.ediv_le_self n h0
    omega
  · obtain ⟨b, rfl⟩ : ∃ b, a = -b := ⟨-a, by omega⟩
    rw [Int.neg_tdiv, Int.tdiv_eq_ediv_of_nonneg (by omega)]
    have h1 := Int.ediv_nonneg (show 0 ≤ b by omega) (show 0 ≤ n by omega)
    have h2 := Int.ediv_le_self n (show 0 ≤ b by omega)
    omega
theorem wrap_in {n : Int} (h : -9223372036854775808 ≤ n ∧ n ≤ 9223372036854775807) : IntKind.i64.wrap n = n := IntWalk.i64_in _ (by omega)
theorem wrap_small {n : Int} (h : Small n) : IntKind.i64.wrap n = n := wrap_in (by unfold Small at h; omega)
theorem shift_small {l : List Tp} {k : Int} (h : ∀ t ∈ l, TpOK t) : PtOK (shiftOf l k) := by
  induction l with
  | nil => exact ⟨by simp [shiftOf, Small], by simp [shiftOf, Small]⟩
  | cons t l ih =>
    unfold shiftOf
    split
    · rename_i hc
      have ht := h t (by simp)
      exact ⟨tdiv_small ht.dx (by omega), tdiv_small ht.dy (by omega)⟩
    · exact ih fun t ht => h t (by simp [ht])
end Go.Proofs.Ytpjecpefbfobdaa
