/-
  The walks of layer 11: the models that the statements are about.
-/
import Derived.Test.YtfjkmgjjifhdkaaGreatP02
import Derived.Test.YtfjkmgjjifhdkaaGreatP37
import Derived.Test.YtfjkmgjjifhdkaaGreatP35
import Derived.Test.YtfjkmgjjifhdkaaGreatP32
namespace Go.Proofs.YtfjkmgjjifhdkaaGreat
open Go Go.RowKit

structure Raw where
  words : List (List Int)
  counts : List Int
  uses : List (Int × Int × Int)
  back : Int
def RRow (w : World) (r : List Int) (vs : List Value) : Prop := ∃ A c, vs = [.slice A r.length c] ∧ SlR 1 RU8 w A r ∧ r.length ≤ maxLen ∧ ∀ x ∈ r, 0 ≤ x ∧ x ≤ 255
def RU3 (_ : World) (u : Int × Int × Int) (vs : List Value) : Prop := vs = [.int .u8 u.1, .int .u8 u.2.1, .int .u8 u.2.2]
theorem keeps_row : Keeps RRow := fun _ _ _ _ hb ⟨A, c, h1, h2, h3, h4⟩ => ⟨A, c, h1, h2.below keeps_u8 hb, h3, h4⟩
theorem keeps_u3 : Keeps RU3 := fun _ _ _ _ _ h => h
theorem SlR.row {w : World} {A : Option Addr} {xs : List (List Int)} (h : SlR 1 RRow w A xs) {k : Nat} (hk : k < xs.length) :
    ∃ b off r Ar cr, A = some ⟨b, off, none⟩ ∧ b < w.heap.size ∧ xs[k]? = some r ∧ w.cell? ⟨b, off + k, none⟩ = some (.slice Ar r.length cr) ∧ SlR 1 RU8 w Ar r ∧ r.length ≤ maxLen ∧ ∀ x ∈ r, 0 ≤ x ∧ x ≤ 255 := by
  obtain ⟨b, off, r, vs, hA, hlt, hx, ⟨Ar, cr, rfl, h2, h3, h4⟩, _, hv⟩ := h.at_ hk
  have h0 := hv 0 _ rfl
  simp only [Nat.mul_one, Nat.add_zero] at h0
  exact ⟨b, off, r, Ar, cr, hA, hlt, hx, h0, h2, h3, h4⟩
theorem SlR.u3 {w : World} {A : Option Addr} {xs : List (Int × Int × Int)} (h : SlR 3 RU3 w A xs) {k : Nat} (hk : k < xs.length) :
    ∃ b off u, A = some ⟨b, off, none⟩ ∧ b < w.heap.size ∧ xs[k]? = some u ∧ w.cell? ⟨b, off + k * 3, none⟩ = some (.int .u8 u.1) ∧ w.cell? ⟨b, off + k * 3 + 1, none⟩ = some (.int .u8 u.2.1) ∧ w.cell? ⟨b, off + k * 3 + 2, none⟩ = some (.int .u8 u.2.2) := by
  obtain ⟨b, off, x, vs, hA, hlt, hx, hr, _, hv⟩ := h.at_ hk
  exact ⟨b, off, x, hA, hlt, hx, hv 0 _ (by rw [hr]; rfl), hv 1 _ (by rw [hr]; rfl), hv 2 _ (by rw [hr]; rfl)⟩
structure RawR (w : World) (x : Raw) (A1 A2 A3 : Option Addr) : Prop where
  h1 : SlR 1 RRow w A1 x.words
  h2 : SlR 1 RU8 w A2 x.counts
  h3 : SlR 3 RU3 w A3 x.uses
  l1 : x.words.length ≤ maxLen
  l2 : x.counts.length ≤ maxLen
  l3 : x.uses.length ≤ maxLen
  b2 : ∀ c ∈ x.counts, 0 ≤ c ∧ c ≤ 255
  b3 : ∀ u ∈ x.uses, (0 ≤ u.1 ∧ u.1 ≤ 255) ∧ (0 ≤ u.2.1 ∧ u.2.1 ≤ 255) ∧ (0 ≤ u.2.2 ∧ u.2.2 ≤ 255)
  bk : 0 ≤ x.back ∧ x.back ≤ 255
theorem RawR.below {w w' : World} {x : Raw} {A1 A2 A3 : Option Addr} (h : RawR w x A1 A2 A3) (hb : Below w.heap.size w w') : RawR w' x A1 A2 A3 :=
  ⟨h.h1.below keeps_row hb, h.h2.below keeps_u8 hb, h.h3.below keeps_u3 hb, h.l1, h.l2, h.l3, h.b2, h.b3, h.bk⟩
def ab : List ByteArray := [ByteArray.mk #[97], ByteArray.mk #[98]]
end Go.Proofs.YtfjkmgjjifhdkaaGreat
