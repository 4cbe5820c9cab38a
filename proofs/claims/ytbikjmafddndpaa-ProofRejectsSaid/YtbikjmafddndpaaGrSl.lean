/-
  Words for memory of layers 15 and 16: slices of slices; parts of rows.
-/
import Derived.Test.YtbikjmafddndpaaGrMem
import Derived.Test.YtbikjmafddndpaaBase
namespace Go.Proofs.Ytbikjmafddndpaa
open Go Go.RowKit

/-- A slice that lies in one cell and reads as a list of numbers. -/
def RSl (w : World) (x : List Int) (vs : List Value) : Prop := ∃ A c, vs = [.slice A x.length c] ∧ SlR 1 RInt w A x ∧ x.length ≤ c ∧ c ≤ maxLen
theorem keeps_sl : Keeps RSl := fun _ _ _ _ hb ⟨A, c, h, hs, hl⟩ => ⟨A, c, h, hs.below keeps_int hb, hl⟩
theorem SlR.sl {w : World} {A : Option Addr} {xs : List (List Int)} (h : SlR 1 RSl w A xs) {k : Nat} (hk : k < xs.length) :
    ∃ b off x A' c, A = some ⟨b, off, none⟩ ∧ b < w.heap.size ∧ xs[k]? = some x ∧ w.cell? ⟨b, off + k, none⟩ = some (.slice A' x.length c) ∧ SlR 1 RInt w A' x ∧ x.length ≤ c ∧ c ≤ maxLen := by
  obtain ⟨b, off, x, vs, hA, hlt, hx, ⟨A', c, hr, hs, hl⟩, _, hv⟩ := h.at_ hk
  have h0 := hv 0 (.slice A' x.length c) (by rw [hr]; rfl)
  simp only [Nat.mul_one, Nat.add_zero] at h0
  exact ⟨b, off, x, A', c, hA, hlt, hx, h0, hs, hl⟩
/-- A part of a row, from s on. -/
theorem Row.part {w : World} {g : Nat} {al : List Int} (h : Row w g al) (s : Nat) {xs : List Int} (hx : ∀ (j : Nat) (x : Int), xs[j]? = some x → al[s + j]? = some x) : SlR 1 RInt w (some ⟨g, s, none⟩) xs := fun _ =>
  ⟨g, s, rfl, h.lt, fun k x hk => ⟨[.int .i64 x], rfl, rfl, fun j v hj => by
    match j, hj with
    | 0, hj =>
      simp at hj
      subst hj
      have := h.cell (hx k x hk)
      simpa using this⟩⟩
/-- The part of the list of all that a node's links have. -/
def slV (ga : Nat) (g : Gr) (v : Nat) : Value := .slice (if stN g (v + 1) = stN g v then some ⟨ga, 0, none⟩ else some ⟨ga, stN g v, none⟩) (stN g (v + 1) - stN g v) (stN g (v + 1) - stN g v)
def fromC (ga : Nat) (g : Gr) (n k : Nat) : List Value := (List.range n).map (fun v => if v < k then slV ga g v else .slice none 0 0)
theorem fromC_zero (ga : Nat) (g : Gr) (n : Nat) : fromC ga g n 0 = List.replicate n (.slice none 0 0) := by
  unfold fromC
  apply List.ext_getElem?
  intro j
  by_cases h : j < n
  · simp [h]
  · simp [h]
theorem fromC_step (ga : Nat) (g : Gr) {n k : Nat} (hk : k < n) : fromC ga g n (k + 1) = (fromC ga g n k).set k (slV ga g k) := by
  unfold fromC
  apply List.ext_getElem?
  intro j
  rw [List.getElem?_set]
  by_cases hj : k = j
  · subst hj
    rw [if_pos rfl]
    simp [hk]
  · rw [if_neg hj]
    by_cases h : j < n
    · simp [h]
      by_cases h2 : j < k
      · simp [h2, Nat.lt_succ_of_lt h2]
      · have : ¬ j < k + 1 := by omega
        simp [h2, this]
    · simp [h]
theorem fromC_len (ga : Nat) (g : Gr) (n k : Nat) : (fromC ga g n k).length = n := by unfold fromC; simp
/-- What leaving answers. -/
def leavL (g : Gr) (n : Nat) : List (List Int) := (List.range n).map (fun v : Nat => lvs g (v : Int))
theorem leavL_len (g : Gr) (n : Nat) : (leavL g n).length = n := by unfold leavL; simp
theorem leavL_at (g : Gr) {n v : Nat} (hv : v < n) : (leavL g n)[v]? = some (lvs g (v : Int)) := by unfold leavL; simp [hv]
theorem from_slr {w : World} {gf ga : Nat} {t : TypeId} {g : Gr} {n : Nat} {al : List Int} (hb : Blk w gf t (fromC ga g n n).toArray) (ha : AllTo g g.ls.length al) (hr : Row w ga al) (hl : g.ls.length ≤ maxLen) : SlR 1 RSl w (some ⟨gf, 0, none⟩) (leavL g n) := fun _ => by
  refine ⟨gf, 0, rfl, hb.lt, fun k x hx => ?_⟩
  have hk := (List.getElem?_eq_some_iff.1 hx).1
  rw [leavL_len] at hk
  rw [leavL_at g hk] at hx
  obtain rfl := Option.some.inj hx
  have hlen : stN g (k + 1) - stN g k = (lvs g (k : Int)).length := by rw [stN_succ]; omega
  refine ⟨[slV ga g k], ⟨_, _, by unfold slV; rw [hlen], ?_, Nat.le_refl _, by have := stN_le g (k + 1); rw [stN_succ] at this; omega⟩, rfl, fun j v hj => ?_⟩
  · by_cases h0 : stN g (k + 1) = stN g k
    · intro hne
      exfalso
      apply hne
      apply List.eq_nil_of_length_eq_zero
      omega
    · rw [if_neg h0]
      exact hr.part _ fun j x hj => ha.2 k j x hj
  match j, hj with
  | 0, hj =>
    simp at hj
    subst hj
    rw [hb.cell]
    unfold fromC
    simp [hk]
end Go.Proofs.Ytbikjmafddndpaa
