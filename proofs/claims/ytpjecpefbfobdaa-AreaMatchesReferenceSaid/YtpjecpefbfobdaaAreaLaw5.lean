/-
  The plain law of layer 21: the taps of other keys do not change the cost for a key.
-/
import Derived.Test.YtpjecpefbfobdaaAreaLaw4
namespace Go.Proofs.Ytpjecpefbfobdaa
open List

theorem chos_cons (a : Ar) (us : List Ar) (ts : List Tp) (p : Pt) :
    chosOf (a :: us) ts p = (if (choOf a ts p).cost ≤ 1000 then [choOf a ts p] else []) ++ chosOf us ts p := by
  unfold chosOf
  simp only [map_cons, filter_cons]
  unfold choOf
  split <;> simp_all
theorem costS_chos {us : List Ar} {ts ts' : List Tp} {p : Pt} {k : Int} (h : shiftOf ts k = shiftOf ts' k) : costS (chosOf us ts p) k = costS (chosOf us ts' p) k := by
  induction us with
  | nil => rfl
  | cons a us ih =>
    rw [chos_cons, chos_cons]
    by_cases hk : a.key = k
    · have e : choOf a ts p = choOf a ts' p := by unfold choOf; rw [hk, h]
      rw [e]
      split
      · show costS (choOf a ts' p :: chosOf us ts p) k = costS (choOf a ts' p :: chosOf us ts' p) k
        unfold costS
        rw [ih]
      · simpa using ih
    · have hs : ∀ (ts : List Tp), costS ((if (choOf a ts p).cost ≤ 1000 then [choOf a ts p] else []) ++ chosOf us ts p) k = costS (chosOf us ts p) k := fun ts => by
        split
        · show costS (choOf a ts p :: chosOf us ts p) k = _
          conv => lhs; unfold costS
          rw [if_neg (show ¬ (choOf a ts p).key = k from hk)]
        · simp
      rw [hs, hs, ih]
theorem touch_small {us : List Ar} {ts : List Tp} {p : Pt} (h : us.length ≤ 8) : (touchOf us ts p).1 = if insideB p = true then chosOf us ts p else [] := by
  unfold touchOf
  split
  · split
    · rename_i h1; rw [h1]
    · exact few_small (Nat.le_trans chos_len h)
  · rfl
theorem others_cost {us : List Ar} {ts : List Tp} {p : Pt} {key k : Int} {t : Tp} (h : us.length ≤ 8) (ht : t.key = key) (hk : k ≠ key) :
    costS (touchOf us ts p).1 k = costS (touchOf us (putT ts key t) p).1 k := by
  rw [touch_small h, touch_small h]
  split
  · exact costS_chos (shift_put ht hk).symm
  · rfl
end Go.Proofs.Ytpjecpefbfobdaa
