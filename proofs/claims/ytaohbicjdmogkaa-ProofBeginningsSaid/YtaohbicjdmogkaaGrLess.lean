/-
  The plain law of layer 16: a right page of which a candidate is left out.
-/
import Derived.Test.YtaohbicjdmogkaaGrFirst
namespace Go.Proofs.Ytaohbicjdmogkaa
open List

theorem less_check {g : Gr} (hg : GrOK g) (h14 : g.ls.length ≤ 14) {K m : Nat} (hK : K ≤ (allC g).length) (hm : m + 1 < K) (b : Bool) :
    checkM g (((allC g).take K).take m ++ ((allC g).take K).drop (m + 1)) b = ((m : Int), 160) := by
  have hall := allC_is hg h14
  rw [check_eq hg hall]
  have hnd := pairwise_iff_getElem.1 hall.1
  generalize allC g = A at *
  have hmA : m < A.length := by omega
  have hm1 : m + 1 < A.length := by omega
  have e1 : (A.take K).take m = A.take m := by rw [take_take, Nat.min_eq_left (by omega)]
  have e2 : (A.take K).drop (m + 1) = A[m + 1] :: (A.take K).drop (m + 2) := by
    rw [drop_eq_getElem_cons (by rw [length_take]; omega), getElem_take]
  have hd : diffAt ((A.take K).take m ++ (A.take K).drop (m + 1)) A 0 = some m := by
    rw [e1, e2]
    conv => lhs; arg 2; rw [← take_append_drop m A]
    rw [diffAt_pre, drop_eq_getElem_cons hmA]
    unfold diffAt
    rw [if_neg, length_take]
    · congr 1; omega
    · intro e
      have := hnd m (m + 1) hmA hm1 (by omega)
      rw [e, canLt_irrefl] at this
      cases this
  unfold refCheckM
  rw [hd]
theorem less_map {K m : Nat} {ms : List MC} {A : List Can} (h : ms.map (·.x) = A.take K) : (ms.take m ++ ms.drop (m + 1)).map (·.x) = (A.take K).take m ++ (A.take K).drop (m + 1) := by
  rw [map_append, map_take, map_drop, h]
end Go.Proofs.Ytaohbicjdmogkaa
