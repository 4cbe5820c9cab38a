/-
  The walks of layer 11: which models are valid (the reference): words and counts.
-/
import Derived.Test.YtfjkmgjjifhdkaaGreatR29
namespace Go.Proofs.YtfjkmgjjifhdkaaGreat
open Go Go.RowKit

/-- What the reference's loop over words and counts has seen. -/
def CsR (cs : List Int) (k : Nat) : Prop := ∀ c ∈ cs.take k, 0 ≤ c ∧ c ≤ 1073741824
theorem CsR.succ {cs : List Int} {k : Nat} {x : Int} (h : CsR cs k) (hx : cs[k]? = some x) (h0 : inB x 0 1073741824 = true) : CsR cs (k + 1) := by
  unfold CsR
  rw [take_succ_of hx]
  intro c hc
  rcases List.mem_append.1 hc with hc | hc
  · exact h c hc
  · rw [List.mem_singleton.1 hc]; unfold inB at h0; simp at h0; exact h0
def WCsOK (ws : List ByteArray) (cs : List Int) : Prop := WsOK ws ∧ CsOK cs ws.length
instance (ws : List ByteArray) (cs : List Int) : Decidable (WCsOK ws cs) := by unfold WCsOK; infer_instance

end Go.Proofs.YtfjkmgjjifhdkaaGreat
