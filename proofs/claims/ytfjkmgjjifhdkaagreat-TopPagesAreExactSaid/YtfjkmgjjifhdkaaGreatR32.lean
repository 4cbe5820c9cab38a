/-
  The walks of layer 11: which models are valid (the reference): the pairs; the whole.
-/
import Derived.Test.YtfjkmgjjifhdkaaGreatR30
import Derived.Test.YtfjkmgjjifhdkaaGreatR31
import Derived.Test.YtfjkmgjjifhdkaaGreatR01
namespace Go.Proofs.YtfjkmgjjifhdkaaGreat
open Go Go.RowKit

structure MoR (w : World) (m : Mo) (A1 A2 A3 : Option Addr) : Prop where
  h1 : SlR 1 RStr w A1 m.ws
  h2 : SlR 1 RInt w A2 m.cs
  h3 : SlR 3 RPr w A3 m.ps
  l1 : m.ws.length ≤ 65536
  l2 : m.cs.length ≤ 65536
  l3 : m.ps.length ≤ 65536
  s : ∀ s ∈ m.ws, s.size ≤ maxLen
  n : Within 4294967296 (m.ps.map Pr.n)
theorem MoR.below {w w' : World} {m : Mo} {A1 A2 A3 : Option Addr} (h : MoR w m A1 A2 A3) (hb : Below w.heap.size w w') : MoR w' m A1 A2 A3 :=
  ⟨h.h1.below keeps_str hb, h.h2.below keeps_int hb, h.h3.below keeps_pr hb, h.l1, h.l2, h.l3, h.s, h.n⟩
def MoOK (m : Mo) : Prop := (WCsOK m.ws m.cs ∧ PsOK m.ps m.ws.length) ∧ 0 ≤ m.back ∧ m.back ≤ 1000
instance (m : Mo) : Decidable (MoOK m) := by unfold MoOK; infer_instance

/-- The reference's round has seen the pairs before k. -/
structure PsR (ps : List Pr) (n k : Nat) : Prop where
  rng : ∀ p ∈ ps.take k, PRange n p ∧ p.n ≤ 1073741824 ∧ sumAt ps p.a ≤ 1073741824
  inc : IncPAt ps k

theorem PsR.zero (ps : List Pr) (n : Nat) : PsR ps n 0 := ⟨by simp, fun _ _ _ h => absurd h (by omega)⟩
theorem PsR.succ {ps : List Pr} {n k : Nat} {p : Pr} (h : PsR ps n k) (hp : ps[k]? = some p) (hr : PRange n p ∧ p.n ≤ 1073741824) (hs : sumAt ps p.a ≤ 1073741824)
    (hl : ∀ j q, k = j + 1 → ps[j]? = some q → lessP q p = true) : PsR ps n (k + 1) := by
  refine ⟨?_, fun i a b hi ha hb => ?_⟩
  · rw [take_succ_of hp]
    intro s hs'
    rcases List.mem_append.1 hs' with hs' | hs'
    · exact h.rng s hs'
    · rw [List.mem_singleton.1 hs']; exact ⟨hr.1, hr.2, hs⟩
  · by_cases e : i + 1 = k
    · subst e
      rw [hp] at hb
      rw [← Option.some.inj hb]; exact hl i a rfl ha
    · exact h.inc i a b (by omega) ha hb
theorem PsR.all {ps : List Pr} {n k : Nat} (h : PsR ps n k) (hk : k = ps.length) (hl : ps.length ≤ 1000) : PsOK ps n := by
  subst hk
  have := h.rng
  rw [List.take_length] at this
  exact ⟨hl, this, (incP_iff ps).2 h.inc⟩
theorem PsOK.no {ps : List Pr} {n k : Nat} {p : Pr} (hp : ps[k]? = some p) (h : ¬ (PRange n p ∧ p.n ≤ 1073741824 ∧ sumAt ps p.a ≤ 1073741824)) : ¬ PsOK ps n := fun hok => h (hok.2.1 p (List.mem_of_getElem? hp))

end Go.Proofs.YtfjkmgjjifhdkaaGreat
