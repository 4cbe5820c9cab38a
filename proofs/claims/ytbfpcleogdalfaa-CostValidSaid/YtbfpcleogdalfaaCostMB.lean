/-
  What the statements of layer 11 keep in memory: a model, in a variable of the call's own. What Learn returns, whether it refuses or not.
-/
import Derived.Test.YtbfpcleogdalfaaCostWalkY
namespace Go.Proofs.Ytbfpcleogdalfaa
open Go Go.RowKit

structure MB (m : Mo) (g : Nat) (B1 B2 B3 : Option Addr) (d1 d2 d3 : Nat) (W : World) : Prop where
  b : Blk W g 34 #[.slice B1 m.ws.length d1, .slice B2 m.cs.length d2, .slice B3 m.ps.length d3, .int .i64 m.back]
  r : MoR W m B1 B2 B3
  k : (m.ws.length ≤ d1 ∧ d1 ≤ maxLen) ∧ (m.cs.length ≤ d2 ∧ d2 ≤ maxLen) ∧ (m.ps.length ≤ d3 ∧ d3 ≤ maxLen)
section
variable {m : Mo} {g : Nat} {B1 B2 B3 : Option Addr} {d1 d2 d3 : Nat} {W W' : World}
theorem MB.below (h : MB m g B1 B2 B3 d1 d2 d3 W) (hb : Below W.heap.size W W') : MB m g B1 B2 B3 d1 d2 d3 W' := ⟨h.b.below hb h.b.lt, h.r.below hb, h.k⟩
theorem MB.alloc (h : MB m g B1 B2 B3 d1 d2 d3 W) (o : Obj) : MB m g B1 B2 B3 d1 d2 d3 (W.alloc o) := h.below ((Below.refl _ _).alloc (Nat.le_refl _) o)
theorem mb_new {w2 : World} (hm : MoR w2 m B1 B2 B3) (hc : (m.ws.length ≤ d1 ∧ d1 ≤ maxLen) ∧ (m.cs.length ≤ d2 ∧ d2 ≤ maxLen) ∧ (m.ps.length ≤ d3 ∧ d3 ≤ maxLen)) : MB m w2.heap.size B1 B2 B3 d1 d2 d3 (w2.alloc (.cells #[.slice B1 m.ws.length d1, .slice B2 m.cs.length d2, .slice B3 m.ps.length d3, .int .i64 m.back] 34)) :=
  ⟨Blk.new _ _ _, hm.below ((Below.refl _ _).alloc (Nat.le_refl _) _), hc⟩
end
/-- The model and the number that Learn returns. -/
def outM (l : Option Mo) : Mo := l.getD sanZ
def outC (l : Option Mo) : Int := if l.isSome then 0 else 110
def GivesU (l : Option Mo) (w : World) (e : Ending) (w' : World) : Prop :=
  ∃ (o : Mo) (B1 B2 B3 : Option Addr) (d1 d2 d3 : Nat), Hid (o = outM l) ∧ e = .returned (.tuple #[.agg #[.slice B1 o.ws.length d1, .slice B2 o.cs.length d2, .slice B3 o.ps.length d3, .int .i64 o.back], .int .i64 (outC l)]) ∧ MoR w' o B1 B2 B3 ∧
    ((o.ws.length ≤ d1 ∧ d1 ≤ maxLen) ∧ (o.cs.length ≤ d2 ∧ d2 ≤ maxLen) ∧ (o.ps.length ≤ d3 ∧ d3 ≤ maxLen)) ∧ Below w.heap.size w w'
def GivesV (l : Option Mo) (w : World) (e : Ending) (w' : World) : Prop :=
  ∃ (o : Mo) (B1 B2 B3 : Option Addr) (d1 d2 d3 : Nat), Hid (o = outM l) ∧ e = .returned (.tuple #[.agg #[.slice B1 o.ws.length d1, .slice B2 o.cs.length d2, .slice B3 o.ps.length d3, .int .i64 o.back], .int .i64 (outC l)]) ∧ MoR w' o B1 B2 B3 ∧ Below w.heap.size w w'
theorem mor_zero (W : World) : MoR W sanZ none none none := ⟨SlR.nil, SlR.nil, SlR.nil, by decide, by decide, by decide, by simp [sanZ], by simp [sanZ, Within]⟩
theorem givesU {l : Option Mo} {w w' : World} {e : Ending} (h : GivesL l w e w') : GivesU l w e w' := by
  cases l with
  | none => exact ⟨sanZ, none, none, none, 0, 0, 0, rfl, h.1, mor_zero _, by simp [sanZ], h.2⟩
  | some m => obtain ⟨B1, B2, B3, d1, d2, d3, h1, h2, h3, h4⟩ := h; exact ⟨m, B1, B2, B3, d1, d2, d3, rfl, h1, h2, h3, h4⟩
theorem givesV {l : Option Mo} {w w' : World} {e : Ending} (h : GivesR l w e w') : GivesV l w e w' := by
  cases l with
  | none => exact ⟨sanZ, none, none, none, 0, 0, 0, rfl, h.1, mor_zero _, h.2⟩
  | some m => obtain ⟨B1, B2, B3, d1, d2, d3, h1, h2, h4⟩ := h; exact ⟨m, B1, B2, B3, d1, d2, d3, rfl, h1, h2, h4⟩
theorem mem_le_total {l : List Int} (h : ∀ c ∈ l, 0 ≤ c) : ∀ x ∈ l, x ≤ total l := fun x hx => by
  obtain ⟨a, b, rfl⟩ := List.append_of_mem hx
  have h1 := total_nonneg (l := a) (fun x hx => h x (by simp [hx]))
  have h2 := total_nonneg (l := b) (fun x hx => h x (by simp [hx]))
  rw [total_append]
  simp only [total, List.foldr_cons] at *
  omega
theorem wcost_nonneg {m : Mo} (hok : MoOK m) (k : Nat) (hk : k < m.cs.length) : 0 ≤ wcost m k := by
  have hx := List.getElem?_eq_getElem hk
  rw [wcost_at hx]
  have h0 : ∀ c ∈ m.cs, 0 ≤ c := fun c hc => (hok.1.1.2.2.1 c hc).1
  have h1 := mem_le_total h0 _ (List.getElem_mem hk)
  have h2 : 1 ≤ m.ws.length := hok.1.1.1.1.1
  have := lg_mono (x := m.cs[k] + 1) (y := total m.cs + m.ws.length) (by omega)
  omega
theorem wcost_le {m : Mo} {i k : Nat} {x y : Int} (hx : m.cs[i]? = some x) (hy : m.cs[k]? = some y) (h : y ≤ x) : wcost m i ≤ wcost m k := by
  rw [wcost_at hx, wcost_at hy]
  have := lg_mono (x := y + 1) (y := x + 1) (by omega)
  omega
end Go.Proofs.Ytbfpcleogdalfaa
