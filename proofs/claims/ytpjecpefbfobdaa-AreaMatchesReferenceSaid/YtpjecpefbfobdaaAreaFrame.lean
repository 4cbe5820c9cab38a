/-
  The statements of layer 21: their arguments opened.
-/
import Derived.Test.YtpjecpefbfobdaaOpen2
import Derived.Test.YtpjecpefbfobdaaAreaWalkP
namespace Go.Proofs.Ytpjecpefbfobdaa
open Go Go.RowKit Go.ChangeShapes Go.WideShapes

theorem wf_u8 {n : Int} (h : (Lit.int .u8 n).wf = true) : 0 ≤ n ∧ n ≤ 255 := by
  simp [Lit.wf, IntKind.min, IntKind.max, IntKind.signed, IntKind.bits] at h
  omega
theorem wf_i16 {n : Int} (h : (Lit.int .i16 n).wf = true) : -32768 ≤ n ∧ n ≤ 32767 := by
  simp [Lit.wf, IntKind.min, IntKind.max, IntKind.signed, IntKind.bits] at h
  omega
theorem slr_map {α β : Type} {s : Nat} {R : World → α → List Value → Prop} {w : World} {A : Option Addr} {f : β → α} {xs : List β} (h : SlR s (fun w x vs => R w (f x) vs) w A xs) : SlR s R w A (xs.map f) := fun hne => by
  obtain ⟨b, off, hA, hb, hc⟩ := h (by rintro rfl; simp at hne)
  refine ⟨b, off, hA, hb, fun k x hx => ?_⟩
  rw [List.getElem?_map] at hx
  cases hk : xs[k]? with
  | none => rw [hk] at hx; cases hx
  | some y =>
    rw [hk] at hx
    obtain ⟨vs, h1, h2, h3⟩ := hc k y hk
    exact ⟨vs, by rw [show x = f y from (Option.some.inj hx).symm]; exact h1, h2, h3⟩
section
variable {H : Type} {enc : TypeId × Value → H} {w : World} {base : Nat} {spare : Nat → Bool} {held : Bool}
set_option maxRecDepth 100000 in
theorem open_b2s {r : Reach} {b0 : Nat} {v : Value} {d : DataW H} {p : List MemPlace} (hv : Value.okWide Try.prog w r b0 22 v) (h : DataW.Trod enc Try.prog w base spare held 22 v d p) :
    ∃ (A : Option Addr) (l : List B2) (c : Nat), v = .slice A l.length c ∧ l.length ≤ maxLen ∧ SlR 2 RB2 w A l ∧ ∀ x ∈ l, B2OK x := by
  obtain ⟨A0, len0, cap0, rfl⟩ := okWide_slice (P := Try.prog) (w := w) (r := r) (base := b0) Try.underlying22 hv
  obtain ⟨fuel, hf⟩ := h
  obtain ⟨A, len, cap, xs, he, rfl, hlc, hcm, hs⟩ := open_slr (α := {x : B2 // B2OK x}) (R := fun w x vs => RB2 w x.1 vs) Try.underlying22 (s := 2) (by kernel_rfl) (by decide) (fun n cs y hh _ => by
    obtain ⟨ns, hl, rfl, hw⟩ := open_arr_ints (k := .u8) Try.underlying63 Try.underlying5 (by kernel_rfl) (by kernel_rfl) hh
    match ns, hl with
    | [a, b], _ => exact ⟨⟨⟨a, b⟩, wf_u8 (hw a (by simp)), wf_u8 (hw b (by simp))⟩, rfl⟩) hf
  have he' : Value.slice A0 len0 cap0 = Value.slice A xs.length cap := by simpa [Value.cells] using he
  rw [he']
  refine ⟨A, xs.map (·.1), cap, by simp, by rw [List.length_map]; exact Nat.le_trans hlc hcm, slr_map hs, fun x hx => ?_⟩
  obtain ⟨y, _, rfl⟩ := List.mem_map.1 hx
  exact y.2
set_option maxRecDepth 100000 in
theorem open_b3s {r : Reach} {b0 : Nat} {v : Value} {d : DataW H} {p : List MemPlace} (hv : Value.okWide Try.prog w r b0 23 v) (h : DataW.Trod enc Try.prog w base spare held 23 v d p) :
    ∃ (A : Option Addr) (l : List B3) (c : Nat), v = .slice A l.length c ∧ l.length ≤ maxLen ∧ SlR 3 RB3 w A l ∧ ∀ x ∈ l, B3OK x := by
  obtain ⟨A0, len0, cap0, rfl⟩ := okWide_slice (P := Try.prog) (w := w) (r := r) (base := b0) Try.underlying23 hv
  obtain ⟨fuel, hf⟩ := h
  obtain ⟨A, len, cap, xs, he, rfl, hlc, hcm, hs⟩ := open_slr (α := {x : B3 // B3OK x}) (R := fun w x vs => RB3 w x.1 vs) Try.underlying23 (s := 3) (by kernel_rfl) (by decide) (fun n cs y hh _ => by
    obtain ⟨ns, hl, rfl, hw⟩ := open_arr_ints (k := .i8) Try.underlying84 Try.underlying83 (by kernel_rfl) (by kernel_rfl) hh
    match ns, hl with
    | [a, b, c], _ => exact ⟨⟨⟨a, b, c⟩, wf_i8 (hw a (by simp)), wf_i8 (hw b (by simp)), wf_i8 (hw c (by simp))⟩, rfl⟩) hf
  have he' : Value.slice A0 len0 cap0 = Value.slice A xs.length cap := by simpa [Value.cells] using he
  rw [he']
  refine ⟨A, xs.map (·.1), cap, by simp, by rw [List.length_map]; exact Nat.le_trans hlc hcm, slr_map hs, fun x hx => ?_⟩
  obtain ⟨y, _, rfl⟩ := List.mem_map.1 hx
  exact y.2
end
end Go.Proofs.Ytpjecpefbfobdaa
