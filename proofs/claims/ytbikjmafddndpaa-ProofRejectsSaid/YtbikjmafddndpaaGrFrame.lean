/-
  The statements of layers 15, 16 and 19: their arguments opened.
-/
import Derived.Test.YtbikjmafddndpaaOpen2
import Derived.Test.YtbikjmafddndpaaBase
namespace Go.Proofs.Ytbikjmafddndpaa
open Go Go.RowKit Go.ChangeShapes Go.WideShapes

theorem wf_u8 {n : Int} (h : (Lit.int .u8 n).wf = true) : 0 ≤ n ∧ n ≤ 255 := by
  simp [Lit.wf, IntKind.min, IntKind.max, IntKind.signed, IntKind.bits] at h
  omega
theorem slr_map {α β : Type} {s : Nat} {R : World → α → List Value → Prop} {w : World} {A : Option Addr} {f : β → α} {xs : List β} (h : SlR s (fun w x vs => R w (f x) vs) w A xs) : SlR s R w A (xs.map f) := fun hne => by
  obtain ⟨b, off, hA, hb, hc⟩ := h (by rintro rfl; simp at hne)
  refine ⟨b, off, hA, hb, fun k x hx => ?_⟩
  rw [List.getElem?_map] at hx
  cases hk : xs[k]? with
  | none => rw [hk] at hx; cases hx
  | some y =>
    rw [hk] at hx
    obtain ⟨vs, h1, h2, h3⟩ := hc k y hk
    exact ⟨vs, by rw [show x = f y from (Option.some.inj hx).symm]; exact h1, h2, h3⟩
section
variable {H : Type} {enc : TypeId × Value → H} {w : World} {base : Nat} {spare : Nat → Bool} {held : Bool}
set_option maxRecDepth 100000 in
/-- The description of a graph. -/
theorem open_graw {r : Reach} {b0 : Nat} {v : Value} {d : DataW H} {p : List MemPlace} (hv : Value.okWide Try.prog w r b0 24 v) (h : DataW.Trod enc Try.prog w base spare held 24 v d p) :
    ∃ (x : Int) (A : Option Addr) (l : List T3) (c : Nat), v = .agg #[.int .u8 x, .slice A l.length c] ∧ (0 ≤ x ∧ x ≤ 255) ∧ l.length ≤ maxLen ∧ SlR 3 RT3 w A l ∧ ∀ q ∈ l, T3OK q := by
  obtain ⟨v0, v1, y0, y1, n, rfl, _, _, h0, h1⟩ := Go.Joins.open_agg2 Try.underlying24 (by kernel_rfl) (by kernel_rfl) hv h
  obtain ⟨bk, e4, _, hb⟩ := DataW.trod_int Try.underlying5 h0
  obtain ⟨A, len, c, us, e3, rfl, k3, m3, s3⟩ := open_slr (α := {x : T3 // T3OK x}) (R := fun w x vs => RT3 w x.1 vs) Try.underlying22 (s := 3) (by kernel_rfl) (by decide) (fun n cs y hh _ => by
    obtain ⟨ns, hl, rfl, hw⟩ := open_arr_ints (k := .u8) Try.underlying56 Try.underlying5 (by kernel_rfl) (by kernel_rfl) hh
    match ns, hl with
    | [a, b, c], _ => exact ⟨⟨⟨a, b, c⟩, wf_u8 (hw a (by simp)), wf_u8 (hw b (by simp)), wf_u8 (hw c (by simp))⟩, rfl⟩) h1
  simp only [List.cons.injEq, and_true] at e3 e4
  subst e3 e4
  refine ⟨bk, A, us.map (·.1), c, by simp, wf_u8 hb, by rw [List.length_map]; omega, slr_map s3, fun q hq => ?_⟩
  obtain ⟨y, _, rfl⟩ := List.mem_map.1 hq
  exact y.2
set_option maxRecDepth 100000 in
/-- A slice of bytes. -/
theorem open_bytes_ {r : Reach} {b0 : Nat} {v : Value} {d : DataW H} {p : List MemPlace} (hv : Value.okWide Try.prog w r b0 45 v) (h : DataW.Trod enc Try.prog w base spare held 45 v d p) :
    ∃ (A : Option Addr) (l : List Int) (c : Nat), v = .slice A l.length c ∧ l.length ≤ c ∧ c ≤ maxLen ∧ SlR 1 RU8 w A l ∧ ∀ x ∈ l, 0 ≤ x ∧ x ≤ 255 := by
  obtain ⟨A0, len0, cap0, rfl⟩ := okWide_slice (P := Try.prog) (w := w) (r := r) (base := b0) Try.underlying45 hv
  obtain ⟨fuel, hf⟩ := h
  obtain ⟨A, len, cap, xs, he, rfl, hlc, hcm, hs⟩ := open_slr (α := {x : Int // 0 ≤ x ∧ x ≤ 255}) (R := fun w x vs => RU8 w x.1 vs) Try.underlying45 (s := 1) (by kernel_rfl) (by decide) (fun n cs y hh _ => by
    obtain ⟨m, rfl, _, hw⟩ := DataW.trod_int Try.underlying5 hh
    exact ⟨⟨m, wf_u8 hw⟩, rfl⟩) hf
  have he' : Value.slice A0 len0 cap0 = Value.slice A xs.length cap := by simpa [Value.cells] using he
  refine ⟨A, xs.map (·.1), cap, by rw [List.length_map]; exact he', by rw [List.length_map]; exact hlc, hcm, slr_map hs, fun q hq => ?_⟩
  obtain ⟨y, _, rfl⟩ := List.mem_map.1 hq
  exact y.2
set_option maxRecDepth 100000 in
/-- A slice of numbers. -/
theorem open_ints_ {r : Reach} {b0 : Nat} {v : Value} {d : DataW H} {p : List MemPlace} (hv : Value.okWide Try.prog w r b0 36 v) (h : DataW.Trod enc Try.prog w base spare held 36 v d p) :
    ∃ (A : Option Addr) (l : List Int) (c : Nat), v = .slice A l.length c ∧ l.length ≤ c ∧ c ≤ maxLen ∧ SlR 1 RInt w A l := by
  obtain ⟨A0, len0, cap0, rfl⟩ := okWide_slice (P := Try.prog) (w := w) (r := r) (base := b0) Try.underlying36 hv
  obtain ⟨fuel, hf⟩ := h
  obtain ⟨A, len, cap, xs, he, rfl, hlc, hcm, hs⟩ := open_slr (α := Int) (R := RInt) Try.underlying36 (s := 1) (by kernel_rfl) (by decide) (fun n cs y hh _ => by
    obtain ⟨m, rfl, _, hw⟩ := DataW.trod_int Try.underlying3 hh
    exact ⟨m, rfl⟩) hf
  have he' : Value.slice A0 len0 cap0 = Value.slice A xs.length cap := by simpa [Value.cells] using he
  exact ⟨A, xs, cap, he', hlc, hcm, hs⟩
end
end Go.Proofs.Ytbikjmafddndpaa
