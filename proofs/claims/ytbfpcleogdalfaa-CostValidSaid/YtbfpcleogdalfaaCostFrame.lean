/-
  The statements of layer 11: their arguments opened; the frame of each.
-/
import Derived.Test.YtbfpcleogdalfaaOpen
import Derived.Test.YtbfpcleogdalfaaCostWalkO
namespace Go.Proofs.Ytbfpcleogdalfaa
open Go Go.RowKit Go.ChangeShapes Go.WideShapes

section
variable {H : Type} {enc : TypeId × Value → H} {w : World} {base : Nat} {spare : Nat → Bool} {held : Bool}
theorem wf_u8 {n : Int} (h : (Lit.int .u8 n).wf = true) : 0 ≤ n ∧ n ≤ 255 := by
  simp [Lit.wf, IntKind.min, IntKind.max, IntKind.signed, IntKind.bits] at h
  omega
theorem wf_u32 {n : Int} (h : (Lit.int .u32 n).wf = true) : 0 ≤ n ∧ n < 4294967296 := by
  simp [Lit.wf, IntKind.min, IntKind.max, IntKind.signed, IntKind.bits] at h
  omega
/-- A slice of bytes. -/
theorem open_u8s {n : Nat} {cs : List Value} {y : DataW H × List MemPlace} (h : DataW.trod enc Try.prog w base spare held n 23 cs = some y) :
    ∃ (A : Option Addr) (c : Nat) (xs : List Int), cs = [.slice A xs.length c] ∧ xs.length ≤ c ∧ c ≤ maxLen ∧ SlR 1 RU8 w A xs ∧ ∀ x ∈ xs, 0 ≤ x ∧ x ≤ 255 := by
  obtain ⟨A, len, cap, xs, rfl, hl, hlc, hcm, hs⟩ := open_slr (α := {n : Int // 0 ≤ n ∧ n ≤ 255}) (R := fun _ x vs => vs = [.int .u8 x.1]) Try.underlying23 (s := 1) (by kernel_rfl) (by decide) (fun n cs y hh _ => by
    obtain ⟨m, rfl, _, hw⟩ := DataW.trod_int Try.underlying5 hh
    exact ⟨⟨m, wf_u8 hw⟩, rfl⟩) h
  subst hl
  refine ⟨A, cap, xs.map (·.1), by simp, by simpa using hlc, hcm, fun hne => ?_, fun x hx => ?_⟩
  · obtain ⟨b, off, hA, hb, hc⟩ := hs (by rintro rfl; simp at hne)
    refine ⟨b, off, hA, hb, fun k x hx => ?_⟩
    rw [List.getElem?_map] at hx
    cases hk : xs[k]? with
    | none => rw [hk] at hx; cases hx
    | some y =>
      rw [hk] at hx
      obtain ⟨vs, h1, h2, h3⟩ := hc k y hk
      exact ⟨vs, by rw [show x = y.1 from (Option.some.inj hx).symm]; exact h1, h2, h3⟩
  · obtain ⟨y, _, rfl⟩ := List.mem_map.1 hx
    exact y.2
/-- The description of a model. -/
theorem open_raw {r : Reach} {b0 : Nat} {v : Value} {d : DataW H} {p : List MemPlace} (hv : Value.okWide Try.prog w r b0 26 v) (h : DataW.Trod enc Try.prog w base spare held 26 v d p) :
    ∃ (x : Raw) (A1 A2 A3 : Option Addr) (c1 c2 c3 : Nat), v = .agg #[.slice A1 x.words.length c1, .slice A2 x.counts.length c2, .slice A3 x.uses.length c3, .int .u8 x.back] ∧ RawR w x A1 A2 A3 := by
  obtain ⟨v0, v1, v2, v3, y0, y1, y2, y3, n, rfl, _, _, h0, h1, h2, h3⟩ := Go.Joins.open_agg4 Try.underlying26 (by kernel_rfl) (by kernel_rfl) hv h
  obtain ⟨A1, l1, c1, ws, e1, rfl, k1, m1, s1⟩ := open_slr (α := List Int) (R := RRow) Try.underlying22 (s := 1) (by kernel_rfl) (by decide) (fun n cs y hh _ => by
    obtain ⟨A, c, xs, rfl, a1, a2, a3, a4⟩ := open_u8s hh
    exact ⟨xs, A, c, rfl, a3, by omega, a4⟩) h0
  obtain ⟨A2, c2, cs, e2, k2, m2, s2, b2⟩ := open_u8s h1
  obtain ⟨A3, l3, c3, us, e3, rfl, k3, m3, s3⟩ := open_slr (α := {u : Int × Int × Int // (0 ≤ u.1 ∧ u.1 ≤ 255) ∧ (0 ≤ u.2.1 ∧ u.2.1 ≤ 255) ∧ (0 ≤ u.2.2 ∧ u.2.2 ≤ 255)}) (R := fun w x vs => RU3 w x.1 vs) Try.underlying24 (s := 3) (by kernel_rfl) (by decide) (fun n cs y hh _ => by
    obtain ⟨ns, hl, rfl, hw⟩ := open_arr_ints (k := .u8) Try.underlying56 Try.underlying5 (by kernel_rfl) (by kernel_rfl) hh
    match ns, hl with
    | [a, b, c], _ => exact ⟨⟨(a, b, c), wf_u8 (hw a (by simp)), wf_u8 (hw b (by simp)), wf_u8 (hw c (by simp))⟩, rfl⟩) h2
  obtain ⟨bk, e4, _, hb⟩ := DataW.trod_int Try.underlying5 h3
  simp only [List.cons.injEq, and_true] at e1 e2 e3 e4
  subst e1 e2 e3 e4
  refine ⟨⟨ws, cs, us.map (·.1), bk⟩, A1, A2, A3, c1, c2, c3, by simp, s1, s2, fun hne => ?_, by simp only; omega, by simp only; omega, by simp only [List.length_map]; omega, b2, fun u hu => ?_, wf_u8 hb⟩
  · obtain ⟨b, off, hA, hb, hc⟩ := s3 (by rintro rfl; simp at hne)
    refine ⟨b, off, hA, hb, fun k x hx => ?_⟩
    rw [List.getElem?_map] at hx
    cases hk : us[k]? with
    | none => rw [hk] at hx; cases hx
    | some y =>
      rw [hk] at hx
      obtain ⟨vs, h1, h2, h3⟩ := hc k y hk
      exact ⟨vs, by rw [show x = y.1 from (Option.some.inj hx).symm]; exact h1, h2, h3⟩
  · obtain ⟨y, _, rfl⟩ := List.mem_map.1 hu
    exact y.2
end
end Go.Proofs.Ytbfpcleogdalfaa
