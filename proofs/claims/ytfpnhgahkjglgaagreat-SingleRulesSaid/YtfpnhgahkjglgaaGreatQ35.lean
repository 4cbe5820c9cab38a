/-
  Open, Open2, OuFrame, SiFrame, SiSnd, joined. No conditions.
-/
import Derived.Test.YtfpnhgahkjglgaaGreatRows
import Derived.Test.YtfpnhgahkjglgaaGreatQ05
import Derived.ProofKit
import Derived.OpenShut
import Derived.ChangeSame
import Derived.Carry
import Derived.Deep.Slices
import Derived.Deep.Fields
import Derived.Lib.SmallJoins
import Derived.Test.YtfpnhgahkjglgaaGreatQ19
import Derived.Test.YtfpnhgahkjglgaaGreatQ34
/-
  Arguments opened: a slice reads as a list of things, whatever memory it lies in; the row's last step where old memory is left alone.
-/
namespace Go.Proofs.YtfpnhgahkjglgaaGreat
open Go Go.RowKit Go.ChangeShapes Go.WideShapes

theorem Tryz.own : ownKnob Tryz.prog.godebug = none := by kernel_rfl
theorem Tryz.laidOut : laidOutB Tryz.prog = true := by kernel_rfl

section
variable {H : Type} {enc : TypeId × Value → H} {P : Program} {w : World} {base : Nat} {spare : Nat → Bool} {held : Bool}
theorem list_choose {α : Type} {p : Nat → α → Prop} : ∀ (n : Nat), (∀ i, i < n → ∃ x, p i x) → ∃ xs : List α, xs.length = n ∧ ∀ i x, xs[i]? = some x → p i x
  | 0, _ => ⟨[], rfl, fun i x h => by simp at h⟩
  | n + 1, h => by
    obtain ⟨xs, hl, hp⟩ := list_choose n (fun i hi => h i (by omega))
    obtain ⟨x, hx⟩ := h n (by omega)
    refine ⟨xs ++ [x], by simp [hl], fun i y hy => ?_⟩
    rcases Nat.lt_or_ge i n with hi | hi
    · rw [List.getElem?_append_left (by omega)] at hy; exact hp i y hy
    · obtain ⟨hlt, _⟩ := List.getElem?_eq_some_iff.1 hy
      have : i = n := by simp [hl] at hlt; omega
      subst this
      rw [List.getElem?_append_right (by omega), hl] at hy
      simp at hy
      subst hy
      exact hx
/-- A slice that an argument holds reads as a list. -/
theorem open_slr {α : Type} {R : World → α → List Value → Prop} {t e : TypeId} {s fuel : Nat} {cs : List Value} {X : DataW H × List MemPlace} (ht : P.underlying t = some (.slice e)) (hc : P.cellsOf e = s) (hs : 0 < s)
    (hel : ∀ (n : Nat) (cs : List Value) (y : DataW H × List MemPlace), DataW.trod enc P w base spare held n e cs = some y → cs.length = s → ∃ x : α, R w x cs)
    (h : DataW.trod enc P w base spare held fuel t cs = some X) : ∃ (A : Option Addr) (len cap : Nat) (xs : List α), cs = [.slice A len cap] ∧ xs.length = len ∧ len ≤ cap ∧ cap ≤ maxLen ∧ SlR s R w A xs := by
  rcases Go.Deep.open_slice ht h with ⟨rfl, _⟩ | ⟨a, len, cap, m, n, D, Pl, rfl, hb, hl, hm, hmm, _, hx⟩
  · exact ⟨none, 0, 0, [], rfl, rfl, Nat.le_refl _, Nat.zero_le _, SlR.nil⟩
  · have hlm : len ≤ m := by rw [hmm]; split <;> omega
    subst hc
    obtain ⟨xs, hxl, hxs⟩ := list_choose (p := fun i x => ∃ cs', w.cells? base (a.add (i * P.cellsOf e)) (P.cellsOf e) = some cs' ∧ R w x cs') len (fun i hi => by
      obtain ⟨cs', h1, h2⟩ := hx i (by omega)
      obtain ⟨x, hx⟩ := hel _ _ _ h2 (World.cells?_some h1).2.1
      exact ⟨x, cs', h1, hx⟩)
    refine ⟨some a, len, cap, xs, rfl, hxl, hl, hm, fun hne => ?_⟩
    have hcell : ∀ i x, xs[i]? = some x → ∃ vs, R w x vs ∧ vs.length = P.cellsOf e ∧ ∀ j v, vs[j]? = some v → w.cell? (a.add (i * P.cellsOf e + j)) = some v := fun i x hi => by
      obtain ⟨cs', h1, h2⟩ := hxs i x hi
      obtain ⟨_, hcl, hat⟩ := World.cells?_some h1
      refine ⟨cs', h2, hcl, fun j v hj => ?_⟩
      obtain ⟨hjl, _⟩ := List.getElem?_eq_some_iff.1 hj
      have := hat j (by omega)
      rw [Go.Deep.add_add] at this
      rw [this]; exact hj
    obtain ⟨x0, hx0⟩ : ∃ x, xs[0]? = some x := ⟨xs[0]'(List.length_pos_iff.2 hne), List.getElem?_eq_getElem _⟩
    obtain ⟨vs, _, hvl, hv⟩ := hcell 0 x0 hx0
    obtain ⟨v0, hv0⟩ : ∃ v, vs[0]? = some v := ⟨vs[0]'(by omega), List.getElem?_eq_getElem _⟩
    have h0 := hv 0 v0 hv0
    simp only [Nat.zero_mul, Nat.zero_add] at h0
    have ha0 : a.add 0 = a := by unfold Addr.add; simp
    rw [ha0] at h0
    rcases a with ⟨b, o, sp⟩
    cases sp with
    | some _ =>
      unfold World.cell? at h0
      dsimp only at h0
      split at h0 <;> simp at h0
    | none =>
      refine ⟨b, o, rfl, ?_, fun k x hk => ?_⟩
      · rcases Nat.lt_or_ge b w.heap.size with h | h
        · exact h
        · unfold World.cell? at h0; dsimp only at h0; rw [Array.getElem?_eq_none h] at h0; cases h0
      · obtain ⟨vs, h1, h2, h3⟩ := hcell k x hk
        refine ⟨vs, h1, h2, fun j v hj => ?_⟩
        have := h3 j v hj
        have e : (Addr.mk b o none).add (k * P.cellsOf e + j) = ⟨b, o + k * P.cellsOf e + j, none⟩ := by unfold Addr.add; split <;> simp_all [Nat.add_assoc]
        rw [e] at this
        exact this
/-- The row's last step: the call left old memory alone. -/
theorem post_of_below {f : Func} {s : ChangeSpec} {apart fresh handsOn again : Bool} {W W' : World} {args : Array Value} {v : Value} {ds gs : List (DataW H)} {before pa pv : List MemPlace}
    (hW : DataW.Whole enc P f.params.toList s.vars apart W args.toList ds gs before)
    (hres : ∀ (b : Nat) (sp : Nat → Bool) (hd : Bool), DataW.TrodAll enc P W' b sp hd f.resultTypes.toList (v.resultList f.resultTypes.size) (s.fn H (ds ++ gs)).results [])
    (hargs : ∀ sp : Nat → Bool, (∀ p ∈ before, sp p.block = true) → DataW.TrodAll enc P W' 0 sp true f.params.toList args.toList (s.fn H (ds ++ gs)).args pa)
    (hvars : ∀ sp : Nat → Bool, (∀ p ∈ before, sp p.block = true) → DataW.TrodVars enc P W' sp s.vars (s.fn H (ds ++ gs)).vars pv)
    (hps : before = pa ++ pv) (hb : Below W.heap.size W W')
    (hok : ∀ (j : Nat) (t : TypeId) (r : Value), f.resultTypes[j]? = some t → (v.resultList f.resultTypes.size)[j]? = some r → Value.okWide P W' .any 0 t r) :
    s.post enc P f apart fresh handsOn again W args v W' := by
  have hlt : ∀ p ∈ before, p.block < W.heap.size := fun p hp => hW.lt p hp
  have hold : ∀ p ∈ before, (fun b => decide (b < W.heap.size)) p.block = true := fun p hp => by simpa using hlt p hp
  refine ⟨ds, gs, before, [], pa, pv, hW, hres _ _ _, hargs _ hold, hvars _ hold, World.keptBut_mono (fun p hp => ⟨hp, ?_⟩) (hb.frame (· ∈ before)), fun _ => ?_⟩
  · rw [hps, List.mem_append] at hp
    exact Or.inr hp
  · obtain ⟨_, _, _, _, _, hz, hn⟩ := hW
    refine ⟨hok, _, _, ([] ++ pa) ++ pv, ⟨[] ++ pa, pv, trodAll_append (hargs _ (fun _ _ => rfl)) (hres _ _ _), hvars _ (fun _ _ => rfl), rfl, ?_, ?_⟩, ?_⟩
    · intro b off hp
      have hin : MemPlace.cell b off ∈ before := by rw [hps]; simpa using hp
      rw [hb.frozen (hlt _ hin)]
      exact hz b off hin
    · intro ha
      have := hn ha
      rw [hps] at this
      simpa using this
    · intro p hp _
      rw [hps]
      simpa using hp
theorem below_trod {t : TypeId} {W W' : World} {v : Value} {d : DataW H} {ps : List MemPlace} {sp : Nat → Bool} (hr : Tryz.prog.readableRec t = true) (hrow : t < Tryz.prog.types.size) (h : DataW.Trod enc Tryz.prog W 0 (fun _ => true) true t v d ps)
    (hb : Below W.heap.size W W') (hlt : ∀ x ∈ ps, x.block < W.heap.size) (hsp : ∀ x ∈ ps, sp x.block = true) : DataW.Trod enc Tryz.prog W' 0 sp true t v d ps :=
  WideElems.Trod_stays Tryz.laidOut hr hrow h (fun x hx => hb.same (hlt x hx)) hsp
end
end Go.Proofs.YtfpnhgahkjglgaaGreat

/-
  Arguments opened: arrays by their numbers.
-/
namespace Go.Proofs.YtfpnhgahkjglgaaGreat
open Go Go.RowKit Go.ChangeShapes Go.WideShapes

section
variable {H : Type} {enc : TypeId × Value → H} {P : Program} {w : World} {base : Nat} {spare : Nat → Bool} {held : Bool}
end
end Go.Proofs.YtfpnhgahkjglgaaGreat

/-
  The statements of layers 05 and 08: their arguments opened.
-/
namespace Go.Proofs.YtfpnhgahkjglgaaGreat
open Go Go.RowKit Go.ChangeShapes Go.WideShapes

theorem wf_u8 {n : Int} (h : (Lit.int .u8 n).wf = true) : 0 ≤ n ∧ n ≤ 255 := by
  simp [Lit.wf, IntKind.min, IntKind.max, IntKind.signed, IntKind.bits] at h
  omega
theorem slr_map {α β : Type} {s : Nat} {R : World → α → List Value → Prop} {w : World} {A : Option Addr} {f : β → α} {xs : List β} (h : SlR s (fun w x vs => R w (f x) vs) w A xs) : SlR s R w A (xs.map f) := fun hne => by
  obtain ⟨b, off, hA, hb, hc⟩ := h (by rintro rfl; simp at hne)
  refine ⟨b, off, hA, hb, fun k x hx => ?_⟩
  rw [List.getElem?_map] at hx
  cases hk : xs[k]? with
  | none => rw [hk] at hx; cases hx
  | some y =>
    rw [hk] at hx
    obtain ⟨vs, h1, h2, h3⟩ := hc k y hk
    exact ⟨vs, by rw [show x = f y from (Option.some.inj hx).symm]; exact h1, h2, h3⟩
theorem list5_ {α : Type} : ∀ (l : List α), l.length = 5 → ∃ a b c d e, l = [a, b, c, d, e]
  | [a, b, c, d, e], _ => ⟨a, b, c, d, e, rfl⟩
section
variable {H : Type} {enc : TypeId × Value → H} {P : Program} {w : World} {base : Nat} {spare : Nat → Bool} {held : Bool}
theorem trod_struct5 {t : TypeId} {f0 f1 f2 f3 f4 : Field} {fuel : Nat} {cs : List Value} {x : DataW H × List MemPlace} (ht : P.underlying t = some (.struct #[f0, f1, f2, f3, f4])) (h : DataW.trod enc P w base spare held fuel t cs = some x) :
    ∃ y0 y1 y2 y3 y4 n, cs.length = P.cellsOf t ∧ DataW.trod enc P w base spare held n f0.type ((cs.drop f0.offset).take (P.cellsOf f0.type)) = some y0 ∧
      DataW.trod enc P w base spare held n f1.type ((cs.drop f1.offset).take (P.cellsOf f1.type)) = some y1 ∧ DataW.trod enc P w base spare held n f2.type ((cs.drop f2.offset).take (P.cellsOf f2.type)) = some y2 ∧
      DataW.trod enc P w base spare held n f3.type ((cs.drop f3.offset).take (P.cellsOf f3.type)) = some y3 ∧ DataW.trod enc P w base spare held n f4.type ((cs.drop f4.offset).take (P.cellsOf f4.type)) = some y4 := by
  obtain ⟨xs, n, _, rfl, hl, hlen, hf⟩ := DataW.trod_struct ht h
  match xs, hlen with
  | [y0, y1, y2, y3, y4], _ => exact ⟨y0, y1, y2, y3, y4, n, hl, by simpa using hf 0 f0 rfl, by simpa using hf 1 f1 rfl, by simpa using hf 2 f2 rfl, by simpa using hf 3 f3 rfl, by simpa using hf 4 f4 rfl⟩
end
section
variable {H : Type} {enc : TypeId × Value → H} {w : World} {base : Nat} {spare : Nat → Bool} {held : Bool}
set_option maxRecDepth 100000 in
theorem open_u8s {fuel : Nat} {cs : List Value} {X : DataW H × List MemPlace} (h : DataW.trod enc Tryz.prog w base spare held fuel 25 cs = some X) :
    ∃ (A : Option Addr) (l : List Int) (c : Nat), cs = [.slice A l.length c] ∧ l.length ≤ c ∧ c ≤ maxLen ∧ SlR 1 RU8 w A l ∧ ∀ x ∈ l, 0 ≤ x ∧ x ≤ 255 := by
  obtain ⟨A, len, cap, xs, he, rfl, hlc, hcm, hs⟩ := open_slr (α := {x : Int // 0 ≤ x ∧ x ≤ 255}) (R := fun w x vs => RU8 w x.1 vs) Tryz.underlying25 (s := 1) (by kernel_rfl) (by decide) (fun n cs y hh _ => by
    obtain ⟨m, rfl, _, hw⟩ := DataW.trod_int Tryz.underlying5 hh
    exact ⟨⟨m, wf_u8 hw⟩, rfl⟩) h
  refine ⟨A, xs.map (·.1), cap, by rw [List.length_map]; exact he, by rw [List.length_map]; exact hlc, hcm, slr_map hs, fun q hq => ?_⟩
  obtain ⟨y, _, rfl⟩ := List.mem_map.1 hq
  exact y.2
set_option maxRecDepth 100000 in
/-- A rule's bytes. -/
theorem open_rawrule {fuel : Nat} {cs : List Value} {X : DataW H × List MemPlace} (h : DataW.trod enc Tryz.prog w base spare held fuel 70 cs = some X) (hl : cs.length = 5) : ∃ x : Rw, RRw w x cs := by
  obtain ⟨z0, z1, z2, z3, z4, m, _, q0, q1, q2, q3, q4⟩ := trod_struct5 Tryz.underlying70 h
  obtain ⟨a, b, c, d, e, rfl⟩ := list5_ cs hl
  have hc1 : Tryz.prog.cellsOf 25 = 1 := by kernel_rfl
  have hc2 : Tryz.prog.cellsOf 5 = 1 := by kernel_rfl
  dsimp only at q0 q1 q2 q3 q4
  rw [hc1] at q0 q1
  rw [hc2] at q2 q3 q4
  obtain ⟨A, la, ca, e0, l0, m0, s0, b0⟩ := open_u8s q0
  obtain ⟨B, lb, cb, e1, l1, m1, s1, b1⟩ := open_u8s q1
  obtain ⟨n2, f2, _, w2⟩ := DataW.trod_int Tryz.underlying5 q2
  obtain ⟨n3, f3, _, w3⟩ := DataW.trod_int Tryz.underlying5 q3
  obtain ⟨n4, f4, _, w4⟩ := DataW.trod_int Tryz.underlying5 q4
  simp at e0 e1 f2 f3 f4
  subst e0 e1 f2 f3 f4
  exact ⟨⟨la, lb, A, B, ca, cb, n2, n3, n4⟩, rfl, s0, s1, Nat.le_trans l0 m0, Nat.le_trans l1 m1, b0, b1, wf_u8 w2, wf_u8 w3, wf_u8 w4⟩
set_option maxRecDepth 100000 in
/-- The description of a scheme. -/
theorem open_raw5 {r : Reach} {b0 : Nat} {v : Value} {d : DataW H} {p : List MemPlace} (hv : Value.okWide Tryz.prog w r b0 24 v) (h : DataW.Trod enc Tryz.prog w base spare held 24 v d p) :
    ∃ (qb qd : Int) (A : Option Addr) (l : List Rw) (c : Nat), v = .agg #[.int .u8 qb, .int .u8 qd, .slice A l.length c] ∧ (0 ≤ qb ∧ qb ≤ 255) ∧ (0 ≤ qd ∧ qd ≤ 255) ∧ l.length ≤ maxLen ∧ SlR 5 RRw w A l := by
  obtain ⟨v0, v1, v2, y0, y1, y2, n, rfl, _, _, h0, h1, h2⟩ := Go.Joins.open_agg3 Tryz.underlying24 (by kernel_rfl) (by kernel_rfl) hv h
  obtain ⟨qb, e0, _, w0⟩ := DataW.trod_int Tryz.underlying5 h0
  obtain ⟨qd, e1, _, w1⟩ := DataW.trod_int Tryz.underlying5 h1
  obtain ⟨A, len, c, us, e3, rfl, k3, m3, s3⟩ := open_slr (α := Rw) (R := RRw) Tryz.underlying22 (s := 5) (by kernel_rfl) (by decide) (fun n cs y hh hcl => open_rawrule hh hcl) h2
  simp only [List.cons.injEq, and_true] at e0 e1 e3
  subst e0 e1 e3
  exact ⟨qb, qd, A, us, c, rfl, wf_u8 w0, wf_u8 w1, by omega, s3⟩
end
end Go.Proofs.YtfpnhgahkjglgaaGreat

/-
  Arguments opened: an array of four numbers.
-/
namespace Go.Proofs.YtfpnhgahkjglgaaGreat
open Go Go.RowKit Go.ChangeShapes Go.WideShapes

end Go.Proofs.YtfpnhgahkjglgaaGreat

/-
  Answers that say yes or no. Plain laws. No conditions.
-/
namespace Go.Proofs.YtfpnhgahkjglgaaGreat
open Go Go.RowKit

theorem IsSnd.yes {s : Sc} {e : Ending} (h : IsSnd s e) (hE : soundE s = 0) : e = .returned (.bool true) := by
  rcases h.parts with ⟨h1, _⟩ | ⟨_, h2⟩
  · exact h1
  · exact absurd hE h2
theorem is_parts {b : Bool} {P : Prop} (h : b = true ↔ P) : (b = true ∧ P) ∨ (b = false ∧ ¬ P) := by
  cases b with
  | true => exact .inl ⟨rfl, h.1 rfl⟩
  | false => exact .inr ⟨rfl, fun hp => by have := h.2 hp; cases this⟩
theorem IsSnd.no {s : Sc} {e : Ending} (h : IsSnd s e) (hE : ¬ soundE s = 0) : e = .returned (.bool false) := by
  rcases h.parts with ⟨_, h2⟩ | ⟨h1, _⟩
  · exact absurd h2 hE
  · exact h1
end Go.Proofs.YtfpnhgahkjglgaaGreat
