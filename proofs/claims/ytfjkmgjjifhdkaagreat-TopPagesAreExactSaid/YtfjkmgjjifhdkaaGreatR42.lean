/-
  Open, CostFrame, Open2, joined. No conditions.
-/
import Derived.Test.YtfjkmgjjifhdkaaGreatRows
import Derived.Test.YtfjkmgjjifhdkaaGreatR01
import Derived.ProofKit
import Derived.OpenShut
import Derived.ChangeSame
import Derived.Carry
import Derived.Deep.Slices
import Derived.Deep.Fields
import Derived.Lib.SmallJoins
import Derived.Test.YtfjkmgjjifhdkaaGreatR39
/-
  Arguments opened: a slice reads as a list of things, whatever memory it lies in; the row's last step where old memory is left alone.
-/
namespace Go.Proofs.YtfjkmgjjifhdkaaGreat
open Go Go.RowKit Go.ChangeShapes Go.WideShapes

theorem Tryz.own : ownKnob Tryz.prog.godebug = none := by kernel_rfl
theorem Tryz.laidOut : laidOutB Tryz.prog = true := by kernel_rfl

section
variable {H : Type} {enc : TypeId × Value → H} {P : Program} {w : World} {base : Nat} {spare : Nat → Bool} {held : Bool}
theorem list_choose {α : Type} {p : Nat → α → Prop} : ∀ (n : Nat), (∀ i, i < n → ∃ x, p i x) → ∃ xs : List α, xs.length = n ∧ ∀ i x, xs[i]? = some x → p i x
  | 0, _ => ⟨[], rfl, fun i x h => by simp at h⟩
  | n + 1, h => by
    obtain ⟨xs, hl, hp⟩ := list_choose n (fun i hi => h i (by omega))
    obtain ⟨x, hx⟩ := h n (by omega)
    refine ⟨xs ++ [x], by simp [hl], fun i y hy => ?_⟩
    rcases Nat.lt_or_ge i n with hi | hi
    · rw [List.getElem?_append_left (by omega)] at hy; exact hp i y hy
    · obtain ⟨hlt, _⟩ := List.getElem?_eq_some_iff.1 hy
      have : i = n := by simp [hl] at hlt; omega
      subst this
      rw [List.getElem?_append_right (by omega), hl] at hy
      simp at hy
      subst hy
      exact hx
/-- A slice that an argument holds reads as a list. -/
theorem open_slr {α : Type} {R : World → α → List Value → Prop} {t e : TypeId} {s fuel : Nat} {cs : List Value} {X : DataW H × List MemPlace} (ht : P.underlying t = some (.slice e)) (hc : P.cellsOf e = s) (hs : 0 < s)
    (hel : ∀ (n : Nat) (cs : List Value) (y : DataW H × List MemPlace), DataW.trod enc P w base spare held n e cs = some y → cs.length = s → ∃ x : α, R w x cs)
    (h : DataW.trod enc P w base spare held fuel t cs = some X) : ∃ (A : Option Addr) (len cap : Nat) (xs : List α), cs = [.slice A len cap] ∧ xs.length = len ∧ len ≤ cap ∧ cap ≤ maxLen ∧ SlR s R w A xs := by
  rcases Go.Deep.open_slice ht h with ⟨rfl, _⟩ | ⟨a, len, cap, m, n, D, Pl, rfl, hb, hl, hm, hmm, _, hx⟩
  · exact ⟨none, 0, 0, [], rfl, rfl, Nat.le_refl _, Nat.zero_le _, SlR.nil⟩
  · have hlm : len ≤ m := by rw [hmm]; split <;> omega
    subst hc
    obtain ⟨xs, hxl, hxs⟩ := list_choose (p := fun i x => ∃ cs', w.cells? base (a.add (i * P.cellsOf e)) (P.cellsOf e) = some cs' ∧ R w x cs') len (fun i hi => by
      obtain ⟨cs', h1, h2⟩ := hx i (by omega)
      obtain ⟨x, hx⟩ := hel _ _ _ h2 (World.cells?_some h1).2.1
      exact ⟨x, cs', h1, hx⟩)
    refine ⟨some a, len, cap, xs, rfl, hxl, hl, hm, fun hne => ?_⟩
    have hcell : ∀ i x, xs[i]? = some x → ∃ vs, R w x vs ∧ vs.length = P.cellsOf e ∧ ∀ j v, vs[j]? = some v → w.cell? (a.add (i * P.cellsOf e + j)) = some v := fun i x hi => by
      obtain ⟨cs', h1, h2⟩ := hxs i x hi
      obtain ⟨_, hcl, hat⟩ := World.cells?_some h1
      refine ⟨cs', h2, hcl, fun j v hj => ?_⟩
      obtain ⟨hjl, _⟩ := List.getElem?_eq_some_iff.1 hj
      have := hat j (by omega)
      rw [Go.Deep.add_add] at this
      rw [this]; exact hj
    obtain ⟨x0, hx0⟩ : ∃ x, xs[0]? = some x := ⟨xs[0]'(List.length_pos_iff.2 hne), List.getElem?_eq_getElem _⟩
    obtain ⟨vs, _, hvl, hv⟩ := hcell 0 x0 hx0
    obtain ⟨v0, hv0⟩ : ∃ v, vs[0]? = some v := ⟨vs[0]'(by omega), List.getElem?_eq_getElem _⟩
    have h0 := hv 0 v0 hv0
    simp only [Nat.zero_mul, Nat.zero_add] at h0
    have ha0 : a.add 0 = a := by unfold Addr.add; simp
    rw [ha0] at h0
    rcases a with ⟨b, o, sp⟩
    cases sp with
    | some _ =>
      unfold World.cell? at h0
      dsimp only at h0
      split at h0 <;> simp at h0
    | none =>
      refine ⟨b, o, rfl, ?_, fun k x hk => ?_⟩
      · rcases Nat.lt_or_ge b w.heap.size with h | h
        · exact h
        · unfold World.cell? at h0; dsimp only at h0; rw [Array.getElem?_eq_none h] at h0; cases h0
      · obtain ⟨vs, h1, h2, h3⟩ := hcell k x hk
        refine ⟨vs, h1, h2, fun j v hj => ?_⟩
        have := h3 j v hj
        have e : (Addr.mk b o none).add (k * P.cellsOf e + j) = ⟨b, o + k * P.cellsOf e + j, none⟩ := by unfold Addr.add; split <;> simp_all [Nat.add_assoc]
        rw [e] at this
        exact this
/-- An array of whole numbers, opened: its cells. -/
theorem open_arr_ints {k : IntKind} {t e : TypeId} {m fuel : Nat} {cs : List Value} {X : DataW H × List MemPlace} (ht : P.underlying t = some (.array m e)) (he : P.underlying e = some (.int k)) (hc : P.cellsOf e = 1) (hct : P.cellsOf t = m)
    (h : DataW.trod enc P w base spare held fuel t cs = some X) : ∃ ns : List Int, ns.length = m ∧ cs = ns.map (Value.int k) ∧ ∀ n ∈ ns, (Lit.int k n).wf = true := by
  obtain ⟨xs, m', _, _, hl, hxl, hi⟩ := DataW.trod_array ht h
  obtain ⟨ns, hnl, hns⟩ := list_choose (p := fun i n => cs[i]? = some (Value.int k n) ∧ (Lit.int k n).wf = true) m (fun i him => by
    have h1 := hi i him
    rw [hc, Nat.mul_one, List.getElem?_eq_getElem (by omega)] at h1
    obtain ⟨n, h2, _, h3⟩ := DataW.trod_int he h1
    refine ⟨n, ?_, h3⟩
    have h4 : ((cs.drop i).take 1)[0]? = some (Value.int k n) := by rw [h2]; rfl
    rw [List.getElem?_take_of_lt (by omega), List.getElem?_drop] at h4
    simpa using h4)
  refine ⟨ns, hnl, ?_, fun n hn => ?_⟩
  · refine List.ext_getElem? fun i => ?_
    rcases Nat.lt_or_ge i m with hi | hi
    · obtain ⟨n, hn⟩ : ∃ n, ns[i]? = some n := ⟨ns[i]'(by omega), List.getElem?_eq_getElem _⟩
      rw [(hns i n hn).1, List.getElem?_map, hn]; rfl
    · rw [List.getElem?_eq_none (by omega), List.getElem?_eq_none (by simp; omega)]
  · obtain ⟨i, hi, rfl⟩ := List.getElem_of_mem hn
    exact (hns i _ (List.getElem?_eq_getElem hi)).2
theorem okWide_array_ {r : Reach} {b0 : Nat} {m : Nat} {t e : TypeId} {v : Value} (ht : P.underlying t = some (.array m e)) (h : Value.okWide P w r b0 t v) : ∃ cs, v = .agg cs := by
  simp only [Value.okWide, ht] at h
  obtain ⟨cs, h1, _⟩ := h
  exact ⟨cs, h1⟩
/-- An argument that is an array of whole numbers. -/
theorem open_arr {r : Reach} {b0 : Nat} {k : IntKind} {t e : TypeId} {m : Nat} {v : Value} {d : DataW H} {p : List MemPlace} (ht : P.underlying t = some (.array m e)) (he : P.underlying e = some (.int k)) (hc : P.cellsOf e = 1) (hct : P.cellsOf t = m)
    (hv : Value.okWide P w r b0 t v) (h : DataW.Trod enc P w base spare held t v d p) : ∃ ns : List Int, ns.length = m ∧ v = .agg (ns.map (Value.int k)).toArray ∧ ∀ n ∈ ns, (Lit.int k n).wf = true := by
  obtain ⟨cs, rfl⟩ := okWide_array_ ht hv
  obtain ⟨fuel, hf⟩ := h
  obtain ⟨ns, h1, h2, h3⟩ := open_arr_ints ht he hc hct hf
  refine ⟨ns, h1, ?_, h3⟩
  have : cs.toList = ns.map (Value.int k) := by simpa [Value.cells] using h2
  rw [← this]
/-- The row's last step: the call left old memory alone. -/
theorem post_of_below {f : Func} {s : ChangeSpec} {apart fresh handsOn again : Bool} {W W' : World} {args : Array Value} {v : Value} {ds gs : List (DataW H)} {before pa pv : List MemPlace}
    (hW : DataW.Whole enc P f.params.toList s.vars apart W args.toList ds gs before)
    (hres : ∀ (b : Nat) (sp : Nat → Bool) (hd : Bool), DataW.TrodAll enc P W' b sp hd f.resultTypes.toList (v.resultList f.resultTypes.size) (s.fn H (ds ++ gs)).results [])
    (hargs : ∀ sp : Nat → Bool, (∀ p ∈ before, sp p.block = true) → DataW.TrodAll enc P W' 0 sp true f.params.toList args.toList (s.fn H (ds ++ gs)).args pa)
    (hvars : ∀ sp : Nat → Bool, (∀ p ∈ before, sp p.block = true) → DataW.TrodVars enc P W' sp s.vars (s.fn H (ds ++ gs)).vars pv)
    (hps : before = pa ++ pv) (hb : Below W.heap.size W W')
    (hok : ∀ (j : Nat) (t : TypeId) (r : Value), f.resultTypes[j]? = some t → (v.resultList f.resultTypes.size)[j]? = some r → Value.okWide P W' .any 0 t r) :
    s.post enc P f apart fresh handsOn again W args v W' := by
  have hlt : ∀ p ∈ before, p.block < W.heap.size := fun p hp => hW.lt p hp
  have hold : ∀ p ∈ before, (fun b => decide (b < W.heap.size)) p.block = true := fun p hp => by simpa using hlt p hp
  refine ⟨ds, gs, before, [], pa, pv, hW, hres _ _ _, hargs _ hold, hvars _ hold, World.keptBut_mono (fun p hp => ⟨hp, ?_⟩) (hb.frame (· ∈ before)), fun _ => ?_⟩
  · rw [hps, List.mem_append] at hp
    exact Or.inr hp
  · obtain ⟨_, _, _, _, _, hz, hn⟩ := hW
    refine ⟨hok, _, _, ([] ++ pa) ++ pv, ⟨[] ++ pa, pv, trodAll_append (hargs _ (fun _ _ => rfl)) (hres _ _ _), hvars _ (fun _ _ => rfl), rfl, ?_, ?_⟩, ?_⟩
    · intro b off hp
      have hin : MemPlace.cell b off ∈ before := by rw [hps]; simpa using hp
      rw [hb.frozen (hlt _ hin)]
      exact hz b off hin
    · intro ha
      have := hn ha
      rw [hps] at this
      simpa using this
    · intro p hp _
      rw [hps]
      simpa using hp
theorem below_trod {t : TypeId} {W W' : World} {v : Value} {d : DataW H} {ps : List MemPlace} {sp : Nat → Bool} (hr : Tryz.prog.readableRec t = true) (hrow : t < Tryz.prog.types.size) (h : DataW.Trod enc Tryz.prog W 0 (fun _ => true) true t v d ps)
    (hb : Below W.heap.size W W') (hlt : ∀ x ∈ ps, x.block < W.heap.size) (hsp : ∀ x ∈ ps, sp x.block = true) : DataW.Trod enc Tryz.prog W' 0 sp true t v d ps :=
  WideElems.Trod_stays Tryz.laidOut hr hrow h (fun x hx => hb.same (hlt x hx)) hsp
end
end Go.Proofs.YtfjkmgjjifhdkaaGreat

/-
  The statements of layer 11: their arguments opened; the frame of each.
-/
namespace Go.Proofs.YtfjkmgjjifhdkaaGreat
open Go Go.RowKit Go.ChangeShapes Go.WideShapes

section
variable {H : Type} {enc : TypeId × Value → H} {w : World} {base : Nat} {spare : Nat → Bool} {held : Bool}
theorem wf_u8 {n : Int} (h : (Lit.int .u8 n).wf = true) : 0 ≤ n ∧ n ≤ 255 := by
  simp [Lit.wf, IntKind.min, IntKind.max, IntKind.signed, IntKind.bits] at h
  omega
/-- A slice of bytes. -/
theorem open_u8s {n : Nat} {cs : List Value} {y : DataW H × List MemPlace} (h : DataW.trod enc Tryz.prog w base spare held n 49 cs = some y) :
    ∃ (A : Option Addr) (c : Nat) (xs : List Int), cs = [.slice A xs.length c] ∧ xs.length ≤ c ∧ c ≤ maxLen ∧ SlR 1 RU8 w A xs ∧ ∀ x ∈ xs, 0 ≤ x ∧ x ≤ 255 := by
  obtain ⟨A, len, cap, xs, rfl, hl, hlc, hcm, hs⟩ := open_slr (α := {n : Int // 0 ≤ n ∧ n ≤ 255}) (R := fun _ x vs => vs = [.int .u8 x.1]) Tryz.underlying49 (s := 1) (by kernel_rfl) (by decide) (fun n cs y hh _ => by
    obtain ⟨m, rfl, _, hw⟩ := DataW.trod_int Tryz.underlying5 hh
    exact ⟨⟨m, wf_u8 hw⟩, rfl⟩) h
  subst hl
  refine ⟨A, cap, xs.map (·.1), by simp, by simpa using hlc, hcm, fun hne => ?_, fun x hx => ?_⟩
  · obtain ⟨b, off, hA, hb, hc⟩ := hs (by rintro rfl; simp at hne)
    refine ⟨b, off, hA, hb, fun k x hx => ?_⟩
    rw [List.getElem?_map] at hx
    cases hk : xs[k]? with
    | none => rw [hk] at hx; cases hx
    | some y =>
      rw [hk] at hx
      obtain ⟨vs, h1, h2, h3⟩ := hc k y hk
      exact ⟨vs, by rw [show x = y.1 from (Option.some.inj hx).symm]; exact h1, h2, h3⟩
  · obtain ⟨y, _, rfl⟩ := List.mem_map.1 hx
    exact y.2
set_option maxRecDepth 100000 in
/-- The description of a model. -/
theorem open_raw {r : Reach} {b0 : Nat} {v : Value} {d : DataW H} {p : List MemPlace} (hv : Value.okWide Tryz.prog w r b0 51 v) (h : DataW.Trod enc Tryz.prog w base spare held 51 v d p) :
    ∃ (x : Raw) (A1 A2 A3 : Option Addr) (c1 c2 c3 : Nat), v = .agg #[.slice A1 x.words.length c1, .slice A2 x.counts.length c2, .slice A3 x.uses.length c3, .int .u8 x.back] ∧ RawR w x A1 A2 A3 := by
  obtain ⟨v0, v1, v2, v3, y0, y1, y2, y3, n, rfl, _, _, h0, h1, h2, h3⟩ := Go.Joins.open_agg4 Tryz.underlying51 (by kernel_rfl) (by kernel_rfl) hv h
  obtain ⟨A1, l1, c1, ws, e1, rfl, k1, m1, s1⟩ := open_slr (α := List Int) (R := RRow) Tryz.underlying48 (s := 1) (by kernel_rfl) (by decide) (fun n cs y hh _ => by
    obtain ⟨A, c, xs, rfl, a1, a2, a3, a4⟩ := open_u8s hh
    exact ⟨xs, A, c, rfl, a3, by omega, a4⟩) h0
  obtain ⟨A2, c2, cs, e2, k2, m2, s2, b2⟩ := open_u8s h1
  obtain ⟨A3, l3, c3, us, e3, rfl, k3, m3, s3⟩ := open_slr (α := {u : Int × Int × Int // (0 ≤ u.1 ∧ u.1 ≤ 255) ∧ (0 ≤ u.2.1 ∧ u.2.1 ≤ 255) ∧ (0 ≤ u.2.2 ∧ u.2.2 ≤ 255)}) (R := fun w x vs => RU3 w x.1 vs) Tryz.underlying23 (s := 3) (by kernel_rfl) (by decide) (fun n cs y hh _ => by
    obtain ⟨ns, hl, rfl, hw⟩ := open_arr_ints (k := .u8) Tryz.underlying52 Tryz.underlying5 (by kernel_rfl) (by kernel_rfl) hh
    match ns, hl with
    | [a, b, c], _ => exact ⟨⟨(a, b, c), wf_u8 (hw a (by simp)), wf_u8 (hw b (by simp)), wf_u8 (hw c (by simp))⟩, rfl⟩) h2
  obtain ⟨bk, e4, _, hb⟩ := DataW.trod_int Tryz.underlying5 h3
  simp only [List.cons.injEq, and_true] at e1 e2 e3 e4
  subst e1 e2 e3 e4
  refine ⟨⟨ws, cs, us.map (·.1), bk⟩, A1, A2, A3, c1, c2, c3, by simp, s1, s2, fun hne => ?_, by simp only; omega, by simp only; omega, by simp only [List.length_map]; omega, b2, fun u hu => ?_, wf_u8 hb⟩
  · obtain ⟨b, off, hA, hb, hc⟩ := s3 (by rintro rfl; simp at hne)
    refine ⟨b, off, hA, hb, fun k x hx => ?_⟩
    rw [List.getElem?_map] at hx
    cases hk : us[k]? with
    | none => rw [hk] at hx; cases hx
    | some y =>
      rw [hk] at hx
      obtain ⟨vs, h1, h2, h3⟩ := hc k y hk
      exact ⟨vs, by rw [show x = y.1 from (Option.some.inj hx).symm]; exact h1, h2, h3⟩
  · obtain ⟨y, _, rfl⟩ := List.mem_map.1 hu
    exact y.2
end
end Go.Proofs.YtfjkmgjjifhdkaaGreat

/-
  Arguments opened: arrays by their numbers.
-/
namespace Go.Proofs.YtfjkmgjjifhdkaaGreat
open Go Go.RowKit Go.ChangeShapes Go.WideShapes

theorem list3 {α : Type} : ∀ (l : List α), l.length = 3 → ∃ a b c, l = [a, b, c]
  | [a, b, c], _ => ⟨a, b, c, rfl⟩
section
variable {H : Type} {enc : TypeId × Value → H} {P : Program} {w : World} {base : Nat} {spare : Nat → Bool} {held : Bool}
theorem open_arr3 {r : Reach} {b0 : Nat} {k : IntKind} {t e : TypeId} {v : Value} {d : DataW H} {p : List MemPlace} (ht : P.underlying t = some (.array 3 e)) (he : P.underlying e = some (.int k)) (hc : P.cellsOf e = 1) (hct : P.cellsOf t = 3)
    (hv : Value.okWide P w r b0 t v) (h : DataW.Trod enc P w base spare held t v d p) : ∃ a b c, v = .agg #[.int k a, .int k b, .int k c] ∧ (Lit.int k a).wf = true ∧ (Lit.int k b).wf = true ∧ (Lit.int k c).wf = true := by
  obtain ⟨ns, hl, rfl, hw⟩ := open_arr ht he hc hct hv h
  obtain ⟨a, b, c, rfl⟩ := list3 ns hl
  exact ⟨a, b, c, rfl, hw a (by simp), hw b (by simp), hw c (by simp)⟩
end
end Go.Proofs.YtfjkmgjjifhdkaaGreat
