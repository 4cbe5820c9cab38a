/-
  Open, CostFrame, Open2, joined. No conditions.
-/
import Derived.Test.YtfjkmgjjifhdkaaGreatRows
import Derived.Test.YtfjkmgjjifhdkaaGreatP01
import Derived.ProofKit
import Derived.OpenShut
import Derived.ChangeSame
import Derived.Carry
import Derived.Deep.Slices
import Derived.Deep.Fields
import Derived.Lib.SmallJoins
import Derived.Test.YtfjkmgjjifhdkaaGreatP38
/-
  Arguments opened: a slice reads as a list of things, whatever memory it lies in; the row's last step where old memory is left alone.
-/
namespace Go.Proofs.YtfjkmgjjifhdkaaGreat
open Go Go.RowKit Go.ChangeShapes Go.WideShapes

theorem Tryz.own : ownKnob Tryz.prog.godebug = none := by kernel_rfl
theorem Tryz.laidOut : laidOutB Tryz.prog = true := by kernel_rfl

section
variable {H : Type} {enc : TypeId × Value → H} {P : Program} {w : World} {base : Nat} {spare : Nat → Bool} {held : Bool}
theorem list_choose {α : Type} {p : Nat → α → Prop} : ∀ (n : Nat), (∀ i, i < n → ∃ x, p i x) → ∃ xs : List α, xs.length = n ∧ ∀ i x, xs[i]? = some x → p i x
  | 0, _ => ⟨[], rfl, fun i x h => by simp at h⟩
  | n + 1, h => by
    obtain ⟨xs, hl, hp⟩ := list_choose n (fun i hi => h i (by omega))
    obtain ⟨x, hx⟩ := h n (by omega)
    refine ⟨xs ++ [x], by simp [hl], fun i y hy => ?_⟩
    rcases Nat.lt_or_ge i n with hi | hi
    · rw [List.getElem?_append_left (by omega)] at hy; exact hp i y hy
    · obtain ⟨hlt, _⟩ := List.getElem?_eq_some_iff.1 hy
      have : i = n := by simp [hl] at hlt; omega
      subst this
      rw [List.getElem?_append_right (by omega), hl] at hy
      simp at hy
      subst hy
      exact hx
/-- A slice that an argument holds reads as a list. -/
theorem open_slr {α : Type} {R : World → α → List Value → Prop} {t e : TypeId} {s fuel : Nat} {cs : List Value} {X : DataW H × List MemPlace} (ht : P.underlying t = some (.slice e)) (hc : P.cellsOf e = s) (hs : 0 < s)
    (hel : ∀ (n : Nat) (cs : List Value) (y : DataW H × List MemPlace), DataW.trod enc P w base spare held n e cs = some y → cs.length = s → ∃ x : α, R w x cs)
    (h : DataW.trod enc P w base spare held fuel t cs = some X) : ∃ (A : Option Addr) (len cap : Nat) (xs : List α), cs = [.slice A len cap] ∧ xs.length = len ∧ len ≤ cap ∧ cap ≤ maxLen ∧ SlR s R w A xs := by
  rcases Go.Deep.open_slice ht h with ⟨rfl, _⟩ | ⟨a, len, cap, m, n, D, Pl, rfl, hb, hl, hm, hmm, _, hx⟩
  · exact ⟨none, 0, 0, [], rfl, rfl, Nat.le_refl _, Nat.zero_le _, SlR.nil⟩
  · have hlm : len ≤ m := by rw [hmm]; split <;> omega
    subst hc
    obtain ⟨xs, hxl, hxs⟩ := list_choose (p := fun i x => ∃ cs', w.cells? base (a.add (i * P.cellsOf e)) (P.cellsOf e) = some cs' ∧ R w x cs') len (fun i hi => by
      obtain ⟨cs', h1, h2⟩ := hx i (by omega)
      obtain ⟨x, hx⟩ := hel _ _ _ h2 (World.cells?_some h1).2.1
      exact ⟨x, cs', h1, hx⟩)
    refine ⟨some a, len, cap, xs, rfl, hxl, hl, hm, fun hne => ?_⟩
    have hcell : ∀ i x, xs[i]? = some x → ∃ vs, R w x vs ∧ vs.length = P.cellsOf e ∧ ∀ j v, vs[j]? = some v → w.cell? (a.add (i * P.cellsOf e + j)) = some v := fun i x hi => by
      obtain ⟨cs', h1, h2⟩ := hxs i x hi
      obtain ⟨_, hcl, hat⟩ := World.cells?_some h1
      refine ⟨cs', h2, hcl, fun j v hj => ?_⟩
      obtain ⟨hjl, _⟩ := List.getElem?_eq_some_iff.1 hj
      have := hat j (by omega)
      rw [Go.Deep.add_add] at this
      rw [this]; exact hj
    obtain ⟨x0, hx0⟩ : ∃ x, xs[0]? = some x := ⟨xs[0]'(List.length_pos_iff.2 hne), List.getElem?_eq_getElem _⟩
    obtain ⟨vs, _, hvl, hv⟩ := hcell 0 x0 hx0
    obtain ⟨v0, hv0⟩ : ∃ v, vs[0]? = some v := ⟨vs[0]'(by omega), List.getElem?_eq_getElem _⟩
    have h0 := hv 0 v0 hv0
    simp only [Nat.zero_mul, Nat.zero_add] at h0
    have ha0 : a.add 0 = a := by unfold Addr.add; simp
    rw [ha0] at h0
    rcases a with ⟨b, o, sp⟩
    cases sp with
    | some _ =>
      unfold World.cell? at h0
      dsimp only at h0
      split at h0 <;> simp at h0
    | none =>
      refine ⟨b, o, rfl, ?_, fun k x hk => ?_⟩
      · rcases Nat.lt_or_ge b w.heap.size with h | h
        · exact h
        · unfold World.cell? at h0; dsimp only at h0; rw [Array.getElem?_eq_none h] at h0; cases h0
      · obtain ⟨vs, h1, h2, h3⟩ := hcell k x hk
        refine ⟨vs, h1, h2, fun j v hj => ?_⟩
        have := h3 j v hj
        have e : (Addr.mk b o none).add (k * P.cellsOf e + j) = ⟨b, o + k * P.cellsOf e + j, none⟩ := by unfold Addr.add; split <;> simp_all [Nat.add_assoc]
        rw [e] at this
        exact this
/-- An array of whole numbers, opened: its cells. -/
theorem open_arr_ints {k : IntKind} {t e : TypeId} {m fuel : Nat} {cs : List Value} {X : DataW H × List MemPlace} (ht : P.underlying t = some (.array m e)) (he : P.underlying e = some (.int k)) (hc : P.cellsOf e = 1) (hct : P.cellsOf t = m)
    (h : DataW.trod enc P w base spare held fuel t cs = some X) : ∃ ns : List Int, ns.length = m ∧ cs = ns.map (Value.int k) ∧ ∀ n ∈ ns, (Lit.int k n).wf = true := by
  obtain ⟨xs, m', _, _, hl, hxl, hi⟩ := DataW.trod_array ht h
  obtain ⟨ns, hnl, hns⟩ := list_choose (p := fun i n => cs[i]? = some (Value.int k n) ∧ (Lit.int k n).wf = true) m (fun i him => by
    have h1 := hi i him
    rw [hc, Nat.mul_one, List.getElem?_eq_getElem (by omega)] at h1
    obtain ⟨n, h2, _, h3⟩ := DataW.trod_int he h1
    refine ⟨n, ?_, h3⟩
    have h4 : ((cs.drop i).take 1)[0]? = some (Value.int k n) := by rw [h2]; rfl
    rw [List.getElem?_take_of_lt (by omega), List.getElem?_drop] at h4
    simpa using h4)
  refine ⟨ns, hnl, ?_, fun n hn => ?_⟩
  · refine List.ext_getElem? fun i => ?_
    rcases Nat.lt_or_ge i m with hi | hi
    · obtain ⟨n, hn⟩ : ∃ n, ns[i]? = some n := ⟨ns[i]'(by omega), List.getElem?_eq_getElem _⟩
      rw [(hns i n hn).1, List.getElem?_map, hn]; rfl
    · rw [List.getElem?_eq_none (by omega), List.getElem?_eq_none (by simp; omega)]
  · obtain ⟨i, hi, rfl⟩ := List.getElem_of_mem hn
    exact (hns i _ (List.getElem?_eq_getElem hi)).2
/-- The row's last step: the call left old memory alone. -/
theorem post_of_below {f : Func} {s : ChangeSpec} {apart fresh handsOn again : Bool} {W W' : World} {args : Array Value} {v : Value} {ds gs : List (DataW H)} {before pa pv : List MemPlace}
    (hW : DataW.Whole enc P f.params.toList s.vars apart W args.toList ds gs before)
    (hres : ∀ (b : Nat) (sp : Nat → Bool) (hd : Bool), DataW.TrodAll enc P W' b sp hd f.resultTypes.toList (v.resultList f.resultTypes.size) (s.fn H (ds ++ gs)).results [])
    (hargs : ∀ sp : Nat → Bool, (∀ p ∈ before, sp p.block = true) → DataW.TrodAll enc P W' 0 sp true f.params.toList args.toList (s.fn H (ds ++ gs)).args pa)
    (hvars : ∀ sp : Nat → Bool, (∀ p ∈ before, sp p.block = true) → DataW.TrodVars enc P W' sp s.vars (s.fn H (ds ++ gs)).vars pv)
    (hps : before = pa ++ pv) (hb : Below W.heap.size W W')
    (hok : ∀ (j : Nat) (t : TypeId) (r : Value), f.resultTypes[j]? = some t → (v.resultList f.resultTypes.size)[j]? = some r → Value.okWide P W' .any 0 t r) :
    s.post enc P f apart fresh handsOn again W args v W' := by
  have hlt : ∀ p ∈ before, p.block < W.heap.size := fun p hp => hW.lt p hp
  have hold : ∀ p ∈ before, (fun b => decide (b < W.heap.size)) p.block = true := fun p hp => by simpa using hlt p hp
  refine ⟨ds, gs, before, [], pa, pv, hW, hres _ _ _, hargs _ hold, hvars _ hold, World.keptBut_mono (fun p hp => ⟨hp, ?_⟩) (hb.frame (· ∈ before)), fun _ => ?_⟩
  · rw [hps, List.mem_append] at hp
    exact Or.inr hp
  · obtain ⟨_, _, _, _, _, hz, hn⟩ := hW
    refine ⟨hok, _, _, ([] ++ pa) ++ pv, ⟨[] ++ pa, pv, trodAll_append (hargs _ (fun _ _ => rfl)) (hres _ _ _), hvars _ (fun _ _ => rfl), rfl, ?_, ?_⟩, ?_⟩
    · intro b off hp
      have hin : MemPlace.cell b off ∈ before := by rw [hps]; simpa using hp
      rw [hb.frozen (hlt _ hin)]
      exact hz b off hin
    · intro ha
      have := hn ha
      rw [hps] at this
      simpa using this
    · intro p hp _
      rw [hps]
      simpa using hp
theorem below_trod {t : TypeId} {W W' : World} {v : Value} {d : DataW H} {ps : List MemPlace} {sp : Nat → Bool} (hr : Tryz.prog.readableRec t = true) (hrow : t < Tryz.prog.types.size) (h : DataW.Trod enc Tryz.prog W 0 (fun _ => true) true t v d ps)
    (hb : Below W.heap.size W W') (hlt : ∀ x ∈ ps, x.block < W.heap.size) (hsp : ∀ x ∈ ps, sp x.block = true) : DataW.Trod enc Tryz.prog W' 0 sp true t v d ps :=
  WideElems.Trod_stays Tryz.laidOut hr hrow h (fun x hx => hb.same (hlt x hx)) hsp
end
end Go.Proofs.YtfjkmgjjifhdkaaGreat

/-
  The statements of layer 11: their arguments opened; the frame of each.
-/
namespace Go.Proofs.YtfjkmgjjifhdkaaGreat
open Go Go.RowKit Go.ChangeShapes Go.WideShapes

section
variable {H : Type} {enc : TypeId × Value → H} {w : World} {base : Nat} {spare : Nat → Bool} {held : Bool}
theorem wf_u8 {n : Int} (h : (Lit.int .u8 n).wf = true) : 0 ≤ n ∧ n ≤ 255 := by
  simp [Lit.wf, IntKind.min, IntKind.max, IntKind.signed, IntKind.bits] at h
  omega
end
end Go.Proofs.YtfjkmgjjifhdkaaGreat

/-
  Arguments opened: arrays by their numbers.
-/
namespace Go.Proofs.YtfjkmgjjifhdkaaGreat
open Go Go.RowKit Go.ChangeShapes Go.WideShapes

section
variable {H : Type} {enc : TypeId × Value → H} {P : Program} {w : World} {base : Nat} {spare : Nat → Bool} {held : Bool}
end
end Go.Proofs.YtfjkmgjjifhdkaaGreat
