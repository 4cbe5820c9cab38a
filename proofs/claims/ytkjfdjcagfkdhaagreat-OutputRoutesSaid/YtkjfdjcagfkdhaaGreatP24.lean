/-
  OuLvm, GrMade, OrdV, Ret, GrWalkC, OuLeave, joined. No conditions.
-/
import Derived.Test.YtkjfdjcagfkdhaaGreatP23
import Derived.Test.YtkjfdjcagfkdhaaGreatP14
import Derived.Test.YtkjfdjcagfkdhaaGreatP16
import Derived.Test.YtkjfdjcagfkdhaaGreatP05
import Derived.Laws.Rows
import Derived.Laws.ResultCell
import Derived.Test.YtkjfdjcagfkdhaaGreatP15
import Derived.Deep.DeepCutAuto
import Derived.Test.YtkjfdjcagfkdhaaGreatP18
import Derived.Carry
/-
  Words for memory of layer 05: a map of the call's own from modes to lists of rules.
-/
namespace Go.Proofs.YtkjfdjcagfkdhaaGreat
open Go Go.RowKit Go.Maps

/-- How a slice within a map reads: by its header. -/
def slE (v : Value) : Option (DataW Unit × List MemPlace) := match v with
  | .slice none n c => some (.agg [.lit (.int .i64 (n : Int)), .lit (.int .i64 (c : Int))], [])
  | .slice (some ⟨b, 0, none⟩) n c => some (.agg [.lit (.int .i64 (b : Int)), .lit (.int .i64 (n : Int)), .lit (.int .i64 (c : Int))], [])
  | _ => none
theorem slE_inj {v v' : Value} {d : DataW Unit} {ps ps' : List MemPlace} (h : slE v = some (d, ps)) (h' : slE v' = some (d, ps')) : v = v' := by
  unfold slE at h h'
  split at h
  · split at h'
    · have h := Option.some.inj h; have h' := Option.some.inj h'
      have e := (congrArg Prod.fst h).trans (congrArg Prod.fst h').symm
      simp only [DataW.agg.injEq, List.cons.injEq, DataW.lit.injEq, Lit.int.injEq, true_and, and_true] at e
      have e1 : _ := e.1
      have e2 : _ := e.2
      congr 1 <;> omega
    · have h := Option.some.inj h; have h' := Option.some.inj h'
      have e := (congrArg Prod.fst h).trans (congrArg Prod.fst h').symm
      simp at e
    · cases h'
  · split at h'
    · have h := Option.some.inj h; have h' := Option.some.inj h'
      have e := (congrArg Prod.fst h).trans (congrArg Prod.fst h').symm
      simp at e
    · have h := Option.some.inj h; have h' := Option.some.inj h'
      have e := (congrArg Prod.fst h).trans (congrArg Prod.fst h').symm
      simp only [DataW.agg.injEq, List.cons.injEq, DataW.lit.injEq, Lit.int.injEq, true_and, and_true] at e
      obtain ⟨e1, e2, e3⟩ := e
      have e1 := Int.ofNat.inj e1
      have e2 := Int.ofNat.inj e2
      have e3 := Int.ofNat.inj e3
      subst e1 e2 e3
      rfl
    · cases h'
  · cases h
/-- What a slice reads as. -/
def slD (v : Value) : DataW Unit := match slE v with
  | some y => y.1
  | none => .nil
theorem slE_own {w : World} {base : Nat} {e : TypeId} {s n : Nat} {v : Value} {xs : List Value} (h : w.ownsRow base e s v n xs) : slE v = some (slD v, []) := by
  rcases h.2 with ⟨rfl, _⟩ | ⟨g, cap, cur, rfl, _⟩
  · rfl
  · rfl
/-- What the map's types are good for. -/
structure LT (P : Program) (t kt et : TypeId) : Prop where
  law : Keyed P kt
  und : P.underlying t = some (.map kt et)
  kin : P.underlying kt = some (.int .i64)
  zero : ∀ w : World, (zeroValue et).run P w = .ok (.slice none 0 0) w
/-- The rules of each mode, as lists in rows of the call's own. -/
structure LvM (P : Program) (kt it : TypeId) (w : World) (b n N base : Nat) (V : Int → Value) (Ls : Int → List Int) (D : DataW Unit) : Prop where
  own : w.ownsMap P kt slE b n D
  at_ : ∀ m : Int, 0 ≤ m → m < (N : Int) → D.atKey (.int .i64 m) (slD (.slice none 0 0)) = slD (V m)
  row : ∀ m : Int, 0 ≤ m → m < (N : Int) → w.ownsRow base it 1 (V m) (Ls m).length ((Ls m).map (Value.int .i64))
  has_ : ∀ m : Int, Maps.has D (.int .i64 m) = true → 0 ≤ m ∧ m < (N : Int)
  put : ∀ m : Int, 0 ≤ m → m < (N : Int) → Ls m ≠ [] → Maps.has D (.int .i64 m) = true
  apart : ∀ m m' : Int, 0 ≤ m → m < (N : Int) → 0 ≤ m' → m' < (N : Int) → m ≠ m' → ∀ g, (V m).ownBlock = some g → (V m').ownBlock ≠ some g
  below : b < base
theorem mode_wf {m : Int} {N : Nat} (h0 : 0 ≤ m) (h1 : m < (N : Int)) (hN : N ≤ 8) : (Lit.int .i64 m).wf = true := wf_small h0 (by omega)
theorem mkey_ne {i j : Int} (h : i ≠ j) : (Lit.int .i64 i) ≠ .int .i64 j := fun e => by
  injection e with _ e
  exact h e
section
variable {P : Program} {t kt et it : TypeId} {w w' : World} {b n N base : Nat} {V : Int → Value} {Ls : Int → List Int} {D : DataW Unit}
theorem LvM.made (hb : w.heap.size < base) : LvM P kt it (w.alloc (.map #[] 0)) w.heap.size 0 N base (fun _ => .slice none 0 0) (fun _ => []) (.map []) :=
  ⟨World.ownsMap_made w _ _ _, fun _ _ _ => rfl, fun _ _ _ => own_nil _ _ _ _, fun _ h => (by cases h), fun _ _ _ h => absurd rfl h, fun _ _ _ _ _ _ _ _ h => (by cases h), hb⟩
theorem LvM.lt (h : LvM P kt it w b n N base V Ls D) : b < w.heap.size := h.own.lt
theorem LvM.keep (h : LvM P kt it w b n N base V Ls D) (hb : Below w.heap.size w w') : LvM P kt it w' b n N base V Ls D := by
  refine ⟨?_, h.at_, fun m h0 h1 => own_below (h.row m h0 h1) hb, h.has_, h.put, h.apart, h.below⟩
  obtain ⟨es, clock, h1, h2, h3, h4⟩ := h.own
  exact ⟨es, clock, (hb.block b h.lt).trans h1, h2, h3, h4⟩
/-- One rule more for a mode. -/
theorem LvM.more {w2 w3 : World} {m i : Int} {v' : Value} (hT : LT P t kt et) (h : LvM P kt it w b n N base V Ls D) (h0 : 0 ≤ m) (h1 : m < (N : Int)) (hN : N ≤ 8) (hown : w2.ownsRow base it 1 v' ((Ls m).length + 1) ((Ls m).map (Value.int .i64) ++ [.int .i64 i])) (ha : Apps w w2 (V m) v')
    (ho : w3.ownsMap P kt slE b (n + 1) (D.put (.int .i64 m) (slD v'))) (hg : w2.grownBy w3 (some b)) : LvM P kt it w3 b (n + 1) N base (fun x => if x = m then v' else V x) (fun x => if x = m then Ls x ++ [i] else Ls x) (D.put (.int .i64 m) (slD v')) := by
  have hkey := keyOf_int_mk hT.kin (mode_wf h0 h1 hN)
  have hD := h.own.tidy hT.law
  have hbb := h.below
  have hk3 : ∀ {v : Value} {k : Nat} {xs : List Value}, w2.ownsRow base it 1 v k xs → w3.ownsRow base it 1 v k xs := fun hr => hr.kept hg (by
    cases hv : Value.ownBlock _ with
    | none => exact .inl rfl
    | some g => exact .inr fun e => by have h5 := own_block_le hr _ hv; have := Option.some.inj e; omega)
  refine ⟨ho, fun x hx0 hx1 => ?_, fun x hx0 hx1 => ?_, fun x hx => ?_, fun x hx0 hx1 hx => ?_, fun x y hx0 hx1 hy0 hy1 hne g hg1 => ?_, hbb⟩
  · by_cases e : x = m
    · subst e
      rw [atKey_put_same hD.isMap (hT.law.key hkey), if_pos rfl]
    · rw [atKey_put_other (mkey_ne e), if_neg e]
      exact h.at_ x hx0 hx1
  · by_cases e : x = m
    · subst e
      rw [if_pos rfl, if_pos rfl]
      refine hk3 ?_
      rw [List.length_append, List.map_append]
      exact hown
    · rw [if_neg e, if_neg e]
      refine hk3 (own_keep (h.row x hx0 hx1) fun g hg1 hlt => ha.keep g hlt fun e2 => ?_)
      exact h.apart x m hx0 hx1 h0 h1 e g hg1 e2
  · by_cases e : x = m
    · subst e; exact ⟨h0, h1⟩
    · rw [has_put_other (mkey_ne e)] at hx
      exact h.has_ x hx
  · by_cases e : x = m
    · subst e; exact has_put_same hD.isMap (hT.law.key hkey) _
    · rw [if_neg e] at hx
      rw [has_put_other (mkey_ne e)]
      exact h.put x hx0 hx1 hx
  · have hfar : ∀ z, 0 ≤ z → z < (N : Int) → z ≠ m → v'.ownBlock = some g → (V z).ownBlock ≠ some g := fun z hz0 hz1 hz hv => by
      rcases ha.at_ with h5 | ⟨k, h5, h6⟩
      · rw [h5] at hv
        exact h.apart m z h0 h1 hz0 hz1 (fun e => hz e.symm) g hv
      · rw [h5] at hv
        have hv := Option.some.inj hv
        exact own_lt (h.row z hz0 hz1) (by omega)
    by_cases ex : x = m
    · rw [if_pos ex] at hg1
      rw [if_neg (fun e => hne (ex.trans e.symm))]
      exact hfar y hy0 hy1 (fun e => hne (ex.trans e.symm)) hg1
    · rw [if_neg ex] at hg1
      by_cases ey : y = m
      · rw [if_pos ey]
        intro hv
        exact hfar x hx0 hx1 ex hv hg1
      · rw [if_neg ey]
        exact h.apart x y hx0 hx1 hy0 hy1 hne g hg1
end
end Go.Proofs.YtkjfdjcagfkdhaaGreat

/-
  The plain things of layers 15 and 16: the graphs that the laws draw.
-/
namespace Go.Proofs.YtkjfdjcagfkdhaaGreat
open Go Go.RowKit

end Go.Proofs.YtkjfdjcagfkdhaaGreat

/-
  A region that draws its order and ends in stores, some of whose reading operations may come up behind a store: R holds always, S as long as no store of 'ts' has come up.
-/
namespace Go.Proofs.YtkjfdjcagfkdhaaGreat
open Go Go.RowKit

def goodFromV (ops : Array Oper) (ts : List Nat) : Array Bool → List (Nat × Option Bool) → Bool
  | listed, [] => (Region.ready .any ops listed).isEmpty
  | listed, (i, some true) :: l => Region.ready .any ops listed == [i] && goodFromV ops ts (listed.setIfInBounds i true) l
  | listed, (i, some false) :: l => (Region.ready .any ops listed).contains i && Region.free .any ops listed i && ts.all (fun t => (waitsFor ops t i || ts.any (fun t' => waitsFor ops t t')) && !(listed.getD t true)) && goodFromV ops ts (listed.setIfInBounds i true) l
  | listed, (i, none) :: l => (Region.ready .any ops listed).contains i && Region.free .any ops listed i && goodFromV ops ts (listed.setIfInBounds i true) l
def goodOrdV (ops : Array Oper) (ts : List Nat) (l : List (Nat × Option Bool)) : Bool := decide (l.length ≤ ops.size) && goodFromV ops ts (Array.replicate ops.size false) l
section
variable {P : Program} {ops : Array Oper} {Q : Exit → Act → World → Prop} {S R : World → Prop} {ts : List Nat}
def wpAnyV (P : Program) (ops : Array Oper) (Q : Exit → Act → World → Prop) (S R : World → Prop) (ts : List Nat) : Nat → Array Bool → Act → World → Prop
  | 0, listed, a, w => Region.ready .any ops listed = [] ∧ Q .normal a w
  | fuel + 1, listed, a, w =>
    (Region.ready .any ops listed = [] → Q .normal a w) ∧
    ∀ i ∈ Region.ready .any ops listed, wpOp P ops Q i (fun a' w' => (R w' ∧ (S w → ts.contains i = false → S w')) ∧ wpAnyV P ops Q S R ts fuel (listed.setIfInBounds i true) a' w') a w
theorem wpAny_of_V : ∀ (fuel : Nat) (listed : Array Bool) (a : Act) (w : World), wpAnyV P ops Q S R ts fuel listed a w → wpAny P .any ops Q fuel listed a w
  | 0, _, _, _, h => h
  | fuel + 1, _, _, _, h => ⟨h.1, fun i hi => wpOp_mono (fun a' w' h' => wpAny_of_V fuel _ a' w' h'.2) (h.2 i hi)⟩
theorem firstV1 {i : Nat} {oi : Oper} {v : Value} (hi : ops[i]? = some oi) (hsel : ∀ (j : Nat) (o : Oper) cs b, ops[j]? = some o → o.op ≠ .select cs b)
    (hQ : ∀ c a w, Q (.panic c) (a.put oi.dst v) w → Q (.panic c) a w) (hts : ∀ t ∈ ts, waitsFor ops t i = true ∨ ∃ t' ∈ ts, waitsFor ops t t' = true) :
    ∀ (fuel : Nat) (listed : Array Bool) (a : Act) (w : World),
      (∀ j oj, ops[j]? = some oj → j ≠ i → listed.getD j true = false → (∀ e ∈ oj.after, Region.binds .any e = true → e.on ≠ i) → oi.apart ops oj = true) →
      (∀ t ∈ ts, listed.getD t true = false) → i ∈ Region.ready .any ops listed → YieldsIf P ops S oi v a → S w → R w →
      wpAnyV P ops Q S R ts fuel (listed.setIfInBounds i true) (a.put oi.dst v) w → wpAnyV P ops Q S R ts (fuel + 1) listed a w := by
  intro fuel
  induction fuel with
  | zero =>
    intro listed a w _ _ hr hy hS hR H
    refine ⟨fun h => (by rw [h] at hr; cases hr), fun j hj => ?_⟩
    by_cases hji : j = i
    · subst hji; exact hy.wpOp hi hS ⟨⟨hR, fun h _ => h⟩, H⟩
    · have h1 := ready_mono hj hji
      rw [H.1] at h1
      cases h1
  | succ fuel ih =>
    intro listed a w hfree hun0 hr hy hS hR H
    refine ⟨fun h => (by rw [h] at hr; cases hr), fun j hj => ?_⟩
    by_cases hji : j = i
    · subst hji; exact hy.wpOp hi hS ⟨⟨hR, fun h _ => h⟩, H⟩
    · obtain ⟨hjun, oj, hoj, hall⟩ := mem_ready.1 hj
      have hiun := (mem_ready.1 hr).1
      have hnot : ∀ e ∈ oj.after, Region.binds .any e = true → e.on ≠ i := fun e he hb heq => by
        have h2 := hall e he hb
        rw [heq] at h2
        rcases Nat.lt_or_ge i listed.size with h' | h'
        · simp [h'] at hiun h2; rw [hiun] at h2; cases h2
        · simp [Array.getElem?_eq_none h'] at h2
      have hjt : ts.contains j = false := by
        cases hc : ts.contains j
        · rfl
        · exfalso
          rcases hts j (by simpa using hc) with hw | ⟨t', ht', hw⟩
          · unfold waitsFor at hw
            simp only [hoj] at hw
            obtain ⟨k, hk, he⟩ := Array.any_eq_true.1 hw
            simp only [Bool.and_eq_true, beq_iff_eq] at he
            exact absurd he.2 (hnot _ (Array.getElem_mem hk) he.1)
          · unfold waitsFor at hw
            simp only [hoj] at hw
            obtain ⟨k, hk, he⟩ := Array.any_eq_true.1 hw
            simp only [Bool.and_eq_true, beq_iff_eq] at he
            have h2 := hall _ (Array.getElem_mem hk) he.1
            rw [he.2] at h2
            have h3 := hun0 t' ht'
            rcases Nat.lt_or_ge t' listed.size with h' | h'
            · simp [h'] at h2 h3; rw [h3] at h2; cases h2
            · simp [Array.getElem?_eq_none h'] at h2
      have h2 := wpOp_putIf hoj (hfree j oj hoj hji hjun hnot) (fun cs b => hsel i oi cs b hi) (fun cs b => hsel j oj cs b hoj) hQ hy (H.2 j (ready_mono hj hji))
      have hfree' : ∀ k ok, ops[k]? = some ok → k ≠ i → (listed.setIfInBounds j true).getD k true = false →
          (∀ e ∈ ok.after, Region.binds .any e = true → e.on ≠ i) → oi.apart ops ok = true := fun k ok hk hki hun hno => by
        refine hfree k ok hk hki ?_ hno
        by_cases hjk : j = k
        · subst hjk; exact hjun
        · rw [getD_set_ne true hjk] at hun; exact hun
      refine wpOp_mono (fun a' w' h3 => ?_) h2
      have hS' := h3.2.1.2 hS hjt
      have hR' := h3.2.1.1
      refine ⟨h3.2.1, ih (listed.setIfInBounds j true) a' w' hfree' (fun t ht => by rw [getD_set_ne true (fun e => by subst e; simp [ht] at hjt)]; exact hun0 t ht) (ready_mono hr (Ne.symm hji)) h3.1 hS' hR' ?_⟩
      rw [Array.setIfInBounds_comm _ _ hji]
      exact h3.2.2

theorem firstV2 {i : Nat} {oi : Oper} {v : Value} (hi : ops[i]? = some oi) (hsel : ∀ (j : Nat) (o : Oper) cs b, ops[j]? = some o → o.op ≠ .select cs b)
    (hQ : ∀ c a w, Q (.panic c) (a.put oi.dst v) w → Q (.panic c) a w) :
    ∀ (fuel : Nat) (listed : Array Bool) (a : Act) (w : World),
      (∀ j oj, ops[j]? = some oj → j ≠ i → listed.getD j true = false → (∀ e ∈ oj.after, Region.binds .any e = true → e.on ≠ i) → oi.apart ops oj = true) →
      i ∈ Region.ready .any ops listed → YieldsIf P ops R oi v a → R w →
      wpAnyV P ops Q S R ts fuel (listed.setIfInBounds i true) (a.put oi.dst v) w → wpAnyV P ops Q S R ts (fuel + 1) listed a w := by
  intro fuel
  induction fuel with
  | zero =>
    intro listed a w _ hr hy hR H
    refine ⟨fun h => (by rw [h] at hr; cases hr), fun j hj => ?_⟩
    by_cases hji : j = i
    · subst hji; exact hy.wpOp hi hR ⟨⟨hR, fun h _ => h⟩, H⟩
    · have h1 := ready_mono hj hji
      rw [H.1] at h1
      cases h1
  | succ fuel ih =>
    intro listed a w hfree hr hy hR H
    refine ⟨fun h => (by rw [h] at hr; cases hr), fun j hj => ?_⟩
    by_cases hji : j = i
    · subst hji; exact hy.wpOp hi hR ⟨⟨hR, fun h _ => h⟩, H⟩
    · obtain ⟨hjun, oj, hoj, hall⟩ := mem_ready.1 hj
      have hiun := (mem_ready.1 hr).1
      have hnot : ∀ e ∈ oj.after, Region.binds .any e = true → e.on ≠ i := fun e he hb heq => by
        have h2 := hall e he hb
        rw [heq] at h2
        rcases Nat.lt_or_ge i listed.size with h' | h'
        · simp [h'] at hiun h2; rw [hiun] at h2; cases h2
        · simp [Array.getElem?_eq_none h'] at h2
      have h2 := wpOp_putIf hoj (hfree j oj hoj hji hjun hnot) (fun cs b => hsel i oi cs b hi) (fun cs b => hsel j oj cs b hoj) hQ hy (H.2 j (ready_mono hj hji))
      have hfree' : ∀ k ok, ops[k]? = some ok → k ≠ i → (listed.setIfInBounds j true).getD k true = false →
          (∀ e ∈ ok.after, Region.binds .any e = true → e.on ≠ i) → oi.apart ops ok = true := fun k ok hk hki hun hno => by
        refine hfree k ok hk hki ?_ hno
        by_cases hjk : j = k
        · subst hjk; exact hjun
        · rw [getD_set_ne true hjk] at hun; exact hun
      refine wpOp_mono (fun a' w' h3 => ?_) h2
      have hR' := h3.2.1.1
      refine ⟨h3.2.1, ih (listed.setIfInBounds j true) a' w' hfree' (ready_mono hr (Ne.symm hji)) h3.1 hR' ?_⟩
      rw [Array.setIfInBounds_comm _ _ hji]
      exact h3.2.2


def wpOrdV (P : Program) (ops : Array Oper) (Q : Exit → Act → World → Prop) (S R : World → Prop) (ts : List Nat) : List (Nat × Option Bool) → Act → World → Prop
  | [], a, w => Q .normal a w
  | (i, some true) :: l, a, w => wpOp P ops Q i (fun a' w' => (R w' ∧ (S w → ts.contains i = false → S w')) ∧ wpOrdV P ops Q S R ts l a' w') a w
  | (i, some false) :: l, a, w => ∃ oi v, ops[i]? = some oi ∧ YieldsIf P ops S oi v a ∧ S w ∧ wpOrdV P ops Q S R ts l (a.put oi.dst v) w
  | (i, none) :: l, a, w => ∃ oi v, ops[i]? = some oi ∧ YieldsIf P ops R oi v a ∧ wpOrdV P ops Q S R ts l (a.put oi.dst v) w
theorem wpAnyV_of_ord (hs : Region.noSelect ops = true) (hQ : ∀ d v c a w, Q (.panic c) (Act.put a (some d) v) w → Q (.panic c) a w) :
    ∀ (l : List (Nat × Option Bool)) (fuel : Nat) (listed : Array Bool) (a : Act) (w : World), l.length ≤ fuel → goodFromV ops ts listed l = true → R w → wpOrdV P ops Q S R ts l a w →
      wpAnyV P ops Q S R ts fuel listed a w := by
  intro l
  induction l with
  | nil =>
    intro fuel listed a w _ hg _ h
    have hr : Region.ready .any ops listed = [] := by simpa [goodFromV] using hg
    cases fuel with
    | zero => exact ⟨hr, h⟩
    | succ fuel => exact ⟨fun _ => h, by rw [hr]; simp⟩
  | cons x l ih =>
    intro fuel listed a w hf hg hR h
    obtain ⟨fuel, rfl⟩ : ∃ f, fuel = f + 1 := ⟨fuel - 1, by simp at hf; omega⟩
    have hf' : l.length ≤ fuel := by simp at hf; omega
    obtain ⟨i, b⟩ := x
    rcases b with _ | _ | _
    · simp only [goodFromV, Bool.and_eq_true] at hg
      obtain ⟨oi, v, hi, hy, h'⟩ := h
      refine firstV2 hi (Region.noSelect_spec hs) (fun c a w hh => ?_) fuel listed a w (Region.free_spec hi hg.1.2) (by simpa using hg.1.1) hy hR (ih fuel _ _ w hf' hg.2 hR h')
      cases hd : oi.dst with
      | none => rw [hd] at hh; exact hh
      | some d => rw [hd] at hh; exact hQ d v c a w hh
    · simp only [goodFromV, Bool.and_eq_true, List.all_eq_true] at hg
      obtain ⟨oi, v, hi, hy, hS, h'⟩ := h
      refine firstV1 hi (Region.noSelect_spec hs) (fun c a w hh => ?_) (fun t ht => by have := (hg.1.2 t ht).1; simpa using this) fuel listed a w (Region.free_spec hi hg.1.1.2) (fun t ht => by have := (hg.1.2 t ht).2; simpa using this) (by simpa using hg.1.1.1) hy hS hR (ih fuel _ _ w hf' hg.2 hR h')
      cases hd : oi.dst with
      | none => rw [hd] at hh; exact hh
      | some d => rw [hd] at hh; exact hQ d v c a w hh
    · simp only [goodFromV, Bool.and_eq_true, beq_iff_eq] at hg
      refine ⟨fun h0 => absurd (h0.symm.trans hg.1) (by simp), fun j hj => ?_⟩
      rw [hg.1] at hj
      obtain rfl : j = i := by simpa using hj
      exact wpOp_mono (fun a' w' h' => ⟨h'.1, ih fuel _ a' w' hf' hg.2 h'.1.1 h'.2⟩) h
theorem ordV_start {id : Nat} {a : Act} {w : World} (S R : World → Prop) (ts : List Nat) (l : List (Nat × Option Bool)) (hm : P.follows .mixedOrders = true) (hs : Region.noSelect ops = true) (hg : goodOrdV ops ts l = true)
    (hQ : ∀ d v c a w, Q (.panic c) (Act.put a (some d) v) w → Q (.panic c) a w) (hR : R w.drew) (h : wpOrdV P ops Q S R ts l a w.drew) : (Code.region id ops true).wp P Q a w := by
  unfold goodOrdV at hg
  simp only [Bool.and_eq_true, decide_eq_true_eq] at hg
  exact wp_region_any hm (wpAny_of_V _ _ _ _ (wpAnyV_of_ord hs hQ l _ _ a _ hg.1 hg.2 hR h))
theorem ordV_nil {a : Act} {w : World} (h : Q .normal a w) : wpOrdV P ops Q S R ts [] a w := h
theorem ordV_takeS {i : Nat} {o : Oper} {v : Value} {l : List (Nat × Option Bool)} {a : Act} {w : World} (ho' : nthO ops.toList i = some o) (hw : Region.wanted o (yielded ops a.tmps) = true) (hS : S w)
    (hy : ∀ W, S W → (execOp a.eval o).run P W = .ok (.value v) W)
    (h : wpOrdV P ops Q S R ts l (a.put o.dst v) w) : wpOrdV P ops Q S R ts ((i, some false) :: l) a w := ⟨o, v, nthO_spec ho', .inl ⟨hw, hy⟩, hS, h⟩
theorem ordV_takeR {i : Nat} {o : Oper} {v : Value} {l : List (Nat × Option Bool)} {a : Act} {w : World} (ho' : nthO ops.toList i = some o) (hw : Region.wanted o (yielded ops a.tmps) = true)
    (hy : ∀ W, R W → (execOp a.eval o).run P W = .ok (.value v) W)
    (h : wpOrdV P ops Q S R ts l (a.put o.dst v) w) : wpOrdV P ops Q S R ts ((i, none) :: l) a w := ⟨o, v, nthO_spec ho', .inl ⟨hw, hy⟩, h⟩
theorem ordV_call {i : Nat} {o : Oper} {l : List (Nat × Option Bool)} {a : Act} {w : World} (ho' : nthO ops.toList i = some o) (hw : Region.wanted o (yielded ops a.tmps) = true)
    (h : ∀ K' : Act → World → Prop, Shut (∀ a w', R w' → (S w → ts.contains i = false → S w') → wpOrdV P ops Q S R ts l a w' → K' a w') → Oper.wp P o a w K' Q) : wpOrdV P ops Q S R ts ((i, some true) :: l) a w := by
  have ho := nthO_spec ho'
  show wpOp P ops Q i _ a w
  refine wpOp_step ho fun K' hK => ?_
  rw [if_pos hw]
  exact h K' fun a w' hR hS hW => hK a w' ⟨⟨hR, hS⟩, hW⟩
end
end Go.Proofs.YtkjfdjcagfkdhaaGreat

/-
  Returns of a struct that lies in a block of the call's own.
-/
namespace Go.Proofs.YtkjfdjcagfkdhaaGreat
open Go Go.RowKit

section
variable {P : Program} {fn : Func} {p u : Tmp} {ty : TypeId} {R : Ending → World → Prop} {a : Act} {w : World} {g : Nat} {t : TypeId} {cs : Array Value} {d : TypeDesc}
theorem ret_cell (hB : Blk w g t cs) (h : fn.results = #[.cell p ty]) (hp : a.tmps.getD p undef = .pointer (some ⟨g, 0, none⟩))
    (hu : P.underlying ty = some d) (hd : (match d with | .struct _ | .array _ _ => true | _ => false) = true) (hi : (P.info? ty).map (·.size) = some cs.size) (hdf : a.defers = [])
    (hR : R (.returned (.agg cs)) w) : bodyPost P fn R .ret a w :=
  bodyPost_ret (results_cell_row h a.tmps w g t cs (0, 0) d hp hB hu hd hi) hdf hR
theorem ret_cell_tmp (hB : Blk w g t cs) (h : fn.results = #[.cell p ty, .tmp u]) (hp : a.tmps.getD p undef = .pointer (some ⟨g, 0, none⟩))
    (hu : P.underlying ty = some d) (hd : (match d with | .struct _ | .array _ _ => true | _ => false) = true) (hi : (P.info? ty).map (·.size) = some cs.size) (hdf : a.defers = [])
    (hR : R (.returned (.tuple #[.agg cs, a.tmps.getD u undef])) w) : bodyPost P fn R .ret a w := by
  refine bodyPost_ret ?_ hdf hR
  have e : ({ fn with results := #[.cell p ty] } : Func).results = #[.cell p ty] := rfl
  rw [results_cell_tmp h]
  have h1 : (loadVar ty ⟨g, 0, none⟩).run P w = .ok (.agg cs) w := run_loadVar_row w g t ty cs (0, 0) d hB hu hd hi
  rw [hp]
  show (((asAddr (.pointer (some ⟨g, 0, none⟩))).run P w).andThen _) = _
  simp only [asAddr, Sem.run_pure, Result.andThen_ok, h1]
end
end Go.Proofs.YtkjfdjcagfkdhaaGreat

/-
  The walks of layers 15 and 16: the graphs that the laws draw.
-/
namespace Go.Proofs.YtkjfdjcagfkdhaaGreat
open Go Go.RowKit

theorem info_parts {t : TypeId} {z : Value} {s b : Nat} (h : (Tryz.prog.info? t).map (fun i => (i.zero, i.size, i.bytes)) = some (some z, s, b)) : ∃ i, Tryz.prog.info? t = some i ∧ i.zero = some z ∧ i.size = s ∧ i.bytes = b := by
  cases hi : Tryz.prog.info? t with
  | none => rw [hi] at h; cases h
  | some i =>
    rw [hi] at h
    simp at h
    exact ⟨i, rfl, h.1, h.2.1, h.2.2⟩
theorem slr_blk {α : Type} {s : Nat} {R : World → α → List Value → Prop} {enc : α → List Value} {w : World} {g : Nat} {t : TypeId} {xs : List α} (h : Blk w g t (xs.flatMap enc).toArray) (hl : ∀ x, (enc x).length = s) (hR : ∀ x, R w x (enc x)) :
    SlR s R w (some ⟨g, 0, none⟩) xs := fun _ => by
  refine ⟨g, 0, rfl, h.lt, fun k x hx => ⟨enc x, hR x, hl x, fun j v hj => ?_⟩⟩
  have hget : ∀ (l : List α) (k : Nat) (x : α), l[k]? = some x → ∀ j u, (enc x)[j]? = some u → (l.flatMap enc)[k * s + j]? = some u := by
    intro l
    induction l with
    | nil => intro k x h; simp at h
    | cons y l ih =>
      intro k x hx j u hu
      rw [List.flatMap_cons]
      cases k with
      | zero =>
        simp at hx
        subst hx
        rw [List.getElem?_append_left (by have := (List.getElem?_eq_some_iff.1 hu).1; omega)]
        simpa using hu
      | succ k =>
        rw [List.getElem?_cons_succ] at hx
        rw [List.getElem?_append_right (by rw [hl, Nat.add_mul]; omega), hl, show (k + 1) * s + j - s = k * s + j by rw [Nat.add_mul]; omega]
        exact ih k x hx j u hu
  have := h.cell (k * s + j)
  rw [show 0 + k * s + j = k * s + j by omega, this]
  simpa using hget xs k x hx j v hj
/-- Every old block but the own row's is as it was. -/
structure ButOwn (v : Value) (w w' : World) : Prop where
  size : w.heap.size ≤ w'.heap.size
  block : ∀ b, b < w.heap.size → v.ownBlock ≠ some b → w'.heap[b]? = w.heap[b]?
theorem ButOwn.of_below {v : Value} {w w' : World} (h : Below w.heap.size w w') : ButOwn v w w' := ⟨h.size, fun b hb _ => h.block b hb⟩
theorem ButOwn.cell {v : Value} {w w' : World} (h : ButOwn v w w') : ∀ b o, b < w.heap.size → v.ownBlock ≠ some b → w'.cell? ⟨b, o, none⟩ = w.cell? ⟨b, o, none⟩ := fun b _ hb hv => World.cell?_of_block (h.block b hb hv)
theorem ButOwn.apps {v v' : Value} {w w1 w2 : World} (h : ButOwn v w w1) (hs : w1.heap.size ≤ w2.heap.size) (ha : Apps w1 w2 v v') : ButOwn v w w2 :=
  ⟨Nat.le_trans h.size hs, fun b hb hv => (ha.keep b (Nat.lt_of_lt_of_le hb h.size) hv).trans (h.block b hb hv)⟩
end Go.Proofs.YtkjfdjcagfkdhaaGreat

/-
  The walks of layer 05: marks of modes; the rules that leave each mode.
-/
namespace Go.Proofs.YtkjfdjcagfkdhaaGreat
open Go Go.RowKit Go.Maps

theorem infoB : (Tryz.prog.info? 4).map (fun i => (i.zero, i.size, i.bytes)) = some (some (.bool false), 1, 1) := by kernel_rfl
theorem infoI5 : (Tryz.prog.info? 3).map (fun i => (i.zero, i.size, i.bytes)) = some (some (.int .i64 0), 1, 8) := by kernel_rfl
theorem leav_look {P : Program} {t kt et : TypeId} (hT : LT P t kt et) {w : World} {b n N : Nat} {D : DataW Unit} {m : Int} {v : Value} (h : w.ownsMap P kt slE b n D) (ha : D.atKey (.int .i64 m) (slD (.slice none 0 0)) = slD v) (hv : slE v = some (slD v, [])) (h0 : 0 ≤ m) (h1 : m < (N : Int)) (hN : N ≤ 8) :
    (Instr.lookup t (.map (some b)) (.int .i64 m) false).run P w = .ok v w := by
  have hkey := keyOf_int_mk hT.kin (mode_wf h0 h1 hN)
  obtain ⟨es, clock, hb, FF, _, hD⟩ := h
  subst hD
  rcases Maps.fit_look false hT.law hT.und (hT.zero w) hb FF hkey with ⟨hrun, _, hat⟩ | ⟨e0, y, _, _, hrun, hRv, hat, _⟩
  · rw [hat] at ha
    rw [hrun, slE_inj (v := v) hv (by rw [← ha]; rfl : slE (.slice none 0 0) = some (slD v, []))]
    rfl
  · rw [hat] at ha
    have : e0.val = v := slE_inj (ps := y.2) (by rw [hRv, ← ha]) hv
    rw [hrun, ← this]
    rfl
theorem ltLaw : LT Tryz.prog 128 3 64 where
  law := int_keyed Tryz.underlying3
  und := Tryz.underlying128
  kin := Tryz.underlying3
  zero := fun w => by kernel_rfl
set_option maxRecDepth 100000 in
set_option maxHeartbeats 4000000 in
theorem marks_any (s : Sc) (A : Option Addr) (c N : Nat) (w : World) (hN : s.n = (N : Int)) (hN8 : N ≤ 8) : Calls Tryz.prog 65 #[.agg #[.int .i64 s.n, .int .u8 s.acc, .slice A s.rs.length c]] w fun e w' => ∃ g, e = .returned (.slice (some ⟨g, 0, none⟩) N N) ∧ w.heap.size ≤ g ∧ BB w' g N (fun _ => false) ∧ Below w.heap.size w w' := by
  obtain ⟨i0, hinf, hz0, hz1, hz2⟩ := info_parts infoB
  obtain ⟨w1, hw1⟩ : ∃ w1, w.alloc (.cells #[.int .i64 s.n, .int .u8 s.acc, .slice A s.rs.length c] 29) = w1 := ⟨_, rfl⟩
  have hb1 : Below w.heap.size w w1 := by rw [← hw1]; exact nw _ (Below.refl _ _)
  have hB : Blk w1 w.heap.size 29 #[.int .i64 s.n, .int .u8 s.acc, .slice A s.rs.length c] := by rw [← hw1]; exact Blk.new _ _ _
  have HW1 := Lib.hid hw1
  have HB1 := Lib.hid hb1
  have HCE : Hid (∀ W, Below w1.heap.size w1 W → W.cell? ⟨w.heap.size, 0, none⟩ = some (.int .i64 s.n) ∧ W.cell? ⟨w.heap.size, 1, none⟩ = some (.int .u8 s.acc) ∧ W.cell? ⟨w.heap.size, 2, none⟩ = some (.slice A s.rs.length c) ∧ w.heap.size < W.heap.size) := fun W hW => by
    have e1 := hB.below hW hB.lt
    exact ⟨by rw [e1.cell]; rfl, by rw [e1.cell]; rfl, by rw [e1.cell]; rfl, e1.lt⟩
  obtain ⟨b0, b1, b2, bl⟩ := HCE.out _ (Below.refl _ _)
  clear hw1 hb1 hB
  have hmax : max s.n 0 = s.n := by omega
  have hmin : min s.n 8 = s.n := by omega
  have HN := Lib.hid hN
  clear hN
  go_enter Tryz.func65, Tryz.ntmps65
  go_upto_region 1 with fail
  rw [HW1.out]
  go_wp2_with (at_make; go_loud (refine wpList_mk _ rfl _ _ 96 rfl 4 i0 (.bool false) (.bool false) Tryz.underlying96 hinf hz0 hz1 (by omega) rfl N (by show Value.int .i64 s.n = _; rw [HN.out]) (by show Value.int .i64 s.n = _; rw [HN.out]) (by omega) ?_))
  go_ret
  exact ⟨w1.heap.size, rfl, HB1.out.size, BB.new _ _, nw _ HB1.out⟩
/-- The rules that leave a mode, of the first k. -/
def lsOf (s : Sc) : Nat → Int → List Int
  | 0, _ => []
  | k + 1, m => if (s.rs[k]?).map Ru.fr = some m then lsOf s k m ++ [(k : Int)] else lsOf s k m
theorem lsOf_len (s : Sc) (m : Int) : ∀ k, (lsOf s k m).length ≤ k
  | 0 => Nat.le_refl _
  | k + 1 => by
    have := lsOf_len s m k
    unfold lsOf
    split
    · simp; omega
    · omega
theorem lsOf_mem (s : Sc) (m : Int) : ∀ k i, i ∈ lsOf s k m ↔ ∃ j : Nat, j < k ∧ i = (j : Int) ∧ (s.rs[j]?).map Ru.fr = some m
  | 0, i => ⟨fun h => (nomatch h), fun ⟨j, h, _⟩ => absurd h (Nat.not_lt_zero _)⟩
  | k + 1, i => by
    have ih := lsOf_mem s m k i
    unfold lsOf
    split
    · rename_i h
      rw [List.mem_append, ih, List.mem_singleton]
      constructor
      · rintro (⟨j, h1, h2⟩ | rfl)
        · exact ⟨j, by omega, h2⟩
        · exact ⟨k, by omega, rfl, h⟩
      · rintro ⟨j, h1, h2, h3⟩
        rcases Nat.lt_or_ge j k with h4 | h4
        · exact .inl ⟨j, h4, h2, h3⟩
        · obtain rfl : j = k := by omega
          exact .inr h2
    · rename_i h
      rw [ih]
      constructor
      · rintro ⟨j, h1, h2⟩; exact ⟨j, by omega, h2⟩
      · rintro ⟨j, h1, h2, h3⟩
        rcases Nat.lt_or_ge j k with h4 | h4
        · exact ⟨j, h4, h2, h3⟩
        · obtain rfl : j = k := by omega
          exact absurd h3 h
/-- What leaving gives. -/
def IsLeav (s : Sc) (N : Nat) (w : World) (e : Ending) (w' : World) : Prop :=
  ∃ (g n : Nat) (V : Int → Value) (D : DataW Unit), e = .returned (.map (some g)) ∧ w.heap.size ≤ g ∧ LvM Tryz.prog 3 3 w' g n N (g + 1) V (lsOf s s.rs.length) D ∧ Below w.heap.size w w'
set_option maxRecDepth 100000 in
set_option maxHeartbeats 8000000 in
theorem leaving5_any (s : Sc) (A : Option Addr) (c N : Nat) (w : World) (hs : ScIn w s A c) (hok : ScOK s) (hN : s.n = (N : Int)) (hN8 : N ≤ 8) : Calls Tryz.prog 67 #[.agg #[.int .i64 s.n, .int .u8 s.acc, .slice A s.rs.length c]] w (IsLeav s N w) := by
  obtain ⟨i0, hinf, hz0, hz1, hz2⟩ := info_parts infoI5
  obtain ⟨w1, hw1⟩ : ∃ w1, w.alloc (.cells #[.int .i64 s.n, .int .u8 s.acc, .slice A s.rs.length c] 29) = w1 := ⟨_, rfl⟩
  have hb1 : Below w.heap.size w w1 := by rw [← hw1]; exact nw _ (Below.refl _ _)
  have hB : Blk w1 w.heap.size 29 #[.int .i64 s.n, .int .u8 s.acc, .slice A s.rs.length c] := by rw [← hw1]; exact Blk.new _ _ _
  have HW1 := Lib.hid hw1
  have HB1 := Lib.hid hb1
  have HCE : Hid (∀ W, Below w1.heap.size w1 W → W.cell? ⟨w.heap.size, 0, none⟩ = some (.int .i64 s.n) ∧ W.cell? ⟨w.heap.size, 1, none⟩ = some (.int .u8 s.acc) ∧ W.cell? ⟨w.heap.size, 2, none⟩ = some (.slice A s.rs.length c) ∧ w.heap.size < W.heap.size) := fun W hW => by
    have e1 := hB.below hW hB.lt
    exact ⟨by rw [e1.cell]; rfl, by rw [e1.cell]; rfl, by rw [e1.cell]; rfl, e1.lt⟩
  obtain ⟨b0, b1, b2, bl⟩ := HCE.out _ (Below.refl _ _)
  clear hw1 hb1 hB
  have hl := hs.len
  have hl64 := hok.2.1
  have HS := Lib.hid hs
  have HOK := Lib.hid hok
  have HN := Lib.hid hN
  have hmm := @run_makeMap Tryz.prog
  have hb2 : Below w1.heap.size w1 (w1.alloc (.map #[] 0)) := nw _ (Below.refl _ _)
  obtain ⟨e0, e1, e2, el⟩ := HCE.out _ hb2
  clear hs hok hN
  go_enter Tryz.func67, Tryz.ntmps67
  go_upto_region 1 with fail
  rw [HW1.out]
  go_wp2_with fail
  obtain ⟨gm, hgm⟩ : ∃ g, w1.heap.size = g := ⟨_, rfl⟩
  obtain ⟨w2, hw2⟩ : ∃ W, w1.alloc (.map #[] 0) = W := ⟨_, rfl⟩
  have HLV0 : Hid (LvM Tryz.prog 3 3 w2 gm 0 N (gm + 1) (fun _ => .slice none 0 0) (lsOf s 0) (.map [])) := by
    rw [← hw2, ← hgm]
    exact LvM.made (Nat.lt_succ_self _)
  have HB2 : Hid (Below w1.heap.size w1 w2) := by rw [← hw2]; exact hb2
  have hgw : w.heap.size ≤ gm := by have := HB1.out.size; omega
  have HGM := Lib.hid hgm
  rw [hw2, hgm]
  clear hmm hb2 e0 e1 e2 el hgm hw2
  go_loopw [10] (fun iv wr => ∃ (k nn : Nat) (V : Int → Value) (DD : DataW Unit), k ≤ s.rs.length ∧ iv = .int .i64 (k : Int) ∧ nn ≤ k ∧ LvM Tryz.prog 3 3 wr gm nn N (gm + 1) V (lsOf s k) DD ∧ Below w1.heap.size w1 wr) (fun iv _ => s.rs.length - (intOf iv).toNat)
  case atStart => exact ⟨0, 0, _, _, by omega, rfl, Nat.le_refl _, HLV0.out, HB2.out⟩
  case round =>
    obtain ⟨wR, rfl⟩ : ∃ W, W = wr := ⟨wr, rfl⟩
    obtain ⟨k, nn, V, DD, hk, rfl, hnk, hlv, hbr⟩ := hrel
    have HLVR := Lib.hid hlv
    have HBR := Lib.hid hbr
    have HNN := Lib.hid hnk
    clear hlv hbr b0 b1 b2 bl
    obtain ⟨b0, b1, b2, bl⟩ := HCE.out _ HBR.out
    by_cases hlt : k < s.rs.length
    · obtain ⟨b, off, x, rfl, hbb, hxx, d0, d1, d2, d3, d4⟩ := ((HS.out.below (bthen HB1.out HBR.out)).sl).ru hlt
      have hru := HOK.out.2.2.2.1 x (List.mem_of_getElem? hxx)
      have hki : (k : Int) < (s.rs.length : Int) := by omega
      have hk0 : (0 : Int) ≤ (k : Int) := by omega
      have hx0 : 0 ≤ x.fr ∧ x.fr < (N : Int) := by have := hru.1.1; have := HN.out; omega
      have HRU := Lib.hid hru
      have HXX : Hid ((s.rs[k]?).map Ru.fr = some x.fr) := by show _ = _; rw [hxx]; rfl
      have HLX : Hid (lsOf s (k + 1) = fun m => if m = x.fr then lsOf s k m ++ [(k : Int)] else lsOf s k m) := by
        show _ = _
        funext m
        show (if (s.rs[k]?).map Ru.fr = some m then lsOf s k m ++ [(k : Int)] else lsOf s k m) = _
        rw [HXX.out]
        by_cases e : m = x.fr
        · rw [if_pos (by rw [e]), if_pos e]
        · rw [if_neg (fun h => e (Option.some.inj h).symm), if_neg e]
      clear hxx hru
      go_upto_region 5 with fail
      obtain ⟨W1, hW1⟩ : ∃ W, wR.alloc (.cells #[.int .i64 x.fr, .int .i64 x.to, .string x.inp, .string x.out, .int .i64 x.co] 55) = W := ⟨_, rfl⟩
      obtain ⟨g5, hg5⟩ : ∃ g, wR.heap.size = g := ⟨_, rfl⟩
      have hbW : Below wR.heap.size wR W1 := by rw [← hW1]; exact nw _ (Below.refl _ _)
      have hXB : Blk W1 g5 55 #[.int .i64 x.fr, .int .i64 x.to, .string x.inp, .string x.out, .int .i64 x.co] := by rw [← hW1]; exact Blk.new_ hg5.symm
      have HXB := Lib.hid hXB
      have HBW := Lib.hid (HBR.out.trans (hbW.mono HBR.out.size))
      have HLV1 := Lib.hid (HLVR.out.keep hbW)
      rw [hW1, hg5]
      clear hW1 hbW b0 b1 b2 bl d0 d1 d2 d3 d4 hbb
      obtain ⟨b0, b1, b2, bl⟩ := HCE.out _ HBW.out
      have x0 := hXB.cell 0
      have x1 := hXB.cell 1
      have x2 := hXB.cell 2
      have x3 := hXB.cell 3
      have x4 := hXB.cell 4
      have xl := hXB.lt
      simp at x0 x1 x2 x3 x4
      clear hXB
      go_upto_region 6 with (go_at_call 85; go_loud (refine (fits_any s (some ⟨b, off, none⟩) c x _ HRU.out (by have := HN.out; omega)).mono ?_; rintro e W2 ⟨rfl, hbf⟩))
      have HLV := Lib.hid (HLV1.out.keep hbf)
      have HX2 := Lib.hid (HXB.out.below hbf HXB.out.lt)
      have HBF := Lib.hid (HBW.out.trans (hbf.mono HBW.out.size))
      clear hbf x0 x1 x2 x3 x4 xl b0 b1 b2 bl
      have x0 := HX2.out.cell 0
      have xl := HX2.out.lt
      simp at x0
      have HOW : Hid (W2.ownsRow (gm + 1) 3 1 (V x.fr) (lsOf s k x.fr).length ((lsOf s k x.fr).map (Value.int .i64))) := HLV.out.row x.fr hx0.1 hx0.2
      have hgmW : gm < W2.heap.size := HLV.out.lt
      have hvg : (V x.fr).ownBlock ≠ some gm := fun e => by have := own_block_le HOW.out _ e; omega
      have hvx : (V x.fr).ownBlock ≠ some g5 := own_blk_ne HOW.out HX2.out (by decide)
      have hlen1 : (lsOf s k x.fr).length ≤ 64 := by have := lsOf_len s x.fr k; omega
      have hlkW : ∀ W, ButOwn (V x.fr) W2 W → (Instr.lookup 128 (.map (some gm)) (.int .i64 x.fr) false).run Tryz.prog W = .ok (V x.fr) W := fun W hW => by
        obtain ⟨es, clock, q1, q2, q3, q4⟩ := HLV.out.own
        have hO : W.ownsMap Tryz.prog 3 slE gm nn DD := ⟨es, clock, (hW.block gm HLV.out.lt hvg).trans q1, q2, q3, q4⟩
        exact leav_look ltLaw hO (HLV.out.at_ x.fr hx0.1 hx0.2) (slE_own HOW.out) hx0.1 hx0.2 hN8
      refine ordV_start (ButOwn (V x.fr) W2) (fun _ => True) [10] [(0, some false), (1, some false), (2, some false), (3, some false), (4, some false), (5, some false), (6, some false), (7, some false), (8, some true), (9, some true), (10, some true)] (by kernel_rfl) (by kernel_rfl) (by kernel_rfl) (fun _ _ _ _ _ h => h) trivial ?_
      have HD : RowKit.Below W2.heap.size W2 W2.drew := (Below.refl _ _).drew
      obtain ⟨Wd, hWd⟩ : ∃ Wd, W2.drew = Wd := ⟨_, rfl⟩
      rw [hWd] at HD ⊢
      clear hWd
      have HS0 := ButOwn.of_below (v := V x.fr) HD
      iterate 8 (refine ordV_takeS (v := ?_) rfl rfl HS0 ?_ ?_; rotate_left 1; (focus (intro W hW; have hcW := hW.cell; have hlkv := hlkW W hW; (go_simp <;> (try with_reducible rfl)))); simp only [Act.put, List.setIfInBounds_toArray, List.set_cons_zero, List.set_cons_succ])
      refine ordV_call rfl rfl (fun K hK => ?_)
      go_simp
      have HD2 := HD.alloc HD.size (.cells #[.int .i64 (k : Int)] 3)
      have HS1 := ButOwn.of_below (v := V x.fr) HD2
      refine hK.out _ _ trivial (fun _ _ => HS1) ?_
      clear hK K
      try simp only [Act.put, List.setIfInBounds_toArray, List.set_cons_zero, List.set_cons_succ]
      refine ordV_call rfl rfl (fun K hK => ?_)
      refine wp_appS (enc := fun x => [Value.int .i64 x]) (R := RInt) _ _ 64 rfl (gm + 1) 3 i0 _ 1 8 Tryz.underlying64 hinf hz0 hz1 hz2 rfl (by decide) (V x.fr) _ _ rfl ((own_below HOW.out HD).alloc _) (some ⟨Wd.heap.size, 0, none⟩) 1 [(k : Int)] rfl (slr_blk (enc := fun x => [Value.int .i64 x]) (Blk.new_ rfl) (fun _ => rfl) (fun _ => rfl)) (fun _ _ _ h => h) (fun _ => rfl) (fun u hu => by simp at hu; subst hu; rfl) (by simp; omega) (by decide) (by have := HD2.size; omega) ?_
      intro v4 w4 hown4 hb4 ha4
      have HS2 := HS1.apps hb4.size ha4
      refine hK.out _ _ trivial (fun _ _ => HS2) ?_
      clear hK K
      refine ordV_call rfl rfl (fun K hK => ?_)
      have hown5 : w4.ownsRow (gm + 1) 3 1 v4 ((lsOf s k x.fr).length + 1) ((lsOf s k x.fr).map (Value.int .i64) ++ [.int .i64 (k : Int)]) := hown4
      have hO4 := HLV.out.own
      have hkp4 : w4.heap[gm]? = W2.heap[gm]? := (ha4.keep gm (by have := HD2.size; have := HLV.out.lt; omega) hvg).trans ((Below.heap_alloc _ _ _ (by have := HD.size; have := HLV.out.lt; omega)).trans (HD.block gm HLV.out.lt))
      have hO4 : w4.ownsMap Tryz.prog 3 slE gm nn DD := by obtain ⟨es, clock, q1, q2, q3, q4⟩ := HLV.out.own; exact ⟨es, clock, hkp4.trans q1, q2, q3, q4⟩
      obtain ⟨w5, hst, hO5, htn⟩ := hO4.store ltLaw.law ltLaw.und (by have := HNN.out; unfold maxLen; omega) (keyOf_int_mk ltLaw.kin (mode_wf hx0.1 hx0.2 hN8)) (slE_own hown4)
      have hg5 := htn.grown
      go_simp
      refine hK.out _ _ trivial (fun _ h => by cases h) ?_
      clear hK K
      refine ordV_nil ?_
      have HLVN := (LvM.more (m := x.fr) (i := (k : Int)) ltLaw (HLV.out.keep (HD.alloc HD.size (.cells #[.int .i64 (k : Int)] 3))) hx0.1 hx0.2 hN8 hown5 ha4 hO5 hg5)
      rw [← HLX.out] at HLVN
      have HLVN := Lib.hid HLVN
      have hbN : Below w1.heap.size w1 w5 := ((HBF.out.trans ((HD.alloc HD.size (.cells #[.int .i64 (k : Int)] 3)).mono HBF.out.size)).trans (hb4.mono (by have := HGM.out; omega))).grown hg5 (by have := HBF.out.size; have := HD2.size; have := hb4.size; omega) (fun k hk => by injection hk with hk; have := HGM.out; omega)
      have HBN := Lib.hid hbN
      clear hbN hown4 hown5 hb4 ha4 hO4 hkp4 hst hO5 htn hg5 hlkW HD HD2
      go_wp2_with fail
      go_roundw
      case rel => exact ⟨k + 1, nn + 1, _, _, by omega, by go_num, by omega, HLVN.out, HBN.out⟩
      case measure => simp [intOf]; omega
    · obtain rfl : k = s.rs.length := by omega
      have hki : ¬ ((s.rs.length : Nat) : Int) < (s.rs.length : Int) := by omega
      go_wp2_with fail
      go_ret
      exact ⟨gm, nn, V, DD, rfl, hgw, HLVR.out, bthen HB1.out HBR.out⟩
end Go.Proofs.YtkjfdjcagfkdhaaGreat
