/-
  OrdV, Ret, GrWalkC, SiWalkC, SiOpn, joined. No conditions.
-/
import Derived.Test.YtfpnhgahkjglgaaGreatQ15
import Derived.Test.YtfpnhgahkjglgaaGreatQ06
import Derived.Laws.Rows
import Derived.Laws.ResultCell
import Derived.Test.YtfpnhgahkjglgaaGreatQ14
import Derived.Test.YtfpnhgahkjglgaaGreatQ21
import Derived.Deep.DeepCutAuto
import Derived.Test.YtfpnhgahkjglgaaGreatQ19
import Derived.Carry
import Derived.Test.YtfpnhgahkjglgaaGreatQ03
/-
  A region that draws its order and ends in stores, some of whose reading operations may come up behind a store: R holds always, S as long as no store of 'ts' has come up.
-/
namespace Go.Proofs.YtfpnhgahkjglgaaGreat
open Go Go.RowKit

def goodFromV (ops : Array Oper) (ts : List Nat) : Array Bool → List (Nat × Option Bool) → Bool
  | listed, [] => (Region.ready .any ops listed).isEmpty
  | listed, (i, some true) :: l => Region.ready .any ops listed == [i] && goodFromV ops ts (listed.setIfInBounds i true) l
  | listed, (i, some false) :: l => (Region.ready .any ops listed).contains i && Region.free .any ops listed i && ts.all (fun t => (waitsFor ops t i || ts.any (fun t' => waitsFor ops t t')) && !(listed.getD t true)) && goodFromV ops ts (listed.setIfInBounds i true) l
  | listed, (i, none) :: l => (Region.ready .any ops listed).contains i && Region.free .any ops listed i && goodFromV ops ts (listed.setIfInBounds i true) l
def goodOrdV (ops : Array Oper) (ts : List Nat) (l : List (Nat × Option Bool)) : Bool := decide (l.length ≤ ops.size) && goodFromV ops ts (Array.replicate ops.size false) l
section
variable {P : Program} {ops : Array Oper} {Q : Exit → Act → World → Prop} {S R : World → Prop} {ts : List Nat}
def wpAnyV (P : Program) (ops : Array Oper) (Q : Exit → Act → World → Prop) (S R : World → Prop) (ts : List Nat) : Nat → Array Bool → Act → World → Prop
  | 0, listed, a, w => Region.ready .any ops listed = [] ∧ Q .normal a w
  | fuel + 1, listed, a, w =>
    (Region.ready .any ops listed = [] → Q .normal a w) ∧
    ∀ i ∈ Region.ready .any ops listed, wpOp P ops Q i (fun a' w' => (R w' ∧ (S w → ts.contains i = false → S w')) ∧ wpAnyV P ops Q S R ts fuel (listed.setIfInBounds i true) a' w') a w
theorem wpAny_of_V : ∀ (fuel : Nat) (listed : Array Bool) (a : Act) (w : World), wpAnyV P ops Q S R ts fuel listed a w → wpAny P .any ops Q fuel listed a w
  | 0, _, _, _, h => h
  | fuel + 1, _, _, _, h => ⟨h.1, fun i hi => wpOp_mono (fun a' w' h' => wpAny_of_V fuel _ a' w' h'.2) (h.2 i hi)⟩
theorem firstV1 {i : Nat} {oi : Oper} {v : Value} (hi : ops[i]? = some oi) (hsel : ∀ (j : Nat) (o : Oper) cs b, ops[j]? = some o → o.op ≠ .select cs b)
    (hQ : ∀ c a w, Q (.panic c) (a.put oi.dst v) w → Q (.panic c) a w) (hts : ∀ t ∈ ts, waitsFor ops t i = true ∨ ∃ t' ∈ ts, waitsFor ops t t' = true) :
    ∀ (fuel : Nat) (listed : Array Bool) (a : Act) (w : World),
      (∀ j oj, ops[j]? = some oj → j ≠ i → listed.getD j true = false → (∀ e ∈ oj.after, Region.binds .any e = true → e.on ≠ i) → oi.apart ops oj = true) →
      (∀ t ∈ ts, listed.getD t true = false) → i ∈ Region.ready .any ops listed → YieldsIf P ops S oi v a → S w → R w →
      wpAnyV P ops Q S R ts fuel (listed.setIfInBounds i true) (a.put oi.dst v) w → wpAnyV P ops Q S R ts (fuel + 1) listed a w := by
  intro fuel
  induction fuel with
  | zero =>
    intro listed a w _ _ hr hy hS hR H
    refine ⟨fun h => (by rw [h] at hr; cases hr), fun j hj => ?_⟩
    by_cases hji : j = i
    · subst hji; exact hy.wpOp hi hS ⟨⟨hR, fun h _ => h⟩, H⟩
    · have h1 := ready_mono hj hji
      rw [H.1] at h1
      cases h1
  | succ fuel ih =>
    intro listed a w hfree hun0 hr hy hS hR H
    refine ⟨fun h => (by rw [h] at hr; cases hr), fun j hj => ?_⟩
    by_cases hji : j = i
    · subst hji; exact hy.wpOp hi hS ⟨⟨hR, fun h _ => h⟩, H⟩
    · obtain ⟨hjun, oj, hoj, hall⟩ := mem_ready.1 hj
      have hiun := (mem_ready.1 hr).1
      have hnot : ∀ e ∈ oj.after, Region.binds .any e = true → e.on ≠ i := fun e he hb heq => by
        have h2 := hall e he hb
        rw [heq] at h2
        rcases Nat.lt_or_ge i listed.size with h' | h'
        · simp [h'] at hiun h2; rw [hiun] at h2; cases h2
        · simp [Array.getElem?_eq_none h'] at h2
      have hjt : ts.contains j = false := by
        cases hc : ts.contains j
        · rfl
        · exfalso
          rcases hts j (by simpa using hc) with hw | ⟨t', ht', hw⟩
          · unfold waitsFor at hw
            simp only [hoj] at hw
            obtain ⟨k, hk, he⟩ := Array.any_eq_true.1 hw
            simp only [Bool.and_eq_true, beq_iff_eq] at he
            exact absurd he.2 (hnot _ (Array.getElem_mem hk) he.1)
          · unfold waitsFor at hw
            simp only [hoj] at hw
            obtain ⟨k, hk, he⟩ := Array.any_eq_true.1 hw
            simp only [Bool.and_eq_true, beq_iff_eq] at he
            have h2 := hall _ (Array.getElem_mem hk) he.1
            rw [he.2] at h2
            have h3 := hun0 t' ht'
            rcases Nat.lt_or_ge t' listed.size with h' | h'
            · simp [h'] at h2 h3; rw [h3] at h2; cases h2
            · simp [Array.getElem?_eq_none h'] at h2
      have h2 := wpOp_putIf hoj (hfree j oj hoj hji hjun hnot) (fun cs b => hsel i oi cs b hi) (fun cs b => hsel j oj cs b hoj) hQ hy (H.2 j (ready_mono hj hji))
      have hfree' : ∀ k ok, ops[k]? = some ok → k ≠ i → (listed.setIfInBounds j true).getD k true = false →
          (∀ e ∈ ok.after, Region.binds .any e = true → e.on ≠ i) → oi.apart ops ok = true := fun k ok hk hki hun hno => by
        refine hfree k ok hk hki ?_ hno
        by_cases hjk : j = k
        · subst hjk; exact hjun
        · rw [getD_set_ne true hjk] at hun; exact hun
      refine wpOp_mono (fun a' w' h3 => ?_) h2
      have hS' := h3.2.1.2 hS hjt
      have hR' := h3.2.1.1
      refine ⟨h3.2.1, ih (listed.setIfInBounds j true) a' w' hfree' (fun t ht => by rw [getD_set_ne true (fun e => by subst e; simp [ht] at hjt)]; exact hun0 t ht) (ready_mono hr (Ne.symm hji)) h3.1 hS' hR' ?_⟩
      rw [Array.setIfInBounds_comm _ _ hji]
      exact h3.2.2

theorem firstV2 {i : Nat} {oi : Oper} {v : Value} (hi : ops[i]? = some oi) (hsel : ∀ (j : Nat) (o : Oper) cs b, ops[j]? = some o → o.op ≠ .select cs b)
    (hQ : ∀ c a w, Q (.panic c) (a.put oi.dst v) w → Q (.panic c) a w) :
    ∀ (fuel : Nat) (listed : Array Bool) (a : Act) (w : World),
      (∀ j oj, ops[j]? = some oj → j ≠ i → listed.getD j true = false → (∀ e ∈ oj.after, Region.binds .any e = true → e.on ≠ i) → oi.apart ops oj = true) →
      i ∈ Region.ready .any ops listed → YieldsIf P ops R oi v a → R w →
      wpAnyV P ops Q S R ts fuel (listed.setIfInBounds i true) (a.put oi.dst v) w → wpAnyV P ops Q S R ts (fuel + 1) listed a w := by
  intro fuel
  induction fuel with
  | zero =>
    intro listed a w _ hr hy hR H
    refine ⟨fun h => (by rw [h] at hr; cases hr), fun j hj => ?_⟩
    by_cases hji : j = i
    · subst hji; exact hy.wpOp hi hR ⟨⟨hR, fun h _ => h⟩, H⟩
    · have h1 := ready_mono hj hji
      rw [H.1] at h1
      cases h1
  | succ fuel ih =>
    intro listed a w hfree hr hy hR H
    refine ⟨fun h => (by rw [h] at hr; cases hr), fun j hj => ?_⟩
    by_cases hji : j = i
    · subst hji; exact hy.wpOp hi hR ⟨⟨hR, fun h _ => h⟩, H⟩
    · obtain ⟨hjun, oj, hoj, hall⟩ := mem_ready.1 hj
      have hiun := (mem_ready.1 hr).1
      have hnot : ∀ e ∈ oj.after, Region.binds .any e = true → e.on ≠ i := fun e he hb heq => by
        have h2 := hall e he hb
        rw [heq] at h2
        rcases Nat.lt_or_ge i listed.size with h' | h'
        · simp [h'] at hiun h2; rw [hiun] at h2; cases h2
        · simp [Array.getElem?_eq_none h'] at h2
      have h2 := wpOp_putIf hoj (hfree j oj hoj hji hjun hnot) (fun cs b => hsel i oi cs b hi) (fun cs b => hsel j oj cs b hoj) hQ hy (H.2 j (ready_mono hj hji))
      have hfree' : ∀ k ok, ops[k]? = some ok → k ≠ i → (listed.setIfInBounds j true).getD k true = false →
          (∀ e ∈ ok.after, Region.binds .any e = true → e.on ≠ i) → oi.apart ops ok = true := fun k ok hk hki hun hno => by
        refine hfree k ok hk hki ?_ hno
        by_cases hjk : j = k
        · subst hjk; exact hjun
        · rw [getD_set_ne true hjk] at hun; exact hun
      refine wpOp_mono (fun a' w' h3 => ?_) h2
      have hR' := h3.2.1.1
      refine ⟨h3.2.1, ih (listed.setIfInBounds j true) a' w' hfree' (ready_mono hr (Ne.symm hji)) h3.1 hR' ?_⟩
      rw [Array.setIfInBounds_comm _ _ hji]
      exact h3.2.2


def wpOrdV (P : Program) (ops : Array Oper) (Q : Exit → Act → World → Prop) (S R : World → Prop) (ts : List Nat) : List (Nat × Option Bool) → Act → World → Prop
  | [], a, w => Q .normal a w
  | (i, some true) :: l, a, w => wpOp P ops Q i (fun a' w' => (R w' ∧ (S w → ts.contains i = false → S w')) ∧ wpOrdV P ops Q S R ts l a' w') a w
  | (i, some false) :: l, a, w => ∃ oi v, ops[i]? = some oi ∧ YieldsIf P ops S oi v a ∧ S w ∧ wpOrdV P ops Q S R ts l (a.put oi.dst v) w
  | (i, none) :: l, a, w => ∃ oi v, ops[i]? = some oi ∧ YieldsIf P ops R oi v a ∧ wpOrdV P ops Q S R ts l (a.put oi.dst v) w
theorem wpAnyV_of_ord (hs : Region.noSelect ops = true) (hQ : ∀ d v c a w, Q (.panic c) (Act.put a (some d) v) w → Q (.panic c) a w) :
    ∀ (l : List (Nat × Option Bool)) (fuel : Nat) (listed : Array Bool) (a : Act) (w : World), l.length ≤ fuel → goodFromV ops ts listed l = true → R w → wpOrdV P ops Q S R ts l a w →
      wpAnyV P ops Q S R ts fuel listed a w := by
  intro l
  induction l with
  | nil =>
    intro fuel listed a w _ hg _ h
    have hr : Region.ready .any ops listed = [] := by simpa [goodFromV] using hg
    cases fuel with
    | zero => exact ⟨hr, h⟩
    | succ fuel => exact ⟨fun _ => h, by rw [hr]; simp⟩
  | cons x l ih =>
    intro fuel listed a w hf hg hR h
    obtain ⟨fuel, rfl⟩ : ∃ f, fuel = f + 1 := ⟨fuel - 1, by simp at hf; omega⟩
    have hf' : l.length ≤ fuel := by simp at hf; omega
    obtain ⟨i, b⟩ := x
    rcases b with _ | _ | _
    · simp only [goodFromV, Bool.and_eq_true] at hg
      obtain ⟨oi, v, hi, hy, h'⟩ := h
      refine firstV2 hi (Region.noSelect_spec hs) (fun c a w hh => ?_) fuel listed a w (Region.free_spec hi hg.1.2) (by simpa using hg.1.1) hy hR (ih fuel _ _ w hf' hg.2 hR h')
      cases hd : oi.dst with
      | none => rw [hd] at hh; exact hh
      | some d => rw [hd] at hh; exact hQ d v c a w hh
    · simp only [goodFromV, Bool.and_eq_true, List.all_eq_true] at hg
      obtain ⟨oi, v, hi, hy, hS, h'⟩ := h
      refine firstV1 hi (Region.noSelect_spec hs) (fun c a w hh => ?_) (fun t ht => by have := (hg.1.2 t ht).1; simpa using this) fuel listed a w (Region.free_spec hi hg.1.1.2) (fun t ht => by have := (hg.1.2 t ht).2; simpa using this) (by simpa using hg.1.1.1) hy hS hR (ih fuel _ _ w hf' hg.2 hR h')
      cases hd : oi.dst with
      | none => rw [hd] at hh; exact hh
      | some d => rw [hd] at hh; exact hQ d v c a w hh
    · simp only [goodFromV, Bool.and_eq_true, beq_iff_eq] at hg
      refine ⟨fun h0 => absurd (h0.symm.trans hg.1) (by simp), fun j hj => ?_⟩
      rw [hg.1] at hj
      obtain rfl : j = i := by simpa using hj
      exact wpOp_mono (fun a' w' h' => ⟨h'.1, ih fuel _ a' w' hf' hg.2 h'.1.1 h'.2⟩) h
theorem ordV_start {id : Nat} {a : Act} {w : World} (S R : World → Prop) (ts : List Nat) (l : List (Nat × Option Bool)) (hm : P.follows .mixedOrders = true) (hs : Region.noSelect ops = true) (hg : goodOrdV ops ts l = true)
    (hQ : ∀ d v c a w, Q (.panic c) (Act.put a (some d) v) w → Q (.panic c) a w) (hR : R w.drew) (h : wpOrdV P ops Q S R ts l a w.drew) : (Code.region id ops true).wp P Q a w := by
  unfold goodOrdV at hg
  simp only [Bool.and_eq_true, decide_eq_true_eq] at hg
  exact wp_region_any hm (wpAny_of_V _ _ _ _ (wpAnyV_of_ord hs hQ l _ _ a _ hg.1 hg.2 hR h))
theorem ordV_nil {a : Act} {w : World} (h : Q .normal a w) : wpOrdV P ops Q S R ts [] a w := h
theorem ordV_takeS {i : Nat} {o : Oper} {v : Value} {l : List (Nat × Option Bool)} {a : Act} {w : World} (ho' : nthO ops.toList i = some o) (hw : Region.wanted o (yielded ops a.tmps) = true) (hS : S w)
    (hy : ∀ W, S W → (execOp a.eval o).run P W = .ok (.value v) W)
    (h : wpOrdV P ops Q S R ts l (a.put o.dst v) w) : wpOrdV P ops Q S R ts ((i, some false) :: l) a w := ⟨o, v, nthO_spec ho', .inl ⟨hw, hy⟩, hS, h⟩
theorem ordV_takeR {i : Nat} {o : Oper} {v : Value} {l : List (Nat × Option Bool)} {a : Act} {w : World} (ho' : nthO ops.toList i = some o) (hw : Region.wanted o (yielded ops a.tmps) = true)
    (hy : ∀ W, R W → (execOp a.eval o).run P W = .ok (.value v) W)
    (h : wpOrdV P ops Q S R ts l (a.put o.dst v) w) : wpOrdV P ops Q S R ts ((i, none) :: l) a w := ⟨o, v, nthO_spec ho', .inl ⟨hw, hy⟩, h⟩
theorem ordV_call {i : Nat} {o : Oper} {l : List (Nat × Option Bool)} {a : Act} {w : World} (ho' : nthO ops.toList i = some o) (hw : Region.wanted o (yielded ops a.tmps) = true)
    (h : ∀ K' : Act → World → Prop, Shut (∀ a w', R w' → (S w → ts.contains i = false → S w') → wpOrdV P ops Q S R ts l a w' → K' a w') → Oper.wp P o a w K' Q) : wpOrdV P ops Q S R ts ((i, some true) :: l) a w := by
  have ho := nthO_spec ho'
  show wpOp P ops Q i _ a w
  refine wpOp_step ho fun K' hK => ?_
  rw [if_pos hw]
  exact h K' fun a w' hR hS hW => hK a w' ⟨⟨hR, hS⟩, hW⟩
end
end Go.Proofs.YtfpnhgahkjglgaaGreat

/-
  Returns of a struct that lies in a block of the call's own.
-/
namespace Go.Proofs.YtfpnhgahkjglgaaGreat
open Go Go.RowKit

section
variable {P : Program} {fn : Func} {p u : Tmp} {ty : TypeId} {R : Ending → World → Prop} {a : Act} {w : World} {g : Nat} {t : TypeId} {cs : Array Value} {d : TypeDesc}
theorem ret_cell (hB : Blk w g t cs) (h : fn.results = #[.cell p ty]) (hp : a.tmps.getD p undef = .pointer (some ⟨g, 0, none⟩))
    (hu : P.underlying ty = some d) (hd : (match d with | .struct _ | .array _ _ => true | _ => false) = true) (hi : (P.info? ty).map (·.size) = some cs.size) (hdf : a.defers = [])
    (hR : R (.returned (.agg cs)) w) : bodyPost P fn R .ret a w :=
  bodyPost_ret (results_cell_row h a.tmps w g t cs (0, 0) d hp hB hu hd hi) hdf hR
end
end Go.Proofs.YtfpnhgahkjglgaaGreat

/-
  The walks of layers 15 and 16: the graphs that the laws draw.
-/
namespace Go.Proofs.YtfpnhgahkjglgaaGreat
open Go Go.RowKit

theorem info_parts {t : TypeId} {z : Value} {s b : Nat} (h : (Tryz.prog.info? t).map (fun i => (i.zero, i.size, i.bytes)) = some (some z, s, b)) : ∃ i, Tryz.prog.info? t = some i ∧ i.zero = some z ∧ i.size = s ∧ i.bytes = b := by
  cases hi : Tryz.prog.info? t with
  | none => rw [hi] at h; cases h
  | some i =>
    rw [hi] at h
    simp at h
    exact ⟨i, rfl, h.1, h.2.1, h.2.2⟩
/-- Every old block but the own row's is as it was. -/
structure ButOwn (v : Value) (w w' : World) : Prop where
  size : w.heap.size ≤ w'.heap.size
  block : ∀ b, b < w.heap.size → v.ownBlock ≠ some b → w'.heap[b]? = w.heap[b]?
theorem ButOwn.of_below {v : Value} {w w' : World} (h : Below w.heap.size w w') : ButOwn v w w' := ⟨h.size, fun b hb _ => h.block b hb⟩
theorem ButOwn.cell {v : Value} {w w' : World} (h : ButOwn v w w') : ∀ b o, b < w.heap.size → v.ownBlock ≠ some b → w'.cell? ⟨b, o, none⟩ = w.cell? ⟨b, o, none⟩ := fun b _ hb hv => World.cell?_of_block (h.block b hb hv)
theorem ButOwn.apps {v v' : Value} {w w1 w2 : World} (h : ButOwn v w w1) (hs : w1.heap.size ≤ w2.heap.size) (ha : Apps w1 w2 v v') : ButOwn v w w2 :=
  ⟨Nat.le_trans h.size hs, fun b hb hv => (ha.keep b (Nat.lt_of_lt_of_le hb h.size) hv).trans (h.block b hb hv)⟩
end Go.Proofs.YtfpnhgahkjglgaaGreat

/-
  The walk of package single: a state is added to a group.
-/
namespace Go.Proofs.YtfpnhgahkjglgaaGreat
open Go Go.RowKit Go.Maps

/-- What adding a state leaves. -/
def IsAddS (gf gm gg : Nat) (s : Sc) (A : Option Addr) (c : Nat) (H : Hst Pl) (u : List UInt8) (v : Value) (xs : List (St Pl)) (x : St Pl) (w : World) (e : Ending) (w' : World) : Prop :=
  e = .returned (.tuple #[]) ∧ ∃ v', SrI w' gf gm s A c (addH H u x) ∧ GrI w' gm gg u v' (if known H x then xs else xs ++ [x]) ∧ BelS gm (fun k => k = gg ∨ v.ownBlock = some k) w.heap.size w w' ∧ (v'.ownBlock = v.ownBlock ∨ ∃ k, v'.ownBlock = some k ∧ w.heap.size ≤ k)
theorem gaps_addF {H : Hst Pl} {u : List UInt8} {x : St Pl} (h : known H x = false) : (fun k : Pl × Pl => gapsAt (addH H u x) k.1 k.2) = fun k => if k = (x.l, x.r) then gapsAt H k.1 k.2 ++ [x.g] else gapsAt H k.1 k.2 := by
  funext k
  obtain ⟨l, r⟩ := k
  show gapsAt (addH H u x) l r = _
  rw [gaps_add h]
  by_cases e : x.l = l ∧ x.r = r
  · rw [if_pos e, if_pos (by rw [e.1, e.2])]
  · rw [if_neg e, if_neg (fun h2 => e ⟨(congrArg Prod.fst h2).symm, (congrArg Prod.snd h2).symm⟩), List.append_nil]
theorem addH_len {H : Hst Pl} {u : List UInt8} {x : St Pl} (h : known H x = false) : (addH H u x).length = H.length + 1 := by
  unfold addH
  rw [if_neg (by rw [h]; simp), List.length_append]
  rfl
set_option maxRecDepth 100000 in
set_option maxHeartbeats 16000000 in
theorem sadd_any (s : Sc) (A : Option Addr) (c gf gm gg : Nat) (H : Hst Pl) (u : List UInt8) (v : Value) (xs : List (St Pl)) (x : St Pl) (w : World) (hS : SrI w gf gm s A c H) (hG : GrI w gm gg u v xs) (hH : H.length ≤ 300000) (hxs : xs.length ≤ 300000) (hfew : (gapsAt H x.l x.r).length ≤ 2)
    (hl : 0 ≤ x.l.1 ∧ x.l.1 < 8 ∧ x.l.2.length ≤ 4) (hr : 0 ≤ x.r.1 ∧ x.r.1 < 8 ∧ x.r.2.length ≤ 4) :
    Calls Tryz.prog 57 #[.pointer (some ⟨gf, 0, none⟩), .pointer (some ⟨gg, 0, none⟩), .agg #[.int .i64 x.l.1, .string (ba x.l.2), .int .i64 x.r.1, .string (ba x.r.2), .string (ba x.g.a), .string (ba x.g.b), .bool x.g.p]] w (IsAddS gf gm gg s A c H u v xs x w) := by
  obtain ⟨i0, hinf, hz0, hz1, hz2⟩ := info_partsR siGapInfo
  obtain ⟨j0, jinf, jz0, jz1, jz2⟩ := info_partsR siStInfo
  obtain ⟨kl, hkl⟩ : ∃ kl, keyOf Tryz.prog 118 (vKey (x.l, x.r)) = some kl := keySt_ok (wf_small hl.1 (by show x.l.1 ≤ _; omega)) (by show x.l.2.length ≤ _; unfold maxLen; omega) (wf_small hr.1 (by show x.r.1 ≤ _; omega)) (by show x.r.2.length ≤ _; unfold maxLen; omega)
  obtain ⟨w1, hw1⟩ : ∃ w1, w.alloc (.cells #[.int .i64 x.l.1, .string (ba x.l.2), .int .i64 x.r.1, .string (ba x.r.2), .string (ba x.g.a), .string (ba x.g.b), .bool x.g.p] 122) = w1 := ⟨_, rfl⟩
  obtain ⟨gx, hgx⟩ : ∃ g, w.heap.size = g := ⟨_, rfl⟩
  have hb1 : Below w.heap.size w w1 := by rw [← hw1]; exact nw _ (Below.refl _ _)
  have hB : Blk w1 gx 122 #[.int .i64 x.l.1, .string (ba x.l.2), .int .i64 x.r.1, .string (ba x.r.2), .string (ba x.g.a), .string (ba x.g.b), .bool x.g.p] := by rw [← hw1, ← hgx]; exact Blk.new _ _ _
  have hS1 := hS.below hb1
  have hG1 := hG.below hb1
  obtain ⟨A1, c1, rfl, hx1, hx2, hx3⟩ := hG1.slr
  obtain ⟨nn, V, DD, hnn, hgm⟩ := hS1.map
  have hrow := hgm.row (x.l, x.r)
  obtain ⟨gs, hgs⟩ : ∃ gs, gapsAt H x.l x.r = gs := ⟨_, rfl⟩
  have hrow : w1.ownsRow (gm + 1) 120 3 (V (x.l, x.r)) (gapsAt H x.l x.r).length ((gapsAt H x.l x.r).flatMap encGp) := hrow
  have hKN : known H x = (decide (2 ≤ (gapsAt H x.l x.r).length) || (gapsAt H x.l x.r).contains x.g || (gapsAt H x.l x.r).contains Gp.part) := rfl
  rw [hgs] at hrow hfew hKN
  obtain ⟨A0, c0, hV, hv1, hv2, hv3⟩ := own_slr (R := RGp) hrow (fun _ => rfl) (fun _ => rfl) rfl
  rw [hV] at hrow
  have HVE := Lib.hid hV
  have HGS := Lib.hid hgs
  have HKL := Lib.hid hkl
  have HNN := Lib.hid hnn
  have HW1 := Lib.hid hw1
  have HB1 := Lib.hid hb1
  have HGX := Lib.hid hgx
  have HGM0 := Lib.hid hgm
  have HS1 := Lib.hid hS1
  have HG1 := Lib.hid hG1
  have HOW0 := Lib.hid hrow
  have HLK : Hid (∀ W, Below w1.heap.size w1 W → (Instr.lookup 107 (.map (some gm)) (.agg #[.int .i64 x.l.1, .string (ba x.l.2), .int .i64 x.r.1, .string (ba x.r.2)]) false).run Tryz.prog W = .ok (.slice A0 gs.length c0) W) := fun W hW => by
    have h2 := HGM0.out.bel hW
    have := si_look h2.own HKL.out (h2.at_ _ _ HKL.out) (slE_own (h2.row (x.l, x.r)))
    rw [HVE.out] at this
    exact this
  have HC1 : Hid (∀ W, Below w1.heap.size w1 W → Calls Tryz.prog 90 #[.slice A0 gs.length c0, .agg #[.string (ba x.g.a), .string (ba x.g.b), .bool x.g.p]] W fun e w' => e = .returned (.bool (gs.contains x.g)) ∧ Below W.heap.size W w') := fun W hW => gcont_any A0 gs c0 x.g W (hv3.below keeps_gp hW) (by omega)
  have HC2 : Hid (∀ W, Below w1.heap.size w1 W → Calls Tryz.prog 90 #[.slice A0 gs.length c0, .agg #[.string { data := #[] }, .string { data := #[] }, .bool true]] W fun e w' => e = .returned (.bool (gs.contains Gp.part)) ∧ Below W.heap.size W w') := fun W hW => gcont_any A0 gs c0 Gp.part W (hv3.below keeps_gp hW) (by omega)
  obtain ⟨k2, hk2⟩ : ∃ b, gs.contains x.g = b := ⟨_, rfl⟩
  obtain ⟨k3, hk3⟩ : ∃ b, gs.contains Gp.part = b := ⟨_, rfl⟩
  rw [hk2, hk3] at hKN
  rw [hk2] at HC1
  rw [hk3] at HC2
  have f3 := hS1.blk.cell 3
  have fl := hS1.blk.lt
  have x0 := hB.cell 0
  have x1 := hB.cell 1
  have x2 := hB.cell 2
  have x3 := hB.cell 3
  have x4 := hB.cell 4
  have x5 := hB.cell 5
  have x6 := hB.cell 6
  have xl := hB.lt
  simp at f3 x0 x1 x2 x3 x4 x5 x6
  have HXB := Lib.hid hB
  have HOX : Hid ((Value.slice A1 xs.length c1).ownBlock ≠ some gx) := by show _ ≠ _; rw [← hgx]; exact own_lt hG.row (Nat.le_refl _)
  have hcr : gs.length ≤ c0 := hv1
  have hx1' : xs.length ≤ c1 := hx1
  clear hS hG hw1 hb1 hB hS1 hG1 hgm hrow hgs hV hkl hnn hgx hx3 hk2 hk3 hv3
  go_enter Tryz.func57, Tryz.ntmps57
  go_upto_region 1 with fail
  rw [HW1.out, HGX.out]
  refine ordB_below (.quiet 0 (.quiet 1 (.quiet 2 (.quiet 3 (.quiet 4 (.quiet 5 (.quiet 6 (.quiet 7 .done)))))))) (by kernel_rfl) (by kernel_rfl) (by kernel_rfl) (fun _ _ _ _ _ h => h) ?_
  intro V0 hV0
  iterate 8 (first
    | (refine ordB_skip rfl rfl ?_; simp only [Act.put, List.setIfInBounds_toArray, List.set_cons_zero, List.set_cons_succ])
    | (refine ordB_take (v := ?_) rfl rfl ?_ ?_
       rotate_left 1
       focus (intro W hW; obtain ⟨hcW, hfW⟩ := bcell hW; have hlkv := HLK.out W hW; (go_simp <;> with_reducible rfl))
       simp only [Act.put, List.setIfInBounds_toArray, List.set_cons_zero, List.set_cons_succ]))
  refine ordB_nil ?_
  have hbV := HB1.out.trans (hV0.mono HB1.out.size)
  have HBV := Lib.hid hbV
  have HBD := Lib.hid hV0
  obtain ⟨W2, hW2⟩ : ∃ W, V0 = W := ⟨_, rfl⟩
  rw [hW2] at HBV HBD ⊢
  clear hW2 hbV hV0
  have x4 := (HXB.out.below HBD.out HXB.out.lt).cell 4
  have x5 := (HXB.out.below HBD.out HXB.out.lt).cell 5
  have x6 := (HXB.out.below HBD.out HXB.out.lt).cell 6
  have xl := (HXB.out.below HBD.out HXB.out.lt).lt
  simp at x4 x5 x6
  have HKN := Lib.hid hKN
  clear hKN x0 x1 x2 x3 f3 fl
  go_upto_region 2 with fail
  go_cut [27] (fun s27 W => s27 = .bool (known H x) ∧ Below w1.heap.size w1 W)
  case first =>
    by_cases h2 : 2 ≤ gs.length
    · have h2i : (2 : Int) ≤ (gs.length : Int) := by omega
      have HE : Hid (known H x = true) := by show _ = _; rw [HKN.out, decide_eq_true h2]; rfl
      clear h2
      go_wp2_with fail
      go_meet
      exact ⟨by rw [HE.out], HBD.out⟩
    · have h2i : ¬ (2 : Int) ≤ (gs.length : Int) := by omega
      have HE : Hid (known H x = (k2 || k3)) := by show _ = _; rw [HKN.out, decide_eq_false h2]; simp
      clear h2
      cases k2 with
      | true =>
        go_wp2_with (go_at_call 90; go_loud (refine (HC1.out _ HBD.out).mono ?_; rintro e W3 ⟨rfl, hb3⟩))
        go_meet
        exact ⟨by rw [HE.out]; rfl, HBD.out.trans (hb3.mono HBD.out.size)⟩
      | false =>
        go_wp2_with (go_at_call 90; go_loud (first | (with_reducible refine (HC2.out _ (HBD.out.trans (hb3.mono HBD.out.size))).mono ?_; rintro e W4 ⟨rfl, hb4⟩) | (with_reducible refine (HC1.out _ HBD.out).mono ?_; rintro e W3 ⟨rfl, hb3⟩)))
        go_meet
        have hb34 := bthen hb3 hb4
        exact ⟨by rw [HE.out]; rfl, HBD.out.trans (hb34.mono HBD.out.size)⟩
  case rest =>
    obtain ⟨X1, rfl⟩ : ∃ W, W = wc := ⟨wc, rfl⟩
    obtain ⟨rfl, hb2⟩ := hcut
    have HBX := Lib.hid hb2
    have HXX := Lib.hid (HXB.out.below hb2 HXB.out.lt)
    have HSX := Lib.hid (HS1.out.below hb2)
    have HGRX := Lib.hid (HG1.out.below hb2)
    have HGM := Lib.hid (HGM0.out.bel hb2)
    have HOW := Lib.hid (own_below HOW0.out hb2)
    have hgxl : gx < X1.heap.size := HXX.out.lt
    clear hb2 x4 x5 x6 xl
    cases hkn : known H x with
    | true =>
      have HKT := Lib.hid hkn
      clear hkn
      go_wp2_with fail
      refine bodyPost_ret (results_none rfl _ _ _) rfl ?_
      refine ⟨rfl, .slice A1 xs.length c1, ?_, ?_, ?_, .inl rfl⟩
      · rw [grp_add_out HKT.out]; exact HSX.out
      · rw [HKT.out, if_pos rfl]; exact HGRX.out
      · exact .of_below (bthen HB1.out HBX.out)
    | false =>
      have HKF := Lib.hid hkn
      have x0 := HXX.out.cell 0
      have x1 := HXX.out.cell 1
      have x2 := HXX.out.cell 2
      have x3 := HXX.out.cell 3
      have x4 := HXX.out.cell 4
      have x5 := HXX.out.cell 5
      have x6 := HXX.out.cell 6
      have xl := HXX.out.lt
      have f3 := HSX.out.blk.cell 3
      have fl := HSX.out.blk.lt
      simp at x0 x1 x2 x3 x4 x5 x6 f3
      have hnex : (Value.slice A0 gs.length c0).ownBlock ≠ some gx := own_blk_ne HOW.out HXX.out (by decide)
      have hnef : (Value.slice A0 gs.length c0).ownBlock ≠ some gf := own_blk_ne HOW.out HSX.out.blk (by decide)
      have hgmX : gm < X1.heap.size := HGM.out.lt
      clear hkn
      go_upto_region 3 with fail
      refine ordV_start (ButOwn (.slice A0 gs.length c0) X1) (fun _ => True) [11] [(0, some false), (1, some false), (2, some false), (3, some false), (4, some false), (5, some false), (6, some false), (7, some false), (8, some false), (9, some true), (10, some true), (11, some true)] (by kernel_rfl) (by kernel_rfl) (by kernel_rfl) (fun _ _ _ _ _ h => h) trivial ?_
      have HD : RowKit.Below X1.heap.size X1 X1.drew := (Below.refl _ _).drew
      obtain ⟨Wd, hWd⟩ : ∃ Wd, X1.drew = Wd := ⟨_, rfl⟩
      rw [hWd] at HD ⊢
      clear hWd
      have HS0 := ButOwn.of_below (v := .slice A0 gs.length c0) HD
      iterate 9 (refine ordV_takeS (v := ?_) rfl rfl HS0 ?_ ?_; rotate_left 1; (focus (intro W hW; have hcW := hW.cell; (go_simp <;> (try with_reducible rfl)))); simp only [Act.put, List.setIfInBounds_toArray, List.set_cons_zero, List.set_cons_succ])
      refine ordV_call rfl rfl (fun K hK => ?_)
      go_simp
      have HD2 := HD.alloc HD.size (.cells #[.string (ba x.g.a), .string (ba x.g.b), .bool x.g.p] 120)
      have HS1 := ButOwn.of_below (v := .slice A0 gs.length c0) HD2
      refine hK.out _ _ trivial (fun _ _ => HS1) ?_
      clear hK K
      try simp only [Act.put, List.setIfInBounds_toArray, List.set_cons_zero, List.set_cons_succ]
      refine ordV_call rfl rfl (fun K hK => ?_)
      refine wp_appS (enc := encGp) (R := RGp) _ _ 173 rfl (gm + 1) 120 i0 _ 3 40 Tryz.underlying173 hinf hz0 hz1 hz2 rfl (by decide) (.slice A0 gs.length c0) _ _ rfl ((own_below HOW.out HD).alloc _) (some ⟨Wd.heap.size, 0, none⟩) 1 [x.g] rfl (slr_blkR (enc := encGp) (Blk.new_ rfl) (fun _ => rfl) (fun _ => rfl)) (fun _ _ _ h => h) (fun _ => rfl) (fun u hu => by simp [encGp] at hu; rcases hu with rfl | rfl | rfl <;> rfl) (by simp; omega) (by decide) (by have := HD2.size; omega) ?_
      intro v4 w4 hown4 hb4 ha4
      have HS2 := HS1.apps hb4.size ha4
      refine hK.out _ _ trivial (fun _ _ => HS2) ?_
      clear hK K
      refine ordV_call rfl rfl (fun K hK => ?_)
      have hown5 : w4.ownsRow (gm + 1) 120 3 v4 (gs.length + 1) (gs.flatMap encGp ++ encGp x.g) := by simpa using hown4
      have hvg : (Value.slice A0 gs.length c0).ownBlock ≠ some gm := fun e => by have := own_block_le HOW.out _ e; omega
      have hkp4 : w4.heap[gm]? = X1.heap[gm]? := (ha4.keep gm (by have := HD2.size; have := HGM.out.lt; omega) hvg).trans ((Below.heap_alloc _ _ _ (by have := HD.size; have := HGM.out.lt; omega)).trans (HD.block gm HGM.out.lt))
      have hO4 : w4.ownsMap Tryz.prog 118 slE gm nn DD := by obtain ⟨es, clock, q1, q2, q3, q4⟩ := HGM.out.own; exact ⟨es, clock, hkp4.trans q1, q2, q3, q4⟩
      obtain ⟨w5, hst, hO5, htn⟩ := hO4.store siPairLaw Tryz.underlying107 (by have := HNN.out; unfold maxLen; omega) HKL.out (slE_own hown5)
      have hg5 := htn.grown
      unfold vKey at hst
      go_simp
      refine hK.out _ _ trivial (fun _ h => by cases h) ?_
      clear hK K
      refine ordV_nil ?_
      have hmore : GpM w5 gm (nn + 1) (gm + 1) (fun k => if k = (x.l, x.r) then v4 else V k) (fun k => if k = (x.l, x.r) then gapsAt H k.1 k.2 ++ [x.g] else gapsAt H k.1 k.2) (DD.put kl (slD v4)) := by
        refine GpM.more (k0 := (x.l, x.r)) (HGM.out.bel (HD.alloc HD.size (.cells #[.string (ba x.g.a), .string (ba x.g.b), .bool x.g.p] 120))) HKL.out ?_ (by rw [HVE.out]; exact ha4) hO5 hg5
        show w4.ownsRow (gm + 1) 120 3 v4 ((gapsAt H x.l x.r).length + 1) ((gapsAt H x.l x.r).flatMap encGp ++ encGp x.g)
        rw [HGS.out]
        exact hown5
      rw [← gaps_addF (u := u) HKF.out] at hmore
      have hbs5 : ∀ Y : Nat → Prop, BelS gm Y X1.heap.size X1 w5 := fun Y => ((BelS.of_below (HD.alloc HD.size (.cells #[.string (ba x.g.a), .string (ba x.g.b), .bool x.g.p] 120))).trans (.apps ((own_below HOW.out HD).alloc _) hb4 ha4 HD2.size (.inl rfl))).trans (.grown hg5 (by have := HD2.size; have := hb4.size; omega))
      have hXl := HXX.out.lt
      have hS5 : SrI w5 gf gm s A c (addH H u x) := ⟨(hbs5 (fun _ => False)).blk HSX.out.blk HSX.out.blk.lt id (by have := HSX.out.lt; omega) (by decide), ⟨_, _, _, by rw [addH_len HKF.out]; have := HNN.out; omega, hmore⟩, HSX.out.lt⟩
      have hG5 : GrI w5 gm gg u (.slice A1 xs.length c1) xs := HGRX.out.belS (hbs5 (fun _ => False)) HGRX.out.blk.lt id (fun g hg => ⟨(HGRX.out.row.lt g hg).2, id⟩)
      have hX5 : Blk w5 gx 122 #[.int .i64 x.l.1, .string (ba x.l.2), .int .i64 x.r.1, .string (ba x.r.2), .string (ba x.g.a), .string (ba x.g.b), .bool x.g.p] := (hbs5 (fun _ => False)).blk HXX.out HXX.out.lt id (HGM.out.ne HXX.out) (by decide)
      have HS5 := Lib.hid hS5
      have HG5 := Lib.hid hG5
      have HX5 := Lib.hid hX5
      have HBS5 := Lib.hid hbs5
      have h5s : w1.heap.size ≤ w5.heap.size := Nat.le_trans HBX.out.size (hbs5 (fun _ => False)).size
      clear hmore hbs5 hS5 hG5 hX5 hown4 hown5 hb4 ha4 hvg hkp4 hO4 hO5 hst htn hg5 HD HD2 HS0 HS2 x0 x1 x2 x3 x4 x5 x6 xl f3 fl
      have x0 := HX5.out.cell 0
      have x1 := HX5.out.cell 1
      have x2 := HX5.out.cell 2
      have x3 := HX5.out.cell 3
      have x4 := HX5.out.cell 4
      have x5 := HX5.out.cell 5
      have x6 := HX5.out.cell 6
      have xl := HX5.out.lt
      have g1 := HG5.out.blk.cell 1
      have gl := HG5.out.blk.lt
      simp at x0 x1 x2 x3 x4 x5 x6 g1
      have hnex5 : (Value.slice A1 xs.length c1).ownBlock ≠ some gx := HOX.out
      have hneg5 : (Value.slice A1 xs.length c1).ownBlock ≠ some gg := own_blk_ne HG5.out.row HG5.out.blk (by decide)
      have hgmg : gm < gg := HG5.out.lt
      go_upto_region 4 with fail
      refine ordV_start (ButOwn (.slice A1 xs.length c1) w5) (fun _ => True) [10] [(0, some false), (1, some false), (2, some false), (3, some false), (4, some false), (5, some false), (6, some true), (7, some true), (8, none), (9, none), (10, some true)] (by kernel_rfl) (by kernel_rfl) (by kernel_rfl) (fun _ _ _ _ _ h => h) trivial ?_
      have HD : RowKit.Below w5.heap.size w5 w5.drew := (Below.refl _ _).drew
      obtain ⟨Wd, hWd⟩ : ∃ Wd, w5.drew = Wd := ⟨_, rfl⟩
      rw [hWd] at HD ⊢
      clear hWd
      have HS0 := ButOwn.of_below (v := .slice A1 xs.length c1) HD
      iterate 6 (refine ordV_takeS (v := ?_) rfl rfl HS0 ?_ ?_; rotate_left 1; (focus (intro W hW; have hcW := hW.cell; (go_simp <;> (try with_reducible rfl)))); simp only [Act.put, List.setIfInBounds_toArray, List.set_cons_zero, List.set_cons_succ])
      refine ordV_call rfl rfl (fun K hK => ?_)
      go_simp
      have HD2 := HD.alloc HD.size (.cells #[.int .i64 x.l.1, .string (ba x.l.2), .int .i64 x.r.1, .string (ba x.r.2), .string (ba x.g.a), .string (ba x.g.b), .bool x.g.p] 122)
      have HS1 := ButOwn.of_below (v := .slice A1 xs.length c1) HD2
      refine hK.out _ _ trivial (fun _ _ => HS1) ?_
      clear hK K
      try simp only [Act.put, List.setIfInBounds_toArray, List.set_cons_zero, List.set_cons_succ]
      refine ordV_call rfl rfl (fun K hK => ?_)
      refine wp_appS (enc := encSt) (R := RSt) _ _ 111 rfl (gm + 1) 122 j0 _ 7 88 Tryz.underlying111 jinf jz0 jz1 jz2 rfl (by decide) (.slice A1 xs.length c1) _ _ rfl ((own_below HG5.out.row HD).alloc _) (some ⟨Wd.heap.size, 0, none⟩) 1 [x] rfl (slr_blkR (enc := encSt) (Blk.new_ rfl) (fun _ => rfl) (fun _ => rfl)) (fun _ _ _ h => h) (fun _ => rfl) (fun u hu => by simp [encSt] at hu; rcases hu with rfl | rfl | rfl | rfl | rfl | rfl | rfl <;> rfl) (by simp; omega) (by decide) (by have := HD2.size; omega) ?_
      intro v4 w4 hown4 hb4 ha4
      have HS2 := HS1.apps hb4.size ha4
      refine hK.out _ _ trivial (fun _ _ => HS2) ?_
      clear hK K
      try simp only [Act.put, List.setIfInBounds_toArray, List.set_cons_zero, List.set_cons_succ]
      iterate 2 (refine ordV_takeR (v := ?_) rfl rfl ?_ ?_; rotate_left 1; (focus (intro W hW; (go_simp <;> (try with_reducible rfl)))); simp only [Act.put, List.setIfInBounds_toArray, List.set_cons_zero, List.set_cons_succ])
      refine ordV_call rfl rfl (fun K hK => ?_)
      obtain ⟨A4, c4, rfl⟩ := own_sl hown4
      have hGB4 : Blk w4 gg 113 #[.string (ba u), .slice A1 xs.length c1] := ((HG5.out.blk.below HD HG5.out.blk.lt).alloc _).apps ha4 (own_blk_ne HG5.out.row HG5.out.blk (by decide))
      have g4 := hGB4.cell 1
      have gf4 := hGB4.frozen 1
      have gl4 := hGB4.lt
      simp at g4
      go_simp
      refine hK.out _ _ trivial (fun _ h => by cases h) ?_
      clear hK K
      refine ordV_nil ?_
      have hown6 : w4.ownsRow (gm + 1) 122 7 (.slice A4 (xs ++ [x]).length c4) (xs ++ [x]).length ((xs ++ [x]).flatMap encSt) := by rw [List.length_append, List.flatMap_append]; simpa using hown4
      have hGW4 := (HG5.out.blk.below HD HG5.out.blk.lt).alloc ((.cells #[.int .i64 x.l.1, .string (ba x.l.2), .int .i64 x.r.1, .string (ba x.r.2), .string (ba x.g.a), .string (ba x.g.b), .bool x.g.p] 122))
      have hb6 : ∀ k, k < w5.heap.size → k ≠ gg → (Value.slice A1 xs.length c1).ownBlock ≠ some k → (w4.setCell ⟨gg, 1, none⟩ (.slice A4 (xs.length + 1) c4)).heap[k]? = w5.heap[k]? := fun k hk hkg hko => ((Below.heap_setCell _ _ _ _ hkg).trans (ha4.keep k (Nat.lt_of_lt_of_le hk HD2.size) hko)).trans (HD2.block k hk)
      have hbs6 : BelS gm (fun k => k = gg ∨ (Value.slice A1 xs.length c1).ownBlock = some k) w5.heap.size w5 (w4.setCell ⟨gg, 1, none⟩ (.slice A4 (xs.length + 1) c4)) := ((BelS.of_below HD2).trans (.apps ((own_below HG5.out.row HD).alloc _) hb4 ha4 HD2.size (.inr fun k hk => .inr hk))).trans (.set _ _ (.inl rfl))
      have hS6 : SrI (w4.setCell ⟨gg, 1, none⟩ (.slice A4 (xs.length + 1) c4)) gf gm s A c (addH H u x) := by
        refine HS5.out.keepX (X := fun k => k = gg ∨ (Value.slice A1 xs.length c1).ownBlock = some k) (fun k hk => ?_) (fun k hk hx => hb6 k hk (fun e => hx (.inl e)) (fun e => hx (.inr e)))
        rcases hk with rfl | hk
        · exact ⟨blk_ne HG5.out.blk HS5.out.blk (by decide), by omega, .of_blk HG5.out.blk (by decide)⟩
        · exact ⟨fun e => own_blk_ne HG5.out.row HS5.out.blk (by decide) (by rw [← e]; exact hk), by have := own_block_le HG5.out.row k hk; omega, .of_own HG5.out.row (by decide) hk⟩
      have hne6 : (Value.slice A4 (xs.length + 1) c4).ownBlock ≠ some gg := by
        rcases ha4.at_ with e | ⟨k, e, hk⟩
        · exact fun h => hneg5 (e.symm.trans h)
        · have e : (Value.slice A4 (xs.length + 1) c4).ownBlock = some k := e
          intro h2
          rw [e] at h2
          have := Option.some.inj h2
          have := HD2.size
          omega
      have hG6 : GrI (w4.setCell ⟨gg, 1, none⟩ (.slice A4 (xs.length + 1) c4)) gm gg u (.slice A4 (xs.length + 1) c4) (xs ++ [x]) :=
        ⟨by simpa using (hGW4.apps ha4 hneg5).set_ 1 (.slice A4 (xs.length + 1) c4), by have := own_set hown6 (a := ⟨gg, 1, none⟩) (by rw [List.length_append]; exact hne6) (.slice A4 (xs.length + 1) c4); simpa using this, HG5.out.lt⟩
      have hat : (Value.slice A4 (xs.length + 1) c4).ownBlock = (Value.slice A1 xs.length c1).ownBlock ∨ ∃ k, (Value.slice A4 (xs.length + 1) c4).ownBlock = some k ∧ w.heap.size ≤ k := by
        rcases ha4.at_ with e | ⟨k, e, hk⟩
        · exact .inl e
        · exact .inr ⟨k, e, by have := HD2.size; have := HB1.out.size; omega⟩
      have HS6 := Lib.hid hS6
      have HG6 := Lib.hid hG6
      have HAT := Lib.hid hat
      have HBS6 := Lib.hid hbs6
      obtain ⟨w6, hw6⟩ : ∃ W, w4.setCell ⟨gg, 1, none⟩ (.slice A4 (xs.length + 1) c4) = W := ⟨_, rfl⟩
      rw [hw6] at HS6 HG6 HBS6 ⊢
      clear hw6 hS6 hG6 hat hbs6 hne6 hown6 hGW4 hb6 hb4 ha4 hown4
      go_wp2_with fail
      go_end0
      refine ⟨rfl, .slice A4 (xs.length + 1) c4, HS6.out, ?_, ?_, HAT.out⟩
      · rw [HKF.out]; exact HG6.out
      · exact ((BelS.of_below (bthen HB1.out HBX.out)).trans ((HBS5.out _).mono (by have := HB1.out.size; have := HBX.out.size; omega) fun k _ h => h)).trans (HBS6.out.mono (by have := HB1.out.size; omega) fun k _ h => h)
end Go.Proofs.YtfpnhgahkjglgaaGreat

/-
  The search of layer 08: the states of a group are opened. Plain laws. No conditions.
-/
namespace Go.Proofs.YtfpnhgahkjglgaaGreat
open List

/-- What a step of the search has met. -/
structure OpP (s : Sc) (H0 H : Hst Pl) (u : List UInt8) : Prop where
  inv : HInv (schA s) H u
  sub : ∀ p ∈ H0, p ∈ H
  new : ∀ x v, (x, v) ∈ H → (x, v) ∈ H0 ∨ v = u
  sz : SzH H
def stL (x : St Pl) (r : Ru) : St Pl := ⟨(r.to, bl r.inp), x.r, widen x.g (bl r.out) []⟩
def stR (x : St Pl) (r : Ru) : St Pl := ⟨x.l, (r.to, bl r.inp), widen x.g [] (bl r.out)⟩
/-- The steps that the first k rules give at a state. -/
def RulesK (s : Sc) (H : Hst Pl) (u : List UInt8) (x : St Pl) (k : Nat) : Prop := ∀ j r, j < k → s.rs[j]? = some r → (x.l = (r.fr, []) → KnownAt H (stL x r) u) ∧ (x.r = (r.fr, []) → KnownAt H (stR x r) u)
theorem RulesK.mono {s : Sc} {H H' : Hst Pl} {u : List UInt8} {x : St Pl} {k : Nat} (h : RulesK s H u x k) (hs : ∀ p ∈ H, p ∈ H') : RulesK s H' u x k :=
  fun j r hj hr => ⟨fun e => ((h j r hj hr).1 e).mono hs, fun e => ((h j r hj hr).2 e).mono hs⟩
theorem RulesK.zero {s : Sc} {H : Hst Pl} {u : List UInt8} {x : St Pl} : RulesK s H u x 0 := fun _ _ h => absurd h (Nat.not_lt_zero _)
theorem RulesK.next {s : Sc} {H : Hst Pl} {u : List UInt8} {x : St Pl} {k : Nat} {t : Ru} (h : RulesK s H u x k) (ht : s.rs[k]? = some t) (h1 : x.l = (t.fr, []) → KnownAt H (stL x t) u) (h2 : x.r = (t.fr, []) → KnownAt H (stR x t) u) : RulesK s H u x (k + 1) := fun j r hj hr => by
  by_cases e : j = k
  · subst e
    obtain rfl := Option.some.inj (ht.symm.trans hr)
    exact ⟨h1, h2⟩
  · exact h j r (by omega) hr
structure OpI (s : Sc) (H0 H : Hst Pl) (u : List UInt8) (xs : List (St Pl)) (i : Nat) : Prop extends OpP s H0 H u where
  mem : ∀ x, x ∈ xs ↔ (x, u) ∈ H
  len : xs.length ≤ H.length
  le : i ≤ xs.length
  done : ∀ j x, j < i → xs[j]? = some x → RulesK s H u x s.rs.length
section
variable {s : Sc} {H0 H : Hst Pl} {u : List UInt8} {xs : List (St Pl)} {i : Nat}
theorem OpI.start (h : HInv (schA s) H u) (hz : SzH H) (hm : ∀ x, x ∈ xs ↔ (x, u) ∈ H) (hl : xs.length ≤ H.length) : OpI s H H u xs 0 :=
  ⟨⟨h, fun _ hp => hp, fun _ _ hx => .inl hx, hz⟩, hm, hl, Nat.zero_le _, fun _ _ h => absurd h (Nat.not_lt_zero _)⟩
/-- The group behind an addition. -/
def addG (H : Hst Pl) (xs : List (St Pl)) (y : St Pl) : List (St Pl) := if known H y then xs else xs ++ [y]
theorem addG_len {y : St Pl} : xs.length ≤ (addG H xs y).length := by
  unfold addG
  split
  · exact Nat.le_refl _
  · rw [length_append]; omega
theorem addG_get {y : St Pl} {j : Nat} {x : St Pl} (h : xs[j]? = some x) : (addG H xs y)[j]? = some x := by
  unfold addG
  split
  · exact h
  · rw [getElem?_append_left (List.getElem?_eq_some_iff.1 h).1]; exact h
theorem OpI.add (h : OpI s H0 H u xs i) {y : St Pl} (hy : Two (schA s) u y.l y.r y.g) (hsz : y.g.sz ≤ 8 * H.length + 8) : OpI s H0 (addH H u y) u (addG H xs y) i ∧ KnownAt (addH H u y) y u := by
  obtain ⟨h1, h2⟩ := h.inv.add hy
  refine ⟨⟨⟨h1, fun p hp => add_sub p (h.sub p hp), fun x v hx => ?_, h.sz.add hsz⟩, fun x => ?_, ?_, Nat.le_trans h.le addG_len, fun j x hj hx => ?_⟩, h2⟩
  · unfold addH at hx
    split at hx
    · exact h.new x v hx
    · rcases mem_append.1 hx with hx | hx
      · exact h.new x v hx
      · exact .inr (Prod.mk.inj (mem_singleton.1 hx)).2
  · unfold addG addH
    split
    · exact h.mem x
    · rw [mem_append, mem_append, h.mem x, mem_singleton, mem_singleton, Prod.mk.injEq]
      simp
  · unfold addG addH
    have := h.len
    split
    · exact this
    · rw [length_append, length_append]
      simp only [length_singleton]
      omega
  · have hlt : j < xs.length := Nat.lt_of_lt_of_le hj h.le
    have e : xs[j]? = some xs[j] := getElem?_eq_getElem hlt
    have e2 := addG_get (H := H) (y := y) e
    rw [hx] at e2
    rw [Option.some.inj e2]
    exact (h.done j _ hj e).mono add_sub
theorem OpI.next (h : OpI s H0 H u xs i) {x : St Pl} (hx : xs[i]? = some x) (hr : RulesK s H u x s.rs.length) : OpI s H0 H u xs (i + 1) :=
  { h with
    le := (List.getElem?_eq_some_iff.1 hx).1
    done := fun j y hj hy => by
      by_cases e : j = i
      · subst e
        obtain rfl := Option.some.inj (hx.symm.trans hy)
        exact hr
      · exact h.done j y (by omega) hy }
theorem OpI.all (h : OpI s H0 H u xs i) (hi : xs.length ≤ i) : ∀ x, (x, u) ∈ H → ∀ y, SucO (schA s) x y → KnownAt H y u := fun x hx y hy => by
  obtain ⟨j, hj⟩ := getElem?_of_mem ((h.mem x).2 hx)
  have hr := h.done j x (by have := (List.getElem?_eq_some_iff.1 hj).1; omega) hj
  obtain ⟨yl, yr, yg⟩ := y
  rcases hy with ⟨o, ⟨h1, r, h2, h3, rfl, h4⟩, h5, h6⟩ | ⟨o, ⟨h1, r, h2, h3, rfl, h4⟩, h5, h6⟩
  · obtain ⟨q, hq⟩ := getElem?_of_mem h2
    have := (hr q r (List.getElem?_eq_some_iff.1 hq).1 hq).1 (Prod.ext h3.symm h1)
    simp only at h4 h5 h6
    rw [h4, h5, h6]
    exact this
  · obtain ⟨q, hq⟩ := getElem?_of_mem h2
    have := (hr q r (List.getElem?_eq_some_iff.1 hq).1 hq).2 (Prod.ext h3.symm h1)
    simp only at h4 h5 h6
    rw [h4, h5, h6]
    exact this
theorem OpI.two (h : OpI s H0 H u xs i) {j : Nat} {x : St Pl} (hx : xs[j]? = some x) : Two (schA s) u x.l x.r x.g ∧ x.g.sz ≤ 8 * H.length := by
  have hm := (h.mem x).1 (mem_of_getElem? hx)
  exact ⟨h.inv.two x u hm, h.sz x u hm⟩
theorem two_stL {x : St Pl} {r : Ru} (h : Two (schA s) u x.l x.r x.g) (hr : r ∈ s.rs) (he : x.l = (r.fr, [])) : Two (schA s) u (stL x r).l (stL x r).r (stL x r).g :=
  sucO_two (x := x) (y := stL x r) h (.inl ⟨bl r.out, ⟨by rw [he], r, hr, by rw [he], rfl, rfl⟩, rfl, rfl⟩)
theorem two_stR {x : St Pl} {r : Ru} (h : Two (schA s) u x.l x.r x.g) (hr : r ∈ s.rs) (he : x.r = (r.fr, [])) : Two (schA s) u (stR x r).l (stR x r).r (stR x r).g :=
  sucO_two (x := x) (y := stR x r) h (.inr ⟨bl r.out, ⟨by rw [he], r, hr, by rw [he], rfl, rfl⟩, rfl, rfl⟩)
theorem sz_stL {x : St Pl} {r : Ru} {n : Nat} (h : x.g.sz ≤ 8 * n) (hr : r.out.size ≤ 4) : (stL x r).g.sz ≤ 8 * n + 8 := by
  have := widen_sz x.g (bl r.out) []
  rw [bl_len] at this
  show (widen x.g (bl r.out) []).sz ≤ _
  simp only [length_nil] at this
  omega
theorem sz_stR {x : St Pl} {r : Ru} {n : Nat} (h : x.g.sz ≤ 8 * n) (hr : r.out.size ≤ 4) : (stR x r).g.sz ≤ 8 * n + 8 := by
  have := widen_sz x.g [] (bl r.out)
  rw [bl_len] at this
  show (widen x.g [] (bl r.out)).sz ≤ _
  simp only [length_nil] at this
  omega
end
end Go.Proofs.YtfpnhgahkjglgaaGreat
