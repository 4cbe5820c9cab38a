/-
  GrMade, OrdU, OrdV, Ret, GrWalkC, CmpOr, joined. No conditions.
-/
import Derived.Test.YtfjkmgjjifhdkaaGreatR04
import Derived.Test.YtfjkmgjjifhdkaaGreatR02
import Derived.Laws.Rows
import Derived.Laws.ResultCell
import Derived.Test.YtfjkmgjjifhdkaaGreatR03
import Derived.Test.YtfjkmgjjifhdkaaGreatR07
import Derived.Test.YtfjkmgjjifhdkaaGreatR05
import Derived.Deep.DeepCutAuto
/-
  The plain things of layers 15 and 16: the graphs that the laws draw.
-/
namespace Go.Proofs.YtfjkmgjjifhdkaaGreat
open Go Go.RowKit

structure T3 where
  a : Int
  b : Int
  c : Int
deriving Inhabited
def RT3 (_ : World) (x : T3) (vs : List Value) : Prop := vs = [.int .u8 x.a, .int .u8 x.b, .int .u8 x.c]
theorem SlR.t3 {w : World} {A : Option Addr} {k : Nat} {xs : List T3} (h : SlR 3 RT3 w A xs) (hk : k < xs.length) : ∃ b off x, A = some ⟨b, off, none⟩ ∧ b < w.heap.size ∧ xs[k]? = some x ∧
    w.cell? ⟨b, off + k * 3, none⟩ = some (.int .u8 x.a) ∧ w.cell? ⟨b, off + k * 3 + 1, none⟩ = some (.int .u8 x.b) ∧ w.cell? ⟨b, off + k * 3 + 2, none⟩ = some (.int .u8 x.c) := by
  obtain ⟨b, off, x, vs, hA, hlt, hx, hr, _, hv⟩ := h.at_ hk
  exact ⟨b, off, x, hA, hlt, hx, hv 0 _ (by rw [hr]; rfl), hv 1 _ (by rw [hr]; rfl), hv 2 _ (by rw [hr]; rfl)⟩

end Go.Proofs.YtfjkmgjjifhdkaaGreat

/-
  As XOrdT; an operation of 'ts' may wait for another one of 'ts' in place of what only reads.
-/
namespace Go.Proofs.YtfjkmgjjifhdkaaGreat
open Go Go.RowKit

section
variable {P : Program} {ops : Array Oper} {Q : Exit → Act → World → Prop} {S : World → Prop} {ts : List Nat}
end
end Go.Proofs.YtfjkmgjjifhdkaaGreat

/-
  A region that draws its order and ends in stores, some of whose reading operations may come up behind a store: R holds always, S as long as no store of 'ts' has come up.
-/
namespace Go.Proofs.YtfjkmgjjifhdkaaGreat
open Go Go.RowKit

def goodFromV (ops : Array Oper) (ts : List Nat) : Array Bool → List (Nat × Option Bool) → Bool
  | listed, [] => (Region.ready .any ops listed).isEmpty
  | listed, (i, some true) :: l => Region.ready .any ops listed == [i] && goodFromV ops ts (listed.setIfInBounds i true) l
  | listed, (i, some false) :: l => (Region.ready .any ops listed).contains i && Region.free .any ops listed i && ts.all (fun t => (waitsFor ops t i || ts.any (fun t' => waitsFor ops t t')) && !(listed.getD t true)) && goodFromV ops ts (listed.setIfInBounds i true) l
  | listed, (i, none) :: l => (Region.ready .any ops listed).contains i && Region.free .any ops listed i && goodFromV ops ts (listed.setIfInBounds i true) l
def goodOrdV (ops : Array Oper) (ts : List Nat) (l : List (Nat × Option Bool)) : Bool := decide (l.length ≤ ops.size) && goodFromV ops ts (Array.replicate ops.size false) l
section
variable {P : Program} {ops : Array Oper} {Q : Exit → Act → World → Prop} {S R : World → Prop} {ts : List Nat}
def wpAnyV (P : Program) (ops : Array Oper) (Q : Exit → Act → World → Prop) (S R : World → Prop) (ts : List Nat) : Nat → Array Bool → Act → World → Prop
  | 0, listed, a, w => Region.ready .any ops listed = [] ∧ Q .normal a w
  | fuel + 1, listed, a, w =>
    (Region.ready .any ops listed = [] → Q .normal a w) ∧
    ∀ i ∈ Region.ready .any ops listed, wpOp P ops Q i (fun a' w' => (R w' ∧ (S w → ts.contains i = false → S w')) ∧ wpAnyV P ops Q S R ts fuel (listed.setIfInBounds i true) a' w') a w
theorem wpAny_of_V : ∀ (fuel : Nat) (listed : Array Bool) (a : Act) (w : World), wpAnyV P ops Q S R ts fuel listed a w → wpAny P .any ops Q fuel listed a w
  | 0, _, _, _, h => h
  | fuel + 1, _, _, _, h => ⟨h.1, fun i hi => wpOp_mono (fun a' w' h' => wpAny_of_V fuel _ a' w' h'.2) (h.2 i hi)⟩
theorem firstV1 {i : Nat} {oi : Oper} {v : Value} (hi : ops[i]? = some oi) (hsel : ∀ (j : Nat) (o : Oper) cs b, ops[j]? = some o → o.op ≠ .select cs b)
    (hQ : ∀ c a w, Q (.panic c) (a.put oi.dst v) w → Q (.panic c) a w) (hts : ∀ t ∈ ts, waitsFor ops t i = true ∨ ∃ t' ∈ ts, waitsFor ops t t' = true) :
    ∀ (fuel : Nat) (listed : Array Bool) (a : Act) (w : World),
      (∀ j oj, ops[j]? = some oj → j ≠ i → listed.getD j true = false → (∀ e ∈ oj.after, Region.binds .any e = true → e.on ≠ i) → oi.apart ops oj = true) →
      (∀ t ∈ ts, listed.getD t true = false) → i ∈ Region.ready .any ops listed → YieldsIf P ops S oi v a → S w → R w →
      wpAnyV P ops Q S R ts fuel (listed.setIfInBounds i true) (a.put oi.dst v) w → wpAnyV P ops Q S R ts (fuel + 1) listed a w := by
  intro fuel
  induction fuel with
  | zero =>
    intro listed a w _ _ hr hy hS hR H
    refine ⟨fun h => (by rw [h] at hr; cases hr), fun j hj => ?_⟩
    by_cases hji : j = i
    · subst hji; exact hy.wpOp hi hS ⟨⟨hR, fun h _ => h⟩, H⟩
    · have h1 := ready_mono hj hji
      rw [H.1] at h1
      cases h1
  | succ fuel ih =>
    intro listed a w hfree hun0 hr hy hS hR H
    refine ⟨fun h => (by rw [h] at hr; cases hr), fun j hj => ?_⟩
    by_cases hji : j = i
    · subst hji; exact hy.wpOp hi hS ⟨⟨hR, fun h _ => h⟩, H⟩
    · obtain ⟨hjun, oj, hoj, hall⟩ := mem_ready.1 hj
      have hiun := (mem_ready.1 hr).1
      have hnot : ∀ e ∈ oj.after, Region.binds .any e = true → e.on ≠ i := fun e he hb heq => by
        have h2 := hall e he hb
        rw [heq] at h2
        rcases Nat.lt_or_ge i listed.size with h' | h'
        · simp [h'] at hiun h2; rw [hiun] at h2; cases h2
        · simp [Array.getElem?_eq_none h'] at h2
      have hjt : ts.contains j = false := by
        cases hc : ts.contains j
        · rfl
        · exfalso
          rcases hts j (by simpa using hc) with hw | ⟨t', ht', hw⟩
          · unfold waitsFor at hw
            simp only [hoj] at hw
            obtain ⟨k, hk, he⟩ := Array.any_eq_true.1 hw
            simp only [Bool.and_eq_true, beq_iff_eq] at he
            exact absurd he.2 (hnot _ (Array.getElem_mem hk) he.1)
          · unfold waitsFor at hw
            simp only [hoj] at hw
            obtain ⟨k, hk, he⟩ := Array.any_eq_true.1 hw
            simp only [Bool.and_eq_true, beq_iff_eq] at he
            have h2 := hall _ (Array.getElem_mem hk) he.1
            rw [he.2] at h2
            have h3 := hun0 t' ht'
            rcases Nat.lt_or_ge t' listed.size with h' | h'
            · simp [h'] at h2 h3; rw [h3] at h2; cases h2
            · simp [Array.getElem?_eq_none h'] at h2
      have h2 := wpOp_putIf hoj (hfree j oj hoj hji hjun hnot) (fun cs b => hsel i oi cs b hi) (fun cs b => hsel j oj cs b hoj) hQ hy (H.2 j (ready_mono hj hji))
      have hfree' : ∀ k ok, ops[k]? = some ok → k ≠ i → (listed.setIfInBounds j true).getD k true = false →
          (∀ e ∈ ok.after, Region.binds .any e = true → e.on ≠ i) → oi.apart ops ok = true := fun k ok hk hki hun hno => by
        refine hfree k ok hk hki ?_ hno
        by_cases hjk : j = k
        · subst hjk; exact hjun
        · rw [getD_set_ne true hjk] at hun; exact hun
      refine wpOp_mono (fun a' w' h3 => ?_) h2
      have hS' := h3.2.1.2 hS hjt
      have hR' := h3.2.1.1
      refine ⟨h3.2.1, ih (listed.setIfInBounds j true) a' w' hfree' (fun t ht => by rw [getD_set_ne true (fun e => by subst e; simp [ht] at hjt)]; exact hun0 t ht) (ready_mono hr (Ne.symm hji)) h3.1 hS' hR' ?_⟩
      rw [Array.setIfInBounds_comm _ _ hji]
      exact h3.2.2

theorem firstV2 {i : Nat} {oi : Oper} {v : Value} (hi : ops[i]? = some oi) (hsel : ∀ (j : Nat) (o : Oper) cs b, ops[j]? = some o → o.op ≠ .select cs b)
    (hQ : ∀ c a w, Q (.panic c) (a.put oi.dst v) w → Q (.panic c) a w) :
    ∀ (fuel : Nat) (listed : Array Bool) (a : Act) (w : World),
      (∀ j oj, ops[j]? = some oj → j ≠ i → listed.getD j true = false → (∀ e ∈ oj.after, Region.binds .any e = true → e.on ≠ i) → oi.apart ops oj = true) →
      i ∈ Region.ready .any ops listed → YieldsIf P ops R oi v a → R w →
      wpAnyV P ops Q S R ts fuel (listed.setIfInBounds i true) (a.put oi.dst v) w → wpAnyV P ops Q S R ts (fuel + 1) listed a w := by
  intro fuel
  induction fuel with
  | zero =>
    intro listed a w _ hr hy hR H
    refine ⟨fun h => (by rw [h] at hr; cases hr), fun j hj => ?_⟩
    by_cases hji : j = i
    · subst hji; exact hy.wpOp hi hR ⟨⟨hR, fun h _ => h⟩, H⟩
    · have h1 := ready_mono hj hji
      rw [H.1] at h1
      cases h1
  | succ fuel ih =>
    intro listed a w hfree hr hy hR H
    refine ⟨fun h => (by rw [h] at hr; cases hr), fun j hj => ?_⟩
    by_cases hji : j = i
    · subst hji; exact hy.wpOp hi hR ⟨⟨hR, fun h _ => h⟩, H⟩
    · obtain ⟨hjun, oj, hoj, hall⟩ := mem_ready.1 hj
      have hiun := (mem_ready.1 hr).1
      have hnot : ∀ e ∈ oj.after, Region.binds .any e = true → e.on ≠ i := fun e he hb heq => by
        have h2 := hall e he hb
        rw [heq] at h2
        rcases Nat.lt_or_ge i listed.size with h' | h'
        · simp [h'] at hiun h2; rw [hiun] at h2; cases h2
        · simp [Array.getElem?_eq_none h'] at h2
      have h2 := wpOp_putIf hoj (hfree j oj hoj hji hjun hnot) (fun cs b => hsel i oi cs b hi) (fun cs b => hsel j oj cs b hoj) hQ hy (H.2 j (ready_mono hj hji))
      have hfree' : ∀ k ok, ops[k]? = some ok → k ≠ i → (listed.setIfInBounds j true).getD k true = false →
          (∀ e ∈ ok.after, Region.binds .any e = true → e.on ≠ i) → oi.apart ops ok = true := fun k ok hk hki hun hno => by
        refine hfree k ok hk hki ?_ hno
        by_cases hjk : j = k
        · subst hjk; exact hjun
        · rw [getD_set_ne true hjk] at hun; exact hun
      refine wpOp_mono (fun a' w' h3 => ?_) h2
      have hR' := h3.2.1.1
      refine ⟨h3.2.1, ih (listed.setIfInBounds j true) a' w' hfree' (ready_mono hr (Ne.symm hji)) h3.1 hR' ?_⟩
      rw [Array.setIfInBounds_comm _ _ hji]
      exact h3.2.2


def wpOrdV (P : Program) (ops : Array Oper) (Q : Exit → Act → World → Prop) (S R : World → Prop) (ts : List Nat) : List (Nat × Option Bool) → Act → World → Prop
  | [], a, w => Q .normal a w
  | (i, some true) :: l, a, w => wpOp P ops Q i (fun a' w' => (R w' ∧ (S w → ts.contains i = false → S w')) ∧ wpOrdV P ops Q S R ts l a' w') a w
  | (i, some false) :: l, a, w => ∃ oi v, ops[i]? = some oi ∧ YieldsIf P ops S oi v a ∧ S w ∧ wpOrdV P ops Q S R ts l (a.put oi.dst v) w
  | (i, none) :: l, a, w => ∃ oi v, ops[i]? = some oi ∧ YieldsIf P ops R oi v a ∧ wpOrdV P ops Q S R ts l (a.put oi.dst v) w
theorem wpAnyV_of_ord (hs : Region.noSelect ops = true) (hQ : ∀ d v c a w, Q (.panic c) (Act.put a (some d) v) w → Q (.panic c) a w) :
    ∀ (l : List (Nat × Option Bool)) (fuel : Nat) (listed : Array Bool) (a : Act) (w : World), l.length ≤ fuel → goodFromV ops ts listed l = true → R w → wpOrdV P ops Q S R ts l a w →
      wpAnyV P ops Q S R ts fuel listed a w := by
  intro l
  induction l with
  | nil =>
    intro fuel listed a w _ hg _ h
    have hr : Region.ready .any ops listed = [] := by simpa [goodFromV] using hg
    cases fuel with
    | zero => exact ⟨hr, h⟩
    | succ fuel => exact ⟨fun _ => h, by rw [hr]; simp⟩
  | cons x l ih =>
    intro fuel listed a w hf hg hR h
    obtain ⟨fuel, rfl⟩ : ∃ f, fuel = f + 1 := ⟨fuel - 1, by simp at hf; omega⟩
    have hf' : l.length ≤ fuel := by simp at hf; omega
    obtain ⟨i, b⟩ := x
    rcases b with _ | _ | _
    · simp only [goodFromV, Bool.and_eq_true] at hg
      obtain ⟨oi, v, hi, hy, h'⟩ := h
      refine firstV2 hi (Region.noSelect_spec hs) (fun c a w hh => ?_) fuel listed a w (Region.free_spec hi hg.1.2) (by simpa using hg.1.1) hy hR (ih fuel _ _ w hf' hg.2 hR h')
      cases hd : oi.dst with
      | none => rw [hd] at hh; exact hh
      | some d => rw [hd] at hh; exact hQ d v c a w hh
    · simp only [goodFromV, Bool.and_eq_true, List.all_eq_true] at hg
      obtain ⟨oi, v, hi, hy, hS, h'⟩ := h
      refine firstV1 hi (Region.noSelect_spec hs) (fun c a w hh => ?_) (fun t ht => by have := (hg.1.2 t ht).1; simpa using this) fuel listed a w (Region.free_spec hi hg.1.1.2) (fun t ht => by have := (hg.1.2 t ht).2; simpa using this) (by simpa using hg.1.1.1) hy hS hR (ih fuel _ _ w hf' hg.2 hR h')
      cases hd : oi.dst with
      | none => rw [hd] at hh; exact hh
      | some d => rw [hd] at hh; exact hQ d v c a w hh
    · simp only [goodFromV, Bool.and_eq_true, beq_iff_eq] at hg
      refine ⟨fun h0 => absurd (h0.symm.trans hg.1) (by simp), fun j hj => ?_⟩
      rw [hg.1] at hj
      obtain rfl : j = i := by simpa using hj
      exact wpOp_mono (fun a' w' h' => ⟨h'.1, ih fuel _ a' w' hf' hg.2 h'.1.1 h'.2⟩) h
theorem ordV_start {id : Nat} {a : Act} {w : World} (S R : World → Prop) (ts : List Nat) (l : List (Nat × Option Bool)) (hm : P.follows .mixedOrders = true) (hs : Region.noSelect ops = true) (hg : goodOrdV ops ts l = true)
    (hQ : ∀ d v c a w, Q (.panic c) (Act.put a (some d) v) w → Q (.panic c) a w) (hR : R w.drew) (h : wpOrdV P ops Q S R ts l a w.drew) : (Code.region id ops true).wp P Q a w := by
  unfold goodOrdV at hg
  simp only [Bool.and_eq_true, decide_eq_true_eq] at hg
  exact wp_region_any hm (wpAny_of_V _ _ _ _ (wpAnyV_of_ord hs hQ l _ _ a _ hg.1 hg.2 hR h))
theorem ordV_nil {a : Act} {w : World} (h : Q .normal a w) : wpOrdV P ops Q S R ts [] a w := h
theorem ordV_takeS {i : Nat} {o : Oper} {v : Value} {l : List (Nat × Option Bool)} {a : Act} {w : World} (ho' : nthO ops.toList i = some o) (hw : Region.wanted o (yielded ops a.tmps) = true) (hS : S w)
    (hy : ∀ W, S W → (execOp a.eval o).run P W = .ok (.value v) W)
    (h : wpOrdV P ops Q S R ts l (a.put o.dst v) w) : wpOrdV P ops Q S R ts ((i, some false) :: l) a w := ⟨o, v, nthO_spec ho', .inl ⟨hw, hy⟩, hS, h⟩
theorem ordV_takeR {i : Nat} {o : Oper} {v : Value} {l : List (Nat × Option Bool)} {a : Act} {w : World} (ho' : nthO ops.toList i = some o) (hw : Region.wanted o (yielded ops a.tmps) = true)
    (hy : ∀ W, R W → (execOp a.eval o).run P W = .ok (.value v) W)
    (h : wpOrdV P ops Q S R ts l (a.put o.dst v) w) : wpOrdV P ops Q S R ts ((i, none) :: l) a w := ⟨o, v, nthO_spec ho', .inl ⟨hw, hy⟩, h⟩
theorem ordV_call {i : Nat} {o : Oper} {l : List (Nat × Option Bool)} {a : Act} {w : World} (ho' : nthO ops.toList i = some o) (hw : Region.wanted o (yielded ops a.tmps) = true)
    (h : ∀ K' : Act → World → Prop, Shut (∀ a w', R w' → (S w → ts.contains i = false → S w') → wpOrdV P ops Q S R ts l a w' → K' a w') → Oper.wp P o a w K' Q) : wpOrdV P ops Q S R ts ((i, some true) :: l) a w := by
  have ho := nthO_spec ho'
  show wpOp P ops Q i _ a w
  refine wpOp_step ho fun K' hK => ?_
  rw [if_pos hw]
  exact h K' fun a w' hR hS hW => hK a w' ⟨⟨hR, hS⟩, hW⟩
end
end Go.Proofs.YtfjkmgjjifhdkaaGreat

/-
  Returns of a struct that lies in a block of the call's own.
-/
namespace Go.Proofs.YtfjkmgjjifhdkaaGreat
open Go Go.RowKit

section
variable {P : Program} {fn : Func} {p u : Tmp} {ty : TypeId} {R : Ending → World → Prop} {a : Act} {w : World} {g : Nat} {t : TypeId} {cs : Array Value} {d : TypeDesc}
theorem ret_cell (hB : Blk w g t cs) (h : fn.results = #[.cell p ty]) (hp : a.tmps.getD p undef = .pointer (some ⟨g, 0, none⟩))
    (hu : P.underlying ty = some d) (hd : (match d with | .struct _ | .array _ _ => true | _ => false) = true) (hi : (P.info? ty).map (·.size) = some cs.size) (hdf : a.defers = [])
    (hR : R (.returned (.agg cs)) w) : bodyPost P fn R .ret a w :=
  bodyPost_ret (results_cell_row h a.tmps w g t cs (0, 0) d hp hB hu hd hi) hdf hR
end
end Go.Proofs.YtfjkmgjjifhdkaaGreat

/-
  The walks of layers 15 and 16: the graphs that the laws draw.
-/
namespace Go.Proofs.YtfjkmgjjifhdkaaGreat
open Go Go.RowKit

theorem info_parts {t : TypeId} {z : Value} {s b : Nat} (h : (Tryz.prog.info? t).map (fun i => (i.zero, i.size, i.bytes)) = some (some z, s, b)) : ∃ i, Tryz.prog.info? t = some i ∧ i.zero = some z ∧ i.size = s ∧ i.bytes = b := by
  cases hi : Tryz.prog.info? t with
  | none => rw [hi] at h; cases h
  | some i =>
    rw [hi] at h
    simp at h
    exact ⟨i, rfl, h.1, h.2.1, h.2.2⟩
theorem link_info : (Tryz.prog.info? 105).map (fun i => (i.zero, i.size, i.bytes)) = some (some (.agg #[.int .i64 0, .int .i64 0, .int .i64 0, .int .i64 0]), 4, 32) := by kernel_rfl
def encLk (x : Lk) : List Value := [.int .i64 x.fr, .int .i64 x.to, .int .i64 x.lb, .int .i64 x.cost]
theorem slr_blk {α : Type} {s : Nat} {R : World → α → List Value → Prop} {enc : α → List Value} {w : World} {g : Nat} {t : TypeId} {xs : List α} (h : Blk w g t (xs.flatMap enc).toArray) (hl : ∀ x, (enc x).length = s) (hR : ∀ x, R w x (enc x)) :
    SlR s R w (some ⟨g, 0, none⟩) xs := fun _ => by
  refine ⟨g, 0, rfl, h.lt, fun k x hx => ⟨enc x, hR x, hl x, fun j v hj => ?_⟩⟩
  have hget : ∀ (l : List α) (k : Nat) (x : α), l[k]? = some x → ∀ j u, (enc x)[j]? = some u → (l.flatMap enc)[k * s + j]? = some u := by
    intro l
    induction l with
    | nil => intro k x h; simp at h
    | cons y l ih =>
      intro k x hx j u hu
      rw [List.flatMap_cons]
      cases k with
      | zero =>
        simp at hx
        subst hx
        rw [List.getElem?_append_left (by have := (List.getElem?_eq_some_iff.1 hu).1; omega)]
        simpa using hu
      | succ k =>
        rw [List.getElem?_cons_succ] at hx
        rw [List.getElem?_append_right (by rw [hl, Nat.add_mul]; omega), hl, show (k + 1) * s + j - s = k * s + j by rw [Nat.add_mul]; omega]
        exact ih k x hx j u hu
  have := h.cell (k * s + j)
  rw [show 0 + k * s + j = k * s + j by omega, this]
  simpa using hget xs k x hx j v hj
/-- Every old block but the own row's is as it was. -/
structure ButOwn (v : Value) (w w' : World) : Prop where
  size : w.heap.size ≤ w'.heap.size
  block : ∀ b, b < w.heap.size → v.ownBlock ≠ some b → w'.heap[b]? = w.heap[b]?
theorem ButOwn.of_below {v : Value} {w w' : World} (h : Below w.heap.size w w') : ButOwn v w w' := ⟨h.size, fun b hb _ => h.block b hb⟩
theorem ButOwn.cell {v : Value} {w w' : World} (h : ButOwn v w w') : ∀ b o, b < w.heap.size → v.ownBlock ≠ some b → w'.cell? ⟨b, o, none⟩ = w.cell? ⟨b, o, none⟩ := fun b _ hb hv => World.cell?_of_block (h.block b hb hv)
theorem ButOwn.apps {v v' : Value} {w w1 w2 : World} (h : ButOwn v w w1) (hs : w1.heap.size ≤ w2.heap.size) (ha : Apps w1 w2 v v') : ButOwn v w w2 :=
  ⟨Nat.le_trans h.size hs, fun b hb hv => (ha.keep b (Nat.lt_of_lt_of_le hb h.size) hv).trans (h.block b hb hv)⟩
end Go.Proofs.YtfjkmgjjifhdkaaGreat

/-
  The walk of cmp.Or at whole numbers.
-/
namespace Go.Proofs.YtfjkmgjjifhdkaaGreat
open Go Go.RowKit

/-- What cmp.Or answers. -/
def orL : List Int → Int
  | [] => 0
  | x :: r => if x = 0 then orL r else x
set_option maxRecDepth 100000 in
set_option maxHeartbeats 4000000 in
theorem or_any (A : Option Addr) (xs : List Int) (c : Nat) (w : World) (hx : SlR 1 RInt w A xs) (hl : xs.length ≤ maxLen) :
    Calls Tryz.prog 70 #[.slice A xs.length c] w fun e w' => e = .returned (.int .i64 (orL xs)) ∧ w = w' := by
  unfold maxLen at hl
  go_enter Tryz.func70, Tryz.ntmps70
  go_wp2_with fail
  go_loop [8] (fun i => ∃ k : Nat, k ≤ xs.length ∧ Hid (orL xs = orL (xs.drop k)) ∧ i = .int .i64 k) (fun i => xs.length - (intOf i).toNat)
  case atStart => exact ⟨0, by omega, rfl, rfl⟩
  case round =>
    obtain ⟨k, hk, HS, rfl⟩ := hrel
    by_cases hlt : k < xs.length
    · obtain ⟨b, off, x, rfl, hbb, hxx, hc0⟩ := hx.int hlt
      have HD : Hid (orL (xs.drop k) = if x = 0 then orL (xs.drop (k + 1)) else x) := by
        show _ = _
        rw [List.drop_eq_getElem_cons hlt, (List.getElem?_eq_some_iff.1 hxx).2]
        rfl
      clear hxx
      by_cases he : x = 0
      · have HR : Hid (orL xs = orL (xs.drop (k + 1))) := HS.out.trans (HD.out.trans (if_pos he))
        have e1 : (x != 0) = false := by simpa using he
        clear he
        go_wp2_with fail
        go_round
        case rel => exact ⟨k + 1, by omega, HR.out, by go_num⟩
        case measure => simp [intOf]; omega
      · have HR : Hid (orL xs = x) := HS.out.trans (HD.out.trans (if_neg he))
        have e1 : (x != 0) = true := by simpa using he
        clear he
        go_wp2_with fail
        go_ret
        exact ⟨ret_int (by rw [HR.out]), rfl⟩
    · have HR : Hid (orL xs = 0) := by show _ = _; rw [HS.out, List.drop_eq_nil_of_le (by omega)]; rfl
      go_wp2_with fail
      go_ret
      exact ⟨ret_int (by rw [HR.out]), rfl⟩
end Go.Proofs.YtfjkmgjjifhdkaaGreat
