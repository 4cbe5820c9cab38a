/-
  Ord, App, OrdT, Blk, GrWalkA, GrWalkB, GrWalkF, CmpOr, joined. No conditions.
-/
import Derived.Test.YtcimnkijpifkjaaQ01
import Derived.Deep.RegionHeld
import Derived.Laws.AppendOwn
import Derived.Laws.OwnMore
import Derived.Maps.AppendAt
import Derived.Test.YtcimnkijpifkjaaChecked
import Derived.Outline
import Derived.Deep.Light
import Derived.WalkLawsBesides
import Derived.Handy
import Derived.IntWalk
/-
  A region that draws its order, walked once: what only reads is taken as soon as it may come up; what makes memory comes up in one forced order. One condition S on the world holds behind each step.
-/
namespace Go.Proofs.Ytcimnkijpifkjaa
open Go Go.RowKit

theorem add_mk (b o n : Nat) : (Addr.mk b o none).add n = ⟨b, o + n, none⟩ := by
  unfold Addr.add; split <;> simp_all
theorem SlR.drop {α : Type} {s : Nat} {R : World → α → List Value → Prop} {w : World} {A : Option Addr} {xs : List α} (h : SlR s R w A xs) (f : Nat) :
    SlR s R w (A.map (fun x => x.add (f * s))) (xs.drop f) := fun hn => by
  obtain ⟨b, off, rfl, hlt, hc⟩ := h (by rintro rfl; simp at hn)
  refine ⟨b, off + f * s, by simp [add_mk], hlt, fun k x hx => ?_⟩
  rw [List.getElem?_drop] at hx
  obtain ⟨vs, hr, hl, hv⟩ := hc (f + k) x hx
  refine ⟨vs, hr, hl, fun j v hj => ?_⟩
  have := hv j v hj
  rwa [show off + f * s + k * s + j = off + (f + k) * s + j by rw [Nat.add_mul]; omega]
theorem bx {w w1 : World} {o : Obj} (h : Below (w.alloc o).heap.size (w.alloc o) w1) : Below (w.heap.size + 1) (w.alloc o) w1 := h.mono (by simp)

def nthO : List Oper → Nat → Option Oper
  | o :: _, 0 => some o
  | _ :: l, n + 1 => nthO l n
  | [], _ => none
theorem nthO_spec {ops : Array Oper} {i : Nat} {o : Oper} (h : nthO ops.toList i = some o) : ops[i]? = some o := by
  rw [← Array.getElem?_toList]
  generalize ops.toList = l at h
  induction l generalizing i with
  | nil => simp [nthO] at h
  | cons x l ih =>
    cases i with
    | zero => simpa [nthO] using h
    | succ i => simpa using ih (by simpa [nthO] using h)
def goodFrom (md : Region.Mode) (ops : Array Oper) : Array Bool → List (Nat × Bool) → Bool
  | listed, [] => (Region.ready md ops listed).isEmpty
  | listed, (i, true) :: l => Region.ready md ops listed == [i] && goodFrom md ops (listed.setIfInBounds i true) l
  | listed, (i, false) :: l => (Region.ready md ops listed).contains i && Region.free md ops listed i && goodFrom md ops (listed.setIfInBounds i true) l
def goodOrd (ops : Array Oper) (l : List (Nat × Bool)) : Bool := decide (l.length ≤ ops.size) && goodFrom .any ops (Array.replicate ops.size false) l

section
variable {P : Program} {ops : Array Oper} {Q : Exit → Act → World → Prop} {S : World → Prop}
def wpOrd (P : Program) (ops : Array Oper) (Q : Exit → Act → World → Prop) (S : World → Prop) : List (Nat × Bool) → Act → World → Prop
  | [], a, w => Q .normal a w
  | (i, true) :: l, a, w => wpOp P ops Q i (fun a' w' => S w' ∧ wpOrd P ops Q S l a' w') a w
  | (i, false) :: l, a, w => ∃ oi v, ops[i]? = some oi ∧ YieldsIf P ops S oi v a ∧ wpOrd P ops Q S l (a.put oi.dst v) w

theorem wpAnyH_of_ord (hs : Region.noSelect ops = true) (hQ : ∀ d v c a w, Q (.panic c) (Act.put a (some d) v) w → Q (.panic c) a w) :
    ∀ (l : List (Nat × Bool)) (fuel : Nat) (listed : Array Bool) (a : Act) (w : World), l.length ≤ fuel → goodFrom .any ops listed l = true → S w → wpOrd P ops Q S l a w →
      wpAnyH P .any ops Q S fuel listed a w := by
  intro l
  induction l with
  | nil =>
    intro fuel listed a w _ hg _ h
    exact wpAnyH_done (by simpa [goodFrom] using hg) h fuel
  | cons x l ih =>
    intro fuel listed a w hf hg hS h
    obtain ⟨fuel, rfl⟩ : ∃ f, fuel = f + 1 := ⟨fuel - 1, by simp at hf; omega⟩
    have hf' : l.length ≤ fuel := by simp at hf; omega
    obtain ⟨i, b⟩ := x
    cases b with
    | true =>
      simp only [goodFrom, Bool.and_eq_true, beq_iff_eq] at hg
      refine wpAnyH_all hg.1 (by simp) fun j hj => ?_
      obtain rfl : j = i := by simpa using hj
      exact wpOp_mono (fun a' w' h' => ⟨h'.1, ih fuel _ a' w' hf' hg.2 h'.1 h'.2⟩) h
    | false =>
      simp only [goodFrom, Bool.and_eq_true] at hg
      obtain ⟨oi, v, hi, hy, h'⟩ := h
      exact wpAnyH_take hi hs hg.1.2 hg.1.1 (fun c a w hh => by
        cases hd : oi.dst with
        | none => rw [hd] at hh; exact hh
        | some d => rw [hd] at hh; exact hQ d v c a w hh) hy hS (ih fuel _ _ w hf' hg.2 hS h')

theorem ord_start {id : Nat} {a : Act} {w : World} (S : World → Prop) (l : List (Nat × Bool)) (hm : P.follows .mixedOrders = true) (hs : Region.noSelect ops = true) (hg : goodOrd ops l = true)
    (hQ : ∀ d v c a w, Q (.panic c) (Act.put a (some d) v) w → Q (.panic c) a w) (hS : S w.drew) (h : S w.drew → wpOrd P ops Q S l a w.drew) : (Code.region id ops true).wp P Q a w := by
  unfold goodOrd at hg
  simp only [Bool.and_eq_true, decide_eq_true_eq] at hg
  exact wp_region_held_drew hm hS fun hS => wpAnyH_of_ord hs hQ l _ _ a _ hg.1 hg.2 hS (h hS)

/-- The usual condition: what was there when the region began is as it was. -/
theorem ord_below {id : Nat} {a : Act} {w : World} (l : List (Nat × Bool)) (hm : P.follows .mixedOrders = true) (hs : Region.noSelect ops = true) (hg : goodOrd ops l = true)
    (hQ : ∀ d v c a w, Q (.panic c) (Act.put a (some d) v) w → Q (.panic c) a w) (h : ∀ W, Below w.heap.size w W → wpOrd P ops Q (Below w.heap.size w) l a W) : (Code.region id ops true).wp P Q a w :=
  ord_start (Below w.heap.size w) l hm hs hg hQ (Below.refl _ _).drew fun hS => h _ hS

theorem ord_nil {a : Act} {w : World} (h : Q .normal a w) : wpOrd P ops Q S [] a w := h
theorem ord_skip {i : Nat} {o : Oper} {l : List (Nat × Bool)} {a : Act} {w : World} (ho' : nthO ops.toList i = some o) (hw : Region.wanted o (yielded ops a.tmps) = false)
    (h : wpOrd P ops Q S l (a.put o.dst undef) w) : wpOrd P ops Q S ((i, false) :: l) a w := ⟨o, undef, nthO_spec ho', .inr ⟨hw, rfl⟩, h⟩
theorem ord_cskip {i : Nat} {o : Oper} {l : List (Nat × Bool)} {a : Act} {w : World} (ho' : nthO ops.toList i = some o) (hw : Region.wanted o (yielded ops a.tmps) = false) (hS : S w)
    (h : wpOrd P ops Q S l (a.put o.dst undef) w) : wpOrd P ops Q S ((i, true) :: l) a w := by
  have ho := nthO_spec ho'
  show wpOp P ops Q i _ a w
  unfold wpOp
  rw [ho]
  show if Region.wanted o (yielded ops a.tmps) = true then _ else _
  rw [if_neg (by rw [hw]; decide)]
  exact ⟨hS, h⟩
theorem ord_take {i : Nat} {o : Oper} {v : Value} {l : List (Nat × Bool)} {a : Act} {w : World} (ho' : nthO ops.toList i = some o) (hw : Region.wanted o (yielded ops a.tmps) = true)
    (hy : ∀ W, S W → (execOp a.eval o).run P W = .ok (.value v) W)
    (h : wpOrd P ops Q S l (a.put o.dst v) w) : wpOrd P ops Q S ((i, false) :: l) a w := ⟨o, v, nthO_spec ho', .inl ⟨hw, hy⟩, h⟩
theorem ord_call {i : Nat} {o : Oper} {l : List (Nat × Bool)} {a : Act} {w : World} (ho' : nthO ops.toList i = some o) (hw : Region.wanted o (yielded ops a.tmps) = true)
    (h : ∀ K' : Act → World → Prop, Shut (∀ a w, S w → (S w → wpOrd P ops Q S l a w) → K' a w) → Oper.wp P o a w K' Q) : wpOrd P ops Q S ((i, true) :: l) a w := by
  have ho := nthO_spec ho'
  show wpOp P ops Q i _ a w
  refine wpOp_step ho fun K' hK => ?_
  rw [if_pos hw]
  exact h K' fun a w hS hW => hK a w ⟨hS, hW hS⟩
end
end Go.Proofs.Ytcimnkijpifkjaa

/-
  Rows that a call makes for itself: what they read as; an element appended.
-/
namespace Go.Proofs.Ytcimnkijpifkjaa
open Go Go.RowKit

/-- A row of the call's own reads as the list whose elements' cells it holds. -/
theorem own_slr {α : Type} {w : World} {base : Nat} {e : TypeId} {s n : Nat} {v : Value} {xs : List α} {enc : α → List Value} {R : World → α → List Value → Prop}
    (hown : w.ownsRow base e s v n (xs.flatMap enc)) (hl : ∀ x, (enc x).length = s) (hR : ∀ x, R w x (enc x)) (hn : n = xs.length) :
    ∃ A cap, v = .slice A n cap ∧ n ≤ cap ∧ cap ≤ maxLen ∧ SlR s R w A xs := by
  have hget : ∀ (l : List α) (k : Nat) (x : α), l[k]? = some x → ∀ j u, (enc x)[j]? = some u → (l.flatMap enc)[k * s + j]? = some u := by
    intro l
    induction l with
    | nil => intro k x h; simp at h
    | cons y l ih =>
      intro k x hx j u hu
      cases k with
      | zero =>
        simp at hx; subst hx
        obtain ⟨hj, _⟩ := List.getElem?_eq_some_iff.1 hu
        rw [List.flatMap_cons, Nat.zero_mul, Nat.zero_add, List.getElem?_append_left hj]
        exact hu
      | succ k =>
        rw [List.flatMap_cons, List.getElem?_append_right (by rw [hl, Nat.succ_mul]; omega)]
        rw [hl, show (k + 1) * s + j - s = k * s + j by rw [Nat.succ_mul]; omega]
        exact ih k x (by simpa using hx) j u hu
  rcases hown.2 with ⟨rfl, h0⟩ | ⟨g, cap, cur, rfl, hg, hh, hnc, hcm, hcs, htk⟩
  · subst h0
    have : xs = [] := List.length_eq_zero_iff.1 hn.symm
    subst this
    exact ⟨none, 0, rfl, Nat.le_refl _, Nat.zero_le _, SlR.nil⟩
  · refine ⟨some ⟨g, 0, none⟩, cap, rfl, hnc, hcm, fun _ => ⟨g, 0, rfl, ?_, fun k x hx => ⟨enc x, hR x, hl x, fun j u hu => ?_⟩⟩⟩
    · rcases Nat.lt_or_ge g w.heap.size with h | h
      · exact h
      · rw [Array.getElem?_eq_none h] at hh; cases hh
    · have h1 := hget xs k x hx j u hu
      rw [← htk] at h1
      have h2 : cur.toList[k * s + j]? = some u := by
        rw [List.getElem?_take] at h1
        split at h1
        · exact h1
        · cases h1
      unfold World.cell?
      simp only [hh, Nat.zero_add, Option.isSome_none]
      simpa using h2

theorem own_empty (w : World) (e : TypeId) (s base : Nat) (hb : base ≤ w.heap.size) : (w.alloc (.cells #[] e)).ownsRow base e s (.slice (some ⟨w.heap.size, 0, none⟩) 0 0) 0 [] := by
  have h : (w.alloc (.cells #[] e)).heap[w.heap.size]? = some (.cells #[] e) := heap_alloc_new w _
  exact ⟨by simp, .inr ⟨w.heap.size, 0, #[], rfl, hb, h, Nat.le_refl _, Nat.zero_le _, by simp, by simp⟩⟩
theorem own_nil (w : World) (e : TypeId) (s base : Nat) : w.ownsRow base e s (.slice none 0 0) 0 [] := ⟨by simp, .inl ⟨rfl, rfl⟩⟩
theorem own_block_le {w : World} {base : Nat} {e : TypeId} {s n : Nat} {v : Value} {xs : List Value} (h : w.ownsRow base e s v n xs) : ∀ k, v.ownBlock = some k → base ≤ k := fun k hk => by
  rcases h.2 with ⟨rfl, _⟩ | ⟨g, cap, cur, rfl, hg, _⟩
  · simp [Value.ownBlock] at hk
  · simp [Value.ownBlock] at hk; omega

/-- Behind an append: every old block but the row's own is as it was; the row lies where it lay, or in the next new block. -/
structure Apps (w w' : World) (v v' : Value) : Prop where
  keep : ∀ k, k < w.heap.size → v.ownBlock ≠ some k → w'.heap[k]? = w.heap[k]?
  at_ : v'.ownBlock = v.ownBlock ∨ ∃ k, v'.ownBlock = some k ∧ w.heap.size ≤ k
theorem Apps.cell {w w' : World} {v v' : Value} (h : Apps w w' v v') {b o : Nat} (hb : b < w.heap.size) (hne : v.ownBlock ≠ some b) : w'.cell? ⟨b, o, none⟩ = w.cell? ⟨b, o, none⟩ := World.cell?_of_block (h.keep b hb hne)
theorem Apps.frozen {w w' : World} {v v' : Value} (h : Apps w w' v v') {b o : Nat} (hb : b < w.heap.size) (hne : v.ownBlock ≠ some b) : w'.frozen? ⟨b, o, none⟩ = w.frozen? ⟨b, o, none⟩ := World.frozen?_of_block (h.keep b hb hne)
theorem Apps.ne {w w' : World} {v v' : Value} (h : Apps w w' v v') {b : Nat} (hb : b < w.heap.size) (hne : v.ownBlock ≠ some b) : v'.ownBlock ≠ some b := fun e => by
  rcases h.at_ with h1 | ⟨k, h1, h2⟩
  · exact hne (by rw [← h1]; exact e)
  · rw [h1] at e; injection e with e; omega
theorem own_lt {w : World} {base : Nat} {e : TypeId} {s n : Nat} {v : Value} {xs : List Value} (h : w.ownsRow base e s v n xs) {k : Nat} (hk : w.heap.size ≤ k) : v.ownBlock ≠ some k := fun e => by
  rcases h.2 with ⟨rfl, _⟩ | ⟨g, cap, cur, rfl, _, hh, _⟩
  · simp [Value.ownBlock] at e
  · simp [Value.ownBlock] at e
    subst e
    rw [Array.getElem?_eq_none hk] at hh; cases hh
theorem own_base {w : World} {base base' : Nat} {e : TypeId} {s n : Nat} {v : Value} {xs : List Value} (h : w.ownsRow base e s v n xs) (hb : base' ≤ base) : w.ownsRow base' e s v n xs := by
  obtain ⟨h1, h2⟩ := h
  refine ⟨h1, h2.imp id fun ⟨g, cap, cur, hv, hg, r⟩ => ⟨g, cap, cur, hv, by omega, r⟩⟩
theorem own_set {w : World} {base : Nat} {e : TypeId} {s n : Nat} {v : Value} {xs : List Value} (h : w.ownsRow base e s v n xs) {a : Addr} (ha : v.ownBlock ≠ some a.block) (u : Value) : (w.setCell a u).ownsRow base e s v n xs := by
  obtain ⟨h1, h2⟩ := h
  refine ⟨h1, ?_⟩
  rcases h2 with h2 | ⟨g, cap, cur, rfl, hg, hh, r⟩
  · exact .inl h2
  · refine .inr ⟨g, cap, cur, rfl, hg, ?_, r⟩
    rw [Below.heap_setCell _ _ _ _ (fun e => ha (by rw [← e]; rfl))]
    exact hh
theorem own_below {w w' : World} {base : Nat} {e : TypeId} {s n : Nat} {v : Value} {xs : List Value} (h : w.ownsRow base e s v n xs) (hb : Below w.heap.size w w') : w'.ownsRow base e s v n xs := by
  obtain ⟨h1, h2⟩ := h
  refine ⟨h1, ?_⟩
  rcases h2 with h2 | ⟨g, cap, cur, rfl, hg, hh, r⟩
  · exact .inl h2
  · refine .inr ⟨g, cap, cur, rfl, hg, ?_, r⟩
    have : g < w.heap.size := by
      rcases Nat.lt_or_ge g w.heap.size with h | h
      · exact h
      · rw [Array.getElem?_eq_none h] at hh; cases hh
    rw [hb.block g this]
    exact hh

section
variable {P : Program}
/-- 'append(out, x)': x's cells lie in a block that was just made. -/
theorem wpList_app1 {ops : Array Oper} {rest : List Oper} {o : Oper} {a : Act} {Q : Exit → Act → World → Prop} {w : World} (hgd : o.guard = none) (s x : Operand) (t : TypeId)
    (ho : o.op = .call { callee := .builtin .append, args := #[s, x], argTypes := #[t, t] })
    (base : Nat) (e : TypeId) (i : TypeInfo) (z : Value) (size bytes : Nat) (ht : P.underlying t = some (.slice e)) (hi : P.info? e = some i) (hz : i.zero = some z)
    (hsize : i.size = size) (hby : i.bytes = bytes) (hzs : z.cells.size = size) (hsz : 0 < size)
    (v : Value) (n : Nat) (xs : List Value) (hs : a.eval s = v) (w0 : World) (vs : List Value) (hw : w = w0.alloc (.cells vs.toArray e)) (hown : w0.ownsRow base e size v n xs)
    (g : Nat) (hx : a.eval x = .slice (some ⟨g, 0, none⟩) 1 1) (hg : g = w0.heap.size) (hl : vs.length = size) (h1 : ∀ u ∈ vs, u.oneCell' = true)
    (hn : n ≤ 1000000) (hbb : bytes ≤ 1000) (hbase : base ≤ w0.heap.size)
    (h : ∀ v' w', w'.ownsRow base e size v' (n + 1) (xs ++ vs) → Below base w0 w' → Apps w0 w' v v' → wpList P ops Q rest (a.put o.dst v') w') : wpList P ops Q (o :: rest) a w := by
  subst hw
  subst hg
  have hb1 : (n + 1) * bytes ≤ 1000001 * 1000 := Nat.mul_le_mul (by omega) hbb
  refine wpList_plain hgd fun K hK => ?_
  obtain ⟨v', w', hrun, h2, h3, _, h5⟩ := run_append_own_at (P := P) (w0.alloc (.cells vs.toArray e)) base t o.type e i z size bytes ht hi hz hsize hby hzs hsz v n xs (hown.alloc _) ⟨w0.heap.size, 0, none⟩ 1 1 vs (by rw [hl]; omega)
    (fun j u hj => by rw [add_mk, Nat.zero_add, new_cell]; simpa using hj) h1 (by unfold maxLen; omega) (by omega) (by simp; omega)
  unfold Oper.wp execOp
  simp only [ho, resolve, invoke, builtin, Sem.run_bind, Sem.run_pure, Result.andThen_ok, List.map_toArray, List.map_cons, List.map_nil, hs, hx, hrun]
  refine hK _ _ (h v' w' h2 (((Below.refl _ _).alloc hbase _).grown h3 (by simp; omega) (own_block_le hown)) ⟨fun k hk hne => ?_, ?_⟩)
  · exact (h3.block k (by simp; omega) (fun e => hne e.symm)).trans (Below.heap_alloc _ _ _ hk)
  · rcases h5 with h5 | h5
    · exact .inl h5
    · exact .inr ⟨_, h5, by simp⟩
end
end Go.Proofs.Ytcimnkijpifkjaa

/-
  A region that draws its order and ends in stores: the condition S is not asked behind the stores 'ts', which wait for all that reads.
-/
namespace Go.Proofs.Ytcimnkijpifkjaa
open Go Go.RowKit

/-- Operation t waits for operation i. -/
def waitsFor (ops : Array Oper) (t i : Nat) : Bool := match ops[t]? with
  | some o => o.after.any fun e => Region.binds .any e && e.on == i
  | none => false
def goodFromT (ops : Array Oper) (ts : List Nat) : Array Bool → List (Nat × Bool) → Bool
  | listed, [] => (Region.ready .any ops listed).isEmpty
  | listed, (i, true) :: l => Region.ready .any ops listed == [i] && goodFromT ops ts (listed.setIfInBounds i true) l
  | listed, (i, false) :: l => (Region.ready .any ops listed).contains i && Region.free .any ops listed i && ts.all (fun t => waitsFor ops t i) && goodFromT ops ts (listed.setIfInBounds i true) l
def goodOrdT (ops : Array Oper) (ts : List Nat) (l : List (Nat × Bool)) : Bool := decide (l.length ≤ ops.size) && goodFromT ops ts (Array.replicate ops.size false) l

section
variable {P : Program} {ops : Array Oper} {Q : Exit → Act → World → Prop} {S : World → Prop} {ts : List Nat}
def wpAnyT (P : Program) (ops : Array Oper) (Q : Exit → Act → World → Prop) (S : World → Prop) (ts : List Nat) : Nat → Array Bool → Act → World → Prop
  | 0, listed, a, w => Region.ready .any ops listed = [] ∧ Q .normal a w
  | fuel + 1, listed, a, w =>
    (Region.ready .any ops listed = [] → Q .normal a w) ∧
    ∀ i ∈ Region.ready .any ops listed, wpOp P ops Q i (fun a' w' => (ts.contains i = false → S w') ∧ wpAnyT P ops Q S ts fuel (listed.setIfInBounds i true) a' w') a w
theorem wpAny_of_T : ∀ (fuel : Nat) (listed : Array Bool) (a : Act) (w : World), wpAnyT P ops Q S ts fuel listed a w → wpAny P .any ops Q fuel listed a w
  | 0, _, _, _, h => h
  | fuel + 1, _, _, _, h => ⟨h.1, fun i hi => wpOp_mono (fun a' w' h' => wpAny_of_T fuel _ a' w' h'.2) (h.2 i hi)⟩
theorem wpAnyT_first {i : Nat} {oi : Oper} {v : Value} (hi : ops[i]? = some oi) (hsel : ∀ (j : Nat) (o : Oper) cs b, ops[j]? = some o → o.op ≠ .select cs b)
    (hQ : ∀ c a w, Q (.panic c) (a.put oi.dst v) w → Q (.panic c) a w) (hts : ∀ t ∈ ts, waitsFor ops t i = true) :
    ∀ (fuel : Nat) (listed : Array Bool) (a : Act) (w : World),
      (∀ j oj, ops[j]? = some oj → j ≠ i → listed.getD j true = false → (∀ e ∈ oj.after, Region.binds .any e = true → e.on ≠ i) → oi.apart ops oj = true) →
      i ∈ Region.ready .any ops listed → YieldsIf P ops S oi v a → S w →
      wpAnyT P ops Q S ts fuel (listed.setIfInBounds i true) (a.put oi.dst v) w → wpAnyT P ops Q S ts (fuel + 1) listed a w := by
  intro fuel
  induction fuel with
  | zero =>
    intro listed a w _ hr hy hS H
    refine ⟨fun h => (by rw [h] at hr; cases hr), fun j hj => ?_⟩
    by_cases hji : j = i
    · subst hji; exact hy.wpOp hi hS ⟨fun _ => hS, H⟩
    · have h1 := ready_mono hj hji
      rw [H.1] at h1
      cases h1
  | succ fuel ih =>
    intro listed a w hfree hr hy hS H
    refine ⟨fun h => (by rw [h] at hr; cases hr), fun j hj => ?_⟩
    by_cases hji : j = i
    · subst hji; exact hy.wpOp hi hS ⟨fun _ => hS, H⟩
    · obtain ⟨hjun, oj, hoj, hall⟩ := mem_ready.1 hj
      have hiun := (mem_ready.1 hr).1
      have hnot : ∀ e ∈ oj.after, Region.binds .any e = true → e.on ≠ i := fun e he hb heq => by
        have h2 := hall e he hb
        rw [heq] at h2
        rcases Nat.lt_or_ge i listed.size with h' | h'
        · simp [h'] at hiun h2; rw [hiun] at h2; cases h2
        · simp [Array.getElem?_eq_none h'] at h2
      have hjt : ts.contains j = false := by
        cases hc : ts.contains j
        · rfl
        · have hw := hts j (by simpa using hc)
          unfold waitsFor at hw
          simp only [hoj] at hw
          obtain ⟨k, hk, he⟩ := Array.any_eq_true.1 hw
          simp only [Bool.and_eq_true, beq_iff_eq] at he
          exact absurd he.2 (hnot _ (Array.getElem_mem hk) he.1)
      have h2 := wpOp_putIf hoj (hfree j oj hoj hji hjun hnot) (fun cs b => hsel i oi cs b hi) (fun cs b => hsel j oj cs b hoj) hQ hy (H.2 j (ready_mono hj hji))
      have hfree' : ∀ k ok, ops[k]? = some ok → k ≠ i → (listed.setIfInBounds j true).getD k true = false →
          (∀ e ∈ ok.after, Region.binds .any e = true → e.on ≠ i) → oi.apart ops ok = true := fun k ok hk hki hun hno => by
        refine hfree k ok hk hki ?_ hno
        by_cases hjk : j = k
        · subst hjk; exact hjun
        · rw [getD_set_ne true hjk] at hun; exact hun
      refine wpOp_mono (fun a' w' h3 => ?_) h2
      have hS' := h3.2.1 hjt
      refine ⟨fun _ => hS', ih (listed.setIfInBounds j true) a' w' hfree' (ready_mono hr (Ne.symm hji)) h3.1 hS' ?_⟩
      rw [Array.setIfInBounds_comm _ _ hji]
      exact h3.2.2

def wpOrdT (P : Program) (ops : Array Oper) (Q : Exit → Act → World → Prop) (S : World → Prop) (ts : List Nat) : List (Nat × Bool) → Act → World → Prop
  | [], a, w => Q .normal a w
  | (i, true) :: l, a, w => wpOp P ops Q i (fun a' w' => (ts.contains i = false → S w') ∧ wpOrdT P ops Q S ts l a' w') a w
  | (i, false) :: l, a, w => ∃ oi v, ops[i]? = some oi ∧ YieldsIf P ops S oi v a ∧ S w ∧ wpOrdT P ops Q S ts l (a.put oi.dst v) w
theorem wpAnyT_of_ord (hs : Region.noSelect ops = true) (hQ : ∀ d v c a w, Q (.panic c) (Act.put a (some d) v) w → Q (.panic c) a w) :
    ∀ (l : List (Nat × Bool)) (fuel : Nat) (listed : Array Bool) (a : Act) (w : World), l.length ≤ fuel → goodFromT ops ts listed l = true → wpOrdT P ops Q S ts l a w →
      wpAnyT P ops Q S ts fuel listed a w := by
  intro l
  induction l with
  | nil =>
    intro fuel listed a w _ hg h
    have hr : Region.ready .any ops listed = [] := by simpa [goodFromT] using hg
    cases fuel with
    | zero => exact ⟨hr, h⟩
    | succ fuel => exact ⟨fun _ => h, by rw [hr]; simp⟩
  | cons x l ih =>
    intro fuel listed a w hf hg h
    obtain ⟨fuel, rfl⟩ : ∃ f, fuel = f + 1 := ⟨fuel - 1, by simp at hf; omega⟩
    have hf' : l.length ≤ fuel := by simp at hf; omega
    obtain ⟨i, b⟩ := x
    cases b with
    | true =>
      simp only [goodFromT, Bool.and_eq_true, beq_iff_eq] at hg
      refine ⟨fun h0 => absurd (h0.symm.trans hg.1) (by simp), fun j hj => ?_⟩
      rw [hg.1] at hj
      obtain rfl : j = i := by simpa using hj
      exact wpOp_mono (fun a' w' h' => ⟨h'.1, ih fuel _ a' w' hf' hg.2 h'.2⟩) h
    | false =>
      simp only [goodFromT, Bool.and_eq_true, List.all_eq_true] at hg
      obtain ⟨oi, v, hi, hy, hS, h'⟩ := h
      refine wpAnyT_first hi (Region.noSelect_spec hs) (fun c a w hh => ?_) hg.1.2 fuel listed a w (Region.free_spec hi hg.1.1.2) (by simpa using hg.1.1.1) hy hS (ih fuel _ _ w hf' hg.2 h')
      cases hd : oi.dst with
      | none => rw [hd] at hh; exact hh
      | some d => rw [hd] at hh; exact hQ d v c a w hh
theorem ordT_below {id : Nat} {a : Act} {w : World} (ts : List Nat) (l : List (Nat × Bool)) (hm : P.follows .mixedOrders = true) (hs : Region.noSelect ops = true) (hg : goodOrdT ops ts l = true)
    (hQ : ∀ d v c a w, Q (.panic c) (Act.put a (some d) v) w → Q (.panic c) a w) (h : ∀ W, Below w.heap.size w W → wpOrdT P ops Q (Below w.heap.size w) ts l a W) : (Code.region id ops true).wp P Q a w := by
  unfold goodOrdT at hg
  simp only [Bool.and_eq_true, decide_eq_true_eq] at hg
  exact wp_region_any hm (wpAny_of_T _ _ _ _ (wpAnyT_of_ord hs hQ l _ _ a _ hg.1 hg.2 (h _ (Below.refl _ _).drew)))

theorem ordT_nil {a : Act} {w : World} (h : Q .normal a w) : wpOrdT P ops Q S ts [] a w := h
theorem ordT_skip {i : Nat} {o : Oper} {l : List (Nat × Bool)} {a : Act} {w : World} (ho' : nthO ops.toList i = some o) (hw : Region.wanted o (yielded ops a.tmps) = false) (hS : S w)
    (h : wpOrdT P ops Q S ts l (a.put o.dst undef) w) : wpOrdT P ops Q S ts ((i, false) :: l) a w := ⟨o, undef, nthO_spec ho', .inr ⟨hw, rfl⟩, hS, h⟩
theorem ordT_cskip {i : Nat} {o : Oper} {l : List (Nat × Bool)} {a : Act} {w : World} (ho' : nthO ops.toList i = some o) (hw : Region.wanted o (yielded ops a.tmps) = false) (hS : S w)
    (h : wpOrdT P ops Q S ts l (a.put o.dst undef) w) : wpOrdT P ops Q S ts ((i, true) :: l) a w := by
  have ho := nthO_spec ho'
  show wpOp P ops Q i _ a w
  unfold wpOp
  rw [ho]
  show if Region.wanted o (yielded ops a.tmps) = true then _ else _
  rw [if_neg (by rw [hw]; decide)]
  exact ⟨fun _ => hS, h⟩
theorem ordT_take {i : Nat} {o : Oper} {v : Value} {l : List (Nat × Bool)} {a : Act} {w : World} (ho' : nthO ops.toList i = some o) (hw : Region.wanted o (yielded ops a.tmps) = true) (hS : S w)
    (hy : ∀ W, S W → (execOp a.eval o).run P W = .ok (.value v) W)
    (h : wpOrdT P ops Q S ts l (a.put o.dst v) w) : wpOrdT P ops Q S ts ((i, false) :: l) a w := ⟨o, v, nthO_spec ho', .inl ⟨hw, hy⟩, hS, h⟩
theorem ordT_call {i : Nat} {o : Oper} {l : List (Nat × Bool)} {a : Act} {w : World} (ho' : nthO ops.toList i = some o) (hw : Region.wanted o (yielded ops a.tmps) = true)
    (h : ∀ K' : Act → World → Prop, Shut (∀ a w, (ts.contains i = false → S w) → wpOrdT P ops Q S ts l a w → K' a w) → Oper.wp P o a w K' Q) : wpOrdT P ops Q S ts ((i, true) :: l) a w := by
  have ho := nthO_spec ho'
  show wpOp P ops Q i _ a w
  refine wpOp_step ho fun K' hK => ?_
  rw [if_pos hw]
  exact h K' fun a w hS hW => hK a w ⟨hS, hW⟩
end
end Go.Proofs.Ytcimnkijpifkjaa

/-
  Blocks that are known whole, beside rows of the call's own.
-/
namespace Go.Proofs.Ytcimnkijpifkjaa
open Go Go.RowKit

/-- Block g holds just the cells cs, none frozen. -/
def Blk (w : World) (g : Nat) (t : TypeId) (cs : Array Value) : Prop := w.heap[g]? = some (.cells cs t (0, 0))
section
variable {w w' : World} {g : Nat} {t : TypeId} {cs : Array Value}
theorem Blk.lt (h : Blk w g t cs) : g < w.heap.size := by
  rcases Nat.lt_or_ge g w.heap.size with hlt | hge
  · exact hlt
  · unfold Blk at h; rw [Array.getElem?_eq_none hge] at h; cases h
theorem Blk.cell (h : Blk w g t cs) (i : Nat) : w.cell? ⟨g, i, none⟩ = cs[i]? := by
  unfold Blk at h; unfold World.cell?; simp only [h]; rfl
theorem Blk.frozen (h : Blk w g t cs) (i : Nat) : w.frozen? ⟨g, i, none⟩ = false := by
  unfold Blk at h; unfold World.frozen?; simp only [h]; simp
theorem Blk.new (w : World) (t : TypeId) (cs : Array Value) : Blk (w.alloc (.cells cs t)) w.heap.size t cs := heap_alloc_new w _
theorem Blk.new_ {w : World} {g : Nat} {t : TypeId} {cs : Array Value} (hg : g = w.heap.size) : Blk (w.alloc (.cells cs t)) g t cs := by subst hg; exact heap_alloc_new w _
theorem Blk.alloc (h : Blk w g t cs) (o : Obj) : Blk (w.alloc o) g t cs := (Below.heap_alloc w o g h.lt).trans h
theorem Blk.drewN (h : Blk w g t cs) (n : Nat) : Blk (w.drewN n) g t cs := h
theorem Blk.set_ (h : Blk w g t cs) (i : Nat) (u : Value) : Blk (w.setCell ⟨g, i, none⟩ u) g t (cs.setIfInBounds i u) := by
  unfold Blk at h ⊢
  simp [World.setCell, Array.getElem?_modify, h]
theorem Blk.far (h : Blk w g t cs) {p : Addr} (hp : g ≠ p.block) (u : Value) : Blk (w.setCell p u) g t cs := (Below.heap_setCell w p u g hp).trans h
theorem Blk.below {B : Nat} (h : Blk w g t cs) (hb : Below B w w') (hg : g < B) : Blk w' g t cs := (hb.block g hg).trans h
theorem Blk.apps {v v' : Value} (h : Blk w g t cs) (ha : Apps w w' v v') (hne : v.ownBlock ≠ some g) : Blk w' g t cs := (ha.keep g h.lt hne).trans h
end
section
variable {w w' : World} {base : Nat} {e e' : TypeId} {s s' n n' : Nat} {v v' v2 : Value} {xs xs' : List Value}
/-- A row is kept where its block is. -/
theorem own_keep (h : w.ownsRow base e s v n xs) (hk : ∀ g, v.ownBlock = some g → g < w.heap.size → w'.heap[g]? = w.heap[g]?) : w'.ownsRow base e s v n xs := by
  obtain ⟨h1, h2⟩ := h
  refine ⟨h1, ?_⟩
  rcases h2 with h2 | ⟨g, cap, cur, rfl, hg, hh, r⟩
  · exact .inl h2
  · refine .inr ⟨g, cap, cur, rfl, hg, ?_, r⟩
    have : g < w.heap.size := by
      rcases Nat.lt_or_ge g w.heap.size with h | h
      · exact h
      · rw [Array.getElem?_eq_none h] at hh; cases hh
    rw [hk g rfl this]
    exact hh
/-- Rows of different types lie in different blocks. -/
theorem own_ne (h : w.ownsRow base e s v n xs) {base' : Nat} (h' : w.ownsRow base' e' s' v' n' xs') (hne : e ≠ e') (g : Nat) (hg : v.ownBlock = some g) : v'.ownBlock ≠ some g := fun hg' => by
  rcases h.2 with ⟨rfl, _⟩ | ⟨g1, cap, cur, rfl, _, hh, _⟩
  · simp [Value.ownBlock] at hg
  · rcases h'.2 with ⟨rfl, _⟩ | ⟨g2, cap', cur', rfl, _, hh', _⟩
    · simp [Value.ownBlock] at hg'
    · simp [Value.ownBlock] at hg hg'
      subst hg; subst hg'
      rw [hh] at hh'
      injection hh' with hh'
      injection hh' with _ ht
      exact hne ht
theorem own_blk_ne (h : w.ownsRow base e s v n xs) {g : Nat} {t : TypeId} {cs : Array Value} (hb : Blk w g t cs) (hne : e ≠ t) : v.ownBlock ≠ some g := fun hg => by
  rcases h.2 with ⟨rfl, _⟩ | ⟨g1, cap, cur, rfl, _, hh, _⟩
  · simp [Value.ownBlock] at hg
  · simp [Value.ownBlock] at hg
    subst hg
    unfold Blk at hb
    rw [hh] at hb
    injection hb with hb
    injection hb with _ ht
    exact hne ht
theorem own_apps (h : w.ownsRow base e s v n xs) {base' : Nat} (h' : w.ownsRow base' e' s' v2 n' xs') (hne : e ≠ e') {v2' : Value} (ha : Apps w w' v2 v2') : w'.ownsRow base e s v n xs :=
  own_keep h fun g hg hlt => ha.keep g hlt (own_ne h h' hne g hg)
end
theorem own_lit (w : World) (cs : Array Value) (e : TypeId) (s n base g : Nat) (hg : g = w.heap.size) (hb : base ≤ w.heap.size) (hs : cs.size = n * s) (hn : n ≤ maxLen) :
    (w.alloc (.cells cs e)).ownsRow base e s (.slice (some ⟨g, 0, none⟩) n n) n cs.toList := by
  subst hg
  have h : (w.alloc (.cells cs e)).heap[w.heap.size]? = some (.cells cs e) := heap_alloc_new w _
  exact ⟨by simpa using hs, .inr ⟨w.heap.size, n, cs, rfl, hb, h, Nat.le_refl _, hn, hs, by rw [List.take_of_length_le (by simp [hs])]⟩⟩
theorem flatMap_one {α β : Type} (f : α → β) (l : List α) : l.flatMap (fun x => [f x]) = l.map f := by
  induction l with
  | nil => rfl
  | cons x l ih => rw [List.flatMap_cons, ih]; rfl
/-- A row of the call's own, as a list of strings or numbers. -/
theorem own_strs {w : World} {base : Nat} {e : TypeId} {v : Value} {n : Nat} {xs : List ByteArray} (h : w.ownsRow base e 1 v n (xs.map Value.string)) (hn : n = xs.length) :
    ∃ A cap, v = .slice A n cap ∧ n ≤ cap ∧ cap ≤ maxLen ∧ SlR 1 RStr w A xs :=
  own_slr (enc := fun s => [.string s]) (by rw [flatMap_one]; exact h) (fun _ => rfl) (fun _ => rfl) hn
theorem own_ints {w : World} {base : Nat} {e : TypeId} {v : Value} {n : Nat} {xs : List Int} (h : w.ownsRow base e 1 v n (xs.map (Value.int .i64))) (hn : n = xs.length) :
    ∃ A cap, v = .slice A n cap ∧ n ≤ cap ∧ cap ≤ maxLen ∧ SlR 1 RInt w A xs :=
  own_slr (enc := fun s => [.int .i64 s]) (by rw [flatMap_one]; exact h) (fun _ => rfl) (fun _ => rfl) hn
end Go.Proofs.Ytcimnkijpifkjaa

/-
  The walks of layers 15 and 16: graphs in memory; whether a graph is valid.
-/
namespace Go.Proofs.Ytcimnkijpifkjaa
open Go Go.RowKit

abbrev vLk (l : Lk) : Value := .agg #[.int .i64 l.fr, .int .i64 l.to, .int .i64 l.lb, .int .i64 l.cost]
def RLk (_ : World) (x : Lk) (vs : List Value) : Prop := vs = [.int .i64 x.fr, .int .i64 x.to, .int .i64 x.lb, .int .i64 x.cost]
theorem keeps_lk : Keeps RLk := fun _ _ _ _ _ h => h
theorem SlR.lk {w : World} {A : Option Addr} {k : Nat} {xs : List Lk} (h : SlR 4 RLk w A xs) (hk : k < xs.length) : ∃ b off x, A = some ⟨b, off, none⟩ ∧ b < w.heap.size ∧ xs[k]? = some x ∧
    w.cell? ⟨b, off + k * 4, none⟩ = some (.int .i64 x.fr) ∧ w.cell? ⟨b, off + k * 4 + 1, none⟩ = some (.int .i64 x.to) ∧ w.cell? ⟨b, off + k * 4 + 2, none⟩ = some (.int .i64 x.lb) ∧
    w.cell? ⟨b, off + k * 4 + 3, none⟩ = some (.int .i64 x.cost) := by
  obtain ⟨b, off, x, vs, hA, hlt, hx, hr, _, hv⟩ := h.at_ hk
  exact ⟨b, off, x, hA, hlt, hx, hv 0 _ (by rw [hr]; rfl), hv 1 _ (by rw [hr]; rfl), hv 2 _ (by rw [hr]; rfl), hv 3 _ (by rw [hr]; rfl)⟩
theorem nw {w W : World} (o : Obj) (h : Below w.heap.size w W) : Below w.heap.size w (W.alloc o) := h.alloc h.size o
theorem bthen {a b c : World} (h1 : Below a.heap.size a b) (h2 : Below b.heap.size b c) : Below a.heap.size a c := h1.trans (h2.mono h1.size)
theorem gr_no {g : Gr} {k : Nat} {l : Lk} (h : g.ls[k]? = some l) (hl : lkB g.n l = false) : grB g = false := by
  unfold grB
  rw [show g.ls.all (lkB g.n) = false from List.all_eq_false.2 ⟨l, List.mem_of_getElem? h, by rw [hl]; simp⟩]
  simp

set_option maxRecDepth 100000 in
set_option maxHeartbeats 4000000 in
theorem valid_any (A : Option Addr) (c : Nat) (g : Gr) (w : World) (hx : SlR 4 RLk w A g.ls) (hl : g.ls.length ≤ maxLen) :
    Calls Try.prog 46 #[.agg #[.int .i64 g.n, .slice A g.ls.length c]] w fun e w' => e = .returned (.bool (grB g)) ∧ Below w.heap.size w w' := by
  unfold maxLen at hl
  obtain ⟨w1, hw1⟩ : ∃ w1, w.alloc (.cells #[.int .i64 g.n, .slice A g.ls.length c] 46) = w1 := ⟨_, rfl⟩
  have hb1 : Below w.heap.size w w1 := by rw [← hw1]; exact nw _ (Below.refl _ _)
  have HB1 : Hid (Blk w1 w.heap.size 46 #[.int .i64 g.n, .slice A g.ls.length c]) := by rw [← hw1]; exact Blk.new _ _ _
  have HW1 := Lib.hid hw1
  have c0 := HB1.out.cell 0
  have c1 := HB1.out.cell 1
  have lb := HB1.out.lt
  simp at c0 c1
  clear hw1
  go_enter Try.func46, Try.ntmps46
  go_wp2_with fail
  all_goals (rw [HW1.out])
  all_goals first
    | (go_ret; exact ⟨ret_bool (by unfold grB; simp; omega), hb1⟩)
    | skip
  go_loopw [22] (fun i wr => ∃ k : Nat, k ≤ g.ls.length ∧ Hid (∀ l ∈ g.ls.take k, lkB g.n l = true) ∧ i = .int .i64 k ∧ Below w1.heap.size w1 wr) (fun i _ => g.ls.length - (intOf i).toNat)
  case atStart => exact ⟨0, by omega, (by show ∀ l ∈ g.ls.take 0, _; simp), rfl, Below.refl _ _⟩
  case round =>
    obtain ⟨k, hk, HS, rfl, hbr⟩ := hrel
    have hB := HB1.out.below hbr lb
    have r0 := hB.cell 0
    have r1 := hB.cell 1
    have rl := hB.lt
    simp at r0 r1
    have HBr := Lib.hid hbr
    have hbw := bthen hb1 hbr
    by_cases hlt : k < g.ls.length
    · obtain ⟨b, off, l, rfl, hbb, hll, d0, d1, d2, d3⟩ := (hx.below keeps_lk hbw).lk hlt
      have HL := Lib.hid hll
      clear hll hB hbr
      go_wp2_with fail
      all_goals first
        | (go_roundw
           case rel => exact ⟨k + 1, by omega, (by
              show ∀ l ∈ g.ls.take (k + 1), lkB g.n l = true
              rw [take_succ_of HL.out]
              intro l' hl'
              rcases List.mem_append.1 hl' with h | h
              · exact HS.out l' h
              · obtain rfl := List.mem_singleton.1 h
                unfold lkB; simp; omega), by go_num, nw _ HBr.out⟩
           case measure => simp [intOf]; omega)
        | (go_ret; exact ⟨ret_bool (gr_no HL.out (by unfold lkB; simp; omega)).symm, bthen hb1 (nw _ HBr.out)⟩)
    · go_wp2_with fail
      go_ret
      refine ⟨ret_bool ?_, hbw⟩
      have h1 := HS.out
      rw [List.take_of_length_le (by omega)] at h1
      unfold grB
      rw [List.all_eq_true.2 h1]
      simp
      omega

end Go.Proofs.Ytcimnkijpifkjaa

/-
  The walks of layers 15 and 16: lists of whole numbers compared.
-/
namespace Go.Proofs.Ytcimnkijpifkjaa
open Go Go.RowKit

def SameTo {α : Type} (xs ys : List α) (k : Nat) : Prop := xs.take k = ys.take k
theorem SameTo.succ {α : Type} {xs ys : List α} {k : Nat} {x : α} (h : SameTo xs ys k) (hx : xs[k]? = some x) (hy : ys[k]? = some x) : SameTo xs ys (k + 1) := by
  unfold SameTo at *
  rw [take_succ_of hx, take_succ_of hy, h]
theorem SameTo.all {α : Type} {xs ys : List α} {k : Nat} (h : SameTo xs ys k) (hx : xs.length ≤ k) (hy : ys.length ≤ k) : xs = ys := by
  unfold SameTo at h
  rwa [List.take_of_length_le hx, List.take_of_length_le hy] at h
theorem ne_at {α : Type} {xs ys : List α} {k : Nat} {x y : α} (hx : xs[k]? = some x) (hy : ys[k]? = some y) (h : x ≠ y) : xs ≠ ys := fun e => by
  subst e
  rw [hx] at hy
  exact h (Option.some.inj hy)

end Go.Proofs.Ytcimnkijpifkjaa

/-
  The walks of layer 16: slices.Compare at whole numbers.
-/
namespace Go.Proofs.Ytcimnkijpifkjaa
open Go Go.RowKit

/-- What slices.Compare answers. -/
def cmpL : List Int → List Int → Int
  | [], [] => 0
  | [], _ :: _ => -1
  | _ :: _, [] => 1
  | a :: x, b :: y => if a < b then -1 else if b < a then 1 else cmpL x y
theorem cmpL_lt : ∀ (a b : List Int), (cmpL a b < 0) ↔ lexLt a b = true
  | [], [] => by simp [cmpL, lexLt]
  | [], _ :: _ => by simp [cmpL, lexLt]
  | _ :: _, [] => by simp [cmpL, lexLt]
  | x :: a, y :: b => by
    unfold cmpL lexLt
    by_cases h1 : x < y
    · simp [h1]
    · by_cases h2 : y < x
      · simp [h1, h2]
      · simp only [h1, h2, if_false]
        exact cmpL_lt a b
theorem cmpL_drop {xs ys : List Int} {k : Nat} {x y : Int} (hx : xs[k]? = some x) (hy : ys[k]? = some y) : cmpL (xs.drop k) (ys.drop k) = if x < y then -1 else if y < x then 1 else cmpL (xs.drop (k + 1)) (ys.drop (k + 1)) := by
  obtain ⟨h1, rfl⟩ := List.getElem?_eq_some_iff.1 hx
  obtain ⟨h2, rfl⟩ := List.getElem?_eq_some_iff.1 hy
  rw [List.drop_eq_getElem_cons h1, List.drop_eq_getElem_cons h2]
  rfl
theorem cmpInt_any (x y : Int) (w : World) : Calls Try.prog 76 #[.int .i64 x, .int .i64 y] w fun e w' => e = .returned (.int .i64 (if x < y then -1 else if y < x then 1 else 0)) ∧ w = w' := by
  have hn : ∀ (x : Int) (w : World), Calls Try.prog 89 #[.int .i64 x] w fun e w' => e = .returned (.bool false) ∧ w = w' := fun x w => by
    go_enter Try.func89, Try.ntmps89
    go_wp2_with fail
    go_ret
    exact ⟨rfl, rfl⟩
  have HN := Lib.hid hn
  clear hn
  obtain h | ⟨h, h'⟩ | ⟨h, h'⟩ : x < y ∨ (¬ x < y ∧ y < x) ∨ (¬ x < y ∧ ¬ y < x) := by omega
  all_goals
    go_enter Try.func76, Try.ntmps76
    go_wp2_with (go_at_call 89; refine (HN.out _ _).mono ?_; rintro e w' ⟨rfl, rfl⟩)
    go_ret
    exact ⟨ret_int (by first | (simp; done) | (simp; omega) | (simp [*]; done)), rfl⟩
set_option maxRecDepth 100000 in
set_option maxHeartbeats 4000000 in
theorem compare_any (A B : Option Addr) (xs ys : List Int) (c d : Nat) (w : World) (hx : SlR 1 RInt w A xs) (hy : SlR 1 RInt w B ys) (hl : xs.length ≤ maxLen) (hl2 : ys.length ≤ maxLen) :
    Calls Try.prog 78 #[.slice A xs.length c, .slice B ys.length d] w fun e w' => e = .returned (.int .i64 (cmpL xs ys)) ∧ w = w' := by
  unfold maxLen at hl hl2
  go_enter Try.func78, Try.ntmps78
  go_wp2_with fail
  go_loop [11] (fun i => ∃ k : Nat, k ≤ xs.length ∧ k ≤ ys.length ∧ Hid (cmpL xs ys = cmpL (xs.drop k) (ys.drop k)) ∧ i = .int .i64 k) (fun i => xs.length - (intOf i).toNat)
  case atStart => exact ⟨0, by omega, by omega, rfl, rfl⟩
  case round =>
    obtain ⟨k, hk, hk2, HS, rfl⟩ := hrel
    by_cases hlt : k < xs.length
    · obtain ⟨b, off, x, rfl, hbb, hxx, hc0⟩ := hx.int hlt
      by_cases hlt2 : k < ys.length
      · obtain ⟨b', off', y, rfl, hbb', hyy, hd0⟩ := hy.int hlt2
        have HD := Lib.hid (cmpL_drop hxx hyy)
        clear hxx hyy
        obtain h | ⟨h, h'⟩ | ⟨h, h'⟩ : x < y ∨ (¬ x < y ∧ y < x) ∨ (¬ x < y ∧ ¬ y < x) := by omega
        · have HR : Hid (cmpL xs ys = -1) := by show _ = _; rw [HS.out, HD.out, if_pos h]
          have HC : Hid (∀ W, Calls Try.prog 76 #[.int .i64 x, .int .i64 y] W fun e w' => e = .returned (.int .i64 (-1)) ∧ W = w') := fun W => by have := cmpInt_any x y W; rw [if_pos h] at this; exact this
          clear h
          go_wp2_with (go_at_call 76; refine (HC.out _).mono ?_; rintro e w' ⟨rfl, rfl⟩)
          go_ret
          exact ⟨ret_int (by rw [HR.out]), rfl⟩
        · have HR : Hid (cmpL xs ys = 1) := by show _ = _; rw [HS.out, HD.out, if_neg h, if_pos h']
          have HC : Hid (∀ W, Calls Try.prog 76 #[.int .i64 x, .int .i64 y] W fun e w' => e = .returned (.int .i64 1) ∧ W = w') := fun W => by have := cmpInt_any x y W; rw [if_neg h, if_pos h'] at this; exact this
          clear h h'
          go_wp2_with (go_at_call 76; refine (HC.out _).mono ?_; rintro e w' ⟨rfl, rfl⟩)
          go_ret
          exact ⟨ret_int (by rw [HR.out]), rfl⟩
        · have HR : Hid (cmpL xs ys = cmpL (xs.drop (k + 1)) (ys.drop (k + 1))) := by show _ = _; rw [HS.out, HD.out, if_neg h, if_neg h']
          have HC : Hid (∀ W, Calls Try.prog 76 #[.int .i64 x, .int .i64 y] W fun e w' => e = .returned (.int .i64 0) ∧ W = w') := fun W => by have := cmpInt_any x y W; rw [if_neg h, if_neg h'] at this; exact this
          clear h h'
          go_wp2_with (go_at_call 76; refine (HC.out _).mono ?_; rintro e w' ⟨rfl, rfl⟩)
          go_round
          case rel => exact ⟨k + 1, by omega, by omega, HR.out, by go_num⟩
          case measure => simp [intOf]; omega
      · have HR : Hid (cmpL xs ys = 1) := by
          show _ = _
          rw [HS.out, List.drop_eq_nil_of_le (show ys.length ≤ k by omega), List.drop_eq_getElem_cons hlt]
          rfl
        go_wp2_with fail
        go_ret
        exact ⟨ret_int (by rw [HR.out]), rfl⟩
    · have HR : Hid (cmpL xs ys = if xs.length < ys.length then -1 else 0) := by
        show _ = _
        rw [HS.out, List.drop_eq_nil_of_le (show xs.length ≤ k by omega)]
        split
        · rw [List.drop_eq_getElem_cons (show k < ys.length by omega)]; rfl
        · rw [List.drop_eq_nil_of_le (show ys.length ≤ k by omega)]; rfl
      by_cases hlen : xs.length < ys.length
      · have HR2 : Hid (cmpL xs ys = -1) := HR.out.trans (if_pos hlen)
        go_wp2_with fail
        go_ret
        exact ⟨ret_int (by rw [HR2.out]), rfl⟩
      · have HR2 : Hid (cmpL xs ys = 0) := HR.out.trans (if_neg hlen)
        go_wp2_with fail
        go_ret
        exact ⟨ret_int (by rw [HR2.out]), rfl⟩
end Go.Proofs.Ytcimnkijpifkjaa

/-
  The walk of cmp.Or at whole numbers.
-/
namespace Go.Proofs.Ytcimnkijpifkjaa
open Go Go.RowKit

/-- What cmp.Or answers. -/
def orL : List Int → Int
  | [] => 0
  | x :: r => if x = 0 then orL r else x
set_option maxRecDepth 100000 in
set_option maxHeartbeats 4000000 in
theorem or_any (A : Option Addr) (xs : List Int) (c : Nat) (w : World) (hx : SlR 1 RInt w A xs) (hl : xs.length ≤ maxLen) :
    Calls Try.prog 75 #[.slice A xs.length c] w fun e w' => e = .returned (.int .i64 (orL xs)) ∧ w = w' := by
  unfold maxLen at hl
  go_enter Try.func75, Try.ntmps75
  go_wp2_with fail
  go_loop [8] (fun i => ∃ k : Nat, k ≤ xs.length ∧ Hid (orL xs = orL (xs.drop k)) ∧ i = .int .i64 k) (fun i => xs.length - (intOf i).toNat)
  case atStart => exact ⟨0, by omega, rfl, rfl⟩
  case round =>
    obtain ⟨k, hk, HS, rfl⟩ := hrel
    by_cases hlt : k < xs.length
    · obtain ⟨b, off, x, rfl, hbb, hxx, hc0⟩ := hx.int hlt
      have HD : Hid (orL (xs.drop k) = if x = 0 then orL (xs.drop (k + 1)) else x) := by
        show _ = _
        rw [List.drop_eq_getElem_cons hlt, (List.getElem?_eq_some_iff.1 hxx).2]
        rfl
      clear hxx
      by_cases he : x = 0
      · have HR : Hid (orL xs = orL (xs.drop (k + 1))) := HS.out.trans (HD.out.trans (if_pos he))
        have e1 : (x != 0) = false := by simpa using he
        clear he
        go_wp2_with fail
        go_round
        case rel => exact ⟨k + 1, by omega, HR.out, by go_num⟩
        case measure => simp [intOf]; omega
      · have HR : Hid (orL xs = x) := HS.out.trans (HD.out.trans (if_neg he))
        have e1 : (x != 0) = true := by simpa using he
        clear he
        go_wp2_with fail
        go_ret
        exact ⟨ret_int (by rw [HR.out]), rfl⟩
    · have HR : Hid (orL xs = 0) := by show _ = _; rw [HS.out, List.drop_eq_nil_of_le (by omega)]; rfl
      go_wp2_with fail
      go_ret
      exact ⟨ret_int (by rw [HR.out]), rfl⟩
end Go.Proofs.Ytcimnkijpifkjaa
