/-
  OrdT, Blk, joined. No conditions.
-/
import Derived.Test.YtfjkmgjjifhdkaaGreatR01
/-
  A region that draws its order and ends in stores: the condition S is not asked behind the stores 'ts', which wait for all that reads.
-/
namespace Go.Proofs.YtfjkmgjjifhdkaaGreat
open Go Go.RowKit

/-- Operation t waits for operation i. -/
def waitsFor (ops : Array Oper) (t i : Nat) : Bool := match ops[t]? with
  | some o => o.after.any fun e => Region.binds .any e && e.on == i
  | none => false
def goodFromT (ops : Array Oper) (ts : List Nat) : Array Bool → List (Nat × Bool) → Bool
  | listed, [] => (Region.ready .any ops listed).isEmpty
  | listed, (i, true) :: l => Region.ready .any ops listed == [i] && goodFromT ops ts (listed.setIfInBounds i true) l
  | listed, (i, false) :: l => (Region.ready .any ops listed).contains i && Region.free .any ops listed i && ts.all (fun t => waitsFor ops t i) && goodFromT ops ts (listed.setIfInBounds i true) l
def goodOrdT (ops : Array Oper) (ts : List Nat) (l : List (Nat × Bool)) : Bool := decide (l.length ≤ ops.size) && goodFromT ops ts (Array.replicate ops.size false) l

section
variable {P : Program} {ops : Array Oper} {Q : Exit → Act → World → Prop} {S : World → Prop} {ts : List Nat}
def wpAnyT (P : Program) (ops : Array Oper) (Q : Exit → Act → World → Prop) (S : World → Prop) (ts : List Nat) : Nat → Array Bool → Act → World → Prop
  | 0, listed, a, w => Region.ready .any ops listed = [] ∧ Q .normal a w
  | fuel + 1, listed, a, w =>
    (Region.ready .any ops listed = [] → Q .normal a w) ∧
    ∀ i ∈ Region.ready .any ops listed, wpOp P ops Q i (fun a' w' => (ts.contains i = false → S w') ∧ wpAnyT P ops Q S ts fuel (listed.setIfInBounds i true) a' w') a w
theorem wpAny_of_T : ∀ (fuel : Nat) (listed : Array Bool) (a : Act) (w : World), wpAnyT P ops Q S ts fuel listed a w → wpAny P .any ops Q fuel listed a w
  | 0, _, _, _, h => h
  | fuel + 1, _, _, _, h => ⟨h.1, fun i hi => wpOp_mono (fun a' w' h' => wpAny_of_T fuel _ a' w' h'.2) (h.2 i hi)⟩
theorem wpAnyT_first {i : Nat} {oi : Oper} {v : Value} (hi : ops[i]? = some oi) (hsel : ∀ (j : Nat) (o : Oper) cs b, ops[j]? = some o → o.op ≠ .select cs b)
    (hQ : ∀ c a w, Q (.panic c) (a.put oi.dst v) w → Q (.panic c) a w) (hts : ∀ t ∈ ts, waitsFor ops t i = true) :
    ∀ (fuel : Nat) (listed : Array Bool) (a : Act) (w : World),
      (∀ j oj, ops[j]? = some oj → j ≠ i → listed.getD j true = false → (∀ e ∈ oj.after, Region.binds .any e = true → e.on ≠ i) → oi.apart ops oj = true) →
      i ∈ Region.ready .any ops listed → YieldsIf P ops S oi v a → S w →
      wpAnyT P ops Q S ts fuel (listed.setIfInBounds i true) (a.put oi.dst v) w → wpAnyT P ops Q S ts (fuel + 1) listed a w := by
  intro fuel
  induction fuel with
  | zero =>
    intro listed a w _ hr hy hS H
    refine ⟨fun h => (by rw [h] at hr; cases hr), fun j hj => ?_⟩
    by_cases hji : j = i
    · subst hji; exact hy.wpOp hi hS ⟨fun _ => hS, H⟩
    · have h1 := ready_mono hj hji
      rw [H.1] at h1
      cases h1
  | succ fuel ih =>
    intro listed a w hfree hr hy hS H
    refine ⟨fun h => (by rw [h] at hr; cases hr), fun j hj => ?_⟩
    by_cases hji : j = i
    · subst hji; exact hy.wpOp hi hS ⟨fun _ => hS, H⟩
    · obtain ⟨hjun, oj, hoj, hall⟩ := mem_ready.1 hj
      have hiun := (mem_ready.1 hr).1
      have hnot : ∀ e ∈ oj.after, Region.binds .any e = true → e.on ≠ i := fun e he hb heq => by
        have h2 := hall e he hb
        rw [heq] at h2
        rcases Nat.lt_or_ge i listed.size with h' | h'
        · simp [h'] at hiun h2; rw [hiun] at h2; cases h2
        · simp [Array.getElem?_eq_none h'] at h2
      have hjt : ts.contains j = false := by
        cases hc : ts.contains j
        · rfl
        · have hw := hts j (by simpa using hc)
          unfold waitsFor at hw
          simp only [hoj] at hw
          obtain ⟨k, hk, he⟩ := Array.any_eq_true.1 hw
          simp only [Bool.and_eq_true, beq_iff_eq] at he
          exact absurd he.2 (hnot _ (Array.getElem_mem hk) he.1)
      have h2 := wpOp_putIf hoj (hfree j oj hoj hji hjun hnot) (fun cs b => hsel i oi cs b hi) (fun cs b => hsel j oj cs b hoj) hQ hy (H.2 j (ready_mono hj hji))
      have hfree' : ∀ k ok, ops[k]? = some ok → k ≠ i → (listed.setIfInBounds j true).getD k true = false →
          (∀ e ∈ ok.after, Region.binds .any e = true → e.on ≠ i) → oi.apart ops ok = true := fun k ok hk hki hun hno => by
        refine hfree k ok hk hki ?_ hno
        by_cases hjk : j = k
        · subst hjk; exact hjun
        · rw [getD_set_ne true hjk] at hun; exact hun
      refine wpOp_mono (fun a' w' h3 => ?_) h2
      have hS' := h3.2.1 hjt
      refine ⟨fun _ => hS', ih (listed.setIfInBounds j true) a' w' hfree' (ready_mono hr (Ne.symm hji)) h3.1 hS' ?_⟩
      rw [Array.setIfInBounds_comm _ _ hji]
      exact h3.2.2

def wpOrdT (P : Program) (ops : Array Oper) (Q : Exit → Act → World → Prop) (S : World → Prop) (ts : List Nat) : List (Nat × Bool) → Act → World → Prop
  | [], a, w => Q .normal a w
  | (i, true) :: l, a, w => wpOp P ops Q i (fun a' w' => (ts.contains i = false → S w') ∧ wpOrdT P ops Q S ts l a' w') a w
  | (i, false) :: l, a, w => ∃ oi v, ops[i]? = some oi ∧ YieldsIf P ops S oi v a ∧ S w ∧ wpOrdT P ops Q S ts l (a.put oi.dst v) w
theorem wpAnyT_of_ord (hs : Region.noSelect ops = true) (hQ : ∀ d v c a w, Q (.panic c) (Act.put a (some d) v) w → Q (.panic c) a w) :
    ∀ (l : List (Nat × Bool)) (fuel : Nat) (listed : Array Bool) (a : Act) (w : World), l.length ≤ fuel → goodFromT ops ts listed l = true → wpOrdT P ops Q S ts l a w →
      wpAnyT P ops Q S ts fuel listed a w := by
  intro l
  induction l with
  | nil =>
    intro fuel listed a w _ hg h
    have hr : Region.ready .any ops listed = [] := by simpa [goodFromT] using hg
    cases fuel with
    | zero => exact ⟨hr, h⟩
    | succ fuel => exact ⟨fun _ => h, by rw [hr]; simp⟩
  | cons x l ih =>
    intro fuel listed a w hf hg h
    obtain ⟨fuel, rfl⟩ : ∃ f, fuel = f + 1 := ⟨fuel - 1, by simp at hf; omega⟩
    have hf' : l.length ≤ fuel := by simp at hf; omega
    obtain ⟨i, b⟩ := x
    cases b with
    | true =>
      simp only [goodFromT, Bool.and_eq_true, beq_iff_eq] at hg
      refine ⟨fun h0 => absurd (h0.symm.trans hg.1) (by simp), fun j hj => ?_⟩
      rw [hg.1] at hj
      obtain rfl : j = i := by simpa using hj
      exact wpOp_mono (fun a' w' h' => ⟨h'.1, ih fuel _ a' w' hf' hg.2 h'.2⟩) h
    | false =>
      simp only [goodFromT, Bool.and_eq_true, List.all_eq_true] at hg
      obtain ⟨oi, v, hi, hy, hS, h'⟩ := h
      refine wpAnyT_first hi (Region.noSelect_spec hs) (fun c a w hh => ?_) hg.1.2 fuel listed a w (Region.free_spec hi hg.1.1.2) (by simpa using hg.1.1.1) hy hS (ih fuel _ _ w hf' hg.2 h')
      cases hd : oi.dst with
      | none => rw [hd] at hh; exact hh
      | some d => rw [hd] at hh; exact hQ d v c a w hh
theorem ordT_below {id : Nat} {a : Act} {w : World} (ts : List Nat) (l : List (Nat × Bool)) (hm : P.follows .mixedOrders = true) (hs : Region.noSelect ops = true) (hg : goodOrdT ops ts l = true)
    (hQ : ∀ d v c a w, Q (.panic c) (Act.put a (some d) v) w → Q (.panic c) a w) (h : ∀ W, Below w.heap.size w W → wpOrdT P ops Q (Below w.heap.size w) ts l a W) : (Code.region id ops true).wp P Q a w := by
  unfold goodOrdT at hg
  simp only [Bool.and_eq_true, decide_eq_true_eq] at hg
  exact wp_region_any hm (wpAny_of_T _ _ _ _ (wpAnyT_of_ord hs hQ l _ _ a _ hg.1 hg.2 (h _ (Below.refl _ _).drew)))

theorem ordT_nil {a : Act} {w : World} (h : Q .normal a w) : wpOrdT P ops Q S ts [] a w := h
theorem ordT_skip {i : Nat} {o : Oper} {l : List (Nat × Bool)} {a : Act} {w : World} (ho' : nthO ops.toList i = some o) (hw : Region.wanted o (yielded ops a.tmps) = false) (hS : S w)
    (h : wpOrdT P ops Q S ts l (a.put o.dst undef) w) : wpOrdT P ops Q S ts ((i, false) :: l) a w := ⟨o, undef, nthO_spec ho', .inr ⟨hw, rfl⟩, hS, h⟩
theorem ordT_cskip {i : Nat} {o : Oper} {l : List (Nat × Bool)} {a : Act} {w : World} (ho' : nthO ops.toList i = some o) (hw : Region.wanted o (yielded ops a.tmps) = false) (hS : S w)
    (h : wpOrdT P ops Q S ts l (a.put o.dst undef) w) : wpOrdT P ops Q S ts ((i, true) :: l) a w := by
  have ho := nthO_spec ho'
  show wpOp P ops Q i _ a w
  unfold wpOp
  rw [ho]
  show if Region.wanted o (yielded ops a.tmps) = true then _ else _
  rw [if_neg (by rw [hw]; decide)]
  exact ⟨fun _ => hS, h⟩
theorem ordT_take {i : Nat} {o : Oper} {v : Value} {l : List (Nat × Bool)} {a : Act} {w : World} (ho' : nthO ops.toList i = some o) (hw : Region.wanted o (yielded ops a.tmps) = true) (hS : S w)
    (hy : ∀ W, S W → (execOp a.eval o).run P W = .ok (.value v) W)
    (h : wpOrdT P ops Q S ts l (a.put o.dst v) w) : wpOrdT P ops Q S ts ((i, false) :: l) a w := ⟨o, v, nthO_spec ho', .inl ⟨hw, hy⟩, hS, h⟩
theorem ordT_call {i : Nat} {o : Oper} {l : List (Nat × Bool)} {a : Act} {w : World} (ho' : nthO ops.toList i = some o) (hw : Region.wanted o (yielded ops a.tmps) = true)
    (h : ∀ K' : Act → World → Prop, Shut (∀ a w, (ts.contains i = false → S w) → wpOrdT P ops Q S ts l a w → K' a w) → Oper.wp P o a w K' Q) : wpOrdT P ops Q S ts ((i, true) :: l) a w := by
  have ho := nthO_spec ho'
  show wpOp P ops Q i _ a w
  refine wpOp_step ho fun K' hK => ?_
  rw [if_pos hw]
  exact h K' fun a w hS hW => hK a w ⟨hS, hW⟩
end
end Go.Proofs.YtfjkmgjjifhdkaaGreat

/-
  Blocks that are known whole, beside rows of the call's own.
-/
namespace Go.Proofs.YtfjkmgjjifhdkaaGreat
open Go Go.RowKit

/-- Block g holds just the cells cs, none frozen. -/
def Blk (w : World) (g : Nat) (t : TypeId) (cs : Array Value) : Prop := w.heap[g]? = some (.cells cs t (0, 0))
section
variable {w w' : World} {g : Nat} {t : TypeId} {cs : Array Value}
theorem Blk.lt (h : Blk w g t cs) : g < w.heap.size := by
  rcases Nat.lt_or_ge g w.heap.size with hlt | hge
  · exact hlt
  · unfold Blk at h; rw [Array.getElem?_eq_none hge] at h; cases h
theorem Blk.cell (h : Blk w g t cs) (i : Nat) : w.cell? ⟨g, i, none⟩ = cs[i]? := by
  unfold Blk at h; unfold World.cell?; simp only [h]; rfl
theorem Blk.frozen (h : Blk w g t cs) (i : Nat) : w.frozen? ⟨g, i, none⟩ = false := by
  unfold Blk at h; unfold World.frozen?; simp only [h]; simp
theorem Blk.new (w : World) (t : TypeId) (cs : Array Value) : Blk (w.alloc (.cells cs t)) w.heap.size t cs := heap_alloc_new w _
theorem Blk.new_ {w : World} {g : Nat} {t : TypeId} {cs : Array Value} (hg : g = w.heap.size) : Blk (w.alloc (.cells cs t)) g t cs := by subst hg; exact heap_alloc_new w _
theorem Blk.alloc (h : Blk w g t cs) (o : Obj) : Blk (w.alloc o) g t cs := (Below.heap_alloc w o g h.lt).trans h
theorem Blk.drewN (h : Blk w g t cs) (n : Nat) : Blk (w.drewN n) g t cs := h
theorem Blk.set_ (h : Blk w g t cs) (i : Nat) (u : Value) : Blk (w.setCell ⟨g, i, none⟩ u) g t (cs.setIfInBounds i u) := by
  unfold Blk at h ⊢
  simp [World.setCell, Array.getElem?_modify, h]
theorem Blk.far (h : Blk w g t cs) {p : Addr} (hp : g ≠ p.block) (u : Value) : Blk (w.setCell p u) g t cs := (Below.heap_setCell w p u g hp).trans h
theorem Blk.below {B : Nat} (h : Blk w g t cs) (hb : Below B w w') (hg : g < B) : Blk w' g t cs := (hb.block g hg).trans h
theorem Blk.apps {v v' : Value} (h : Blk w g t cs) (ha : Apps w w' v v') (hne : v.ownBlock ≠ some g) : Blk w' g t cs := (ha.keep g h.lt hne).trans h
end
section
variable {w w' : World} {base : Nat} {e e' : TypeId} {s s' n n' : Nat} {v v' v2 : Value} {xs xs' : List Value}
/-- A row is kept where its block is. -/
theorem own_keep (h : w.ownsRow base e s v n xs) (hk : ∀ g, v.ownBlock = some g → g < w.heap.size → w'.heap[g]? = w.heap[g]?) : w'.ownsRow base e s v n xs := by
  obtain ⟨h1, h2⟩ := h
  refine ⟨h1, ?_⟩
  rcases h2 with h2 | ⟨g, cap, cur, rfl, hg, hh, r⟩
  · exact .inl h2
  · refine .inr ⟨g, cap, cur, rfl, hg, ?_, r⟩
    have : g < w.heap.size := by
      rcases Nat.lt_or_ge g w.heap.size with h | h
      · exact h
      · rw [Array.getElem?_eq_none h] at hh; cases hh
    rw [hk g rfl this]
    exact hh
/-- Rows of different types lie in different blocks. -/
theorem own_ne (h : w.ownsRow base e s v n xs) {base' : Nat} (h' : w.ownsRow base' e' s' v' n' xs') (hne : e ≠ e') (g : Nat) (hg : v.ownBlock = some g) : v'.ownBlock ≠ some g := fun hg' => by
  rcases h.2 with ⟨rfl, _⟩ | ⟨g1, cap, cur, rfl, _, hh, _⟩
  · simp [Value.ownBlock] at hg
  · rcases h'.2 with ⟨rfl, _⟩ | ⟨g2, cap', cur', rfl, _, hh', _⟩
    · simp [Value.ownBlock] at hg'
    · simp [Value.ownBlock] at hg hg'
      subst hg; subst hg'
      rw [hh] at hh'
      injection hh' with hh'
      injection hh' with _ ht
      exact hne ht
theorem own_blk_ne (h : w.ownsRow base e s v n xs) {g : Nat} {t : TypeId} {cs : Array Value} (hb : Blk w g t cs) (hne : e ≠ t) : v.ownBlock ≠ some g := fun hg => by
  rcases h.2 with ⟨rfl, _⟩ | ⟨g1, cap, cur, rfl, _, hh, _⟩
  · simp [Value.ownBlock] at hg
  · simp [Value.ownBlock] at hg
    subst hg
    unfold Blk at hb
    rw [hh] at hb
    injection hb with hb
    injection hb with _ ht
    exact hne ht
theorem own_apps (h : w.ownsRow base e s v n xs) {base' : Nat} (h' : w.ownsRow base' e' s' v2 n' xs') (hne : e ≠ e') {v2' : Value} (ha : Apps w w' v2 v2') : w'.ownsRow base e s v n xs :=
  own_keep h fun g hg hlt => ha.keep g hlt (own_ne h h' hne g hg)
end
theorem own_lit (w : World) (cs : Array Value) (e : TypeId) (s n base g : Nat) (hg : g = w.heap.size) (hb : base ≤ w.heap.size) (hs : cs.size = n * s) (hn : n ≤ maxLen) :
    (w.alloc (.cells cs e)).ownsRow base e s (.slice (some ⟨g, 0, none⟩) n n) n cs.toList := by
  subst hg
  have h : (w.alloc (.cells cs e)).heap[w.heap.size]? = some (.cells cs e) := heap_alloc_new w _
  exact ⟨by simpa using hs, .inr ⟨w.heap.size, n, cs, rfl, hb, h, Nat.le_refl _, hn, hs, by rw [List.take_of_length_le (by simp [hs])]⟩⟩
theorem flatMap_one {α β : Type} (f : α → β) (l : List α) : l.flatMap (fun x => [f x]) = l.map f := by
  induction l with
  | nil => rfl
  | cons x l ih => rw [List.flatMap_cons, ih]; rfl
/-- A row of the call's own, as a list of strings or numbers. -/
theorem own_strs {w : World} {base : Nat} {e : TypeId} {v : Value} {n : Nat} {xs : List ByteArray} (h : w.ownsRow base e 1 v n (xs.map Value.string)) (hn : n = xs.length) :
    ∃ A cap, v = .slice A n cap ∧ n ≤ cap ∧ cap ≤ maxLen ∧ SlR 1 RStr w A xs :=
  own_slr (enc := fun s => [.string s]) (by rw [flatMap_one]; exact h) (fun _ => rfl) (fun _ => rfl) hn
theorem own_ints {w : World} {base : Nat} {e : TypeId} {v : Value} {n : Nat} {xs : List Int} (h : w.ownsRow base e 1 v n (xs.map (Value.int .i64))) (hn : n = xs.length) :
    ∃ A cap, v = .slice A n cap ∧ n ≤ cap ∧ cap ≤ maxLen ∧ SlR 1 RInt w A xs :=
  own_slr (enc := fun s => [.int .i64 s]) (by rw [flatMap_one]; exact h) (fun _ => rfl) (fun _ => rfl) hn
end Go.Proofs.YtfjkmgjjifhdkaaGreat
