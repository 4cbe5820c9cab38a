/-
  OrdI, OrdU, OrdV, Ret, GrWalkC, joined. No conditions.
-/
import Derived.Test.YtcimnkijpifkjaaQ02
import Derived.Laws.Rows
import Derived.Laws.ResultCell
import Derived.Test.YtcimnkijpifkjaaQ04
import Derived.Test.YtcimnkijpifkjaaQ03
import Derived.Deep.DeepCutAuto
/-
  A region that draws its order and holds chains that may come up in any order beside each other: one condition for each state of the chains, one proof for each operation.
-/
namespace Go.Proofs.Ytcimnkijpifkjaa
open Go Go.RowKit

/-- All blocks but g are as they were. -/
def Far (g : Nat) (w w' : World) : Prop := ∀ b, b ≠ g → w'.heap[b]? = w.heap[b]?
theorem Far.cell {g : Nat} {w w' : World} (h : Far g w w') : ∀ b o, b ≠ g → w'.cell? ⟨b, o, none⟩ = w.cell? ⟨b, o, none⟩ := fun b _ hb => World.cell?_of_block (h b hb)
theorem Far.set {g : Nat} {w w' : World} (h : Far g w w') (o : Nat) (v : Value) : Far g w (w'.setCell ⟨g, o, none⟩ v) := fun b hb => (Below.heap_setCell w' ⟨g, o, none⟩ v b hb).trans (h b hb)
/-- What some slots of a frame of N slots hold. -/
def Slots (N : Nat) (a : Act) (l : List (Nat × Value)) : Prop := a.tmps.size = N ∧ a.defers = [] ∧ ∀ kv ∈ l, a.tmps.getD kv.1 undef = kv.2
section
variable {N : Nat} {a : Act} {l : List (Nat × Value)}
theorem Slots.at_ (h : Slots N a l) {k : Nat} {v : Value} (hm : (k, v) ∈ l) : a.tmps.getD k undef = v := h.2.2 (k, v) hm
theorem Slots.put (h : Slots N a l) (d : Nat) (v : Value) (hd : ∀ kv ∈ l, kv.1 ≠ d) : Slots N (a.put (some d) v) l := by
  obtain ⟨h1, h2, h3⟩ := h
  refine ⟨by simp [Act.put, h1], h2, fun kv hkv => ?_⟩
  have := h3 kv hkv
  have hne := hd kv hkv
  simp only [Act.put, Array.getD_eq_getD_getElem?] at this ⊢
  rw [Array.getElem?_setIfInBounds_ne (Ne.symm hne)]
  exact this
theorem Slots.add (h : Slots N a l) (d : Nat) (v : Value) (hd : d < N) (hn : ∀ kv ∈ l, kv.1 ≠ d) : Slots N (a.put (some d) v) ((d, v) :: l) := by
  obtain ⟨h1, h2, h3⟩ := h.put d v hn
  refine ⟨h1, h2, fun kv hkv => ?_⟩
  rcases List.mem_cons.1 hkv with rfl | hkv
  · simp [Act.put, h.1, hd]
  · exact h3 kv hkv
theorem put_self {N : Nat} {a : Act} {l : List (Nat × Value)} (h : Slots N a l) (d : Nat) (v : Value) (hd : d < N) : (a.put (some d) v).tmps.getD d undef = v := by
  simp [Act.put, h.1, hd]
theorem put_other {a : Act} {d k : Nat} {v : Value} (h : k ≠ d) : (a.put (some d) v).tmps.getD k undef = a.tmps.getD k undef := by
  simp only [Act.put, Array.getD_eq_getD_getElem?]
  rw [Array.getElem?_setIfInBounds_ne (Ne.symm h)]
end
theorem slr_cells_ {α : Type} {s : Nat} {R : World → α → List Value → Prop} {enc : α → List Value} {w : World} {a : Addr} {xs : List α} (h : SlR s R w (some a) xs) (_hs : 0 < s) (hR : ∀ w x vs, R w x vs → vs = enc x) :
    ∀ j u, (xs.flatMap enc)[j]? = some u → w.cell? (a.add j) = some u := by
  by_cases hn : xs = []
  · subst hn; intro j u hj; simp at hj
  · obtain ⟨b, off, ha, _, hc⟩ := h hn
    injection ha with ha
    subst ha
    have key : ∀ (l : List α) (o : Nat), (∀ k x, l[k]? = some x → (enc x).length = s ∧ ∀ j v, (enc x)[j]? = some v → w.cell? ⟨b, o + k * s + j, none⟩ = some v) → ∀ j u, (l.flatMap enc)[j]? = some u → w.cell? ⟨b, o + j, none⟩ = some u := by
      intro l
      induction l with
      | nil => intro o _ j u hj; simp at hj
      | cons x l ih =>
        intro o hl j u hj
        obtain ⟨h0, h1⟩ := hl 0 x rfl
        rw [List.flatMap_cons] at hj
        rcases Nat.lt_or_ge j (enc x).length with hlt | hge
        · rw [List.getElem?_append_left hlt] at hj
          have := h1 j u hj
          simpa using this
        · rw [List.getElem?_append_right hge] at hj
          have := ih (o + s) (fun k y hy => by
            obtain ⟨h2, h3⟩ := hl (k + 1) y (by simpa using hy)
            refine ⟨h2, fun j v hv => ?_⟩
            have := h3 j v hv
            rwa [show o + (k + 1) * s + j = o + s + k * s + j by rw [Nat.add_mul]; omega] at this) (j - (enc x).length) u hj
          rwa [show o + s + (j - (enc x).length) = o + j by omega] at this
    intro j u hj
    rw [add_mk]
    refine key xs off (fun k x hx => ?_) j u hj
    obtain ⟨vs, hr, hl, hv⟩ := hc k x hx
    have := hR _ _ _ hr
    subst this
    exact ⟨hl, hv⟩

theorem flatMap_len_ {α β : Type} {s : Nat} {enc : α → List β} (h : ∀ x, (enc x).length = s) (xs : List α) : (xs.flatMap enc).length = xs.length * s := by
  induction xs with
  | nil => simp
  | cons x l ih => rw [List.flatMap_cons, List.length_append, h, ih, List.length_cons, Nat.add_mul]; omega
section
variable {P : Program} {ops : Array Oper} {Q : Exit → Act → World → Prop} {S : World → Prop} {ts : List Nat}
/-- One operation that only reads is taken first. -/
theorem takeT {i : Nat} {o : Oper} {v : Value} {fuel : Nat} {listed : Array Bool} {a : Act} {w : World} (ho' : nthO ops.toList i = some o) (hs : Region.noSelect ops = true)
    (hg : ((Region.ready .any ops listed).contains i && Region.free .any ops listed i && ts.all (fun t => waitsFor ops t i)) = true)
    (hQ : ∀ d v c a w, Q (.panic c) (Act.put a (some d) v) w → Q (.panic c) a w) (hw : Region.wanted o (yielded ops a.tmps) = true) (hS : S w)
    (hy : ∀ W, S W → (execOp a.eval o).run P W = .ok (.value v) W)
    (h : wpAnyT P ops Q S ts fuel (listed.setIfInBounds i true) (a.put o.dst v) w) : wpAnyT P ops Q S ts (fuel + 1) listed a w := by
  simp only [Bool.and_eq_true, List.all_eq_true] at hg
  have hi := nthO_spec ho'
  refine wpAnyT_first hi (Region.noSelect_spec hs) (fun c a w hh => ?_) hg.2 fuel listed a w (Region.free_spec hi hg.1.2) (by simpa using hg.1.1) (.inl ⟨hw, hy⟩) hS h
  cases hd : o.dst with
  | none => rw [hd] at hh; exact hh
  | some d => rw [hd] at hh; exact hQ d v c a w hh
/-- The region begins. -/
theorem startT {id : Nat} {a : Act} {w : World} (hm : P.follows .mixedOrders = true) (h : wpAnyT P ops Q S ts ops.size (Array.replicate ops.size false) a w.drew) : (Code.region id ops true).wp P Q a w :=
  wp_region_any hm (wpAny_of_T _ _ _ _ h)
/-- What may be taken at once: it only reads. -/
def QuietT (P : Program) (ops : Array Oper) (ts : List Nat) (S : World → Prop) (listed : Array Bool) (i : Nat) (o : Oper) (v : Value) (a : Act) : Prop :=
  nthO ops.toList i = some o ∧ ((Region.ready .any ops listed).contains i && Region.free .any ops listed i && ts.all (fun t => waitsFor ops t i)) = true ∧ Region.wanted o (yielded ops a.tmps) = true ∧ ∀ W, S W → (execOp a.eval o).run P W = .ok (.value v) W
/-- Chains. -/
theorem chainsT {σ : Type} (next : σ → List (Nat × σ)) (L : σ → Array Bool) (rank : σ → Nat) (F : σ → Act → World → Prop) (fin : σ) (fe : Nat) (hs : Region.noSelect ops = true)
    (hQ : ∀ d v c a w, Q (.panic c) (Act.put a (some d) v) w → Q (.panic c) a w)
    (htab : ∀ s a w, F s a w → S w → s = fin ∨ (next s ≠ [] ∧ Region.ready .any ops (L s) = (next s).map (·.1) ∧ ∀ p ∈ next s, (L s).setIfInBounds p.1 true = L p.2 ∧ rank p.2 + 1 = rank s ∧ ts.contains p.1 = false) ∨
      (∃ i o v s', QuietT P ops ts S (L s) i o v a ∧ F s' (a.put o.dst v) w ∧ (L s).setIfInBounds i true = L s' ∧ rank s' + 1 = rank s))
    (hstep : ∀ s p a w, p ∈ next s → F s a w → S w → wpOp P ops Q p.1 (fun a' w' => S w' ∧ F p.2 a' w') a w)
    (hrank : rank fin = 0) (hfin : ∀ a w, F fin a w → S w → wpAnyT P ops Q S ts fe (L fin) a w) :
    ∀ (n : Nat) (s : σ) (a : Act) (w : World), rank s = n → F s a w → S w → wpAnyT P ops Q S ts (n + fe) (L s) a w := by
  intro n
  induction n with
  | zero =>
    intro s a w hr hF hS
    rcases htab s a w hF hS with rfl | ⟨hne, _, hp⟩ | ⟨i, o, v, s', _, _, _, h⟩
    · rw [Nat.zero_add]; exact hfin a w hF hS
    · obtain ⟨p, hp'⟩ : ∃ p, p ∈ next s := List.exists_mem_of_ne_nil _ hne
      have := (hp p hp').2.1
      omega
    · omega
  | succ n ih =>
    intro s a w hr hF hS
    rcases htab s a w hF hS with rfl | ⟨hne, hready, hp⟩ | ⟨i, o, v, s', ⟨h1, h2, h3, h4⟩, h5, h6, h7⟩
    · omega
    · rw [show n + 1 + fe = (n + fe) + 1 by omega]
      refine ⟨fun h0 => ?_, fun i hi => ?_⟩
      · rw [hready] at h0
        exact absurd (List.map_eq_nil_iff.1 h0) hne
      · rw [hready] at hi
        obtain ⟨p, hpn, rfl⟩ := List.mem_map.1 hi
        obtain ⟨h1, h2, h3⟩ := hp p hpn
        refine wpOp_mono (fun a' w' hh => ⟨fun _ => hh.1, ?_⟩) (hstep s p a w hpn hF hS)
        rw [h1]
        exact ih p.2 a' w' (by omega) hh.2 hh.1
    · rw [show n + 1 + fe = (n + fe) + 1 by omega]
      refine takeT h1 hs h2 hQ h3 hS h4 ?_
      rw [h6]
      exact ih s' _ w (by omega) h5 hS
/-- An operation of the region, by itself. -/
theorem op_of {i : Nat} {o : Oper} {K : Act → World → Prop} {a : Act} {w : World} (ho' : nthO ops.toList i = some o) (hg : o.guard = none) (h : ∀ K' : Act → World → Prop, Shut (∀ a w, K a w → K' a w) → Oper.wp P o a w K' Q) : wpOp P ops Q i K a w := by
  have ho := nthO_spec ho'
  refine wpOp_step ho fun K' hK => ?_
  rw [if_pos (by simp [Region.wanted, hg])]
  exact h K' hK
theorem run_append_of_nil (w : World) (base : Nat) (t ty e : TypeId) (i : TypeInfo) (size : Nat) (ht : P.underlying t = some (.slice e)) (hi : P.info? e = some i)
    (v : Value) (n : Nat) (xs : List Value) (hown : w.ownsRow base e size v n xs) (c : Nat) : (Builtin.append_ #[t, t] ty #[v, .slice none 0 c]).run P w = .ok v w := by
  rcases hown.2 with ⟨rfl, rfl⟩ | ⟨g, cap, cur, rfl, _, _, hnc, _⟩
  · simp [Builtin.append_, run_underlying ht, sizeOf, typeInfo, hi, Builtin.lenOf, Builtin.firstCells]
  · simp [Builtin.append_, run_underlying ht, sizeOf, typeInfo, hi, Builtin.lenOf, Builtin.firstCells, hnc, storeCells]
/-- 'append(out, xs...)' onto a row of the call's own, xs in any memory. -/
theorem wp_appS {α : Type} {enc : α → List Value} {R : World → α → List Value → Prop} {o : Oper} {a : Act} {K : Act → World → Prop} {w : World} (s x : Operand) (t : TypeId)
    (ho : o.op = .call { callee := .builtin .append, args := #[s, x], argTypes := #[t, t] })
    (base : Nat) (e : TypeId) (i : TypeInfo) (z : Value) (size bytes : Nat) (ht : P.underlying t = some (.slice e)) (hi : P.info? e = some i) (hz : i.zero = some z)
    (hsize : i.size = size) (hby : i.bytes = bytes) (hzs : z.cells.size = size) (hsz : 0 < size)
    (v : Value) (n : Nat) (xs : List Value) (hs : a.eval s = v) (hown : w.ownsRow base e size v n xs)
    (A : Option Addr) (c : Nat) (ys : List α) (hx : a.eval x = .slice A ys.length c) (hr : SlR size R w A ys) (hR : ∀ w x vs, R w x vs → vs = enc x) (hl : ∀ x, (enc x).length = size) (h1 : ∀ u ∈ ys.flatMap enc, u.oneCell' = true)
    (hn : n + ys.length ≤ 1000000) (hbb : bytes ≤ 1000) (hbase : base ≤ w.heap.size)
    (h : ∀ v' w', w'.ownsRow base e size v' (n + ys.length) (xs ++ ys.flatMap enc) → Below base w w' → Apps w w' v v' → K (a.put o.dst v') w') : o.wp P a w K Q := by
  have hb1 : (n + ys.length) * bytes ≤ 1000000 * 1000 := Nat.mul_le_mul hn hbb
  have key : ∃ v' w', (Builtin.append_ #[t, t] o.type #[v, .slice A ys.length c]).run P w = .ok v' w' ∧ w'.ownsRow base e size v' (n + ys.length) (xs ++ ys.flatMap enc) ∧ w.grownBy w' v.ownBlock ∧ (v'.ownBlock = v.ownBlock ∨ v'.ownBlock = some w.heap.size) := by
    rcases A with _ | ad
    · have hy : ys = [] := Classical.byContradiction fun hne => by obtain ⟨_, _, h, _⟩ := hr hne; cases h
      subst hy
      exact ⟨v, w, run_append_of_nil w base t o.type e i size ht hi v n xs hown c, by simpa using hown, World.grownBy.refl w _, .inl rfl⟩
    · obtain ⟨v', w', hrun, h2, h3, _, h5⟩ := run_append_own_at (P := P) w base t o.type e i z size bytes ht hi hz hsize hby hzs hsz v n xs hown ad ys.length c (ys.flatMap enc) (flatMap_len_ hl ys) (slr_cells_ hr hsz hR) h1 (by unfold maxLen; omega) (by omega) hbase
      exact ⟨v', w', hrun, h2, h3, h5⟩
  obtain ⟨v', w', hrun, h2, h3, h5⟩ := key
  unfold Oper.wp execOp
  simp only [ho, resolve, invoke, builtin, Sem.run_bind, Sem.run_pure, Result.andThen_ok, List.map_toArray, List.map_cons, List.map_nil, hs, hx, hrun]
  refine h v' w' h2 ((Below.refl _ _).grown h3 hbase (own_block_le hown)) ⟨fun k hk hne => h3.block k hk (fun e => hne e.symm), ?_⟩
  rcases h5 with h5 | h5
  · exact .inl h5
  · exact .inr ⟨_, h5, Nat.le_refl _⟩
end
end Go.Proofs.Ytcimnkijpifkjaa

/-
  As XOrdT; an operation of 'ts' may wait for another one of 'ts' in place of what only reads.
-/
namespace Go.Proofs.Ytcimnkijpifkjaa
open Go Go.RowKit

def goodFromU (ops : Array Oper) (ts : List Nat) : Array Bool → List (Nat × Bool) → Bool
  | listed, [] => (Region.ready .any ops listed).isEmpty
  | listed, (i, true) :: l => Region.ready .any ops listed == [i] && goodFromU ops ts (listed.setIfInBounds i true) l
  | listed, (i, false) :: l => (Region.ready .any ops listed).contains i && Region.free .any ops listed i && ts.all (fun t => (waitsFor ops t i || ts.any (fun t' => waitsFor ops t t')) && !(listed.getD t true)) && goodFromU ops ts (listed.setIfInBounds i true) l
def goodOrdU (ops : Array Oper) (ts : List Nat) (l : List (Nat × Bool)) : Bool := decide (l.length ≤ ops.size) && goodFromU ops ts (Array.replicate ops.size false) l

section
variable {P : Program} {ops : Array Oper} {Q : Exit → Act → World → Prop} {S : World → Prop} {ts : List Nat}
theorem wpAnyT_firstU {i : Nat} {oi : Oper} {v : Value} (hi : ops[i]? = some oi) (hsel : ∀ (j : Nat) (o : Oper) cs b, ops[j]? = some o → o.op ≠ .select cs b)
    (hQ : ∀ c a w, Q (.panic c) (a.put oi.dst v) w → Q (.panic c) a w) (hts : ∀ t ∈ ts, waitsFor ops t i = true ∨ ∃ t' ∈ ts, waitsFor ops t t' = true) :
    ∀ (fuel : Nat) (listed : Array Bool) (a : Act) (w : World),
      (∀ j oj, ops[j]? = some oj → j ≠ i → listed.getD j true = false → (∀ e ∈ oj.after, Region.binds .any e = true → e.on ≠ i) → oi.apart ops oj = true) →
      (∀ t ∈ ts, listed.getD t true = false) → i ∈ Region.ready .any ops listed → YieldsIf P ops S oi v a → S w →
      wpAnyT P ops Q S ts fuel (listed.setIfInBounds i true) (a.put oi.dst v) w → wpAnyT P ops Q S ts (fuel + 1) listed a w := by
  intro fuel
  induction fuel with
  | zero =>
    intro listed a w _ _ hr hy hS H
    refine ⟨fun h => (by rw [h] at hr; cases hr), fun j hj => ?_⟩
    by_cases hji : j = i
    · subst hji; exact hy.wpOp hi hS ⟨fun _ => hS, H⟩
    · have h1 := ready_mono hj hji
      rw [H.1] at h1
      cases h1
  | succ fuel ih =>
    intro listed a w hfree hun0 hr hy hS H
    refine ⟨fun h => (by rw [h] at hr; cases hr), fun j hj => ?_⟩
    by_cases hji : j = i
    · subst hji; exact hy.wpOp hi hS ⟨fun _ => hS, H⟩
    · obtain ⟨hjun, oj, hoj, hall⟩ := mem_ready.1 hj
      have hiun := (mem_ready.1 hr).1
      have hnot : ∀ e ∈ oj.after, Region.binds .any e = true → e.on ≠ i := fun e he hb heq => by
        have h2 := hall e he hb
        rw [heq] at h2
        rcases Nat.lt_or_ge i listed.size with h' | h'
        · simp [h'] at hiun h2; rw [hiun] at h2; cases h2
        · simp [Array.getElem?_eq_none h'] at h2
      have hjt : ts.contains j = false := by
        cases hc : ts.contains j
        · rfl
        · exfalso
          rcases hts j (by simpa using hc) with hw | ⟨t', ht', hw⟩
          · unfold waitsFor at hw
            simp only [hoj] at hw
            obtain ⟨k, hk, he⟩ := Array.any_eq_true.1 hw
            simp only [Bool.and_eq_true, beq_iff_eq] at he
            exact absurd he.2 (hnot _ (Array.getElem_mem hk) he.1)
          · unfold waitsFor at hw
            simp only [hoj] at hw
            obtain ⟨k, hk, he⟩ := Array.any_eq_true.1 hw
            simp only [Bool.and_eq_true, beq_iff_eq] at he
            have h2 := hall _ (Array.getElem_mem hk) he.1
            rw [he.2] at h2
            have h3 := hun0 t' ht'
            rcases Nat.lt_or_ge t' listed.size with h' | h'
            · simp [h'] at h2 h3; rw [h3] at h2; cases h2
            · simp [Array.getElem?_eq_none h'] at h2
      have h2 := wpOp_putIf hoj (hfree j oj hoj hji hjun hnot) (fun cs b => hsel i oi cs b hi) (fun cs b => hsel j oj cs b hoj) hQ hy (H.2 j (ready_mono hj hji))
      have hfree' : ∀ k ok, ops[k]? = some ok → k ≠ i → (listed.setIfInBounds j true).getD k true = false →
          (∀ e ∈ ok.after, Region.binds .any e = true → e.on ≠ i) → oi.apart ops ok = true := fun k ok hk hki hun hno => by
        refine hfree k ok hk hki ?_ hno
        by_cases hjk : j = k
        · subst hjk; exact hjun
        · rw [getD_set_ne true hjk] at hun; exact hun
      refine wpOp_mono (fun a' w' h3 => ?_) h2
      have hS' := h3.2.1 hjt
      refine ⟨fun _ => hS', ih (listed.setIfInBounds j true) a' w' hfree' (fun t ht => by rw [getD_set_ne true (fun e => by subst e; simp [ht] at hjt)]; exact hun0 t ht) (ready_mono hr (Ne.symm hji)) h3.1 hS' ?_⟩
      rw [Array.setIfInBounds_comm _ _ hji]
      exact h3.2.2

theorem wpAnyU_of_ord (hs : Region.noSelect ops = true) (hQ : ∀ d v c a w, Q (.panic c) (Act.put a (some d) v) w → Q (.panic c) a w) :
    ∀ (l : List (Nat × Bool)) (fuel : Nat) (listed : Array Bool) (a : Act) (w : World), l.length ≤ fuel → goodFromU ops ts listed l = true → wpOrdT P ops Q S ts l a w →
      wpAnyT P ops Q S ts fuel listed a w := by
  intro l
  induction l with
  | nil =>
    intro fuel listed a w _ hg h
    have hr : Region.ready .any ops listed = [] := by simpa [goodFromU] using hg
    cases fuel with
    | zero => exact ⟨hr, h⟩
    | succ fuel => exact ⟨fun _ => h, by rw [hr]; simp⟩
  | cons x l ih =>
    intro fuel listed a w hf hg h
    obtain ⟨fuel, rfl⟩ : ∃ f, fuel = f + 1 := ⟨fuel - 1, by simp at hf; omega⟩
    have hf' : l.length ≤ fuel := by simp at hf; omega
    obtain ⟨i, b⟩ := x
    cases b with
    | true =>
      simp only [goodFromU, Bool.and_eq_true, beq_iff_eq] at hg
      refine ⟨fun h0 => absurd (h0.symm.trans hg.1) (by simp), fun j hj => ?_⟩
      rw [hg.1] at hj
      obtain rfl : j = i := by simpa using hj
      exact wpOp_mono (fun a' w' h' => ⟨h'.1, ih fuel _ a' w' hf' hg.2 h'.2⟩) h
    | false =>
      simp only [goodFromU, Bool.and_eq_true, List.all_eq_true] at hg
      obtain ⟨oi, v, hi, hy, hS, h'⟩ := h
      refine wpAnyT_firstU hi (Region.noSelect_spec hs) (fun c a w hh => ?_) (fun t ht => by have := (hg.1.2 t ht).1; simpa using this) fuel listed a w (Region.free_spec hi hg.1.1.2) (fun t ht => by have := (hg.1.2 t ht).2; simpa using this) (by simpa using hg.1.1.1) hy hS (ih fuel _ _ w hf' hg.2 h')
      cases hd : oi.dst with
      | none => rw [hd] at hh; exact hh
      | some d => rw [hd] at hh; exact hQ d v c a w hh
theorem ordU_below {id : Nat} {a : Act} {w : World} (ts : List Nat) (l : List (Nat × Bool)) (hm : P.follows .mixedOrders = true) (hs : Region.noSelect ops = true) (hg : goodOrdU ops ts l = true)
    (hQ : ∀ d v c a w, Q (.panic c) (Act.put a (some d) v) w → Q (.panic c) a w) (h : ∀ W, Below w.heap.size w W → wpOrdT P ops Q (Below w.heap.size w) ts l a W) : (Code.region id ops true).wp P Q a w := by
  unfold goodOrdU at hg
  simp only [Bool.and_eq_true, decide_eq_true_eq] at hg
  exact wp_region_any hm (wpAny_of_T _ _ _ _ (wpAnyU_of_ord hs hQ l _ _ a _ hg.1 hg.2 (h _ (Below.refl _ _).drew)))

end
end Go.Proofs.Ytcimnkijpifkjaa

/-
  A region that draws its order and ends in stores, some of whose reading operations may come up behind a store: R holds always, S as long as no store of 'ts' has come up.
-/
namespace Go.Proofs.Ytcimnkijpifkjaa
open Go Go.RowKit

def goodFromV (ops : Array Oper) (ts : List Nat) : Array Bool → List (Nat × Option Bool) → Bool
  | listed, [] => (Region.ready .any ops listed).isEmpty
  | listed, (i, some true) :: l => Region.ready .any ops listed == [i] && goodFromV ops ts (listed.setIfInBounds i true) l
  | listed, (i, some false) :: l => (Region.ready .any ops listed).contains i && Region.free .any ops listed i && ts.all (fun t => (waitsFor ops t i || ts.any (fun t' => waitsFor ops t t')) && !(listed.getD t true)) && goodFromV ops ts (listed.setIfInBounds i true) l
  | listed, (i, none) :: l => (Region.ready .any ops listed).contains i && Region.free .any ops listed i && goodFromV ops ts (listed.setIfInBounds i true) l
def goodOrdV (ops : Array Oper) (ts : List Nat) (l : List (Nat × Option Bool)) : Bool := decide (l.length ≤ ops.size) && goodFromV ops ts (Array.replicate ops.size false) l
section
variable {P : Program} {ops : Array Oper} {Q : Exit → Act → World → Prop} {S R : World → Prop} {ts : List Nat}
def wpAnyV (P : Program) (ops : Array Oper) (Q : Exit → Act → World → Prop) (S R : World → Prop) (ts : List Nat) : Nat → Array Bool → Act → World → Prop
  | 0, listed, a, w => Region.ready .any ops listed = [] ∧ Q .normal a w
  | fuel + 1, listed, a, w =>
    (Region.ready .any ops listed = [] → Q .normal a w) ∧
    ∀ i ∈ Region.ready .any ops listed, wpOp P ops Q i (fun a' w' => (R w' ∧ (S w → ts.contains i = false → S w')) ∧ wpAnyV P ops Q S R ts fuel (listed.setIfInBounds i true) a' w') a w
theorem wpAny_of_V : ∀ (fuel : Nat) (listed : Array Bool) (a : Act) (w : World), wpAnyV P ops Q S R ts fuel listed a w → wpAny P .any ops Q fuel listed a w
  | 0, _, _, _, h => h
  | fuel + 1, _, _, _, h => ⟨h.1, fun i hi => wpOp_mono (fun a' w' h' => wpAny_of_V fuel _ a' w' h'.2) (h.2 i hi)⟩
theorem firstV1 {i : Nat} {oi : Oper} {v : Value} (hi : ops[i]? = some oi) (hsel : ∀ (j : Nat) (o : Oper) cs b, ops[j]? = some o → o.op ≠ .select cs b)
    (hQ : ∀ c a w, Q (.panic c) (a.put oi.dst v) w → Q (.panic c) a w) (hts : ∀ t ∈ ts, waitsFor ops t i = true ∨ ∃ t' ∈ ts, waitsFor ops t t' = true) :
    ∀ (fuel : Nat) (listed : Array Bool) (a : Act) (w : World),
      (∀ j oj, ops[j]? = some oj → j ≠ i → listed.getD j true = false → (∀ e ∈ oj.after, Region.binds .any e = true → e.on ≠ i) → oi.apart ops oj = true) →
      (∀ t ∈ ts, listed.getD t true = false) → i ∈ Region.ready .any ops listed → YieldsIf P ops S oi v a → S w → R w →
      wpAnyV P ops Q S R ts fuel (listed.setIfInBounds i true) (a.put oi.dst v) w → wpAnyV P ops Q S R ts (fuel + 1) listed a w := by
  intro fuel
  induction fuel with
  | zero =>
    intro listed a w _ _ hr hy hS hR H
    refine ⟨fun h => (by rw [h] at hr; cases hr), fun j hj => ?_⟩
    by_cases hji : j = i
    · subst hji; exact hy.wpOp hi hS ⟨⟨hR, fun h _ => h⟩, H⟩
    · have h1 := ready_mono hj hji
      rw [H.1] at h1
      cases h1
  | succ fuel ih =>
    intro listed a w hfree hun0 hr hy hS hR H
    refine ⟨fun h => (by rw [h] at hr; cases hr), fun j hj => ?_⟩
    by_cases hji : j = i
    · subst hji; exact hy.wpOp hi hS ⟨⟨hR, fun h _ => h⟩, H⟩
    · obtain ⟨hjun, oj, hoj, hall⟩ := mem_ready.1 hj
      have hiun := (mem_ready.1 hr).1
      have hnot : ∀ e ∈ oj.after, Region.binds .any e = true → e.on ≠ i := fun e he hb heq => by
        have h2 := hall e he hb
        rw [heq] at h2
        rcases Nat.lt_or_ge i listed.size with h' | h'
        · simp [h'] at hiun h2; rw [hiun] at h2; cases h2
        · simp [Array.getElem?_eq_none h'] at h2
      have hjt : ts.contains j = false := by
        cases hc : ts.contains j
        · rfl
        · exfalso
          rcases hts j (by simpa using hc) with hw | ⟨t', ht', hw⟩
          · unfold waitsFor at hw
            simp only [hoj] at hw
            obtain ⟨k, hk, he⟩ := Array.any_eq_true.1 hw
            simp only [Bool.and_eq_true, beq_iff_eq] at he
            exact absurd he.2 (hnot _ (Array.getElem_mem hk) he.1)
          · unfold waitsFor at hw
            simp only [hoj] at hw
            obtain ⟨k, hk, he⟩ := Array.any_eq_true.1 hw
            simp only [Bool.and_eq_true, beq_iff_eq] at he
            have h2 := hall _ (Array.getElem_mem hk) he.1
            rw [he.2] at h2
            have h3 := hun0 t' ht'
            rcases Nat.lt_or_ge t' listed.size with h' | h'
            · simp [h'] at h2 h3; rw [h3] at h2; cases h2
            · simp [Array.getElem?_eq_none h'] at h2
      have h2 := wpOp_putIf hoj (hfree j oj hoj hji hjun hnot) (fun cs b => hsel i oi cs b hi) (fun cs b => hsel j oj cs b hoj) hQ hy (H.2 j (ready_mono hj hji))
      have hfree' : ∀ k ok, ops[k]? = some ok → k ≠ i → (listed.setIfInBounds j true).getD k true = false →
          (∀ e ∈ ok.after, Region.binds .any e = true → e.on ≠ i) → oi.apart ops ok = true := fun k ok hk hki hun hno => by
        refine hfree k ok hk hki ?_ hno
        by_cases hjk : j = k
        · subst hjk; exact hjun
        · rw [getD_set_ne true hjk] at hun; exact hun
      refine wpOp_mono (fun a' w' h3 => ?_) h2
      have hS' := h3.2.1.2 hS hjt
      have hR' := h3.2.1.1
      refine ⟨h3.2.1, ih (listed.setIfInBounds j true) a' w' hfree' (fun t ht => by rw [getD_set_ne true (fun e => by subst e; simp [ht] at hjt)]; exact hun0 t ht) (ready_mono hr (Ne.symm hji)) h3.1 hS' hR' ?_⟩
      rw [Array.setIfInBounds_comm _ _ hji]
      exact h3.2.2

theorem firstV2 {i : Nat} {oi : Oper} {v : Value} (hi : ops[i]? = some oi) (hsel : ∀ (j : Nat) (o : Oper) cs b, ops[j]? = some o → o.op ≠ .select cs b)
    (hQ : ∀ c a w, Q (.panic c) (a.put oi.dst v) w → Q (.panic c) a w) :
    ∀ (fuel : Nat) (listed : Array Bool) (a : Act) (w : World),
      (∀ j oj, ops[j]? = some oj → j ≠ i → listed.getD j true = false → (∀ e ∈ oj.after, Region.binds .any e = true → e.on ≠ i) → oi.apart ops oj = true) →
      i ∈ Region.ready .any ops listed → YieldsIf P ops R oi v a → R w →
      wpAnyV P ops Q S R ts fuel (listed.setIfInBounds i true) (a.put oi.dst v) w → wpAnyV P ops Q S R ts (fuel + 1) listed a w := by
  intro fuel
  induction fuel with
  | zero =>
    intro listed a w _ hr hy hR H
    refine ⟨fun h => (by rw [h] at hr; cases hr), fun j hj => ?_⟩
    by_cases hji : j = i
    · subst hji; exact hy.wpOp hi hR ⟨⟨hR, fun h _ => h⟩, H⟩
    · have h1 := ready_mono hj hji
      rw [H.1] at h1
      cases h1
  | succ fuel ih =>
    intro listed a w hfree hr hy hR H
    refine ⟨fun h => (by rw [h] at hr; cases hr), fun j hj => ?_⟩
    by_cases hji : j = i
    · subst hji; exact hy.wpOp hi hR ⟨⟨hR, fun h _ => h⟩, H⟩
    · obtain ⟨hjun, oj, hoj, hall⟩ := mem_ready.1 hj
      have hiun := (mem_ready.1 hr).1
      have hnot : ∀ e ∈ oj.after, Region.binds .any e = true → e.on ≠ i := fun e he hb heq => by
        have h2 := hall e he hb
        rw [heq] at h2
        rcases Nat.lt_or_ge i listed.size with h' | h'
        · simp [h'] at hiun h2; rw [hiun] at h2; cases h2
        · simp [Array.getElem?_eq_none h'] at h2
      have h2 := wpOp_putIf hoj (hfree j oj hoj hji hjun hnot) (fun cs b => hsel i oi cs b hi) (fun cs b => hsel j oj cs b hoj) hQ hy (H.2 j (ready_mono hj hji))
      have hfree' : ∀ k ok, ops[k]? = some ok → k ≠ i → (listed.setIfInBounds j true).getD k true = false →
          (∀ e ∈ ok.after, Region.binds .any e = true → e.on ≠ i) → oi.apart ops ok = true := fun k ok hk hki hun hno => by
        refine hfree k ok hk hki ?_ hno
        by_cases hjk : j = k
        · subst hjk; exact hjun
        · rw [getD_set_ne true hjk] at hun; exact hun
      refine wpOp_mono (fun a' w' h3 => ?_) h2
      have hR' := h3.2.1.1
      refine ⟨h3.2.1, ih (listed.setIfInBounds j true) a' w' hfree' (ready_mono hr (Ne.symm hji)) h3.1 hR' ?_⟩
      rw [Array.setIfInBounds_comm _ _ hji]
      exact h3.2.2


def wpOrdV (P : Program) (ops : Array Oper) (Q : Exit → Act → World → Prop) (S R : World → Prop) (ts : List Nat) : List (Nat × Option Bool) → Act → World → Prop
  | [], a, w => Q .normal a w
  | (i, some true) :: l, a, w => wpOp P ops Q i (fun a' w' => (R w' ∧ (S w → ts.contains i = false → S w')) ∧ wpOrdV P ops Q S R ts l a' w') a w
  | (i, some false) :: l, a, w => ∃ oi v, ops[i]? = some oi ∧ YieldsIf P ops S oi v a ∧ S w ∧ wpOrdV P ops Q S R ts l (a.put oi.dst v) w
  | (i, none) :: l, a, w => ∃ oi v, ops[i]? = some oi ∧ YieldsIf P ops R oi v a ∧ wpOrdV P ops Q S R ts l (a.put oi.dst v) w
theorem wpAnyV_of_ord (hs : Region.noSelect ops = true) (hQ : ∀ d v c a w, Q (.panic c) (Act.put a (some d) v) w → Q (.panic c) a w) :
    ∀ (l : List (Nat × Option Bool)) (fuel : Nat) (listed : Array Bool) (a : Act) (w : World), l.length ≤ fuel → goodFromV ops ts listed l = true → R w → wpOrdV P ops Q S R ts l a w →
      wpAnyV P ops Q S R ts fuel listed a w := by
  intro l
  induction l with
  | nil =>
    intro fuel listed a w _ hg _ h
    have hr : Region.ready .any ops listed = [] := by simpa [goodFromV] using hg
    cases fuel with
    | zero => exact ⟨hr, h⟩
    | succ fuel => exact ⟨fun _ => h, by rw [hr]; simp⟩
  | cons x l ih =>
    intro fuel listed a w hf hg hR h
    obtain ⟨fuel, rfl⟩ : ∃ f, fuel = f + 1 := ⟨fuel - 1, by simp at hf; omega⟩
    have hf' : l.length ≤ fuel := by simp at hf; omega
    obtain ⟨i, b⟩ := x
    rcases b with _ | _ | _
    · simp only [goodFromV, Bool.and_eq_true] at hg
      obtain ⟨oi, v, hi, hy, h'⟩ := h
      refine firstV2 hi (Region.noSelect_spec hs) (fun c a w hh => ?_) fuel listed a w (Region.free_spec hi hg.1.2) (by simpa using hg.1.1) hy hR (ih fuel _ _ w hf' hg.2 hR h')
      cases hd : oi.dst with
      | none => rw [hd] at hh; exact hh
      | some d => rw [hd] at hh; exact hQ d v c a w hh
    · simp only [goodFromV, Bool.and_eq_true, List.all_eq_true] at hg
      obtain ⟨oi, v, hi, hy, hS, h'⟩ := h
      refine firstV1 hi (Region.noSelect_spec hs) (fun c a w hh => ?_) (fun t ht => by have := (hg.1.2 t ht).1; simpa using this) fuel listed a w (Region.free_spec hi hg.1.1.2) (fun t ht => by have := (hg.1.2 t ht).2; simpa using this) (by simpa using hg.1.1.1) hy hS hR (ih fuel _ _ w hf' hg.2 hR h')
      cases hd : oi.dst with
      | none => rw [hd] at hh; exact hh
      | some d => rw [hd] at hh; exact hQ d v c a w hh
    · simp only [goodFromV, Bool.and_eq_true, beq_iff_eq] at hg
      refine ⟨fun h0 => absurd (h0.symm.trans hg.1) (by simp), fun j hj => ?_⟩
      rw [hg.1] at hj
      obtain rfl : j = i := by simpa using hj
      exact wpOp_mono (fun a' w' h' => ⟨h'.1, ih fuel _ a' w' hf' hg.2 h'.1.1 h'.2⟩) h
theorem ordV_start {id : Nat} {a : Act} {w : World} (S R : World → Prop) (ts : List Nat) (l : List (Nat × Option Bool)) (hm : P.follows .mixedOrders = true) (hs : Region.noSelect ops = true) (hg : goodOrdV ops ts l = true)
    (hQ : ∀ d v c a w, Q (.panic c) (Act.put a (some d) v) w → Q (.panic c) a w) (hR : R w.drew) (h : wpOrdV P ops Q S R ts l a w.drew) : (Code.region id ops true).wp P Q a w := by
  unfold goodOrdV at hg
  simp only [Bool.and_eq_true, decide_eq_true_eq] at hg
  exact wp_region_any hm (wpAny_of_V _ _ _ _ (wpAnyV_of_ord hs hQ l _ _ a _ hg.1 hg.2 hR h))
theorem ordV_nil {a : Act} {w : World} (h : Q .normal a w) : wpOrdV P ops Q S R ts [] a w := h
theorem ordV_takeS {i : Nat} {o : Oper} {v : Value} {l : List (Nat × Option Bool)} {a : Act} {w : World} (ho' : nthO ops.toList i = some o) (hw : Region.wanted o (yielded ops a.tmps) = true) (hS : S w)
    (hy : ∀ W, S W → (execOp a.eval o).run P W = .ok (.value v) W)
    (h : wpOrdV P ops Q S R ts l (a.put o.dst v) w) : wpOrdV P ops Q S R ts ((i, some false) :: l) a w := ⟨o, v, nthO_spec ho', .inl ⟨hw, hy⟩, hS, h⟩
theorem ordV_takeR {i : Nat} {o : Oper} {v : Value} {l : List (Nat × Option Bool)} {a : Act} {w : World} (ho' : nthO ops.toList i = some o) (hw : Region.wanted o (yielded ops a.tmps) = true)
    (hy : ∀ W, R W → (execOp a.eval o).run P W = .ok (.value v) W)
    (h : wpOrdV P ops Q S R ts l (a.put o.dst v) w) : wpOrdV P ops Q S R ts ((i, none) :: l) a w := ⟨o, v, nthO_spec ho', .inl ⟨hw, hy⟩, h⟩
theorem ordV_call {i : Nat} {o : Oper} {l : List (Nat × Option Bool)} {a : Act} {w : World} (ho' : nthO ops.toList i = some o) (hw : Region.wanted o (yielded ops a.tmps) = true)
    (h : ∀ K' : Act → World → Prop, Shut (∀ a w', R w' → (S w → ts.contains i = false → S w') → wpOrdV P ops Q S R ts l a w' → K' a w') → Oper.wp P o a w K' Q) : wpOrdV P ops Q S R ts ((i, some true) :: l) a w := by
  have ho := nthO_spec ho'
  show wpOp P ops Q i _ a w
  refine wpOp_step ho fun K' hK => ?_
  rw [if_pos hw]
  exact h K' fun a w' hR hS hW => hK a w' ⟨⟨hR, hS⟩, hW⟩
end
end Go.Proofs.Ytcimnkijpifkjaa

/-
  Returns of a struct that lies in a block of the call's own.
-/
namespace Go.Proofs.Ytcimnkijpifkjaa
open Go Go.RowKit

section
variable {P : Program} {fn : Func} {p u : Tmp} {ty : TypeId} {R : Ending → World → Prop} {a : Act} {w : World} {g : Nat} {t : TypeId} {cs : Array Value} {d : TypeDesc}
theorem ret_cell (hB : Blk w g t cs) (h : fn.results = #[.cell p ty]) (hp : a.tmps.getD p undef = .pointer (some ⟨g, 0, none⟩))
    (hu : P.underlying ty = some d) (hd : (match d with | .struct _ | .array _ _ => true | _ => false) = true) (hi : (P.info? ty).map (·.size) = some cs.size) (hdf : a.defers = [])
    (hR : R (.returned (.agg cs)) w) : bodyPost P fn R .ret a w :=
  bodyPost_ret (results_cell_row h a.tmps w g t cs (0, 0) d hp hB hu hd hi) hdf hR
theorem ret_cell_tmp (hB : Blk w g t cs) (h : fn.results = #[.cell p ty, .tmp u]) (hp : a.tmps.getD p undef = .pointer (some ⟨g, 0, none⟩))
    (hu : P.underlying ty = some d) (hd : (match d with | .struct _ | .array _ _ => true | _ => false) = true) (hi : (P.info? ty).map (·.size) = some cs.size) (hdf : a.defers = [])
    (hR : R (.returned (.tuple #[.agg cs, a.tmps.getD u undef])) w) : bodyPost P fn R .ret a w := by
  refine bodyPost_ret ?_ hdf hR
  have e : ({ fn with results := #[.cell p ty] } : Func).results = #[.cell p ty] := rfl
  rw [results_cell_tmp h]
  have h1 : (loadVar ty ⟨g, 0, none⟩).run P w = .ok (.agg cs) w := run_loadVar_row w g t ty cs (0, 0) d hB hu hd hi
  rw [hp]
  show (((asAddr (.pointer (some ⟨g, 0, none⟩))).run P w).andThen _) = _
  simp only [asAddr, Sem.run_pure, Result.andThen_ok, h1]
end
end Go.Proofs.Ytcimnkijpifkjaa

/-
  The walks of layers 15 and 16: the graphs that the laws draw.
-/
namespace Go.Proofs.Ytcimnkijpifkjaa
open Go Go.RowKit

theorem info_parts {t : TypeId} {z : Value} {s b : Nat} (h : (Try.prog.info? t).map (fun i => (i.zero, i.size, i.bytes)) = some (some z, s, b)) : ∃ i, Try.prog.info? t = some i ∧ i.zero = some z ∧ i.size = s ∧ i.bytes = b := by
  cases hi : Try.prog.info? t with
  | none => rw [hi] at h; cases h
  | some i =>
    rw [hi] at h
    simp at h
    exact ⟨i, rfl, h.1, h.2.1, h.2.2⟩
theorem link_info : (Try.prog.info? 66).map (fun i => (i.zero, i.size, i.bytes)) = some (some (.agg #[.int .i64 0, .int .i64 0, .int .i64 0, .int .i64 0]), 4, 32) := by kernel_rfl
def encLk (x : Lk) : List Value := [.int .i64 x.fr, .int .i64 x.to, .int .i64 x.lb, .int .i64 x.cost]
theorem slr_blk {α : Type} {s : Nat} {R : World → α → List Value → Prop} {enc : α → List Value} {w : World} {g : Nat} {t : TypeId} {xs : List α} (h : Blk w g t (xs.flatMap enc).toArray) (hl : ∀ x, (enc x).length = s) (hR : ∀ x, R w x (enc x)) :
    SlR s R w (some ⟨g, 0, none⟩) xs := fun _ => by
  refine ⟨g, 0, rfl, h.lt, fun k x hx => ⟨enc x, hR x, hl x, fun j v hj => ?_⟩⟩
  have hget : ∀ (l : List α) (k : Nat) (x : α), l[k]? = some x → ∀ j u, (enc x)[j]? = some u → (l.flatMap enc)[k * s + j]? = some u := by
    intro l
    induction l with
    | nil => intro k x h; simp at h
    | cons y l ih =>
      intro k x hx j u hu
      rw [List.flatMap_cons]
      cases k with
      | zero =>
        simp at hx
        subst hx
        rw [List.getElem?_append_left (by have := (List.getElem?_eq_some_iff.1 hu).1; omega)]
        simpa using hu
      | succ k =>
        rw [List.getElem?_cons_succ] at hx
        rw [List.getElem?_append_right (by rw [hl, Nat.add_mul]; omega), hl, show (k + 1) * s + j - s = k * s + j by rw [Nat.add_mul]; omega]
        exact ih k x hx j u hu
  have := h.cell (k * s + j)
  rw [show 0 + k * s + j = k * s + j by omega, this]
  simpa using hget xs k x hx j v hj
/-- Every old block but the own row's is as it was. -/
structure ButOwn (v : Value) (w w' : World) : Prop where
  size : w.heap.size ≤ w'.heap.size
  block : ∀ b, b < w.heap.size → v.ownBlock ≠ some b → w'.heap[b]? = w.heap[b]?
theorem ButOwn.of_below {v : Value} {w w' : World} (h : Below w.heap.size w w') : ButOwn v w w' := ⟨h.size, fun b hb _ => h.block b hb⟩
theorem ButOwn.cell {v : Value} {w w' : World} (h : ButOwn v w w') : ∀ b o, b < w.heap.size → v.ownBlock ≠ some b → w'.cell? ⟨b, o, none⟩ = w.cell? ⟨b, o, none⟩ := fun b _ hb hv => World.cell?_of_block (h.block b hb hv)
theorem ButOwn.apps {v v' : Value} {w w1 w2 : World} (h : ButOwn v w w1) (hs : w1.heap.size ≤ w2.heap.size) (ha : Apps w1 w2 v v') : ButOwn v w w2 :=
  ⟨Nat.le_trans h.size hs, fun b hb hv => (ha.keep b (Nat.lt_of_lt_of_le hb h.size) hv).trans (h.block b hb hv)⟩
end Go.Proofs.Ytcimnkijpifkjaa
