/-
  OuOut, OuKeys, OuSet, joined. No conditions.
-/
import Derived.Test.YtkjfdjcagfkdhaaGreatP02
import Derived.DeepKeys4
/-
  Words for memory of layer 05: a map of the call's own from places to maps, told by the maps' blocks.
-/
namespace Go.Proofs.YtkjfdjcagfkdhaaGreat
open Go Go.RowKit Go.Maps

/-- How a map within a map reads: by its block. -/
def refE (v : Value) : Option (DataW Unit × List MemPlace) := match v with
  | .map none => some (.nil, [])
  | .map (some b) => some (.lit (.int .i64 (b : Int)), [])
  | _ => none
def refD (o : Option Nat) : DataW Unit := match o with
  | none => .nil
  | some g => .lit (.int .i64 (g : Int))
theorem refE_mk (o : Option Nat) : refE (.map o) = some (refD o, []) := by cases o <;> rfl
theorem refE_inv {v : Value} {o : Option Nat} {ps : List MemPlace} (h : refE v = some (refD o, ps)) : v = .map o := by
  unfold refE at h
  split at h
  · cases o with
    | none => rfl
    | some g => injection h with h; injection h with h _; cases h
  · rename_i b
    cases o with
    | none => injection h with h; injection h with h _; cases h
    | some g =>
      injection h with h
      injection h with h _
      injection h with h
      injection h with _ h
      have : b = g := by omega
      rw [this]
  · cases h
/-- What the outer map's types are good for. -/
structure PT (P : Program) (t kt et : TypeId) : Prop where
  law : Keyed P kt
  und : P.underlying t = some (.map kt et)
  kin : P.underlying kt = some (.int .i64)
  zero : ∀ w : World, (zeroValue et).run P w = .ok (.map none) w
/-- A block is a map from the places lo to hi to blocks. -/
def Plc (P : Program) (kt : TypeId) (w : World) (b n lo hi : Nat) (F : Nat → Option Nat) : Prop := hi ≤ 1000 ∧ ∃ D : DataW Unit, w.ownsMap P kt refE b n D ∧ ∀ i : Nat, lo ≤ i → i ≤ hi → D.atKey (.int .i64 (i : Int)) .nil = refD (F i)
section
variable {P : Program} {t kt et : TypeId}
theorem place_wf {i hi : Nat} (hh : hi ≤ 1000) (hi : i ≤ hi) : (Lit.int .i64 (i : Int)).wf = true := by
  have h1 : (i : Int) ≤ 1000 := by omega
  have h2 : (0 : Int) ≤ (i : Int) := by omega
  show (decide (IntKind.i64.min ≤ (i : Int)) && decide ((i : Int) ≤ IntKind.i64.max)) = true
  simp only [Bool.and_eq_true, decide_eq_true_eq]
  have h3 : IntKind.i64.min ≤ 0 := by decide
  have h4 : (1000 : Int) ≤ IntKind.i64.max := by decide
  omega
theorem Plc.made {w : World} {hi : Nat} (hh : hi ≤ 1000) : Plc P kt (w.alloc (.map #[] 0)) w.heap.size 0 0 hi (fun _ => none) :=
  ⟨hh, _, World.ownsMap_made w _ _ _, fun _ _ _ => rfl⟩
theorem Plc.lt {w : World} {b n lo hi : Nat} {F : Nat → Option Nat} (h : Plc P kt w b n lo hi F) : b < w.heap.size := by
  obtain ⟨_, D, h1, _⟩ := h
  exact h1.lt
theorem Plc.keep {w w' : World} {b n lo hi : Nat} {F : Nat → Option Nat} (h : Plc P kt w b n lo hi F) (hb : w'.heap[b]? = w.heap[b]?) : Plc P kt w' b n lo hi F := by
  obtain ⟨hh, D, ⟨es, clock, h1, h2, h3, h4⟩, h5⟩ := h
  exact ⟨hh, D, ⟨es, clock, hb.trans h1, h2, h3, h4⟩, h5⟩
theorem Plc.from_ {w : World} {b n lo hi lo' : Nat} {F : Nat → Option Nat} (h : Plc P kt w b n lo hi F) (hl : lo ≤ lo') : Plc P kt w b n lo' hi F := by
  obtain ⟨hh, D, h1, h2⟩ := h
  exact ⟨hh, D, h1, fun i h3 h4 => h2 i (by omega) h4⟩
theorem Plc.isMap {w : World} {b n lo hi : Nat} {F : Nat → Option Nat} (h : Plc P kt w b n lo hi F) : ∃ es clock, w.heap[b]? = some (.map es clock) := by
  obtain ⟨_, D, ⟨es, clock, h1, _⟩, _⟩ := h
  exact ⟨es, clock, h1⟩
theorem key_ne {i j : Nat} (h : i ≠ j) : (Lit.int .i64 (i : Int)) ≠ .int .i64 (j : Int) := fun e => by
  injection e with _ e
  omega
end
section
variable {P : Program} {t kt et : TypeId} (hT : PT P t kt et) (w : World) {ops : Array Oper} {rest : List Oper} {o : Oper} {a : Act} {Q : Exit → Act → World → Prop}
include hT
/-- 'places[i]'. -/
theorem plc_lookup (hg : o.guard = none) (m x : Operand) (hop : o.op = Op.lookup t m x false) {b n lo hi : Nat} {F : Nat → Option Nat} (hm : a.eval m = .map (some b)) (h : Plc P kt w b n lo hi F) (i : Nat) (hx : a.eval x = .int .i64 (i : Int)) (h1 : lo ≤ i) (h2 : i ≤ hi)
    (hK : wpList P ops Q rest (a.put o.dst (.map (F i))) w) : wpList P ops Q (o :: rest) a w := by
  obtain ⟨hh, D, h3, h4⟩ := h
  have hkey := keyOf_int_mk hT.kin (place_wf hh h2)
  refine wpList_plain hg fun K' hK' => ?_
  obtain ⟨es, clock, hb, FF, _, hD⟩ := h3
  obtain ⟨v, hrun, hv⟩ : ∃ v, (Instr.lookup t (.map (some b)) (.int .i64 (i : Int)) false).run P w = .ok v w ∧ ∃ ps, refE v = some (D.atKey (.int .i64 (i : Int)) .nil, ps) := by
    subst hD
    rcases Maps.fit_look false hT.law hT.und (hT.zero w) hb FF hkey with ⟨hrun, _, hat⟩ | ⟨e0, y, _, _, hrun, hRv, hat, _⟩
    · exact ⟨.map none, hrun, [], by rw [hat]; rfl⟩
    · exact ⟨e0.val, hrun, y.2, by rw [hat]; exact hRv⟩
  obtain ⟨ps, hv⟩ := hv
  rw [h4 i h1 h2] at hv
  obtain rfl := refE_inv hv
  unfold Oper.wp
  simp [execOp, hop, hm, hx, hrun, Result.andThen]
  exact hK' _ _ hK
/-- 'places[i] = g'. -/
theorem plc_put (hg : o.guard = none) (m x v : Operand) (hop : o.op = Op.mapUpdate t m x v) {b n lo hi : Nat} {F : Nat → Option Nat} (hm : a.eval m = .map (some b)) (h : Plc P kt w b n lo hi F) (hn : n < maxLen) (i g : Nat) (hx : a.eval x = .int .i64 (i : Int)) (hv : a.eval v = .map (some g)) (h2 : i ≤ hi)
    (hK : ∀ w', Plc P kt w' b (n + 1) lo hi (fun j => if j = i then some g else F j) → w.grownBy w' (some b) → w'.heap.size = w.heap.size → wpList P ops Q rest (a.put o.dst undef) w') : wpList P ops Q (o :: rest) a w := by
  obtain ⟨hh, D, h3, h4⟩ := h
  have hkey := keyOf_int_mk hT.kin (place_wf hh h2)
  have hT1 := h3.tidy hT.law
  refine wpList_mapUpdate_in w hg m x v t hop kt et hT.law hT.und refE b n D hm h3 hn (.int .i64 (i : Int)) (.map (some g)) _ hx hv hkey (refD (some g)) [] (refE_mk _) fun w' h5 h6 => ?_
  refine hK w' ⟨hh, _, h5, fun j h7 h8 => ?_⟩ h6.grown ?_
  · by_cases e : j = i
    · subst e
      rw [atKey_put_same hT1.isMap (hT.law.key hkey)]
      show _ = refD (if j = j then some g else F j)
      rw [if_pos rfl]
    · rw [atKey_put_other (key_ne e)]
      show _ = refD (if j = i then some g else F j)
      rw [if_neg e]
      exact h4 j h7 h8
  · obtain ⟨es, clock, es', clock', _, rfl⟩ := h6
    simp [ChangeMaps.setBlock]
/-- 'delete(places, lo)'. -/
theorem plc_delete (hg : o.guard = none) (m x : Operand) (hop : o.op = Op.call { callee := Callee.builtin Builtin.delete, args := #[m, x], argTypes := #[t, kt] }) {b n lo hi : Nat} {F : Nat → Option Nat} (hm : a.eval m = .map (some b)) (h : Plc P kt w b n lo hi F) (hx : a.eval x = .int .i64 (lo : Int)) (h2 : lo ≤ hi)
    (hK : ∀ w', Plc P kt w' b n (lo + 1) hi F → w.grownBy w' (some b) → w'.heap.size = w.heap.size → wpList P ops Q rest (a.put o.dst (.tuple #[])) w') : wpList P ops Q (o :: rest) a w := by
  obtain ⟨hh, D, h3, h4⟩ := h
  have hkey := keyOf_int_mk hT.kin (place_wf hh h2)
  refine wpList_delete_own w hg m x t kt hop et hT.law hT.und refE b n D hm h3 (.int .i64 (lo : Int)) _ hx hkey fun w' h5 h6 => ?_
  refine hK w' ⟨hh, _, h5, fun j h7 h8 => ?_⟩ h6.grown ?_
  · rw [atKey_del_other (key_ne (by omega))]
    exact h4 j (by omega) h8
  · obtain ⟨es, clock, es', clock', _, rfl⟩ := h6
    simp [ChangeMaps.setBlock]
end
/-- A map, or none at all, as a table. -/
def TabO {K : Type} (P : Program) (kt et : TypeId) (enc : K → Value) (w : World) (o : Option Nat) (n : Nat) (M : K → Option Int) : Prop := match o with
  | none => ∀ k, M k = none
  | some b => Tab P kt et enc w b n M
def RTabO {K : Type} (P : Program) (kt et : TypeId) (enc : K → Value) (w : World) (o : Option Nat) (r n : Nat) (M : K → Option Int) (L : K → Bool) (cnt : Nat) : Prop := match o with
  | none => (∃ a s c, w.heap[r]? = some (.mapIter none a s c)) ∧ (∀ k, M k = none) ∧ (∀ k, L k = false) ∧ cnt = 0
  | some b => RTab P kt et enc w b r n M L cnt
/-- How many are still to come. -/
def leftO (w : World) (o : Option Nat) (r : Nat) : Nat := match o with
  | none => 0
  | some b => w.rangeLeft b r
section
variable {K : Type} {P : Program} {t kt et : TypeId} {enc : K → Value} {w w' : World} {o : Option Nat} {r n cnt : Nat} {M : K → Option Int} {L : K → Bool}
theorem TabO.keep (h : TabO P kt et enc w o n M) (hb : ∀ b, o = some b → w'.heap[b]? = w.heap[b]?) : TabO P kt et enc w' o n M := by
  cases o with
  | none => exact h
  | some b => exact Tab.keep h (hb b rfl)
theorem TabO.keys (h : TabO P kt et enc w o n M) : ∃ l, KeysOf M l ∧ l.length ≤ n := by
  cases o with
  | none => exact ⟨[], ⟨List.Pairwise.nil, fun k => by simp [show M k = none from h k]⟩, Nat.zero_le _⟩
  | some b => exact Tab.keys h
theorem TabO.lt (h : TabO P kt et enc w o n M) : ∀ b, o = some b → b < w.heap.size := by
  rintro b rfl
  exact Tab.lt h
theorem TabO.ok (h : TabO P kt et enc w o n M) {k : K} (hk : M k ≠ none) : KOk P kt enc k := by
  cases o with
  | none => exact absurd (h k) hk
  | some b => obtain ⟨D, _, h2⟩ := h; exact h2.ok k hk
theorem RTabO.tab (h : RTabO P kt et enc w o r n M L cnt) : TabO P kt et enc w o n M := by
  cases o with
  | none => exact h.2.1
  | some b => exact RTab.tab h
theorem RTabO.left_eq (h : RTabO P kt et enc w o r n M L cnt) : leftO w o r = cnt := by
  cases o with
  | none => exact h.2.2.2.symm
  | some b => exact RTab.left_eq h
theorem RTabO.keep (h : RTabO P kt et enc w o r n M L cnt) (hb : ∀ b, o = some b → w'.heap[b]? = w.heap[b]?) (hr : w'.heap[r]? = w.heap[r]?) : RTabO P kt et enc w' o r n M L cnt := by
  cases o with
  | none =>
    obtain ⟨⟨a, s, c, h1⟩, h2⟩ := h
    exact ⟨⟨a, s, c, hr.trans h1⟩, h2⟩
  | some b => exact RTab.keep h (hb b rfl) hr
/-- The loop's own block is none of a map, nor of cells. -/
theorem RTabO.iter (h : RTabO P kt et enc w o r n M L cnt) : ∃ m a s c, w.heap[r]? = some (.mapIter m a s c) := by
  cases o with
  | none => obtain ⟨⟨a, s, c, h1⟩, _⟩ := h; exact ⟨none, a, s, c, h1⟩
  | some b =>
    obtain ⟨D, left, ⟨es, clock, since, seen, c0, _, _, _, _, h5, _⟩, _⟩ := h
    exact ⟨some b, since, seen, c0, h5⟩
theorem Tab.isMap {b : Nat} (h : Tab P kt et enc w b n M) : ∃ es clock, w.heap[b]? = some (.map es clock) := by
  obtain ⟨D, ⟨es, clock, h1, _⟩, _⟩ := h
  exact ⟨es, clock, h1⟩
/-- A map's bound is the number of its states. -/
theorem Tab.tight [DecidableEq K] {b : Nat} (h : Tab P kt et enc w b n M) {l : List K} (hl : KeysOf M l) : Tab P kt et enc w b l.length M := by
  obtain ⟨D, ⟨es, clock, h1, h2, h3, h4⟩, h5⟩ := h
  obtain ⟨l', h6, h7⟩ := h5.len
  have e : l'.length = l.length := Nat.le_antisymm (nodup_le h6.1 fun k hk => (hl.2 k).2 ((h6.2 k).1 hk)) (nodup_le hl.1 fun k hk => (h6.2 k).2 ((hl.2 k).1 hk))
  refine ⟨D, ⟨es, clock, h1, h2, ?_, h4⟩, h5⟩
  rw [← e, h7, h4]
  simp [Maps.size, length_sorted]
end
section
variable {K : Type} [DecidableEq K] {P : Program} {t kt et : TypeId} {enc : K → Value} (hT : KT P t kt et enc) (w : World) {ops : Array Oper} {rest : List Oper} {o : Oper} {a : Act} {Q : Exit → Act → World → Prop}
include hT
omit [DecidableEq K] in
/-- 'len(m)'. -/
theorem tabO_len (hg : o.guard = none) (m : Operand) (hop : o.op = Op.call { callee := Callee.builtin Builtin.len, args := #[m], argTypes := #[t] }) {b : Option Nat} {n : Nat} {M : K → Option Int} (hm : a.eval m = .map b) (h : TabO P kt et enc w b n M)
    (hK : ∀ l, KeysOf M l → wpList P ops Q rest (a.put o.dst (.int .i64 (l.length : Nat))) w) : wpList P ops Q (o :: rest) a w := by
  cases b with
  | some b => exact tab_len hT w hg m hop hm h hK
  | none =>
    refine wpList_plain hg fun K' hK' => ?_
    unfold Oper.wp
    simp [execOp, hop, resolve, invoke, builtin, hm, Maps.len_nil hT.und o.type, Result.andThen]
    exact hK' _ _ (hK [] ⟨List.Pairwise.nil, fun k => by simp [show M k = none from h k]⟩)
omit [DecidableEq K] in
/-- 'range m'. -/
theorem tabO_range (hg : o.guard = none) (m : Operand) (hop : o.op = Op.range t m) {b : Option Nat} {n : Nat} {M : K → Option Int} (hm : a.eval m = .map b) (h : TabO P kt et enc w b n M)
    (hK : ∀ w' cnt, RTabO P kt et enc w' b w.heap.size n M (fun k => (M k).isSome) cnt → w.grownBy w' none → w'.heap.size = w.heap.size + 1 → wpList P ops Q rest (a.put o.dst (.pointer (some ⟨w.heap.size, 0, none⟩))) w') : wpList P ops Q (o :: rest) a w := by
  cases b with
  | some b => exact tab_range hT w hg m hop hm h fun w' cnt h1 h2 h3 => hK w' cnt h1 h2 h3
  | none =>
    refine wpList_plain hg fun K' hK' => ?_
    unfold Oper.wp
    simp [execOp, hop, hm, run_range_nilMap w t kt et hT.und, Result.andThen]
    refine hK' _ _ (hK _ 0 ⟨⟨0, #[], 0, (MapKept.heap_alloc w _).1⟩, h, fun k => by show (M k).isSome = false; rw [show M k = none from h k]; rfl, rfl⟩ (World.grownBy_alloc w _ none) (by simp))
/-- The loop's step. -/
theorem tabO_next (hg : o.guard = none) (it : Operand) (hop : o.op = Op.next it false) {b : Option Nat} {r n cnt : Nat} {M : K → Option Int} {L : K → Bool} (hit : a.eval it = .pointer (some ⟨r, 0, none⟩)) (h : RTabO P kt et enc w b r n M L cnt)
    (hDone : (∀ k, KOk P kt enc k → L k = false) → wpList P ops Q rest (a.put o.dst (.tuple #[.bool false])) w)
    (hMore : ∀ (k : K) (c : Int) (w' : World) (cnt' : Nat), KOk P kt enc k → M k = some c → L k = true → RTabO P kt et enc w' b r n M (fun x => L x && !decide (x = k)) cnt' → cnt' < cnt → w.grownBy w' (some r) → w'.heap.size = w.heap.size →
      (Instr.entry (.pointer (some ⟨r, 0, none⟩))).run P w' = .ok (.tuple #[enc k, .int .i64 c]) w' → wpList P ops Q rest (a.put o.dst (.tuple #[.bool true, enc k, .int .i64 c])) w') : wpList P ops Q (o :: rest) a w := by
  cases b with
  | some b => exact tab_next hT w hg it hop hit h hDone hMore
  | none =>
    obtain ⟨⟨a1, s, c, h1⟩, h2, h3, h4⟩ := h
    refine wpList_plain hg fun K' hK' => ?_
    have hrun : (Instr.next (.pointer (some ⟨r, 0, none⟩)) false o.type).run P w = .ok (.tuple #[.bool false]) w := by
      simp only [Instr.next, getObj, Sem.run_bind, Sem.run, h1, Result.andThen]
      rfl
    unfold Oper.wp
    simp [execOp, hop, hit, hrun, Result.andThen]
    exact hK' _ _ (hDone fun k _ => h3 k)
end
section
variable {H : Type} {P : Program} (w : World) {ops : Array Oper} {rest : List Oper} {o : Oper} {a : Act} {Q : Exit → Act → World → Prop}
/-- An element of a map that is written out. -/
theorem wpList_insert_in (hg : o.guard = none) (m x v : Operand) (t : TypeId) (hop : o.op = Op.insert t m x v)
    (k e : TypeId) (K : Keyed P k) (ht : P.underlying t = some (.map k e)) (R : Value → Option (DataW H × List MemPlace)) (b n : Nat) (D : DataW H)
    (hm : a.eval m = .map (some b)) (hown : w.ownsMap P k R b n D) (hn : n < maxLen) (key val : Value) (kl : Lit) (hx : a.eval x = key) (hv : a.eval v = val) (hkey : keyOf P k key = some kl)
    (d : DataW H) (ps : List MemPlace) (hval : R val = some (d, ps))
    (hK : ∀ w', w'.ownsMap P k R b (n + 1) (D.put kl d) → w.mapTurned w' b → wpList P ops Q rest (a.put o.dst undef) w') :
    wpList P ops Q (o :: rest) a w := by
  refine wpList_plain hg fun K' hK' => ?_
  obtain ⟨w', hrun, r1, r2⟩ := hown.store K ht hn hkey hval
  unfold Oper.wp
  simp [execOp, hop, hm, hx, hv, hrun, Result.andThen]
  exact hK' _ _ (hK w' r1 r2)
end
section
variable {K : Type} [DecidableEq K] {P : Program} {t kt et : TypeId} {enc : K → Value} (hT : KT P t kt et enc) (w : World) {ops : Array Oper} {rest : List Oper} {o : Oper} {a : Act} {Q : Exit → Act → World → Prop}
include hT
theorem tab_ins (hg : o.guard = none) (m x v : Operand) (hop : o.op = Op.insert t m x v) {b n : Nat} {M : K → Option Int} (hm : a.eval m = .map (some b)) (h : Tab P kt et enc w b n M) (hn : n < maxLen) (k : K) (c : Int) (hx : a.eval x = enc k) (hv : a.eval v = .int .i64 c) (hk : KOk P kt enc k) (hc : (Lit.int .i64 c).wf = true)
    (hK : ∀ w', Tab P kt et enc w' b (n + 1) (putT M k c) → w.grownBy w' (some b) → w'.heap.size = w.heap.size → wpList P ops Q rest (a.put o.dst undef) w') : wpList P ops Q (o :: rest) a w := by
  obtain ⟨D, h1, h2⟩ := h
  obtain ⟨kl, hk⟩ := hk
  refine wpList_insert_in w hg m x v t hop kt et hT.law hT.und (plainElem P et) b n D hm h1 hn (enc k) (.int .i64 c) kl hx hv hk (.lit (.int .i64 c)) [] (plainElem_int hT.elt hc) fun w' h3 h4 => ?_
  refine hK w' ⟨_, h3, h2.put hT (h1.tidy hT.law) hk c⟩ h4.grown ?_
  obtain ⟨es, clock, es', clock', _, rfl⟩ := h4
  simp [ChangeMaps.setBlock]
end
section
variable {P : Program} {t kt et : TypeId} (hT : PT P t kt et) (w : World) {ops : Array Oper} {rest : List Oper} {o : Oper} {a : Act} {Q : Exit → Act → World → Prop}
include hT
theorem plc_ins (hg : o.guard = none) (m x v : Operand) (hop : o.op = Op.insert t m x v) {b n lo hi : Nat} {F : Nat → Option Nat} (hm : a.eval m = .map (some b)) (h : Plc P kt w b n lo hi F) (hn : n < maxLen) (i g : Nat) (hx : a.eval x = .int .i64 (i : Int)) (hv : a.eval v = .map (some g)) (h2 : i ≤ hi)
    (hK : ∀ w', Plc P kt w' b (n + 1) lo hi (fun j => if j = i then some g else F j) → w.grownBy w' (some b) → w'.heap.size = w.heap.size → wpList P ops Q rest (a.put o.dst undef) w') : wpList P ops Q (o :: rest) a w := by
  obtain ⟨hh, D, h3, h4⟩ := h
  have hkey := keyOf_int_mk hT.kin (place_wf hh h2)
  have hT1 := h3.tidy hT.law
  refine wpList_insert_in w hg m x v t hop kt et hT.law hT.und refE b n D hm h3 hn (.int .i64 (i : Int)) (.map (some g)) _ hx hv hkey (refD (some g)) [] (refE_mk _) fun w' h5 h6 => ?_
  refine hK w' ⟨hh, _, h5, fun j h7 h8 => ?_⟩ h6.grown ?_
  · by_cases e : j = i
    · subst e
      rw [atKey_put_same hT1.isMap (hT.law.key hkey)]
      show _ = refD (if j = j then some g else F j)
      rw [if_pos rfl]
    · rw [atKey_put_other (key_ne e)]
      show _ = refD (if j = i then some g else F j)
      rw [if_neg e]
      exact h4 j h7 h8
  · obtain ⟨es, clock, es', clock', _, rfl⟩ := h6
    simp [ChangeMaps.setBlock]
end
end Go.Proofs.YtkjfdjcagfkdhaaGreat

/-
  The keys of the maps of layer 05: pairs, spots, modes and texts.
-/
namespace Go.Proofs.YtkjfdjcagfkdhaaGreat
open Go Go.RowKit Go.Maps

set_option maxRecDepth 100000 in
theorem ouLaidOut : laidOutB Tryz.prog = true := by kernel_rfl
set_option maxRecDepth 100000 in
theorem ouPairRow : (77 : TypeId) < Tryz.prog.types.size := of_decide_eq_true (by kernel_rfl)
set_option maxRecDepth 100000 in
theorem ouPairWide : (match Tryz.prog.underlying 77 with | some (.array _ _) | some (.struct _) => true | _ => false) = true := by kernel_rfl
set_option maxRecDepth 100000 in
theorem ouPairLaw : Keyed Tryz.prog 77 := Keyed.of_law (deep_law_laid ouLaidOut (m := 2) (by omega) ouPairRow (by kernel_rfl) ouPairWide)
set_option maxRecDepth 100000 in
theorem ouSpotRow : (67 : TypeId) < Tryz.prog.types.size := of_decide_eq_true (by kernel_rfl)
set_option maxRecDepth 100000 in
theorem ouSpotWide : (match Tryz.prog.underlying 67 with | some (.array _ _) | some (.struct _) => true | _ => false) = true := by kernel_rfl
set_option maxRecDepth 100000 in
theorem ouSpotLaw : Keyed Tryz.prog 67 := Keyed.of_law (deep_law_laid ouLaidOut (m := 2) (by omega) ouSpotRow (by kernel_rfl) ouSpotWide)
set_option maxRecDepth 100000 in
theorem ouZero (w : World) : (zeroValue 3).run Tryz.prog w = .ok (.int .i64 0) w := by kernel_rfl
set_option maxRecDepth 100000 in
theorem litInt {n : Nat} {x : Int} (h : (Lit.int .i64 x).wf = true) : Program.keyLits Tryz.prog (n + 1) 3 [.int .i64 x] = some [.int .i64 x] := by
  unfold Program.keyLits
  rw [Tryz.underlying3]
  simp [h]
set_option maxRecDepth 100000 in
theorem litStr {n : Nat} {x : ByteArray} (h : x.size ≤ maxLen) : Program.keyLits Tryz.prog (n + 1) 9 [.string x] = some [.string x.data.toList] := by
  unfold Program.keyLits
  rw [Tryz.underlying9]
  simp [h]
set_option maxRecDepth 100000 in
theorem litInt_inv {n : Nat} {c : Value} {l : List Lit} (h : Program.keyLits Tryz.prog (n + 1) 3 [c] = some l) : ∃ x, c = .int .i64 x := by
  unfold Program.keyLits at h
  rw [Tryz.underlying3] at h
  cases c with
  | int q x =>
    simp only at h
    split at h
    · rename_i h1
      exact ⟨x, by rw [h1.1]⟩
    · cases h
  | _ => cases h
set_option maxRecDepth 100000 in
theorem litStr_inv {n : Nat} {c : Value} {l : List Lit} (h : Program.keyLits Tryz.prog (n + 1) 9 [c] = some l) : ∃ x, c = .string x := by
  unfold Program.keyLits at h
  rw [Tryz.underlying9] at h
  cases c with
  | string x => exact ⟨x, rfl⟩
  | _ => cases h
def vPair (k : Int × ByteArray) : Value := .agg #[.int .i64 k.1, .string k.2]
def vSpot (k : Int × Int) : Value := .agg #[.int .i64 k.1, .int .i64 k.2]

set_option maxRecDepth 100000 in
theorem keyPair_ok {k : Int × ByteArray} (h1 : (Lit.int .i64 k.1).wf = true) (h2 : k.2.size ≤ maxLen) : KOk Tryz.prog 77 vPair k := by
  have hk : Tryz.prog.keyType 77 = true := by kernel_rfl
  have hf : ∀ c0 c1 : Value, (Value.agg #[c0, c1]).formed Tryz.prog 77 = true := fun c0 c1 => by
    unfold Value.formed
    rw [Tryz.underlying77]
    have : Tryz.prog.cellsOf 77 = 2 := by kernel_rfl
    simp [this]
  unfold KOk keyOf
  rw [Tryz.underlying77]
  simp only [vPair, hk, hf, Bool.true_and, if_true]
  obtain ⟨n, hn⟩ : ∃ n, Tryz.prog.types.size = n + 1 := ⟨Tryz.prog.types.size - 1, by have h : 0 < Tryz.prog.types.size := Nat.lt_of_le_of_lt (Nat.zero_le _) ouPairRow; omega⟩
  rw [hn]
  have hc : Tryz.prog.cellsOf 3 = 1 := by kernel_rfl
  have hcs : Tryz.prog.cellsOf 9 = 1 := by kernel_rfl
  have hc2 : Tryz.prog.cellsOf 77 = 2 := by kernel_rfl
  have e1 := litInt (n := n) h1
  have e2 := litStr (n := n) h2
  have hl : ∃ l, Program.keyLits Tryz.prog (n + 1 + 1) 77 [.int .i64 k.1, (.string k.2 : Value)] = some l := by
    unfold Program.keyLits
    rw [Tryz.underlying77]
    simp [hc, hcs, hc2, e1, e2]
  obtain ⟨l, hl⟩ := hl
  show ∃ kl, Option.map _ (Program.keyLits Tryz.prog (n + 1 + 1) 77 [.int .i64 k.1, (.string k.2 : Value)]) = some kl
  rw [hl]
  exact ⟨_, rfl⟩
set_option maxRecDepth 100000 in
theorem keyPair_inv {key : Value} {kl : Lit} (h : keyOf Tryz.prog 77 key = some kl) : ∃ k, key = vPair k := by
  unfold keyOf at h
  rw [Tryz.underlying77] at h
  simp only at h
  split at h
  · rename_i hf
    simp only [Bool.and_eq_true] at hf
    obtain ⟨_, hf⟩ := hf
    unfold Value.formed at hf
    rw [Tryz.underlying77] at hf
    have hc2 : Tryz.prog.cellsOf 77 = 2 := by kernel_rfl
    have hc : Tryz.prog.cellsOf 3 = 1 := by kernel_rfl
    have hcs : Tryz.prog.cellsOf 9 = 1 := by kernel_rfl
    cases key with
    | agg cs =>
      simp only [hc2, beq_iff_eq] at hf
      obtain ⟨l⟩ := cs
      match l, hf with
      | [c0, c1], _ =>
        obtain ⟨n, hn⟩ : ∃ n, Tryz.prog.types.size = n + 1 := ⟨Tryz.prog.types.size - 1, by have h : 0 < Tryz.prog.types.size := Nat.lt_of_le_of_lt (Nat.zero_le _) ouPairRow; omega⟩
        rw [hn] at h
        obtain ⟨ls, hls, _⟩ := Option.map_eq_some_iff.1 h
        have hls : Program.keyLits Tryz.prog (n + 1 + 1) 77 [c0, c1] = some ls := hls
        rw [Program.keyLits.eq_def] at hls
        simp only [Tryz.underlying77] at hls
        simp [hc, hcs, hc2, Option.bind_eq_some_iff] at hls
        obtain ⟨a, h1, a1, ⟨b1, h2, _⟩, _⟩ := hls
        obtain ⟨x, rfl⟩ := litInt_inv h1
        obtain ⟨y, rfl⟩ := litStr_inv h2
        exact ⟨(x, y), rfl⟩
    | _ => cases hf
  · cases h

set_option maxRecDepth 100000 in
theorem keySpot_ok {k : Int × Int} (h1 : (Lit.int .i64 k.1).wf = true) (h2 : (Lit.int .i64 k.2).wf = true) : KOk Tryz.prog 67 vSpot k := by
  have hk : Tryz.prog.keyType 67 = true := by kernel_rfl
  have hf : ∀ c0 c1 : Value, (Value.agg #[c0, c1]).formed Tryz.prog 67 = true := fun c0 c1 => by
    unfold Value.formed
    rw [Tryz.underlying67]
    have : Tryz.prog.cellsOf 67 = 2 := by kernel_rfl
    simp [this]
  unfold KOk keyOf
  rw [Tryz.underlying67]
  simp only [vSpot, hk, hf, Bool.true_and, if_true]
  obtain ⟨n, hn⟩ : ∃ n, Tryz.prog.types.size = n + 1 := ⟨Tryz.prog.types.size - 1, by have h : 0 < Tryz.prog.types.size := Nat.lt_of_le_of_lt (Nat.zero_le _) ouSpotRow; omega⟩
  rw [hn]
  have hc : Tryz.prog.cellsOf 3 = 1 := by kernel_rfl
  have hcs : Tryz.prog.cellsOf 9 = 1 := by kernel_rfl
  have hc2 : Tryz.prog.cellsOf 67 = 2 := by kernel_rfl
  have e1 := litInt (n := n) h1
  have e2 := litInt (n := n) h2
  have hl : ∃ l, Program.keyLits Tryz.prog (n + 1 + 1) 67 [.int .i64 k.1, (.int .i64 k.2 : Value)] = some l := by
    unfold Program.keyLits
    rw [Tryz.underlying67]
    simp [hc, hc2, e1, e2]
  obtain ⟨l, hl⟩ := hl
  show ∃ kl, Option.map _ (Program.keyLits Tryz.prog (n + 1 + 1) 67 [.int .i64 k.1, (.int .i64 k.2 : Value)]) = some kl
  rw [hl]
  exact ⟨_, rfl⟩
set_option maxRecDepth 100000 in
theorem keySpot_inv {key : Value} {kl : Lit} (h : keyOf Tryz.prog 67 key = some kl) : ∃ k, key = vSpot k := by
  unfold keyOf at h
  rw [Tryz.underlying67] at h
  simp only at h
  split at h
  · rename_i hf
    simp only [Bool.and_eq_true] at hf
    obtain ⟨_, hf⟩ := hf
    unfold Value.formed at hf
    rw [Tryz.underlying67] at hf
    have hc2 : Tryz.prog.cellsOf 67 = 2 := by kernel_rfl
    have hc : Tryz.prog.cellsOf 3 = 1 := by kernel_rfl
    have hcs : Tryz.prog.cellsOf 9 = 1 := by kernel_rfl
    cases key with
    | agg cs =>
      simp only [hc2, beq_iff_eq] at hf
      obtain ⟨l⟩ := cs
      match l, hf with
      | [c0, c1], _ =>
        obtain ⟨n, hn⟩ : ∃ n, Tryz.prog.types.size = n + 1 := ⟨Tryz.prog.types.size - 1, by have h : 0 < Tryz.prog.types.size := Nat.lt_of_le_of_lt (Nat.zero_le _) ouSpotRow; omega⟩
        rw [hn] at h
        obtain ⟨ls, hls, _⟩ := Option.map_eq_some_iff.1 h
        have hls : Program.keyLits Tryz.prog (n + 1 + 1) 67 [c0, c1] = some ls := hls
        rw [Program.keyLits.eq_def] at hls
        simp only [Tryz.underlying67] at hls
        simp [hc, hc2, Option.bind_eq_some_iff] at hls
        obtain ⟨a, h1, a1, ⟨b1, h2, _⟩, _⟩ := hls
        obtain ⟨x, rfl⟩ := litInt_inv h1
        obtain ⟨y, rfl⟩ := litInt_inv h2
        exact ⟨(x, y), rfl⟩
    | _ => cases hf
  · cases h

set_option maxRecDepth 100000 in
theorem keyInt_ok {k : Int} (h : (Lit.int .i64 k).wf = true) : KOk Tryz.prog 3 (fun k : Int => Value.int .i64 k) k := ⟨_, keyOf_int_mk Tryz.underlying3 h⟩
set_option maxRecDepth 100000 in
theorem keyStr_ok {k : ByteArray} (h : k.size ≤ maxLen) : KOk Tryz.prog 9 (fun k : ByteArray => Value.string k) k := ⟨_, by unfold keyOf; rw [Tryz.underlying9]; simp only [mapKey, Tryz.underlying9]; exact if_pos h⟩
set_option maxRecDepth 100000 in
theorem ktInt : KT Tryz.prog 102 3 3 (fun k : Int => Value.int .i64 k) where
  law := int_keyed Tryz.underlying3
  und := Tryz.underlying102
  elt := Tryz.underlying3
  zero := ouZero
  inj := fun _ _ h => by injection h
  inv := fun _ _ h => by
    obtain ⟨x, hx, _⟩ := Maps.keyOf_int_inv Tryz.underlying3 h
    exact ⟨x, hx⟩
set_option maxRecDepth 100000 in
theorem ktStr : KT Tryz.prog 85 9 3 (fun k : ByteArray => Value.string k) where
  law := string_keyed Tryz.underlying9
  und := Tryz.underlying85
  elt := Tryz.underlying3
  zero := ouZero
  inj := fun _ _ h => by injection h
  inv := fun key kl h => by
    unfold keyOf at h
    rw [Tryz.underlying9] at h
    simp only [mapKey, Tryz.underlying9] at h
    cases key with
    | string x => exact ⟨x, rfl⟩
    | _ => cases h
set_option maxRecDepth 100000 in
theorem ktPair : KT Tryz.prog 82 77 3 vPair where
  law := ouPairLaw
  und := Tryz.underlying82
  elt := Tryz.underlying3
  zero := ouZero
  inj := fun k k' h => by
    have h2 := congrArg Array.toList (Value.agg.inj h)
    simp at h2
    exact Prod.ext h2.1 h2.2
  inv := fun _ _ h => keyPair_inv h
set_option maxRecDepth 100000 in
theorem ktSpot : KT Tryz.prog 73 67 3 vSpot where
  law := ouSpotLaw
  und := Tryz.underlying73
  elt := Tryz.underlying3
  zero := ouZero
  inj := fun k k' h => by
    have h2 := congrArg Array.toList (Value.agg.inj h)
    simp at h2
    exact Prod.ext h2.1 h2.2
  inv := fun _ _ h => keySpot_inv h
end Go.Proofs.YtkjfdjcagfkdhaaGreat

/-
  How a place is settled: the plain law.
-/
namespace Go.Proofs.YtkjfdjcagfkdhaaGreat
open List
section
variable {K : Type} [DecidableEq K] (S : Sys K)
/-- A cost would be news. -/
def newsB (M : K → Option Int) (k : K) (c : Int) : Bool := match M k with
  | some o => decide (c < o)
  | none => true
theorem news_no {M : K → Option Int} {k : K} {c : Int} (h : newsB M k c = false) : relaxT M k c = M := by
  unfold newsB at h
  split at h
  · rename_i o ho
    exact relax_le ho (by have := of_decide_eq_false h; omega)
  · cases h
/-- One rule at one state. -/
def setR (k : K) (p : (K → Option Int) × List K) (r : Ru) : (K → Option Int) × List K :=
  if r.mute = true ∧ r.fr = S.mode k then
    match S.step k r with
    | none => p
    | some k' => if newsB p.1 k' ((p.1 k).getD 0 + r.co) = true then (relaxT p.1 k' ((p.1 k).getD 0 + r.co), p.2 ++ [k']) else p
  else p
def setK (p : (K → Option Int) × List K) (k : K) : (K → Option Int) × List K := S.rs.foldl (setR S k) p
def setL (p : (K → Option Int) × List K) (L : List K) : (K → Option Int) × List K := L.foldl (setK S) p
variable {S}
theorem setR_skip {k : K} {p : (K → Option Int) × List K} {r : Ru} (h : ¬ (r.mute = true ∧ r.fr = S.mode k)) : setR S k p r = p := if_neg h
theorem setR_none {k : K} {p : (K → Option Int) × List K} {r : Ru} (h : S.step k r = none) : setR S k p r = p := by
  unfold setR
  split
  · rw [h]
  · rfl
theorem setR_old {k k' : K} {p : (K → Option Int) × List K} {r : Ru} (h : S.step k r = some k') (h2 : newsB p.1 k' ((p.1 k).getD 0 + r.co) = false) : setR S k p r = p := by
  unfold setR
  split
  · rw [h]
    simp [h2]
  · rfl
theorem setR_new {k k' : K} {p : (K → Option Int) × List K} {r : Ru} (h0 : r.mute = true ∧ r.fr = S.mode k) (h : S.step k r = some k') (h2 : newsB p.1 k' ((p.1 k).getD 0 + r.co) = true) :
    setR S k p r = (relaxT p.1 k' ((p.1 k).getD 0 + r.co), p.2 ++ [k']) := by
  unfold setR
  rw [if_pos h0, h]
  simp [h2]
/-- In any case the table is relaxed. -/
theorem setR_tab {k k' : K} {p : (K → Option Int) × List K} {r : Ru} (h0 : r.mute = true ∧ r.fr = S.mode k) (h : S.step k r = some k') : (setR S k p r).1 = relaxT p.1 k' ((p.1 k).getD 0 + r.co) := by
  cases h2 : newsB p.1 k' ((p.1 k).getD 0 + r.co) with
  | true => rw [setR_new h0 h h2]
  | false => rw [setR_old h h2, news_no h2]
theorem setR_news {k : K} {p : (K → Option Int) × List K} {r : Ru} : ∀ x ∈ (setR S k p r).2, x ∈ p.2 ∨ ∃ k', S.step k r = some k' ∧ x = k' ∧ r.mute = true ∧ r.fr = S.mode k := by
  intro x hx
  by_cases h0 : r.mute = true ∧ r.fr = S.mode k
  · cases h : S.step k r with
    | none => rw [setR_none h] at hx; exact .inl hx
    | some k' =>
      cases h2 : newsB p.1 k' ((p.1 k).getD 0 + r.co) with
      | false => rw [setR_old h h2] at hx; exact .inl hx
      | true =>
        rw [setR_new h0 h h2] at hx
        rcases mem_append.1 hx with hx | hx
        · exact .inl hx
        · exact .inr ⟨k', rfl, mem_singleton.1 hx, h0⟩
  · rw [setR_skip h0] at hx; exact .inl hx
theorem relaxT_other {M : K → Option Int} {k x : K} {c : Int} (h : x ≠ k) : relaxT M k c x = M x := if_neg h
theorem relaxT_dom {M : K → Option Int} {k x : K} {c : Int} (h : M x ≠ none) : relaxT M k c x ≠ none := by
  unfold relaxT
  split
  · split <;> simp
  · exact h
theorem relaxT_in {M : K → Option Int} {k : K} {c : Int} : relaxT M k c k ≠ none := by
  unfold relaxT
  rw [if_pos rfl]
  split <;> simp
/-- All of a table is reached at a place. -/
def SubR (S : Sys K) (st : K) (inp : List UInt8) (i : Nat) (M : K → Option Int) : Prop := ∀ k c, M k = some c → Rch S st inp i k c
section
variable {st : K} {inp : List UInt8} {i : Nat}
theorem SubR.relax {M : K → Option Int} (h : SubR S st inp i M) {k : K} {c : Int} (hc : Rch S st inp i k c) : SubR S st inp i (relaxT M k c) := by
  intro x d hd
  by_cases e : x = k
  · subst e
    unfold relaxT at hd
    rw [if_pos rfl] at hd
    split at hd
    · rename_i o ho
      obtain rfl := Option.some.inj hd
      rcases Int.le_total o c with h1 | h1
      · rw [Int.min_eq_left h1]; exact h _ _ ho
      · rw [Int.min_eq_right h1]; exact hc
    · obtain rfl := Option.some.inj hd
      exact hc
  · rw [relaxT_other e] at hd
    exact h _ _ hd
omit [DecidableEq K] in
theorem mute_rch {k k' : K} {c : Int} {r : Ru} (h : Rch S st inp i k c) (hr : r ∈ S.rs) (h0 : r.mute = true ∧ r.fr = S.mode k) (hs : S.step k r = some k') : Rch S st inp i k' (c + r.co) := by
  have := Rch.step h hr h0.2 (by rw [mute_bl.1 h0.1]; exact nil_prefix) hs
  rwa [mute_size h0.1, Nat.add_zero] at this
omit [DecidableEq K] in
/-- What a rule leads to is reached. -/
theorem SubR.hop {p : (K → Option Int) × List K} {k k' : K} {r : Ru} (h : SubR S st inp i p.1) (hk : p.1 k ≠ none) (hr : r ∈ S.rs) (h0 : r.mute = true ∧ r.fr = S.mode k) (hs : S.step k r = some k') : Rch S st inp i k' ((p.1 k).getD 0 + r.co) := by
  cases hM : p.1 k with
  | none => exact absurd hM hk
  | some c => exact mute_rch (h k c hM) hr h0 hs
/-- The state of a round: all is reached, the states to come are in the table. -/
structure SetI (S : Sys K) (st : K) (inp : List UInt8) (i : Nat) (p : (K → Option Int) × List K) : Prop where
  sub : SubR S st inp i p.1
  news : ∀ k ∈ p.2, p.1 k ≠ none
theorem SetI.rule {p : (K → Option Int) × List K} {k : K} {r : Ru} (h : SetI S st inp i p) (hk : p.1 k ≠ none) (hr : r ∈ S.rs) : SetI S st inp i (setR S k p r) ∧ (∀ x, p.1 x ≠ none → (setR S k p r).1 x ≠ none) := by
  by_cases h0 : r.mute = true ∧ r.fr = S.mode k
  · cases hs : S.step k r with
    | none => rw [setR_none hs]; exact ⟨h, fun _ h => h⟩
    | some k' =>
      cases h2 : newsB p.1 k' ((p.1 k).getD 0 + r.co) with
      | false => rw [setR_old hs h2]; exact ⟨h, fun _ h => h⟩
      | true =>
        rw [setR_new h0 hs h2]
        refine ⟨⟨h.sub.relax (h.sub.hop hk hr h0 hs), fun x hx => ?_⟩, fun x hx => relaxT_dom hx⟩
        rcases mem_append.1 hx with hx | hx
        · exact relaxT_dom (h.news x hx)
        · rw [mem_singleton.1 hx]; exact relaxT_in
  · rw [setR_skip h0]; exact ⟨h, fun _ h => h⟩
theorem SetI.rules {k : K} : ∀ {l : List Ru} {p : (K → Option Int) × List K}, SetI S st inp i p → p.1 k ≠ none → (∀ r ∈ l, r ∈ S.rs) → SetI S st inp i (l.foldl (setR S k) p) ∧ (∀ x, p.1 x ≠ none → (l.foldl (setR S k) p).1 x ≠ none)
  | [], _, h, _, _ => ⟨h, fun _ h => h⟩
  | r :: l, p, h, hk, hl => by
    obtain ⟨h1, h2⟩ := h.rule hk (hl r (mem_cons_self ..))
    obtain ⟨h3, h4⟩ := SetI.rules h1 (h2 k hk) (fun x hx => hl x (mem_cons_of_mem _ hx))
    exact ⟨h3, fun x hx => h4 x (h2 x hx)⟩
theorem SetI.states : ∀ {L : List K} {p : (K → Option Int) × List K}, SetI S st inp i p → (∀ k ∈ L, p.1 k ≠ none) → SetI S st inp i (setL S p L) ∧ (∀ x, p.1 x ≠ none → (setL S p L).1 x ≠ none)
  | [], _, h, _ => ⟨h, fun _ h => h⟩
  | k :: L, p, h, hk => by
    obtain ⟨h1, h2⟩ := h.rules (hk k (mem_cons_self ..)) (fun _ h => h)
    obtain ⟨h3, h4⟩ := SetI.states (L := L) h1 (fun x hx => h2 x (hk x (mem_cons_of_mem _ hx)))
    exact ⟨h3, fun x hx => h4 x (h2 x hx)⟩
/-- No rule that takes nothing goes on from a state. -/
def EndK (S : Sys K) (k : K) : Prop := ∀ r ∈ S.rs, r.mute = true → r.fr ≠ S.mode k
omit [DecidableEq K] in
theorem setK_end [DecidableEq K] {k : K} (h : EndK S k) (p : (K → Option Int) × List K) : setK S p k = p := by
  unfold setK
  have : ∀ (l : List Ru) (q : (K → Option Int) × List K), (∀ r ∈ l, r ∈ S.rs) → l.foldl (setR S k) q = q := by
    intro l
    induction l with
    | nil => exact fun _ _ => rfl
    | cons r l ih =>
      intro q hl
      rw [foldl_cons, setR_skip (fun h0 => h r (hl r (mem_cons_self ..)) h0.1 h0.2)]
      exact ih q fun x hx => hl x (mem_cons_of_mem _ hx)
  exact this _ _ fun _ h => h
theorem setL_end : ∀ {L : List K} (_ : ∀ k ∈ L, EndK S k) (p : (K → Option Int) × List K), setL S p L = p
  | [], _, _ => rfl
  | k :: L, h, p => by
    show setL S (setK S p k) L = p
    rw [setK_end (h k (mem_cons_self ..))]
    exact setL_end (fun x hx => h x (mem_cons_of_mem _ hx)) p
/-- The first round: from a table M0, its states in any order. -/
structure RdI (S : Sys K) (M0 : K → Option Int) (H : K → Int → Prop) (p : (K → Option Int) × List K) : Prop where
  holds : Holds p.1 (fun k c => Low M0 k c ∨ H k c)
  same : ∀ k, ¬ EndK S k → p.1 k = M0 k
  ends : ∀ k ∈ p.2, EndK S k
theorem rdI_rule {M0 : K → Option Int} (hF : Flat S st inp) (hM : SubR S st inp i M0) {H : K → Int → Prop} {p : (K → Option Int) × List K} (h : RdI S M0 H p) {k : K} (hk : M0 k ≠ none) {r : Ru} (hr : r ∈ S.rs) :
    RdI S M0 (fun x d => H x d ∨ ∃ c, M0 k = some c ∧ r.mute = true ∧ r.fr = S.mode k ∧ S.step k r = some x ∧ d = c + r.co) (setR S k p r) := by
  by_cases h0 : r.mute = true ∧ r.fr = S.mode k
  · cases hs : S.step k r with
    | none =>
      rw [setR_none hs]
      refine ⟨holds_iff h.holds fun x d => ⟨fun h => h.elim .inl fun h => .inr (.inl h), fun h => h.elim .inl fun h => h.elim .inr fun ⟨_, _, _, _, h, _⟩ => (nomatch h)⟩, h.same, h.ends⟩
    | some k' =>
      cases hc : M0 k with
      | none => exact absurd hc hk
      | some c =>
        have hend : EndK S k' := fun r' h1 h2 h3 => hF i k c r k' r' (hM k c hc) hr h0.1 h0.2 hs h1 h2 h3
        have hpk : p.1 k = some c := by rw [h.same k (fun he => he r hr h0.1 h0.2), hc]
        refine ⟨?_, fun x hx => ?_, fun x hx => ?_⟩
        · rw [setR_tab h0 hs, hpk]
          refine holds_step h.holds fun x d => ?_
          constructor
          · rintro (h1 | h1 | ⟨c', h1, _, _, h2, rfl⟩)
            · exact .inl (.inl h1)
            · exact .inl (.inr h1)
            · obtain rfl := Option.some.inj h1
              obtain rfl := Option.some.inj h2
              exact .inr ⟨rfl, rfl⟩
          · rintro ((h1 | h1) | ⟨rfl, rfl⟩)
            · exact .inl h1
            · exact .inr (.inl h1)
            · exact .inr (.inr ⟨c, rfl, h0.1, h0.2, rfl, rfl⟩)
        · rw [setR_tab h0 hs, relaxT_other (fun e => hx (by rw [e]; exact hend))]
          exact h.same x hx
        · rcases setR_news x hx with h1 | ⟨k2, h1, rfl, _⟩
          · exact h.ends x h1
          · rw [hs] at h1
            obtain rfl := Option.some.inj h1
            exact hend
  · rw [setR_skip h0]
    refine ⟨holds_iff h.holds fun x d => ⟨fun h => h.elim .inl fun h => .inr (.inl h), fun h => h.elim .inl fun h => h.elim .inr fun ⟨_, _, h1, h2, _⟩ => absurd ⟨h1, h2⟩ h0⟩, h.same, h.ends⟩
theorem rdI_rules {M0 : K → Option Int} (hF : Flat S st inp) (hM : SubR S st inp i M0) {k : K} (hk : M0 k ≠ none) : ∀ {l : List Ru} {H : K → Int → Prop} {p : (K → Option Int) × List K}, RdI S M0 H p → (∀ r ∈ l, r ∈ S.rs) →
    RdI S M0 (fun x d => H x d ∨ ∃ r ∈ l, ∃ c, M0 k = some c ∧ r.mute = true ∧ r.fr = S.mode k ∧ S.step k r = some x ∧ d = c + r.co) (l.foldl (setR S k) p)
  | [], H, p, h, _ => ⟨holds_iff h.holds fun x d => ⟨fun h => h.elim .inl fun h => .inr (.inl h), fun h => h.elim .inl fun h => h.elim .inr fun ⟨_, h, _⟩ => (nomatch h)⟩, h.same, h.ends⟩
  | r :: l, H, p, h, hl => by
    have h1 := rdI_rules hF hM hk (l := l) (rdI_rule hF hM h hk (hl r (mem_cons_self ..))) (fun x hx => hl x (mem_cons_of_mem _ hx))
    refine ⟨holds_iff h1.holds fun x d => ?_, h1.same, h1.ends⟩
    constructor
    · rintro (h | (h | h) | ⟨r', h2, h3⟩)
      · exact .inl h
      · exact .inr (.inl h)
      · exact .inr (.inr ⟨r, mem_cons_self .., h⟩)
      · exact .inr (.inr ⟨r', mem_cons_of_mem _ h2, h3⟩)
    · rintro (h | h | ⟨r', h2, h3⟩)
      · exact .inl h
      · exact .inr (.inl (.inl h))
      · rcases mem_cons.1 h2 with rfl | h2
        · exact .inr (.inl (.inr h3))
        · exact .inr (.inr ⟨r', h2, h3⟩)
theorem rdI_states {M0 : K → Option Int} (hF : Flat S st inp) (hM : SubR S st inp i M0) : ∀ {L : List K} {H : K → Int → Prop} {p : (K → Option Int) × List K}, RdI S M0 H p → (∀ k ∈ L, M0 k ≠ none) →
    RdI S M0 (fun x d => H x d ∨ ∃ k ∈ L, ∃ r ∈ S.rs, ∃ c, M0 k = some c ∧ r.mute = true ∧ r.fr = S.mode k ∧ S.step k r = some x ∧ d = c + r.co) (setL S p L)
  | [], H, p, h, _ => ⟨holds_iff h.holds fun x d => ⟨fun h => h.elim .inl fun h => .inr (.inl h), fun h => h.elim .inl fun h => h.elim .inr fun ⟨_, h, _⟩ => (nomatch h)⟩, h.same, h.ends⟩
  | k :: L, H, p, h, hL => by
    have h1 := rdI_states hF hM (L := L) (rdI_rules hF hM (hL k (mem_cons_self ..)) h (fun _ h => h)) (fun x hx => hL x (mem_cons_of_mem _ hx))
    refine ⟨holds_iff h1.holds fun x d => ?_, h1.same, h1.ends⟩
    constructor
    · rintro (h | (h | h) | ⟨k', h2, h3⟩)
      · exact .inl h
      · exact .inr (.inl h)
      · exact .inr (.inr ⟨k, mem_cons_self .., h⟩)
      · exact .inr (.inr ⟨k', mem_cons_of_mem _ h2, h3⟩)
    · rintro (h | h | ⟨k', h2, h3⟩)
      · exact .inl h
      · exact .inr (.inl (.inl h))
      · rcases mem_cons.1 h2 with rfl | h2
        · exact .inr (.inl (.inr h3))
        · exact .inr (.inr ⟨k', h2, h3⟩)
omit [DecidableEq K] in
theorem holds_low (M : K → Option Int) : Holds M (Low M) := fun k => ⟨fun c h => ⟨h, fun c' h' => by have : M k = some c' := h'; rw [h] at this; obtain rfl := Option.some.inj this; exact Int.le_refl _⟩, fun h c h' => by have : M k = some c := h'; rw [h] at this; cases this⟩
/-- The first round over all states of a table. -/
theorem settle_round {M0 : K → Option Int} (hF : Flat S st inp) (hM : SubR S st inp i M0) {L : List K} (hL : KeysOf M0 L) :
    Holds (setL S (M0, []) L).1 (fun k c => Low M0 k c ∨ Hop S (Low M0) k c) ∧ ∀ k ∈ (setL S (M0, []) L).2, EndK S k := by
  have h := rdI_states hF hM (L := L) (H := fun _ _ => False) (p := (M0, [])) ⟨holds_iff (holds_low M0) fun k c => ⟨.inl, fun h => h.elim id fun h => h.elim⟩, fun _ _ => rfl, fun _ h => (nomatch h)⟩ (fun k hk => (hL.2 k).1 hk)
  refine ⟨holds_iff h.holds fun x d => ?_, h.ends⟩
  constructor
  · rintro (h | h | ⟨k, _, r, hr, c, h1, h2, h3, h4, rfl⟩)
    · exact .inl h
    · exact h.elim
    · exact .inr ⟨k, c, r, h1, hr, h2, h3, h4, rfl⟩
  · rintro (h | ⟨k, c, r, h1, hr, h2, h3, h4, rfl⟩)
    · exact .inl h
    · exact .inr (.inr ⟨k, (hL.2 k).2 (by have : M0 k = some c := h1; rw [this]; simp), r, hr, c, h1, h2, h3, h4, rfl⟩)
end
end
end Go.Proofs.YtkjfdjcagfkdhaaGreat
