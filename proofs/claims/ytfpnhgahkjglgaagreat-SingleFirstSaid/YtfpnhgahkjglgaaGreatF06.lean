/-
  OrdB, OrdS, OuWalkB, joined. No conditions.
-/
import Derived.Test.YtfpnhgahkjglgaaGreatF05
import Derived.Deep.DeepCutAuto
set_option maxRecDepth 100000
namespace Go.Proofs.YtfpnhgahkjglgaaGreat
open Go Go.RowKit
inductive OTree where
 | done
 | quiet (i : Nat) (t : OTree)
 | only (i : Nat) (t : OTree)
 | fork (i j : Nat) (t u : OTree)
 | fork3 (i j k : Nat) (t u v : OTree)
def OTree.depth : OTree → Nat
 | .done => 0
 | .quiet _ t => t.depth + 1
 | .only _ t => t.depth + 1
 | .fork _ _ t u => max t.depth u.depth + 1
 | .fork3 _ _ _ t u v => max t.depth (max u.depth v.depth) + 1
def goodB (ops : Array Oper) : OTree → Array Bool → Bool
 | .done, listed => (Region.ready .any ops listed).isEmpty
 | .quiet i t, listed => (Region.ready .any ops listed).contains i && Region.free .any ops listed i && goodB ops t (listed.setIfInBounds i true)
 | .only i t, listed => Region.ready .any ops listed == [i] && goodB ops t (listed.setIfInBounds i true)
 | .fork i j t u, listed => Region.ready .any ops listed == [i, j] && goodB ops t (listed.setIfInBounds i true) && goodB ops u (listed.setIfInBounds j true)
 | .fork3 i j k t u v, listed => Region.ready .any ops listed == [i, j, k] && goodB ops t (listed.setIfInBounds i true) && goodB ops u (listed.setIfInBounds j true) && goodB ops v (listed.setIfInBounds k true)
def goodTree (ops : Array Oper) (t : OTree) : Bool := decide (t.depth ≤ ops.size) && goodB ops t (Array.replicate ops.size false)
section
variable {P : Program} {ops : Array Oper} {Q : Exit → Act → World → Prop} {S : World → Prop}
def wpB (P : Program) (ops : Array Oper) (Q : Exit → Act → World → Prop) (S : World → Prop) : OTree → Act → World → Prop
 | .done, a, w => Q .normal a w
 | .quiet i t, a, w => ∃ oi v, ops[i]? = some oi ∧ YieldsIf P ops S oi v a ∧ wpB P ops Q S t (a.put oi.dst v) w
 | .only i t, a, w => wpOp P ops Q i (fun a' w' => S w' ∧ wpB P ops Q S t a' w') a w
 | .fork i j t u, a, w => wpOp P ops Q i (fun a' w' => S w' ∧ wpB P ops Q S t a' w') a w ∧ wpOp P ops Q j (fun a' w' => S w' ∧ wpB P ops Q S u a' w') a w
 | .fork3 i j k t u v, a, w => wpOp P ops Q i (fun a' w' => S w' ∧ wpB P ops Q S t a' w') a w ∧ wpOp P ops Q j (fun a' w' => S w' ∧ wpB P ops Q S u a' w') a w ∧ wpOp P ops Q k (fun a' w' => S w' ∧ wpB P ops Q S v a' w') a w
theorem wpAnyH_of_tree (hs : Region.noSelect ops = true) (hQ : ∀ d v c a w, Q (.panic c) (Act.put a (some d) v) w → Q (.panic c) a w) :
 ∀ (t : OTree) (fuel : Nat) (listed : Array Bool) (a : Act) (w : World), t.depth ≤ fuel → goodB ops t listed = true → S w → wpB P ops Q S t a w →
  wpAnyH P .any ops Q S fuel listed a w := by
 intro t
 induction t with
 | done =>
  intro fuel listed a w _ hg _ h
  exact wpAnyH_done (by simpa [goodB] using hg) h fuel
 | quiet i t ih =>
  intro fuel listed a w hf hg hS h
  obtain ⟨fuel, rfl⟩ : ∃ f, fuel = f + 1 := ⟨fuel - 1, by simp [OTree.depth] at hf; omega⟩
  have hf' : t.depth ≤ fuel := by simp [OTree.depth] at hf; omega
  simp only [goodB, Bool.and_eq_true] at hg
  obtain ⟨oi, v, hi, hy, h'⟩ := h
  exact wpAnyH_take hi hs hg.1.2 hg.1.1 (fun c a w hh => by
   cases hd : oi.dst with
   | none => rw [hd] at hh; exact hh
   | some d => rw [hd] at hh; exact hQ d v c a w hh) hy hS (ih fuel _ _ w hf' hg.2 hS h')
 | only i t ih =>
  intro fuel listed a w hf hg hS h
  obtain ⟨fuel, rfl⟩ : ∃ f, fuel = f + 1 := ⟨fuel - 1, by simp [OTree.depth] at hf; omega⟩
  have hf' : t.depth ≤ fuel := by simp [OTree.depth] at hf; omega
  simp only [goodB, Bool.and_eq_true, beq_iff_eq] at hg
  refine wpAnyH_all hg.1 (by simp) fun j hj => ?_
  obtain rfl : j = i := by simpa using hj
  exact wpOp_mono (fun a' w' h' => ⟨h'.1, ih fuel _ a' w' hf' hg.2 h'.1 h'.2⟩) h
 | fork i j t u iht ihu =>
  intro fuel listed a w hf hg hS h
  obtain ⟨fuel, rfl⟩ : ∃ f, fuel = f + 1 := ⟨fuel - 1, by simp [OTree.depth] at hf; omega⟩
  have hf1 : t.depth ≤ fuel := by simp [OTree.depth] at hf; omega
  have hf2 : u.depth ≤ fuel := by simp [OTree.depth] at hf; omega
  simp only [goodB, Bool.and_eq_true, beq_iff_eq] at hg
  refine wpAnyH_all hg.1.1 (by simp) fun k hk => ?_
  have hk' : k = i ∨ k = j := by simpa using hk
  rcases hk' with rfl | rfl
  ·exact wpOp_mono (fun a' w' h' => ⟨h'.1, iht fuel _ a' w' hf1 hg.1.2 h'.1 h'.2⟩) h.1
  ·exact wpOp_mono (fun a' w' h' => ⟨h'.1, ihu fuel _ a' w' hf2 hg.2 h'.1 h'.2⟩) h.2
 | fork3 i j k t u v iht ihu ihv =>
  intro fuel listed a w hf hg hS h
  obtain ⟨fuel, rfl⟩ : ∃ f, fuel = f + 1 := ⟨fuel - 1, by simp [OTree.depth] at hf; omega⟩
  have hf1 : t.depth ≤ fuel := by simp [OTree.depth] at hf; omega
  have hf2 : u.depth ≤ fuel := by simp [OTree.depth] at hf; omega
  have hf3 : v.depth ≤ fuel := by simp [OTree.depth] at hf; omega
  simp only [goodB, Bool.and_eq_true, beq_iff_eq] at hg
  refine wpAnyH_all hg.1.1.1 (by simp) fun n hn => ?_
  have hn' : n = i ∨ n = j ∨ n = k := by simpa using hn
  rcases hn' with rfl | rfl | rfl
  ·exact wpOp_mono (fun a' w' h' => ⟨h'.1, iht fuel _ a' w' hf1 hg.1.1.2 h'.1 h'.2⟩) h.1
  ·exact wpOp_mono (fun a' w' h' => ⟨h'.1, ihu fuel _ a' w' hf2 hg.1.2 h'.1 h'.2⟩) h.2.1
  ·exact wpOp_mono (fun a' w' h' => ⟨h'.1, ihv fuel _ a' w' hf3 hg.2 h'.1 h'.2⟩) h.2.2
theorem ordB_below {id : Nat} {a : Act} {w : World} (t : OTree) (hm : P.follows .mixedOrders = true) (hs : Region.noSelect ops = true) (hg : goodTree ops t = true)
 (hQ : ∀ d v c a w, Q (.panic c) (Act.put a (some d) v) w → Q (.panic c) a w) (h : ∀ W, Below w.heap.size w W → wpB P ops Q (Below w.heap.size w) t a W) : (Code.region id ops true).wp P Q a w := by
 unfold goodTree at hg
 simp only [Bool.and_eq_true, decide_eq_true_eq] at hg
 have hS : Below w.heap.size w w.drew := (Below.refl _ _).drew
 exact wp_region_held_drew hm hS fun hS => wpAnyH_of_tree hs hQ t _ _ a _ hg.1 hg.2 hS (h _ hS)
theorem ordB_nil {a : Act} {w : World} (h : Q .normal a w) : wpB P ops Q S .done a w := h
theorem ordB_skip {i : Nat} {o : Oper} {t : OTree} {a : Act} {w : World} (ho' : nthO ops.toList i = some o) (hw : Region.wanted o (yielded ops a.tmps) = false)
 (h : wpB P ops Q S t (a.put o.dst undef) w) : wpB P ops Q S (.quiet i t) a w := ⟨o, undef, nthO_spec ho', .inr ⟨hw, rfl⟩, h⟩
theorem ordB_take {i : Nat} {o : Oper} {v : Value} {t : OTree} {a : Act} {w : World} (ho' : nthO ops.toList i = some o) (hw : Region.wanted o (yielded ops a.tmps) = true)
 (hy : ∀ W, S W → (execOp a.eval o).run P W = .ok (.value v) W)
 (h : wpB P ops Q S t (a.put o.dst v) w) : wpB P ops Q S (.quiet i t) a w := ⟨o, v, nthO_spec ho', .inl ⟨hw, hy⟩, h⟩
theorem opB_call {i : Nat} {o : Oper} {t : OTree} {a : Act} {w : World} (ho' : nthO ops.toList i = some o) (hw : Region.wanted o (yielded ops a.tmps) = true)
 (h : ∀ K' : Act → World → Prop, Shut (∀ a w, S w → (S w → wpB P ops Q S t a w) → K' a w) → Oper.wp P o a w K' Q) : wpOp P ops Q i (fun a' w' => S w' ∧ wpB P ops Q S t a' w') a w := by
 have ho := nthO_spec ho'
 refine wpOp_step ho fun K' hK => ?_
 rw [if_pos hw]
 exact h K' fun a w hS hW => hK a w ⟨hS, hW hS⟩
theorem opB_cskip {i : Nat} {o : Oper} {t : OTree} {a : Act} {w : World} (ho' : nthO ops.toList i = some o) (hw : Region.wanted o (yielded ops a.tmps) = false) (hS : S w)
 (h : wpB P ops Q S t (a.put o.dst undef) w) : wpOp P ops Q i (fun a' w' => S w' ∧ wpB P ops Q S t a' w') a w := by
 have ho := nthO_spec ho'
 unfold wpOp
 rw [ho]
 show if Region.wanted o (yielded ops a.tmps) = true then _ else _
 rw [if_neg (by rw [hw]; decide)]
 exact ⟨hS, h⟩
theorem ordB_only {i : Nat} {t : OTree} {a : Act} {w : World} (h : wpOp P ops Q i (fun a' w' => S w' ∧ wpB P ops Q S t a' w') a w) : wpB P ops Q S (.only i t) a w := h
theorem ordB_fork {i j : Nat} {t u : OTree} {a : Act} {w : World} (h1 : wpOp P ops Q i (fun a' w' => S w' ∧ wpB P ops Q S t a' w') a w) (h2 : wpOp P ops Q j (fun a' w' => S w' ∧ wpB P ops Q S u a' w') a w) : wpB P ops Q S (.fork i j t u) a w := ⟨h1, h2⟩
end
theorem ordB_start {P : Program} {ops : Array Oper} {Q : Exit → Act → World → Prop} {id : Nat} {a : Act} {w : World} (S : World → Prop) (t : OTree) (hm : P.follows .mixedOrders = true) (hs : Region.noSelect ops = true) (hg : goodTree ops t = true)
 (hQ : ∀ d v c a w, Q (.panic c) (Act.put a (some d) v) w → Q (.panic c) a w) (hS : S w.drew) (h : wpB P ops Q S t a w.drew) : (Code.region id ops true).wp P Q a w := by
 unfold goodTree at hg
 simp only [Bool.and_eq_true, decide_eq_true_eq] at hg
 exact wp_region_held_drew hm hS fun hS => wpAnyH_of_tree hs hQ t _ _ a _ hg.1 hg.2 hS h
structure ButB (g : Nat) (w w' : World) : Prop where
 size : w.heap.size ≤ w'.heap.size
 block : ∀ b, b < w.heap.size → b ≠ g → w'.heap[b]? = w.heap[b]?
section
variable {g : Nat} {w w' w2 : World}
theorem ButB.of_below (h : Below w.heap.size w w') : ButB g w w' := ⟨h.size, fun b hb _ => h.block b hb⟩
theorem ButB.set_ (h : ButB g w w') (o : Nat) (v : Value) : ButB g w (w'.setCell ⟨g, o, none⟩ v) := ⟨by simpa using h.size, fun b hb hn => (Below.heap_setCell w' ⟨g, o, none⟩ v b hn).trans (h.block b hb hn)⟩
theorem ButB.cell (h : ButB g w w') : ∀ b o, b < w.heap.size → b ≠ g → w'.cell? ⟨b, o, none⟩ = w.cell? ⟨b, o, none⟩ := fun b _ hb hn => World.cell?_of_block (h.block b hb hn)
theorem ButB.blk {b : Nat} {t : TypeId} {cs : Array Value} (h : ButB g w w') (hb : Blk w b t cs) (hn : b ≠ g) : Blk w' b t cs := (h.block b hb.lt hn).trans hb
end
theorem ru_ext {x y : Ru} (h1 : x.fr = y.fr) (h2 : x.to = y.to) (h3 : x.inp = y.inp) (h4 : x.out = y.out) (h5 : x.co = y.co) : x = y := by
 cases x
 cases y
 simp only at h1 h2 h3 h4 h5
 subst h1 h2 h3 h4 h5
 rfl
theorem eqF_cons {f : Field} {fs : List Field} {xs ys : Array Value} {W : World} {a b : Value} {r r2 : Bool} (hn : (f.name != "_") = true) (hp : Tryz.prog.plainKey f.type = true) (ha : xs[f.offset]? = some a) (hb : ys[f.offset]? = some b) (he : (Op.equalIn 9999 f.type a b).run Tryz.prog W = .ok r W)
 (h : (Op.eqFields 9999 xs ys fs).run Tryz.prog W = .ok r2 W) : (Op.eqFields 9999 xs ys (f :: fs)).run Tryz.prog W = .ok (r && r2) W := by
 have p1 : (part f.type xs f.offset).run Tryz.prog W = .ok a W := run_part_plain W hp ha
 have p2 : (part f.type ys f.offset).run Tryz.prog W = .ok b W := run_part_plain W hp hb
 have hn : f.name ≠ "_" := by simpa using hn
 rw [Op.eqFields, if_pos hn]
 simp only [Sem.run_bind, Sem.run_ite, p1, p2, Result.andThen_ok, he]
 cases r <;> simp [h]
theorem run_eqRu (x y : Ru) (W : World) : (Op.equalIn 10000 61 (.agg #[.int .i64 x.fr, .int .i64 x.to, .string x.inp, .string x.out, .int .i64 x.co]) (.agg #[.int .i64 y.fr, .int .i64 y.to, .string y.inp, .string y.out, .int .i64 y.co])).run Tryz.prog W = .ok (decide (x = y)) W := by
 rw [run_equalIn_agg W 9999 _ _ _ (by kernel_rfl) (by kernel_rfl)]
 have hf : (Tryz.prog.fieldsOf 61).toList.map (fun f => (f.type, f.offset, f.name != "_")) = [(3, 0, true), (3, 1, true), (9, 2, true), (9, 3, true), (3, 4, true)] := by kernel_rfl
 obtain ⟨f0, l0, e0, h0, hf⟩ := List.map_eq_cons_iff.1 hf
 obtain ⟨f1, l1, e1, h1, hf⟩ := List.map_eq_cons_iff.1 hf
 obtain ⟨f2, l2, e2, h2, hf⟩ := List.map_eq_cons_iff.1 hf
 obtain ⟨f3, l3, e3, h3, hf⟩ := List.map_eq_cons_iff.1 hf
 obtain ⟨f4, l4, e4, h4, hf⟩ := List.map_eq_cons_iff.1 hf
 obtain rfl := List.map_eq_nil_iff.1 hf
 simp only [Prod.mk.injEq] at h0 h1 h2 h3 h4
 have hpi : Tryz.prog.plainKey 3 = true := by kernel_rfl
 have hps : Tryz.prog.plainKey 9 = true := by kernel_rfl
 have qi : ∀ a b : Int, (Op.equalIn 9999 3 (.int .i64 a) (.int .i64 b)).run Tryz.prog W = .ok (a == b) W := fun a b => run_equalIn_int W 9998 3 .i64 .i64 a b Tryz.underlying3
 have qs : ∀ a b : ByteArray, (Op.equalIn 9999 9 (.string a) (.string b)).run Tryz.prog W = .ok (a.toList == b.toList) W := fun a b => run_equalIn_string W 9998 9 a b Tryz.underlying9
 obtain ⟨X, hX⟩ : ∃ X : Array Value, X = #[.int .i64 x.fr, .int .i64 x.to, .string x.inp, .string x.out, .int .i64 x.co] := ⟨_, rfl⟩
 obtain ⟨Y, hY⟩ : ∃ X : Array Value, X = #[.int .i64 y.fr, .int .i64 y.to, .string y.inp, .string y.out, .int .i64 y.co] := ⟨_, rfl⟩
 rw [← hX, ← hY]
 have k5 : (Op.eqFields 9999 X Y []).run Tryz.prog W = .ok true W := by simp [Op.eqFields]
 have k4 := eqF_cons (f := f4) (xs := X) (ys := Y) h4.2.2 (by rw [h4.1]; exact hpi) (by rw [h4.2.1, hX]; rfl) (by rw [h4.2.1, hY]; rfl) (by rw [h4.1]; exact qi x.co y.co) k5
 rw [← e4] at k4
 have k3 := eqF_cons (f := f3) (xs := X) (ys := Y) h3.2.2 (by rw [h3.1]; exact hps) (by rw [h3.2.1, hX]; rfl) (by rw [h3.2.1, hY]; rfl) (by rw [h3.1]; exact qs x.out y.out) k4
 rw [← e3] at k3
 have k2 := eqF_cons (f := f2) (xs := X) (ys := Y) h2.2.2 (by rw [h2.1]; exact hps) (by rw [h2.2.1, hX]; rfl) (by rw [h2.2.1, hY]; rfl) (by rw [h2.1]; exact qs x.inp y.inp) k3
 rw [← e2] at k2
 have k1 := eqF_cons (f := f1) (xs := X) (ys := Y) h1.2.2 (by rw [h1.1]; exact hpi) (by rw [h1.2.1, hX]; rfl) (by rw [h1.2.1, hY]; rfl) (by rw [h1.1]; exact qi x.to y.to) k2
 rw [← e1] at k1
 have key := eqF_cons (f := f0) (xs := X) (ys := Y) h0.2.2 (by rw [h0.1]; exact hpi) (by rw [h0.2.1, hX]; rfl) (by rw [h0.2.1, hY]; rfl) (by rw [h0.1]; exact qi x.fr y.fr) k1
 rw [← e0] at key
 refine key.trans ?_
 congr 1
 rw [Bool.eq_iff_iff]
 simp only [Bool.and_eq_true, beq_iff_eq, decide_eq_true_iff, and_true]
 constructor
 ·rintro ⟨h1, h2, h3, h4, h5⟩
  exact ru_ext h1 h2 (toL_inj h3) (toL_inj h4) h5
 ·rintro rfl
  exact ⟨rfl, rfl, rfl, rfl, rfl⟩
set_option maxHeartbeats 4000000 in
theorem idxRu_any (A : Option Addr) (xs : List Ru) (c : Nat) (r : Ru) (w : World) (hx : SlR 5 RRu w A xs) (hl : xs.length ≤ 65536) :
 Calls Tryz.prog 130 #[.slice A xs.length c, .agg #[.int .i64 r.fr, .int .i64 r.to, .string r.inp, .string r.out, .int .i64 r.co]] w fun e w' => (∃ i : Int, e = .returned (.int .i64 i) ∧ (0 ≤ i ↔ r ∈ xs)) ∧ Below w.heap.size w w' := by
 obtain ⟨w1, hw1⟩ : ∃ w1, w.alloc (.cells #[.int .i64 r.fr, .int .i64 r.to, .string r.inp, .string r.out, .int .i64 r.co] 61) = w1 := ⟨_, rfl⟩
 have hb1 : Below w.heap.size w w1 := by rw [← hw1]; exact nw _ (Below.refl _ _)
 have hB : Blk w1 w.heap.size 61 #[.int .i64 r.fr, .int .i64 r.to, .string r.inp, .string r.out, .int .i64 r.co] := by rw [← hw1]; exact Blk.new _ _ _
 have HW1 := Lib.hid hw1
 have HB1 := Lib.hid hb1
 clear hw1 hb1
 go_enter Tryz.func130, Tryz.ntmps130
 go_upto_region 1 with fail
 rw [HW1.out]
 go_wp2_with fail
 go_loopw [5, 8] (fun _ i wr => ∃ k : Nat, k ≤ xs.length ∧ Hid (∀ y ∈ xs.take k, y ≠ r) ∧ i = .int .i64 (k : Int) ∧ Below w1.heap.size w1 wr) (fun _ i _ => xs.length - (intOf i).toNat)
 case atStart => exact ⟨0, by omega, by show ∀ y ∈ xs.take 0, y ≠ r; simp, rfl, Below.refl _ _⟩
 case round =>
  obtain ⟨k, hk, HN, rfl, hb⟩ := hrel
  have HBE := Lib.hid (bthen HB1.out hb)
  have hBB := hB.below hb hB.lt
  have b0 := hBB.cell 0
  have b1 := hBB.cell 1
  have b2 := hBB.cell 2
  have b3 := hBB.cell 3
  have b4 := hBB.cell 4
  have bl := hBB.lt
  simp at b0 b1 b2 b3 b4
  have HBR := Lib.hid hb
  by_cases hlt : k < xs.length
  ·obtain ⟨b, off, x, rfl, hbb, hxx, d0, d1, d2, d3, d4⟩ := (hx.below keeps_ru HBE.out).ru hlt
   have HX := Lib.hid hxx
   have hki : (k : Int) < (xs.length : Int) := by omega
   have hk0 : (0 : Int) ≤ (k : Int) := by omega
   clear hxx hb hBB
   by_cases he : r = x
   ·have HE := Lib.hid he
    have HEQ := fun W => run_eqRu r x W
    rw [decide_eq_true he] at HEQ
    clear he
    go_wp2_with fail
    go_quiet (fail)
    go_wp2_with fail
    go_ret
    exact ⟨⟨_, rfl, ⟨fun _ => by rw [HE.out]; exact List.mem_of_getElem? HX.out, fun _ => by omega⟩⟩, below_drewN HBE.out _⟩
   ·have HE := Lib.hid he
    have HEQ := fun W => run_eqRu r x W
    rw [decide_eq_false he] at HEQ
    clear he
    go_wp2_with fail
    go_quiet (fail)
    go_wp2_with fail
    go_roundw
    case rel => exact ⟨k + 1, by omega, (by
     show ∀ y ∈ xs.take (k + 1), y ≠ r
     rw [take_succ_of HX.out]
     intro y hy
     rcases List.mem_append.1 hy with hy | hy
     ·exact HN.out y hy
     ·rw [List.mem_singleton.1 hy]; exact fun e => HE.out e.symm), by go_num, below_drewN HBR.out _⟩
    case measure => simp [intOf]; omega
  ·have HN2 : Hid (∀ y ∈ xs, y ≠ r) := by have := HN.out; rwa [List.take_of_length_le (by omega)] at this
   clear hb hBB
   go_wp2_with fail
   go_ret
   exact ⟨⟨-1, rfl, ⟨fun h => absurd h (by decide), fun h => absurd rfl (HN2.out r h)⟩⟩, HBE.out⟩
set_option maxHeartbeats 4000000 in
theorem conRu_any (A : Option Addr) (xs : List Ru) (c : Nat) (r : Ru) (w : World) (hx : SlR 5 RRu w A xs) (hl : xs.length ≤ 65536) :
 Calls Tryz.prog 112 #[.slice A xs.length c, .agg #[.int .i64 r.fr, .int .i64 r.to, .string r.inp, .string r.out, .int .i64 r.co]] w fun e w' => e = .returned (.bool (decide (r ∈ xs))) ∧ Below w.heap.size w w' := by
 obtain ⟨w1, hw1⟩ : ∃ w1, w.alloc (.cells #[.int .i64 r.fr, .int .i64 r.to, .string r.inp, .string r.out, .int .i64 r.co] 61) = w1 := ⟨_, rfl⟩
 have hb1 : Below w.heap.size w w1 := by rw [← hw1]; exact nw _ (Below.refl _ _)
 have hB : Blk w1 w.heap.size 61 #[.int .i64 r.fr, .int .i64 r.to, .string r.inp, .string r.out, .int .i64 r.co] := by rw [← hw1]; exact Blk.new _ _ _
 have HW1 := Lib.hid hw1
 have HB1 := Lib.hid hb1
 have HX := Lib.hid (hx.below keeps_ru hb1)
 have b0 := hB.cell 0
 have b1 := hB.cell 1
 have b2 := hB.cell 2
 have b3 := hB.cell 3
 have b4 := hB.cell 4
 have bl := hB.lt
 simp at b0 b1 b2 b3 b4
 clear hw1 hb1 hx
 go_enter Tryz.func112, Tryz.ntmps112
 go_upto_region 1 with fail
 rw [HW1.out]
 go_wp2_with (go_at_call 130; go_loud (refine (idxRu_any A xs c r w1 HX.out hl).mono ?_; rintro e w2 ⟨⟨i, rfl, hi⟩, hb2⟩))
 have HI := Lib.hid hi
 clear hi
 go_wp2_with fail
 go_ret
 exact ⟨rfl, bthen HB1.out hb2⟩
set_option maxHeartbeats 8000000 in
theorem right_any (n : Int) (r : Ru) (w : World) (hi : r.inp.size ≤ maxLen) (ho : r.out.size ≤ maxLen) :
 Calls Tryz.prog 111 #[.int .i64 n, .agg #[.int .i64 r.fr, .int .i64 r.to, .string r.inp, .string r.out, .int .i64 r.co]] w fun e w' => e = .returned (.bool (decide (RuOK n r))) ∧ Below w.heap.size w w' := by
 obtain ⟨w1, hw1⟩ : ∃ w1, w.alloc (.cells #[.int .i64 r.fr, .int .i64 r.to, .string r.inp, .string r.out, .int .i64 r.co] 61) = w1 := ⟨_, rfl⟩
 have hb1 : Below w.heap.size w w1 := by rw [← hw1]; exact nw _ (Below.refl _ _)
 have hB : Blk w1 w.heap.size 61 #[.int .i64 r.fr, .int .i64 r.to, .string r.inp, .string r.out, .int .i64 r.co] := by rw [← hw1]; exact Blk.new _ _ _
 have HW1 := Lib.hid hw1
 have HB1 := Lib.hid hb1
 have b0 := hB.cell 0
 have b1 := hB.cell 1
 have b2 := hB.cell 2
 have b3 := hB.cell 3
 have b4 := hB.cell 4
 have bl := hB.lt
 simp at b0 b1 b2 b3 b4
 clear hw1 hb1
 by_cases q0 : 0 ≤ r.fr
 ·by_cases q1 : r.fr < n
  ·by_cases q2 : 0 ≤ r.to
   ·by_cases q3 : r.to < n
    ·by_cases q4 : r.inp.size ≤ 4
     ·by_cases q5 : smallS r.inp = true
      ·by_cases q6 : r.out.size ≤ 4
       ·by_cases q7 : knownS r.out = true
        ·by_cases q8 : 0 ≤ r.co
         ·by_cases q9 : r.co ≤ 1000
          ·have HR : Hid (decide (RuOK n r) = true) := decide_eq_true ⟨⟨⟨q0, q1⟩, q2, q3⟩, ⟨q4, q5⟩, ⟨q6, q7⟩, q8, q9⟩
           have z4 : (r.inp.size : Int) ≤ 4 := by omega
           have z6 : (r.out.size : Int) ≤ 4 := by omega
           go_enter Tryz.func111, Tryz.ntmps111
           go_upto_region 1 with fail
           rw [HW1.out]
           go_wp2_with (first | (go_at_call 77; go_loud (refine (allSmall_any _ _ hi).mono ?_; rintro e w' ⟨rfl, rfl⟩)) | (go_at_call 129; go_loud (refine (allKnown_any _ _ ho).mono ?_; rintro e w' ⟨rfl, rfl⟩; rw [knownS_plain])))
           go_ret
           exact ⟨ret_bool (by first | exact HR.out.symm | (rw [HR.out]; simp; omega)), HB1.out⟩
          ·have HR : Hid (decide (RuOK n r) = false) := decide_eq_false fun h => q9 h.2.2.2.2
           have z4 : (r.inp.size : Int) ≤ 4 := by omega
           have z6 : (r.out.size : Int) ≤ 4 := by omega
           go_enter Tryz.func111, Tryz.ntmps111
           go_upto_region 1 with fail
           rw [HW1.out]
           go_wp2_with (first | (go_at_call 77; go_loud (refine (allSmall_any _ _ hi).mono ?_; rintro e w' ⟨rfl, rfl⟩)) | (go_at_call 129; go_loud (refine (allKnown_any _ _ ho).mono ?_; rintro e w' ⟨rfl, rfl⟩; rw [knownS_plain])))
           go_ret
           exact ⟨ret_bool (by first | exact HR.out.symm | (rw [HR.out]; simp; omega)), HB1.out⟩
         ·have HR : Hid (decide (RuOK n r) = false) := decide_eq_false fun h => q8 h.2.2.2.1
          have z4 : (r.inp.size : Int) ≤ 4 := by omega
          have z6 : (r.out.size : Int) ≤ 4 := by omega
          go_enter Tryz.func111, Tryz.ntmps111
          go_upto_region 1 with fail
          rw [HW1.out]
          go_wp2_with (first | (go_at_call 77; go_loud (refine (allSmall_any _ _ hi).mono ?_; rintro e w' ⟨rfl, rfl⟩)) | (go_at_call 129; go_loud (refine (allKnown_any _ _ ho).mono ?_; rintro e w' ⟨rfl, rfl⟩; rw [knownS_plain])))
          go_ret
          exact ⟨ret_bool (by first | exact HR.out.symm | (rw [HR.out]; simp; omega)), HB1.out⟩
        ·have HR : Hid (decide (RuOK n r) = false) := decide_eq_false fun h => q7 h.2.2.1.2
         have z4 : (r.inp.size : Int) ≤ 4 := by omega
         have z6 : (r.out.size : Int) ≤ 4 := by omega
         have z7 : knownS r.out = false := by simpa using q7
         clear q7
         go_enter Tryz.func111, Tryz.ntmps111
         go_upto_region 1 with fail
         rw [HW1.out]
         go_wp2_with (first | (go_at_call 77; go_loud (refine (allSmall_any _ _ hi).mono ?_; rintro e w' ⟨rfl, rfl⟩)) | (go_at_call 129; go_loud (refine (allKnown_any _ _ ho).mono ?_; rintro e w' ⟨rfl, rfl⟩; rw [knownS_plain])))
         go_ret
         exact ⟨ret_bool (by first | exact HR.out.symm | (rw [HR.out]; simp; omega)), HB1.out⟩
       ·have HR : Hid (decide (RuOK n r) = false) := decide_eq_false fun h => q6 h.2.2.1.1
        have z4 : (r.inp.size : Int) ≤ 4 := by omega
        have z6 : ¬ (r.out.size : Int) ≤ 4 := by omega
        go_enter Tryz.func111, Tryz.ntmps111
        go_upto_region 1 with fail
        rw [HW1.out]
        go_wp2_with (first | (go_at_call 77; go_loud (refine (allSmall_any _ _ hi).mono ?_; rintro e w' ⟨rfl, rfl⟩)) | (go_at_call 129; go_loud (refine (allKnown_any _ _ ho).mono ?_; rintro e w' ⟨rfl, rfl⟩; rw [knownS_plain])))
        go_ret
        exact ⟨ret_bool (by first | exact HR.out.symm | (rw [HR.out]; simp; omega)), HB1.out⟩
      ·have HR : Hid (decide (RuOK n r) = false) := decide_eq_false fun h => q5 h.2.1.2
       have z4 : (r.inp.size : Int) ≤ 4 := by omega
       have z5 : smallS r.inp = false := by simpa using q5
       clear q5
       go_enter Tryz.func111, Tryz.ntmps111
       go_upto_region 1 with fail
       rw [HW1.out]
       go_wp2_with (first | (go_at_call 77; go_loud (refine (allSmall_any _ _ hi).mono ?_; rintro e w' ⟨rfl, rfl⟩)) | (go_at_call 129; go_loud (refine (allKnown_any _ _ ho).mono ?_; rintro e w' ⟨rfl, rfl⟩; rw [knownS_plain])))
       go_ret
       exact ⟨ret_bool (by first | exact HR.out.symm | (rw [HR.out]; simp; omega)), HB1.out⟩
     ·have HR : Hid (decide (RuOK n r) = false) := decide_eq_false fun h => q4 h.2.1.1
      have z4 : ¬ (r.inp.size : Int) ≤ 4 := by omega
      go_enter Tryz.func111, Tryz.ntmps111
      go_upto_region 1 with fail
      rw [HW1.out]
      go_wp2_with (first | (go_at_call 77; go_loud (refine (allSmall_any _ _ hi).mono ?_; rintro e w' ⟨rfl, rfl⟩)) | (go_at_call 129; go_loud (refine (allKnown_any _ _ ho).mono ?_; rintro e w' ⟨rfl, rfl⟩; rw [knownS_plain])))
      go_ret
      exact ⟨ret_bool (by first | exact HR.out.symm | (rw [HR.out]; simp; omega)), HB1.out⟩
    ·have HR : Hid (decide (RuOK n r) = false) := decide_eq_false fun h => q3 h.1.2.2
     go_enter Tryz.func111, Tryz.ntmps111
     go_upto_region 1 with fail
     rw [HW1.out]
     go_wp2_with (first | (go_at_call 77; go_loud (refine (allSmall_any _ _ hi).mono ?_; rintro e w' ⟨rfl, rfl⟩)) | (go_at_call 129; go_loud (refine (allKnown_any _ _ ho).mono ?_; rintro e w' ⟨rfl, rfl⟩; rw [knownS_plain])))
     go_ret
     exact ⟨ret_bool (by first | exact HR.out.symm | (rw [HR.out]; simp; omega)), HB1.out⟩
   ·have HR : Hid (decide (RuOK n r) = false) := decide_eq_false fun h => q2 h.1.2.1
    go_enter Tryz.func111, Tryz.ntmps111
    go_upto_region 1 with fail
    rw [HW1.out]
    go_wp2_with (first | (go_at_call 77; go_loud (refine (allSmall_any _ _ hi).mono ?_; rintro e w' ⟨rfl, rfl⟩)) | (go_at_call 129; go_loud (refine (allKnown_any _ _ ho).mono ?_; rintro e w' ⟨rfl, rfl⟩; rw [knownS_plain])))
    go_ret
    exact ⟨ret_bool (by first | exact HR.out.symm | (rw [HR.out]; simp; omega)), HB1.out⟩
  ·have HR : Hid (decide (RuOK n r) = false) := decide_eq_false fun h => q1 h.1.1.2
   go_enter Tryz.func111, Tryz.ntmps111
   go_upto_region 1 with fail
   rw [HW1.out]
   go_wp2_with (first | (go_at_call 77; go_loud (refine (allSmall_any _ _ hi).mono ?_; rintro e w' ⟨rfl, rfl⟩)) | (go_at_call 129; go_loud (refine (allKnown_any _ _ ho).mono ?_; rintro e w' ⟨rfl, rfl⟩; rw [knownS_plain])))
   go_ret
   exact ⟨ret_bool (by first | exact HR.out.symm | (rw [HR.out]; simp; omega)), HB1.out⟩
 ·have HR : Hid (decide (RuOK n r) = false) := decide_eq_false fun h => q0 h.1.1.1
  go_enter Tryz.func111, Tryz.ntmps111
  go_upto_region 1 with fail
  rw [HW1.out]
  go_wp2_with (first | (go_at_call 77; go_loud (refine (allSmall_any _ _ hi).mono ?_; rintro e w' ⟨rfl, rfl⟩)) | (go_at_call 129; go_loud (refine (allKnown_any _ _ ho).mono ?_; rintro e w' ⟨rfl, rfl⟩; rw [knownS_plain])))
  go_ret
  exact ⟨ret_bool (by first | exact HR.out.symm | (rw [HR.out]; simp; omega)), HB1.out⟩
end Go.Proofs.YtfpnhgahkjglgaaGreat
