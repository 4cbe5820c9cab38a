/-
  The walks of layer 11: Learn, where it refuses.
-/
import Derived.Test.YtbfpcleogdalfaaCostWalkT
import Derived.Test.YtbfpcleogdalfaaCostWalkI
import Derived.Test.YtbfpcleogdalfaaOrdB
namespace Go.Proofs.Ytbfpcleogdalfaa
open Go Go.RowKit

/-- The model behind n more uses of wd behind prev. -/
def nextM (m : Mo) (prev wd n : Int) : Mo := ⟨m.ws, m.cs.set wd.toNat (m.cs.getD wd.toNat 0 + n), if 0 ≤ prev then countP m.ps ⟨prev, wd, n⟩ else m.ps, m.back⟩
def LearnOK (m : Mo) (prev wd n : Int) : Prop := (1 ≤ n ∧ n ≤ 1073741824 ∧ 0 ≤ wd ∧ wd < m.ws.length ∧ prev < m.ws.length) ∧ MoOK m
instance (m : Mo) (prev wd n : Int) : Decidable (LearnOK m prev wd n) := by unfold LearnOK; infer_instance
/-- cost.Learn. -/
def learnM (m : Mo) (prev wd n : Int) : Option Mo := if LearnOK m prev wd n ∧ MoOK (nextM m prev wd n) then some (nextM m prev wd n) else none
/-- What Learn gives back: a model in memory of the call's own, or the number 110. -/
def GivesL (o : Option Mo) (w : World) (e : Ending) (w' : World) : Prop :=
  match o with
  | none => e = .returned (.tuple #[.agg #[.slice none 0 0, .slice none 0 0, .slice none 0 0, .int .i64 0], .int .i64 110]) ∧ Below w.heap.size w w'
  | some m => ∃ (B1 B2 B3 : Option Addr) (d1 d2 d3 : Nat), e = .returned (.tuple #[.agg #[.slice B1 m.ws.length d1, .slice B2 m.cs.length d2, .slice B3 m.ps.length d3, .int .i64 m.back], .int .i64 0]) ∧ MoR w' m B1 B2 B3 ∧
    ((m.ws.length ≤ d1 ∧ d1 ≤ maxLen) ∧ (m.cs.length ≤ d2 ∧ d2 ≤ maxLen) ∧ (m.ps.length ≤ d3 ∧ d3 ≤ maxLen)) ∧ Below w.heap.size w w'

/-- The four cells of a model are stored. -/
def set4 (w : World) (g : Nat) (v0 v1 v2 v3 : Value) : World := (((w.setCell ⟨g, 0, none⟩ v0).setCell ⟨g, 1, none⟩ v1).setCell ⟨g, 2, none⟩ v2).setCell ⟨g, 3, none⟩ v3
theorem Blk.set4 {w : World} {g : Nat} {t : TypeId} {a b c d : Value} (h : Blk w g t #[a, b, c, d]) (v0 v1 v2 v3 : Value) : Blk (set4 w g v0 v1 v2 v3) g t #[v0, v1, v2, v3] := (((h.set_ 0 v0).set_ 1 v1).set_ 2 v2).set_ 3 v3
theorem heap_set4 (w : World) (g : Nat) (v0 v1 v2 v3 : Value) (k : Nat) (h : k ≠ g) : (set4 w g v0 v1 v2 v3).heap[k]? = w.heap[k]? := by
  unfold set4
  rw [Below.heap_setCell _ _ _ _ h, Below.heap_setCell _ _ _ _ h, Below.heap_setCell _ _ _ _ h, Below.heap_setCell _ _ _ _ h]
theorem size_set4 (w : World) (g : Nat) (v0 v1 v2 v3 : Value) : (set4 w g v0 v1 v2 v3).heap.size = w.heap.size := by simp [set4, World.setCell]
theorem set4_below (B : Nat) (w : World) {g : Nat} (v0 v1 v2 v3 : Value) (h : B ≤ g) : Below B w (set4 w g v0 v1 v2 v3) := ((((Below.refl B w).setCell h v0).setCell h v1).setCell h v2).setCell h v3

set_option maxRecDepth 100000 in
set_option maxHeartbeats 4000000 in
theorem learn_no (m : Mo) (A1 A2 A3 : Option Addr) (c1 c2 c3 : Nat) (prev wd n : Int) (w : World) (h : MoR w m A1 A2 A3) (hno : ¬ LearnOK m prev wd n) :
    Calls Try.prog 16 #[.agg #[.slice A1 m.ws.length c1, .slice A2 m.cs.length c2, .slice A3 m.ps.length c3, .int .i64 m.back], .int .i64 prev, .int .i64 wd, .int .i64 n] w (GivesL none w) := by
  have hB : Below w.heap.size w ((w.alloc (.cells #[.slice A1 m.ws.length c1, .slice A2 m.cs.length c2, .slice A3 m.ps.length c3, .int .i64 m.back] 34)).alloc (.cells #[.slice none 0 0, .slice none 0 0, .slice none 0 0, .int .i64 0] 34)) := ((Below.refl _ _).alloc (Nat.le_refl _) _).alloc (by simp) _
  have HM := Lib.hid (h.below hB)
  have HN := Lib.hid hno
  clear h hno
  have hE : ∀ (x : World), Below w.heap.size w x → GivesL none w (.returned (.tuple #[.agg #[.slice none 0 0, .slice none 0 0, .slice none 0 0, .int .i64 0], .int .i64 110])) x := fun x hx => ⟨rfl, hx⟩
  by_cases h1 : n < 1
  · go_enter Try.func16, Try.ntmps16
    go_wp2_with fail
    try simp only [Exit.inBlock, Exit.then]
    refine bodyPost_ret (v := .tuple #[.agg #[.slice none 0 0, .slice none 0 0, .slice none 0 0, .int .i64 0], .int .i64 110]) (by simp [results, Try.results16, go_sem]; done) rfl ?_
    exact hE _ hB
  by_cases h2 : 1073741824 < n
  · go_enter Try.func16, Try.ntmps16
    go_wp2_with fail
    try simp only [Exit.inBlock, Exit.then]
    refine bodyPost_ret (v := .tuple #[.agg #[.slice none 0 0, .slice none 0 0, .slice none 0 0, .int .i64 0], .int .i64 110]) (by simp [results, Try.results16, go_sem]; done) rfl ?_
    exact hE _ hB
  by_cases h3 : wd < 0
  · go_enter Try.func16, Try.ntmps16
    go_wp2_with fail
    try simp only [Exit.inBlock, Exit.then]
    refine bodyPost_ret (v := .tuple #[.agg #[.slice none 0 0, .slice none 0 0, .slice none 0 0, .int .i64 0], .int .i64 110]) (by simp [results, Try.results16, go_sem]; done) rfl ?_
    exact hE _ hB
  by_cases h4 : (m.ws.length : Int) ≤ wd
  · go_enter Try.func16, Try.ntmps16
    go_wp2_with fail
    try simp only [Exit.inBlock, Exit.then]
    refine bodyPost_ret (v := .tuple #[.agg #[.slice none 0 0, .slice none 0 0, .slice none 0 0, .int .i64 0], .int .i64 110]) (by simp [results, Try.results16, go_sem]; done) rfl ?_
    exact hE _ hB
  by_cases h5 : (m.ws.length : Int) ≤ prev
  · go_enter Try.func16, Try.ntmps16
    go_wp2_with fail
    try simp only [Exit.inBlock, Exit.then]
    refine bodyPost_ret (v := .tuple #[.agg #[.slice none 0 0, .slice none 0 0, .slice none 0 0, .int .i64 0], .int .i64 110]) (by simp [results, Try.results16, go_sem]; done) rfl ?_
    exact hE _ hB
  have HV := Lib.hid (show decide (MoOK m) = false by
    rw [decide_eq_false_iff_not]
    exact fun hm => HN.out ⟨⟨by omega, by omega, by omega, by omega, by omega⟩, hm⟩)
  have HVC := Lib.hid (valid_any m A1 A2 A3 c1 c2 c3 _ HM.out)
  rw [HV.out] at HVC
  go_enter Try.func16, Try.ntmps16
  go_wp2_with (go_at_call 19; refine HVC.out.mono ?_; rintro e w1 ⟨rfl, hb1⟩; have hz := (Blk.new_ (w := w.alloc (.cells #[.slice A1 m.ws.length c1, .slice A2 m.cs.length c2, .slice A3 m.ps.length c3, .int .i64 m.back] 34)) (t := 34) (cs := #[.slice none 0 0, .slice none 0 0, .slice none 0 0, .int .i64 0]) (g := w.heap.size + 1) (by simp)).below hb1 (by simp); have z0 := hz.cell 0; have z1 := hz.cell 1; have z2 := hz.cell 2; have z3 := hz.cell 3; have f0 := hz.frozen 0; have f1 := hz.frozen 1; have f2 := hz.frozen 2; have f3 := hz.frozen 3)
  have hz4 := hz.set4 (.slice none 0 0) (.slice none 0 0) (.slice none 0 0) (.int .i64 0)
  obtain ⟨W, hW⟩ : ∃ W, W = set4 w1 (w.heap.size + 1) (.slice none 0 0) (.slice none 0 0) (.slice none 0 0) (.int .i64 0) := ⟨_, rfl⟩
  rw [← hW] at hz4
  have hW' := hW
  unfold set4 at hW'
  rw [← hW']
  have q0 := hz4.cell 0
  have q1 := hz4.cell 1
  have q2 := hz4.cell 2
  have q3 := hz4.cell 3
  refine bodyPost_ret (v := .tuple #[.agg #[.slice none 0 0, .slice none 0 0, .slice none 0 0, .int .i64 0], .int .i64 110]) (by simp [results, Try.results16, go_sem, q0, q1, q2, q3]; done) rfl ?_
  exact hE _ ((hB.trans (hb1.mono (by simp; omega))).trans (by rw [hW]; exact set4_below _ _ _ _ _ _ (by omega)))
end Go.Proofs.Ytbfpcleogdalfaa
