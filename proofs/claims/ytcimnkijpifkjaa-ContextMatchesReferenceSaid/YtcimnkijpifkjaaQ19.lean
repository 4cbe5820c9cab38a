/-
  CostWalkT, CostWalkU, CostWalkV, CostWalkL, CostWalkM, joined. No conditions.
-/
import Derived.Test.YtcimnkijpifkjaaQ17
import Derived.Test.YtcimnkijpifkjaaQ18
import Derived.Test.YtcimnkijpifkjaaQ13
import Derived.Test.YtcimnkijpifkjaaQ03
import Derived.Test.YtcimnkijpifkjaaQ02
import Derived.Test.YtcimnkijpifkjaaQ09
/-
  The walks of layer 11: count adds to a pair of an increasing list, or puts it in.
-/
namespace Go.Proofs.Ytcimnkijpifkjaa
open Go Go.RowKit

/-- cost.count. -/
def countP (ps : List Pr) (g : Pr) : List Pr :=
  match ps[cutP ps g]? with
  | some p => if p.a = g.a ∧ p.b = g.b then ps.set (cutP ps g) ⟨p.a, p.b, p.n + g.n⟩ else insAt ps (cutP ps g) g
  | none => insAt ps (cutP ps g) g
theorem countP_hit {ps : List Pr} {g p : Pr} (h : ps[cutP ps g]? = some p) (h1 : p.a = g.a) (h2 : p.b = g.b) : countP ps g = ps.set (cutP ps g) ⟨p.a, p.b, p.n + g.n⟩ := by
  unfold countP; rw [h]; exact if_pos ⟨h1, h2⟩
theorem countP_miss {ps : List Pr} {g p : Pr} (h : ps[cutP ps g]? = some p) (h1 : ¬ (p.a = g.a ∧ p.b = g.b)) : countP ps g = insAt ps (cutP ps g) g := by
  unfold countP; rw [h]; exact if_neg h1
theorem countP_end {ps : List Pr} {g : Pr} (h : ps[cutP ps g]? = none) : countP ps g = insAt ps (cutP ps g) g := by
  unfold countP; rw [h]
theorem flatMap_setN (v : Int) : ∀ (ps : List Pr) (i : Nat) (p : Pr), ps[i]? = some p → (ps.flatMap encP).set (i * 3 + 2) (.int .i64 v) = (ps.set i ⟨p.a, p.b, v⟩).flatMap encP := by
  intro ps
  induction ps with
  | nil => intro i p h; simp at h
  | cons q ps ih =>
    intro i p h
    cases i with
    | zero => simp at h; subst h; rfl
    | succ i =>
      have h' : ps[i]? = some p := by simpa using h
      rw [List.set_cons_succ, List.flatMap_cons, List.flatMap_cons, ← ih i p h', List.set_append_right _ _ (by simp [encP]; omega)]
      congr 2
      simp [encP]; omega
theorem apps_via {w W W2 : World} {v v' : Value} {o : Obj} (hb : Below w.heap.size w W) (hs : w.heap.size ≤ W.heap.size) (ha : Apps (W.alloc o) W2 v v') : Apps w W2 v v' :=
  ⟨fun k hk hne => (ha.keep k (by simp; omega) hne).trans ((Below.heap_alloc W o k (by omega)).trans (hb.block k hk)), by
    rcases ha.at_ with h | ⟨k, h1, h2⟩
    · exact .inl h
    · exact .inr ⟨k, h1, by simp at h2; omega⟩⟩
theorem insAt_len (xs : List Pr) (i : Nat) (p : Pr) (h : i ≤ xs.length) : (insAt xs i p).length = xs.length + 1 := by simp [insAt, Nat.min_eq_left h]; omega

end Go.Proofs.Ytcimnkijpifkjaa

/-
  The walks of layer 11: Learn, where it refuses.
-/
namespace Go.Proofs.Ytcimnkijpifkjaa
open Go Go.RowKit

/-- The model behind n more uses of wd behind prev. -/
def nextM (m : Mo) (prev wd n : Int) : Mo := ⟨m.ws, m.cs.set wd.toNat (m.cs.getD wd.toNat 0 + n), if 0 ≤ prev then countP m.ps ⟨prev, wd, n⟩ else m.ps, m.back⟩
def LearnOK (m : Mo) (prev wd n : Int) : Prop := (1 ≤ n ∧ n ≤ 1073741824 ∧ 0 ≤ wd ∧ wd < m.ws.length ∧ prev < m.ws.length) ∧ MoOK m
instance (m : Mo) (prev wd n : Int) : Decidable (LearnOK m prev wd n) := by unfold LearnOK; infer_instance
/-- cost.Learn. -/
def learnM (m : Mo) (prev wd n : Int) : Option Mo := if LearnOK m prev wd n ∧ MoOK (nextM m prev wd n) then some (nextM m prev wd n) else none
/-- What Learn gives back: a model in memory of the call's own, or the number 110. -/
def GivesL (o : Option Mo) (w : World) (e : Ending) (w' : World) : Prop :=
  match o with
  | none => e = .returned (.tuple #[.agg #[.slice none 0 0, .slice none 0 0, .slice none 0 0, .int .i64 0], .int .i64 110]) ∧ Below w.heap.size w w'
  | some m => ∃ (B1 B2 B3 : Option Addr) (d1 d2 d3 : Nat), e = .returned (.tuple #[.agg #[.slice B1 m.ws.length d1, .slice B2 m.cs.length d2, .slice B3 m.ps.length d3, .int .i64 m.back], .int .i64 0]) ∧ MoR w' m B1 B2 B3 ∧
    ((m.ws.length ≤ d1 ∧ d1 ≤ maxLen) ∧ (m.cs.length ≤ d2 ∧ d2 ≤ maxLen) ∧ (m.ps.length ≤ d3 ∧ d3 ≤ maxLen)) ∧ Below w.heap.size w w'

/-- The four cells of a model are stored. -/
def co_set4 (w : World) (g : Nat) (v0 v1 v2 v3 : Value) : World := (((w.setCell ⟨g, 0, none⟩ v0).setCell ⟨g, 1, none⟩ v1).setCell ⟨g, 2, none⟩ v2).setCell ⟨g, 3, none⟩ v3
theorem Blk.co_set4 {w : World} {g : Nat} {t : TypeId} {a b c d : Value} (h : Blk w g t #[a, b, c, d]) (v0 v1 v2 v3 : Value) : Blk (co_set4 w g v0 v1 v2 v3) g t #[v0, v1, v2, v3] := (((h.set_ 0 v0).set_ 1 v1).set_ 2 v2).set_ 3 v3
theorem heap_set4 (w : World) (g : Nat) (v0 v1 v2 v3 : Value) (k : Nat) (h : k ≠ g) : (co_set4 w g v0 v1 v2 v3).heap[k]? = w.heap[k]? := by
  unfold co_set4
  rw [Below.heap_setCell _ _ _ _ h, Below.heap_setCell _ _ _ _ h, Below.heap_setCell _ _ _ _ h, Below.heap_setCell _ _ _ _ h]
theorem size_set4 (w : World) (g : Nat) (v0 v1 v2 v3 : Value) : (co_set4 w g v0 v1 v2 v3).heap.size = w.heap.size := by simp [co_set4, World.setCell]
theorem set4_below (B : Nat) (w : World) {g : Nat} (v0 v1 v2 v3 : Value) (h : B ≤ g) : Below B w (co_set4 w g v0 v1 v2 v3) := ((((Below.refl B w).setCell h v0).setCell h v1).setCell h v2).setCell h v3

end Go.Proofs.Ytcimnkijpifkjaa

/-
  The walks of layer 11: Learn, where it goes on.
-/
namespace Go.Proofs.Ytcimnkijpifkjaa
open Go Go.RowKit

/-- A frame of Learn: the slots that are read again, and others. -/
def LA (f : Nat → Value) (x1 x2 x3 x8 x11 : Value) : Act := ⟨#[f 0, x1, x2, x3, f 4, f 5, f 6, f 7, x8, f 9, f 10, x11, f 12, f 13, f 14, f 15, f 16, f 17, f 18, f 19, f 20, f 21, f 22, f 23, f 24, f 25, f 26, f 27, f 28, f 29, f 30, f 31, f 32, f 33, f 34, f 35, f 36, f 37, f 38, f 39, f 40, f 41, f 42, f 43, f 44, f 45, f 46, f 47, f 48, f 49, f 50, f 51, f 52, f 53, f 54, f 55, f 56, f 57, f 58, f 59, f 60, f 61, f 62, f 63, f 64, f 65, f 66, f 67, f 68, f 69, f 70, f 71, f 72, f 73, f 74, f 75, f 76], []⟩
theorem arr_of_size {t : Array Value} {n : Nat} (h : t.size = n) : t = ((List.range n).map fun i => t.getD i undef).toArray := by
  refine Array.ext (by simp [h]) fun i h1 h2 => ?_
  simp [Array.getD, h1]
theorem LA_of (a : Act) (hs : a.tmps.size = 77) (hd : a.defers = []) : ∃ f, a = LA f (a.tmps.getD 1 undef) (a.tmps.getD 2 undef) (a.tmps.getD 3 undef) (a.tmps.getD 8 undef) (a.tmps.getD 11 undef) := by
  refine ⟨fun i => a.tmps.getD i undef, ?_⟩
  rcases a with ⟨t, d⟩
  subst hd
  have h := arr_of_size hs
  unfold LA
  exact congrArg (fun t => (⟨t, []⟩ : Act)) h
theorem own_set4 {w : World} {base : Nat} {e : TypeId} {s n : Nat} {v : Value} {xs : List Value} (h : w.ownsRow base e s v n xs) {g : Nat} (hg : v.ownBlock ≠ some g) (v0 v1 v2 v3 : Value) : (co_set4 w g v0 v1 v2 v3).ownsRow base e s v n xs :=
  own_set (own_set (own_set (own_set h (a := ⟨g, 0, none⟩) hg v0) (a := ⟨g, 1, none⟩) hg v1) (a := ⟨g, 2, none⟩) hg v2) (a := ⟨g, 3, none⟩) hg v3

/-- Behind the three clones. -/
def MidR (m : Mo) (w1 : World) (x1 x2 x3 x8 : Value) (a : Act) (W : World) : Prop :=
  ∃ (kb : Nat) (v1 v2 v3 : Value) (f : Nat → Value), a = LA f x1 x2 x3 x8 (.pointer (some ⟨kb, 0, none⟩)) ∧ w1.heap.size ≤ kb ∧ Blk W kb 34 #[v1, v2, v3, .int .i64 m.back] ∧
    W.ownsRow w1.heap.size 9 1 v1 m.ws.length (m.ws.flatMap (fun x => [Value.string x])) ∧ W.ownsRow w1.heap.size 3 1 v2 m.cs.length (m.cs.flatMap (fun x => [Value.int .i64 x])) ∧ W.ownsRow w1.heap.size 87 3 v3 m.ps.length (m.ps.flatMap encP) ∧
    (v1.ownBlock ≠ some kb ∧ v2.ownBlock ≠ some kb ∧ v3.ownBlock ≠ some kb) ∧ Below w1.heap.size w1 W
theorem mid_end {m : Mo} {w1 W : World} {x1 x2 x3 x8 : Value} (a : Act) (hs : a.tmps.size = 77) (hd : a.defers = []) (h1 : a.tmps.getD 1 undef = x1) (h2 : a.tmps.getD 2 undef = x2) (h3 : a.tmps.getD 3 undef = x3) (h8 : a.tmps.getD 8 undef = x8)
    {kb' : Nat} (h11 : a.tmps.getD 11 undef = .pointer (some ⟨kb', 0, none⟩)) (kb : Nat) (v1 v2 v3 : Value) (hkb : w1.heap.size ≤ kb) (hk : Blk W kb 34 #[v1, v2, v3, .int .i64 m.back])
    (o1 : W.ownsRow w1.heap.size 9 1 v1 m.ws.length (m.ws.flatMap (fun x => [Value.string x]))) (o2 : W.ownsRow w1.heap.size 3 1 v2 m.cs.length (m.cs.flatMap (fun x => [Value.int .i64 x]))) (o3 : W.ownsRow w1.heap.size 87 3 v3 m.ps.length (m.ps.flatMap encP))
    (n1 : v1.ownBlock ≠ some kb) (n2 : v2.ownBlock ≠ some kb) (n3 : v3.ownBlock ≠ some kb) (hS : Below w1.heap.size w1 W) (hkk : kb' = kb := by rfl) : MidR m w1 x1 x2 x3 x8 a W := by
  subst hkk
  obtain ⟨f, hf⟩ := LA_of a hs hd
  rw [h1, h2, h3, h8, h11] at hf
  exact ⟨kb', v1, v2, v3, f, hf, hkb, hk, o1, o2, o3, ⟨n1, n2, n3⟩, hS⟩
theorem region_cut {P : Program} {c : Code} {Q : Exit → Act → World → Prop} {a : Act} {w : World} (R : Act → World → Prop) (hR : ∀ a' w', R a' w' → Q .normal a' w')
    (h : c.wp P (fun e a' w' => match e with | .normal => R a' w' | e => Q e a' w') a w) : c.wp P Q a w :=
  Code.wp_mono (fun e a' w' hh => by cases e <;> first | exact hR _ _ hh | exact hh) h

theorem countP_mem {ps : List Pr} {g q : Pr} (h : q ∈ countP ps g) : q ∈ ps ∨ q = g ∨ ∃ p ∈ ps, q = ⟨p.a, p.b, p.n + g.n⟩ := by
  have hins : q ∈ insAt ps (cutP ps g) g → q ∈ ps ∨ q = g ∨ ∃ p ∈ ps, q = ⟨p.a, p.b, p.n + g.n⟩ := fun h => by
    simp only [insAt, List.mem_append, List.mem_singleton] at h
    rcases h with (h | h) | h
    · exact .inl (List.mem_of_mem_take h)
    · exact .inr (.inl h)
    · exact .inl (List.mem_of_mem_drop h)
  cases hp : ps[cutP ps g]? with
  | none => rw [countP_end hp] at h; exact hins h
  | some p =>
    by_cases he : p.a = g.a ∧ p.b = g.b
    · rw [countP_hit hp he.1 he.2] at h
      rcases List.mem_or_eq_of_mem_set h with h | h
      · exact .inl h
      · exact .inr (.inr ⟨p, List.mem_of_getElem? hp, h⟩)
    · rw [countP_miss hp he] at h; exact hins h
theorem countP_len (ps : List Pr) (g : Pr) (hinc : incP ps = true) : (countP ps g).length ≤ ps.length + 1 := by
  have hc := (cut_spec ps g hinc).hhi
  cases hp : ps[cutP ps g]? with
  | none => rw [countP_end hp, insAt_len _ _ _ hc]; omega
  | some p =>
    by_cases he : p.a = g.a ∧ p.b = g.b
    · rw [countP_hit hp he.1 he.2, List.length_set]; omega
    · rw [countP_miss hp he, insAt_len _ _ _ hc]; omega
theorem countP_within {m : Int} (ps : List Pr) (g : Pr) (h : ∀ p ∈ ps, -m ≤ p.n ∧ p.n ≤ m) (hg : -m ≤ g.n ∧ g.n ≤ m) (hm : 2 * m ≤ 4294967296 := by decide) : Within 4294967296 ((countP ps g).map Pr.n) := fun y hy => by
  obtain ⟨q, hq, rfl⟩ := List.mem_map.1 hy
  rcases countP_mem hq with h1 | h1 | ⟨p, h1, h2⟩
  · have := h q h1; omega
  · rw [h1]; omega
  · rw [h2]; have := h p h1; simp only; omega

/-- Rows of the call's own are a model. -/
theorem mor_own {W : World} {base : Nat} {m : Mo} {B1 B2 B3 : Option Addr} {d1 d2 d3 : Nat} (o1 : W.ownsRow base 9 1 (.slice B1 m.ws.length d1) m.ws.length (m.ws.flatMap (fun x => [Value.string x]))) (o2 : W.ownsRow base 3 1 (.slice B2 m.cs.length d2) m.cs.length (m.cs.flatMap (fun x => [Value.int .i64 x])))
    (o3 : W.ownsRow base 87 3 (.slice B3 m.ps.length d3) m.ps.length (m.ps.flatMap encP)) (l1 : m.ws.length ≤ 65536) (l2 : m.cs.length ≤ 65536) (l3 : m.ps.length ≤ 65536) (hs : ∀ s ∈ m.ws, s.size ≤ maxLen) (hn : Within 4294967296 (m.ps.map Pr.n)) :
    MoR W m B1 B2 B3 ∧ ((m.ws.length ≤ d1 ∧ d1 ≤ maxLen) ∧ (m.cs.length ≤ d2 ∧ d2 ≤ maxLen) ∧ (m.ps.length ≤ d3 ∧ d3 ≤ maxLen)) := by
  obtain ⟨C1, e1, h1, k1, m1, s1⟩ := own_slr (R := RStr) o1 (fun _ => rfl) (fun _ => rfl) rfl
  obtain ⟨C2, e2, h2, k2, m2, s2⟩ := own_slr (R := RInt) o2 (fun _ => rfl) (fun _ => rfl) rfl
  obtain ⟨C3, e3, h3, k3, m3, s3⟩ := own_slr (R := RPr) o3 (fun _ => rfl) (fun _ => rfl) rfl
  injection h1 with h1 _ j1
  injection h2 with h2 _ j2
  injection h3 with h3 _ j3
  subst h1 h2 h3 j1 j2 j3
  exact ⟨⟨s1, s2, s3, l1, l2, l3, hs, hn⟩, ⟨k1, m1⟩, ⟨k2, m2⟩, ⟨k3, m3⟩⟩
/-- One number of a row of the call's own is stored. -/
theorem own_seti {W : World} {base : Nat} {cs : List Int} {g d : Nat} (o : W.ownsRow base 3 1 (.slice (some ⟨g, 0, none⟩) cs.length d) cs.length (cs.flatMap (fun x => [Value.int .i64 x]))) (j : Nat) (hj : j < cs.length) (v : Int) :
    (W.setCell ⟨g, j, none⟩ (.int .i64 v)).ownsRow base 3 1 (.slice (some ⟨g, 0, none⟩) cs.length d) cs.length ((cs.set j v).flatMap (fun x => [Value.int .i64 x])) ∧ base ≤ g ∧ W.frozen? ⟨g, j, none⟩ = false ∧ ∃ y, cs[j]? = some y ∧ W.cell? ⟨g, j, none⟩ = some (.int .i64 y) := by
  obtain ⟨g2, c2', cur, hv, hg, hblk, hnc, hcm, hcl, htk⟩ := blk_of_own o (by omega)
  injection hv with hv _ h3
  injection hv with hv
  injection hv with hv
  subst hv h3
  refine ⟨?_, hg, hblk.frozen _, cs[j], List.getElem?_eq_getElem hj, ?_⟩
  · have h := own_of_blk (base := base) (s := 1) (show Blk _ g 3 (cur.set j (.int .i64 v)).toArray by simpa using hblk.set_ j (.int .i64 v)) hg hnc hcm (by simpa using hcl)
    rw [List.take_set, htk, flatMap_one, ← List.map_set, ← flatMap_one] at h
    exact h
  · refine cells_of_take hblk htk j _ ?_
    rw [flatMap_one]
    simp [hj]

end Go.Proofs.Ytcimnkijpifkjaa

/-
  The walks of layer 11: a word put into an increasing list (the reference).
-/
namespace Go.Proofs.Ytcimnkijpifkjaa
open Go Go.RowKit

def insStep (s : ByteArray) (st : List ByteArray × Bool) (x : ByteArray) : List ByteArray × Bool :=
  (if !st.2 && ltS s x then st.1 ++ [s] ++ [x] else st.1 ++ [x], (st.2 || ltS s x) || decide (s = x))
def insTo (s : ByteArray) (l : List ByteArray) (k : Nat) : List ByteArray × Bool := (l.take k).foldl (insStep s) ([], false)
/-- What insert returns. -/
def insW (l : List ByteArray) (s : ByteArray) : List ByteArray := if (insTo s l l.length).2 then (insTo s l l.length).1 else (insTo s l l.length).1 ++ [s]
theorem insTo_succ {s : ByteArray} {l : List ByteArray} {k : Nat} {x : ByteArray} (hx : l[k]? = some x) : insTo s l (k + 1) = insStep s (insTo s l k) x := by
  unfold insTo; rw [take_succ_of hx, List.foldl_append]; rfl
theorem insStep_len (s : ByteArray) (st : List ByteArray × Bool) (x : ByteArray) : (insStep s st x).1.length ≤ st.1.length + 2 := by
  unfold insStep; dsimp only; split <;> simp
theorem insTo_len (s : ByteArray) (l : List ByteArray) (k : Nat) : (insTo s l k).1.length ≤ 2 * k := by
  unfold insTo
  have : ∀ (l : List ByteArray) (st : List ByteArray × Bool), (l.foldl (insStep s) st).1.length ≤ st.1.length + 2 * l.length := by
    intro l
    induction l with
    | nil => intro st; simp
    | cons x l ih =>
      intro st
      have h1 := ih (insStep s st x)
      have h2 := insStep_len s st x
      simp only [List.foldl_cons, List.length_cons]
      omega
  have h := this (l.take k) ([], false)
  have h2 : (l.take k).length ≤ k := List.length_take_le _ _
  simp only [List.length_nil] at h
  omega
theorem str_info : (Try.prog.info? 9).map (fun i => (i.zero, i.size, i.bytes)) = some (some (.string ByteArray.empty), 1, 16) := by kernel_rfl
theorem bytes_eqb (x y : ByteArray) : (x.toList == y.toList) = decide (x = y) := by
  by_cases h : x = y
  · subst h; simp
  · rw [bytes_ne h]; simp [h]

set_option maxRecDepth 100000 in
set_option maxHeartbeats 2000000 in
theorem insert_any (A : Option Addr) (l : List ByteArray) (c : Nat) (s : ByteArray) (w : World) (hx : SlR 1 RStr w A l) (hl : l.length ≤ 65536) :
    Calls Try.prog 28 #[.slice A l.length c, .string s] w fun e w' => ∃ v, e = .returned v ∧ w'.ownsRow w.heap.size 9 1 v (insW l s).length ((insW l s).map Value.string) ∧ Below w.heap.size w w' := by
  obtain ⟨i0, hi, hz0, hz1, hz2⟩ := info_parts str_info
  go_enter Try.func28, Try.ntmps28
  go_wp2_with fail
  go_loopw [5, 6, 7] (fun out d i wr => ∃ k : Nat, ∃ L : List ByteArray, ∃ b : Bool, k ≤ l.length ∧ Hid (insTo s l k = (L, b)) ∧ L.length ≤ 2 * k ∧ i = .int .i64 k ∧ d = .bool b ∧ wr.ownsRow w.heap.size 9 1 out L.length (L.map Value.string) ∧ Below w.heap.size w wr) (fun _ _ i _ => l.length - (intOf i).toNat)
  case atStart => exact ⟨0, [], false, by omega, rfl, by simp, rfl, rfl, own_empty w _ _ _ (Nat.le_refl _), (Below.refl _ _).alloc (Nat.le_refl _) _⟩
  case round =>
    obtain ⟨k, L, b, hk, HL, hLk, rfl, rfl, hown, hb⟩ := hrel
    by_cases hlt : k < l.length
    · obtain ⟨bk, off, x, rfl, hbb, hxx, hcx0⟩ := hx.str hlt
      have hcx := (hb.cell (p := ⟨bk, _, none⟩) hbb).trans hcx0
      clear hcx0
      have HX := Lib.hid hxx
      clear hxx
      have hlen' := insTo_len s l (k + 1)
      rw [insTo_succ HX.out, HL.out] at hlen'
      cases b with
      | true =>
        have HN := Lib.hid (show insTo s l (k + 1) = (L ++ [x], true) by rw [insTo_succ HX.out, HL.out]; simp [insStep])
        go_wp2_with (first | (at_builtin; refine wpList_app1 rfl _ _ 30 rfl w.heap.size 9 i0 _ 1 16 Try.underlying30 hi hz0 hz1 hz2 rfl (by decide) _ _ _ rfl wr [.string x] rfl hown _ rfl (by simp) rfl (by simp [Value.oneCell']) (by omega) (by decide) hb.size ?_; intro v2 w2 hown2 hb2 ha2))
        go_roundw
        case rel => exact ⟨k + 1, L ++ [x], true, by omega, HN.out, by simp; omega, by go_num, rfl, by simpa using hown2, hb.trans hb2⟩
        case measure => simp [intOf]; omega
      | false =>
        cases hlt' : ltS s x
        · have hltb : Op.bytesLess s.toList x.toList = false := hlt'
          by_cases he : s = x
          · have hbe : (s.toList == x.toList) = true := by rw [bytes_eqb]; simp [he]
            have HN := Lib.hid (show insTo s l (k + 1) = (L ++ [x], true) by rw [insTo_succ HX.out, HL.out]; unfold insStep; rw [hlt']; simp [he])
            clear he
            go_wp2_with (first | (at_builtin; refine wpList_app1 rfl _ _ 30 rfl w.heap.size 9 i0 _ 1 16 Try.underlying30 hi hz0 hz1 hz2 rfl (by decide) _ _ _ rfl wr [.string x] rfl hown _ rfl (by simp) rfl (by simp [Value.oneCell']) (by omega) (by decide) hb.size ?_; intro v2 w2 hown2 hb2 ha2))
            go_roundw
            case rel => exact ⟨k + 1, L ++ [x], true, by omega, HN.out, by simp; omega, by go_num, rfl, by simpa using hown2, hb.trans hb2⟩
            case measure => simp [intOf]; omega
          · have hbe : (s.toList == x.toList) = false := by rw [bytes_eqb]; simp [he]
            have HN := Lib.hid (show insTo s l (k + 1) = (L ++ [x], false) by rw [insTo_succ HX.out, HL.out]; unfold insStep; rw [hlt']; simp [he])
            clear he
            go_wp2_with (first | (at_builtin; refine wpList_app1 rfl _ _ 30 rfl w.heap.size 9 i0 _ 1 16 Try.underlying30 hi hz0 hz1 hz2 rfl (by decide) _ _ _ rfl wr [.string x] rfl hown _ rfl (by simp) rfl (by simp [Value.oneCell']) (by omega) (by decide) hb.size ?_; intro v2 w2 hown2 hb2 ha2))
            go_roundw
            case rel => exact ⟨k + 1, L ++ [x], false, by omega, HN.out, by simp; omega, by go_num, rfl, by simpa using hown2, hb.trans hb2⟩
            case measure => simp [intOf]; omega
        · have hltb : Op.bytesLess s.toList x.toList = true := hlt'
          have HN := Lib.hid (show insTo s l (k + 1) = (L ++ [s] ++ [x], true) by rw [insTo_succ HX.out, HL.out]; simp [insStep, hlt'])
          go_wp2_with (first | (at_builtin; refine wpList_app1 rfl _ _ 30 rfl w.heap.size 9 i0 _ 1 16 Try.underlying30 hi hz0 hz1 hz2 rfl (by decide) _ _ _ rfl w1 [.string x] rfl hown1 _ rfl (by simp) rfl (by simp [Value.oneCell']) (by omega) (by decide) (Nat.le_trans hb.size hb1.size) ?_; intro v2 w2 hown2 hb2 ha2) | (at_builtin; refine wpList_app1 rfl _ _ 30 rfl w.heap.size 9 i0 _ 1 16 Try.underlying30 hi hz0 hz1 hz2 rfl (by decide) _ _ _ rfl wr [.string s] rfl hown _ rfl (by simp) rfl (by simp [Value.oneCell']) (by omega) (by decide) hb.size ?_; intro v1 w1 hown1 hb1 ha1; have hcx1 := (hb1.cell (p := ⟨bk, _, none⟩) hbb).trans hcx))
          go_roundw
          case rel => exact ⟨k + 1, L ++ [s] ++ [x], true, by omega, HN.out, by simp; omega, by go_num, rfl, by simpa using hown2, hb.trans (hb1.trans hb2)⟩
          case measure => simp [intOf]; omega
    · have HE := Lib.hid (show insTo s l l.length = (L, b) by rw [← HL.out]; congr 1; omega)
      cases b with
      | true =>
        have HR := Lib.hid (show insW l s = L by unfold insW; rw [HE.out]; rfl)
        go_wp2_with fail
        go_ret
        exact ⟨_, rfl, by rw [HR.out]; exact hown, hb⟩
      | false =>
        have HR := Lib.hid (show insW l s = L ++ [s] by unfold insW; rw [HE.out]; rfl)
        go_wp2_with (first | (at_builtin; refine wpList_app1 rfl _ _ 30 rfl w.heap.size 9 i0 _ 1 16 Try.underlying30 hi hz0 hz1 hz2 rfl (by decide) _ _ _ rfl wr [.string s] rfl hown _ rfl (by simp) rfl (by simp [Value.oneCell']) (by omega) (by decide) hb.size ?_; intro v1 w1 hown1 hb1 ha1))
        go_ret
        exact ⟨_, rfl, by rw [HR.out]; simpa using hown1, hb.trans hb1⟩
end Go.Proofs.Ytcimnkijpifkjaa

/-
  The walks of layer 11: a word out of letters (the reference).
-/
namespace Go.Proofs.Ytcimnkijpifkjaa
open Go Go.RowKit

def letter (x : Int) : ByteArray := (ByteArray.mk #[97, 98, 99, 65, 66, 49]).extract (x % 6).toNat (x % 6 + 1).toNat
def wordTo (l : List Int) (k : Nat) : ByteArray := (l.take k).foldl (fun S x => S ++ letter x) (ByteArray.mk #[])
/-- What word returns. -/
def wordOf (l : List Int) : ByteArray := if l.isEmpty then ByteArray.mk #[97] else wordTo l 3
theorem letter_cases (x : Int) : letter x = ByteArray.mk #[97] ∨ letter x = ByteArray.mk #[98] ∨ letter x = ByteArray.mk #[99] ∨ letter x = ByteArray.mk #[65] ∨ letter x = ByteArray.mk #[66] ∨ letter x = ByteArray.mk #[49] := by
  have h : x % 6 = 0 ∨ x % 6 = 1 ∨ x % 6 = 2 ∨ x % 6 = 3 ∨ x % 6 = 4 ∨ x % 6 = 5 := by omega
  unfold letter
  rcases h with h | h | h | h | h | h
  · rw [h]; exact .inl (by rfl)
  · rw [h]; exact .inr (.inl (by rfl))
  · rw [h]; exact .inr (.inr (.inl (by rfl)))
  · rw [h]; exact .inr (.inr (.inr (.inl (by rfl))))
  · rw [h]; exact .inr (.inr (.inr (.inr (.inl (by rfl)))))
  · rw [h]; exact .inr (.inr (.inr (.inr (.inr (by rfl)))))
theorem ret_str {a b : ByteArray} (h : a = b) : Ending.returned (.string a) = .returned (.string b) := by rw [h]
theorem wordTo_succ {l : List Int} {k : Nat} {x : Int} (hx : l[k]? = some x) : wordTo l (k + 1) = wordTo l k ++ letter x := by
  unfold wordTo; rw [take_succ_of hx, List.foldl_append]; rfl
theorem plainS_append (a b : ByteArray) : plainS (a ++ b) = (plainS a && plainS b) := by
  unfold plainS; simp
theorem letter_ok (x : Int) : (letter x).size = 1 ∧ plainS (letter x) = true := by
  rcases letter_cases x with h | h | h | h | h | h <;> rw [h] <;> exact ⟨by rfl, by decide +kernel⟩
theorem wordTo_ok (l : List Int) : ∀ k, k ≤ l.length → (wordTo l k).size = k ∧ plainS (wordTo l k) = true := by
  intro k
  induction k with
  | zero => intro _; exact ⟨rfl, rfl⟩
  | succ k ih =>
    intro hk
    obtain ⟨h1, h2⟩ := ih (by omega)
    rw [wordTo_succ (List.getElem?_eq_getElem (by omega))]
    have := letter_ok l[k]
    exact ⟨by rw [ByteArray.size_append, h1, this.1], by rw [plainS_append, h2, this.2]; rfl⟩
theorem wordTo_min (l : List Int) (k : Nat) : wordTo l k = wordTo l (min k l.length) := by
  unfold wordTo; rw [List.take_eq_take_min]
theorem wordOf_ok (l : List Int) : wordS (wordOf l) = true := by
  cases l with
  | nil => decide +kernel
  | cons x l =>
    have h : wordOf (x :: l) = wordTo (x :: l) (min 3 (x :: l).length) := by rw [← wordTo_min]; rfl
    rw [h]
    have := wordTo_ok (x :: l) (min 3 (x :: l).length) (by omega)
    unfold wordS
    rw [this.1, this.2]
    simp only [List.length_cons, Bool.and_true, Bool.and_eq_true, decide_eq_true_eq]
    omega

set_option maxRecDepth 100000 in
set_option maxHeartbeats 2000000 in
theorem rword_any (A : Option Addr) (l : List Int) (c : Nat) (w : World) (hx : SlR 1 RU8 w A l) (hl : l.length ≤ maxLen) (hb8 : ∀ x ∈ l, 0 ≤ x ∧ x ≤ 255) :
    Calls Try.prog 29 #[.slice A l.length c] w fun e w' => e = .returned (.string (wordOf l)) ∧ Below w.heap.size w w' := by
  unfold maxLen at hl
  go_enter Try.func29, Try.ntmps29
  go_wp2_with fail
  go_loopw [3, 4] (fun out i wr => ∃ k : Nat, ∃ S : ByteArray, k ≤ l.length ∧ k ≤ 3 ∧ Hid (S = wordTo l k) ∧ i = .int .i64 k ∧ out = .string S ∧ Below w.heap.size w wr) (fun _ i _ => 3 - (intOf i).toNat)
  case atStart => exact ⟨0, ByteArray.mk #[], by omega, by omega, rfl, rfl, rfl, Below.refl _ _⟩
  case round =>
    obtain ⟨k, S, hk, hk3, HS, rfl, rfl, hb⟩ := hrel
    have hszN := wordTo_ok l k hk
    have hsz : S.size ≤ 3 := by rw [HS.out, hszN.1]; exact hk3
    by_cases hlt : k < l.length
    · by_cases hlt3 : k < 3
      · obtain ⟨bk, off, x, rfl, hbb, hxx, hcx0⟩ := hx.u8 hlt
        have hcx := (hb.cell (p := ⟨bk, _, none⟩) hbb).trans hcx0
        have HX := Lib.hid hxx
        have hx8 := hb8 x (List.mem_of_getElem? hxx)
        clear hcx0 hxx hszN
        have hm0 : 0 ≤ x % 6 := by omega
        have hm1 : x % 6 ≤ 5 := by omega
        have hwr : IntKind.u8.wrap (x % 6 + 1) = x % 6 + 1 := by unfold IntKind.wrap; simp [IntKind.bits, IntKind.signed]; omega
        have hki : (k : Int) < (l.length : Int) := by omega
        have hk0 : (0 : Int) ≤ (k : Int) := by omega
        go_wp2_with fail
        go_quiet (fail)
        go_wp2_with fail
        go_roundw
        case rel => exact ⟨k + 1, S ++ letter x, by omega, by omega, (by rw [wordTo_succ HX.out, HS.out] : S ++ letter x = wordTo l (k + 1)), by go_num, rfl, below_drewN hb _⟩
        case measure => simp [intOf]; omega
      · obtain rfl : k = 3 := by omega
        have hne : S.toList.isEmpty = false := by
          rw [ByteArray.toList_eq, List.isEmpty_eq_false_iff]
          intro e
          have : S.size = 0 := by simpa using congrArg List.length e
          rw [HS.out, hszN.1] at this; cases this
        have HR := Lib.hid (show wordOf l = S by
          have : l.isEmpty = false := by cases l with | nil => simp at hlt | cons _ _ => rfl
          unfold wordOf; rw [this, HS.out]; rfl)
        clear hszN
        go_wp2_with fail
        go_ret
        exact ⟨ret_str HR.out.symm, hb⟩
    · obtain rfl : k = l.length := by omega
      by_cases h0 : l = []
      · subst h0
        obtain rfl : S = ByteArray.mk #[] := HS.out
        clear hszN hsz
        go_wp2_with fail
        go_ret
        exact ⟨rfl, hb⟩
      · have hne : S.toList.isEmpty = false := by
          rw [ByteArray.toList_eq, List.isEmpty_eq_false_iff]
          intro e
          have : S.size = 0 := by simpa using congrArg List.length e
          rw [HS.out, hszN.1] at this
          exact h0 (List.length_eq_zero_iff.1 this)
        have HR := Lib.hid (show wordOf l = S by
          have : l.isEmpty = false := by cases l with | nil => exact absurd rfl h0 | cons _ _ => rfl
          unfold wordOf; rw [this, HS.out, wordTo_min l 3, Nat.min_eq_right hk3]; rfl)
        clear hszN
        by_cases h3 : l.length < 3
        · go_wp2_with fail
          go_ret
          exact ⟨ret_str HR.out.symm, hb⟩
        · go_wp2_with fail
          go_ret
          exact ⟨ret_str HR.out.symm, hb⟩
end Go.Proofs.Ytcimnkijpifkjaa
