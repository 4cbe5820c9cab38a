/-
  CostValid: the first assignment, three appends in any order; what the statement keeps behind it.
-/
import Derived.Test.YtbfpcleogdalfaaOrdI
import Derived.Test.YtbfpcleogdalfaaOrdV
import Derived.Test.YtbfpcleogdalfaaCostSums
namespace Go.Proofs.Ytbfpcleogdalfaa
open Go Go.RowKit

/-- A chain: an empty slice is built, a slice is appended to it. -/
def Ch (x y base : Nat) (e : TypeId) (sz n : Nat) (xs : List Value) (s : Nat) (a : Act) (w : World) : Prop :=
  s = 0 ∨ (s = 1 ∧ ∃ v, a.tmps.getD x undef = v ∧ w.ownsRow base e sz v 0 []) ∨ (s = 2 ∧ ∃ v, a.tmps.getD y undef = v ∧ w.ownsRow base e sz v n xs)
theorem Ch.keep {x y base : Nat} {e : TypeId} {sz n : Nat} {xs : List Value} {s : Nat} {a : Act} {w w' : World} (h : Ch x y base e sz n xs s a w) {d : Nat} (u : Value) (hx : x ≠ d) (hy : y ≠ d)
    (hk : ∀ v n xs, w.ownsRow base e sz v n xs → w'.ownsRow base e sz v n xs) : Ch x y base e sz n xs s (a.put (some d) u) w' := by
  rcases h with h | ⟨h, v, h1, h2⟩ | ⟨h, v, h1, h2⟩
  · exact .inl h
  · exact .inr (.inl ⟨h, v, by rw [put_other hx]; exact h1, hk _ _ _ h2⟩)
  · exact .inr (.inr ⟨h, v, by rw [put_other hy]; exact h1, hk _ _ _ h2⟩)
def vnext (s : Nat × Nat × Nat × Nat) : List (Nat × (Nat × Nat × Nat × Nat)) :=
  (if s.1 = 0 then [(0, (1, s.2.1, s.2.2.1, s.2.2.2))] else if s.1 = 1 then [(3, (2, s.2.1, s.2.2.1, s.2.2.2))] else []) ++
  (if s.2.1 = 0 then [(4, (s.1, 1, s.2.2.1, s.2.2.2))] else if s.2.1 = 1 ∧ s.2.2.2 = 1 then [(7, (s.1, 2, s.2.2.1, s.2.2.2))] else []) ++
  (if s.2.2.1 = 0 then [(8, (s.1, s.2.1, 1, s.2.2.2))] else if s.2.2.1 = 1 ∧ s.2.1 = 2 then [(11, (s.1, s.2.1, 2, s.2.2.2))] else [])
def vL (s : Nat × Nat × Nat × Nat) : Array Bool := #[Nat.ble 1 s.1, true, true, Nat.ble 2 s.1, Nat.ble 1 s.2.1, true, true, Nat.ble 2 s.2.1, Nat.ble 1 s.2.2.1, true, true, Nat.ble 2 s.2.2.1, Nat.ble 1 s.2.2.2, false, false, false, false, false]
def vrank (s : Nat × Nat × Nat × Nat) : Nat := (2 - s.1) + (2 - s.2.1) + (2 - s.2.2.1) + (1 - s.2.2.2)
/-- The states that may be met: the appends come up in their order. -/
def VS4 (i j k t : Nat) : Prop := (i ≤ 2 ∧ j ≤ 2 ∧ k ≤ 2 ∧ t ≤ 1) ∧ (j = 2 → t = 1) ∧ (k = 2 → j = 2) ∧ (t = 1 → i = 2)
instance (i j k t : Nat) : Decidable (VS4 i j k t) := by unfold VS4; infer_instance
def VS (s : Nat × Nat × Nat × Nat) : Prop := VS4 s.1 s.2.1 s.2.2.1 s.2.2.2
instance (s : Nat × Nat × Nat × Nat) : Decidable (VS s) := by unfold VS; infer_instance
def vtab (ops : Array Oper) (s : Nat × Nat × Nat × Nat) : Bool := !(decide (VS s)) || s == (2, 2, 2, 1) || (if s.1 = 2 ∧ s.2.2.2 = 0 then (Region.ready .any ops (vL s)).contains 12 && Region.free .any ops (vL s) 12 && [13, 14, 15, 16, 17].all (fun t => waitsFor ops t 12) else
  (!(vnext s).isEmpty && Region.ready .any ops (vL s) == (vnext s).map (·.1) && (vnext s).all fun p => (vL s).setIfInBounds p.1 true == vL p.2 && (vrank p.2 + 1 == vrank s) && !([13, 14, 15, 16, 17].contains p.1)))
def vall (ops : Array Oper) : Bool := (List.range 3).all fun i => (List.range 3).all fun j => (List.range 3).all fun k => (List.range 2).all fun t => vtab ops (i, j, k, t)
theorem vall_at {ops : Array Oper} (h : vall ops = true) {s : Nat × Nat × Nat × Nat} (hv : VS s) :
    s = (2, 2, 2, 1) ∨ (¬ (s.1 = 2 ∧ s.2.2.2 = 0) ∧ vnext s ≠ [] ∧ Region.ready .any ops (vL s) = (vnext s).map (·.1) ∧ ∀ p ∈ vnext s, (vL s).setIfInBounds p.1 true = vL p.2 ∧ vrank p.2 + 1 = vrank s ∧ [13, 14, 15, 16, 17].contains p.1 = false) ∨
    ((s.1 = 2 ∧ s.2.2.2 = 0) ∧ ((Region.ready .any ops (vL s)).contains 12 && Region.free .any ops (vL s) 12 && [13, 14, 15, 16, 17].all (fun t => waitsFor ops t 12)) = true) := by
  unfold vall at h
  simp only [List.all_eq_true, List.mem_range] at h
  have hb : VS4 s.1 s.2.1 s.2.2.1 s.2.2.2 := hv
  unfold VS4 at hb
  have := h s.1 (by omega) s.2.1 (by omega) s.2.2.1 (by omega) s.2.2.2 (by omega)
  unfold vtab at this
  rw [Bool.or_eq_true, Bool.or_eq_true] at this
  rcases this with (h | h) | h
  · have hv' : VS (s.1, s.2.1, s.2.2.1, s.2.2.2) := hv
    simp [hv'] at h
  · left; exact beq_iff_eq.1 h
  · by_cases hq : s.1 = 2 ∧ s.2.2.2 = 0
    · rw [if_pos hq] at h
      exact .inr (.inr ⟨hq, h⟩)
    · rw [if_neg hq] at h
      simp only [Bool.and_eq_true, List.all_eq_true, Bool.not_eq_true', List.isEmpty_eq_false_iff] at h
      exact .inr (.inl ⟨hq, h.1.1, by simpa using h.1.2, fun p hp => by have := h.2 p hp; exact ⟨by simpa using this.1.1, by simpa using this.1.2, this.2⟩⟩)

/-- The frame behind the assignment. -/
def LV (f : Nat → Value) (x0 x1 x2 x3 x4 x6 x7 x8 : Value) : Act := ⟨#[x0, x1, x2, x3, x4, f 5, x6, x7, x8, f 9, f 10, f 11, f 12, f 13, f 14, f 15, f 16, f 17, f 18, f 19, f 20, f 21, f 22, f 23, f 24, f 25, f 26, f 27, f 28, f 29, f 30, f 31, f 32, f 33, f 34, f 35, f 36, f 37, f 38, f 39, f 40, f 41, f 42, f 43, f 44, f 45, f 46, f 47, f 48, f 49, f 50, f 51, f 52, f 53, f 54, f 55, f 56, f 57, f 58, f 59, f 60, f 61, f 62, f 63, f 64, f 65, f 66, f 67, f 68, f 69, f 70, f 71, f 72, f 73, f 74, f 75, f 76, f 77, f 78, f 79, f 80, f 81, f 82, f 83, f 84, f 85, f 86, f 87, f 88, f 89, f 90, f 91, f 92, f 93, f 94, f 95, f 96, f 97, f 98, f 99, f 100, f 101, f 102, f 103, f 104, f 105, f 106, f 107, f 108, f 109, f 110, f 111, f 112, f 113, f 114, f 115, f 116, f 117, f 118, f 119, f 120, f 121, f 122, f 123, f 124, f 125, f 126, f 127, f 128, f 129, f 130, f 131, f 132, f 133, f 134, f 135, f 136, f 137, f 138, f 139, f 140, f 141, f 142, f 143, f 144, f 145, f 146, f 147, f 148, f 149, f 150, f 151, f 152, f 153, f 154, f 155, f 156, f 157, f 158, f 159, f 160, f 161, f 162, f 163, f 164, f 165, f 166, f 167, f 168, f 169, f 170, f 171, f 172, f 173], []⟩
theorem LV_of {a : Act} {l : List (Nat × Value)} {x0 x1 x2 x3 x4 x6 x7 x8 : Value} (h : Slots 174 a l) (h0 : (0, x0) ∈ l) (h1 : (1, x1) ∈ l) (h2 : (2, x2) ∈ l) (h3 : (3, x3) ∈ l) (h4 : (4, x4) ∈ l) (h6 : (6, x6) ∈ l) (h7 : (7, x7) ∈ l) (h8 : (8, x8) ∈ l) : ∃ f, a = LV f x0 x1 x2 x3 x4 x6 x7 x8 := by
  refine ⟨fun i => a.tmps.getD i undef, ?_⟩
  have e0 := h.at_ h0
  have e1 := h.at_ h1
  have e2 := h.at_ h2
  have e3 := h.at_ h3
  have e4 := h.at_ h4
  have e6 := h.at_ h6
  have e7 := h.at_ h7
  have e8 := h.at_ h8
  obtain ⟨hs, hd, _⟩ := h
  rcases a with ⟨t, d⟩
  subst hd
  have h := arr_of_size hs
  dsimp only at e0 e1 e2 e3 e4 e6 e7 e8
  unfold LV
  rw [← e0]
  rw [← e1]
  rw [← e2]
  rw [← e3]
  rw [← e4]
  rw [← e6]
  rw [← e7]
  rw [← e8]
  exact congrArg (fun t => (⟨t, []⟩ : Act)) h
theorem own_sets {W : World} {base : Nat} {ws : List ByteArray} {g d : Nat} (o : W.ownsRow base 9 1 (.slice (some ⟨g, 0, none⟩) ws.length d) ws.length (ws.flatMap (fun x => [Value.string x]))) (j : Nat) (hj : j < ws.length) (v : ByteArray) :
    (W.setCell ⟨g, j, none⟩ (.string v)).ownsRow base 9 1 (.slice (some ⟨g, 0, none⟩) ws.length d) ws.length ((ws.set j v).flatMap (fun x => [Value.string x])) ∧ base ≤ g ∧ W.frozen? ⟨g, j, none⟩ = false ∧ ∃ y, ws[j]? = some y ∧ W.cell? ⟨g, j, none⟩ = some (.string y) := by
  obtain ⟨g2, c2', cur, hv, hg, hblk, hnc, hcm, hcl, htk⟩ := blk_of_own o (by omega)
  injection hv with hv _ h3
  injection hv with hv
  injection hv with hv
  subst hv h3
  refine ⟨?_, hg, hblk.frozen _, ws[j], List.getElem?_eq_getElem hj, ?_⟩
  · have h := own_of_blk (base := base) (s := 1) (show Blk _ g 9 (cur.set j (.string v)).toArray by simpa using hblk.set_ j (.string v)) hg hnc hcm (by simpa using hcl)
    rw [List.take_set, htk, flatMap_one, ← List.map_set, ← flatMap_one] at h
    exact h
  · refine cells_of_take hblk htk j _ ?_
    rw [flatMap_one]
    simp [hj]
theorem set_sizes {ws : List ByteArray} {j : Nat} {v : ByteArray} (h : ∀ s ∈ ws, s.size ≤ maxLen) (hv : v.size ≤ maxLen) : ∀ s ∈ ws.set j v, s.size ≤ maxLen := fun s hs => by
  rcases List.mem_or_eq_of_mem_set hs with h1 | h1
  · exact h s h1
  · rw [h1]; exact hv
theorem flat_set3 (v : Pr) : ∀ (ps : List Pr) (j : Nat), j < ps.length → (((ps.flatMap encP).set (j * 3) (.int .i64 v.a)).set (j * 3 + 1) (.int .i64 v.b)).set (j * 3 + 2) (.int .i64 v.n) = (ps.set j v).flatMap encP
  | [], _, h => absurd h (by simp)
  | p :: ps, 0, _ => by simp [encP]
  | p :: ps, j + 1, h => by
    have ih := flat_set3 v ps j (by simpa using h)
    have e : (j + 1) * 3 = j * 3 + 3 := by omega
    rw [e, List.set_cons_succ]
    simp only [List.flatMap_cons]
    rw [← ih]
    simp [encP]
theorem own_setp {W : World} {base : Nat} {ps : List Pr} {g d : Nat} (o : W.ownsRow base 50 3 (.slice (some ⟨g, 0, none⟩) ps.length d) ps.length (ps.flatMap encP)) (j : Nat) (hj : j < ps.length) (v : Pr) :
    (((W.setCell ⟨g, j * 3, none⟩ (.int .i64 v.a)).setCell ⟨g, j * 3 + 1, none⟩ (.int .i64 v.b)).setCell ⟨g, j * 3 + 2, none⟩ (.int .i64 v.n)).ownsRow base 50 3 (.slice (some ⟨g, 0, none⟩) ps.length d) ps.length ((ps.set j v).flatMap encP) ∧ base ≤ g ∧ (∀ i, W.frozen? ⟨g, i, none⟩ = false) ∧
      ∃ y, ps[j]? = some y ∧ W.cell? ⟨g, j * 3, none⟩ = some (.int .i64 y.a) ∧ W.cell? ⟨g, j * 3 + 1, none⟩ = some (.int .i64 y.b) ∧ W.cell? ⟨g, j * 3 + 2, none⟩ = some (.int .i64 y.n) := by
  obtain ⟨A3, c3, hv3, _, _, hs3⟩ := own_slr (R := RPr) o (fun _ => rfl) (fun _ => rfl) rfl
  injection hv3 with hv3 _ _
  subst hv3
  obtain ⟨b, off, y, hA, _, hy, y0, y1, y2⟩ := hs3.pr hj
  injection hA with hA
  injection hA with hA1 hA2 _
  subst hA1 hA2
  rw [Nat.zero_add] at y0 y1 y2
  obtain ⟨g2, c2', cur, hv, hg, hblk, hnc, hcm, hcl, htk⟩ := blk_of_own o (by omega)
  injection hv with hv _ h3
  injection hv with hv
  injection hv with hv
  subst hv h3
  refine ⟨?_, hg, fun i => hblk.frozen i, y, hy, y0, y1, y2⟩
  have hb3 := ((hblk.set_ (j * 3) (.int .i64 v.a)).set_ (j * 3 + 1) (.int .i64 v.b)).set_ (j * 3 + 2) (.int .i64 v.n)
  have h := own_of_blk (base := base) (s := 3) (n := ps.length) (cap := d) (cur := ((cur.set (j * 3) (.int .i64 v.a)).set (j * 3 + 1) (.int .i64 v.b)).set (j * 3 + 2) (.int .i64 v.n)) (by simpa using hb3) hg hnc hcm (by simpa using hcl)
  rw [List.take_set, List.take_set, List.take_set, htk, flat_set3 v ps j hj] at h
  exact h
/-- The state of the region. -/
def FV (m : Mo) (B1 B2 B3 : Option Addr) (d1 d2 d3 base gg : Nat) (x0 x1 x2 x3 x4 x6 x7 x8 : Value) (s : Nat × Nat × Nat × Nat) (a : Act) (w : World) : Prop :=
  (VS s ∧ (s.2.2.2 = 1 → a.tmps.getD 30 undef = .pointer (some ⟨gg, 0, none⟩))) ∧ Slots 174 a [(0, x0), (1, x1), (2, x2), (3, x3), (4, x4), (6, x6), (7, x7), (8, x8), (20, .slice B1 m.ws.length d1), (24, .slice B2 m.cs.length d2), (28, .slice B3 m.ps.length d3)] ∧ Ch 18 21 base 9 1 m.ws.length (m.ws.flatMap (fun x => [Value.string x])) s.1 a w ∧ Ch 22 25 base 3 1 m.cs.length (m.cs.flatMap (fun x => [Value.int .i64 x])) s.2.1 a w ∧ Ch 26 29 base 50 3 m.ps.length (m.ps.flatMap encP) s.2.2.1 a w
end Go.Proofs.Ytbfpcleogdalfaa
