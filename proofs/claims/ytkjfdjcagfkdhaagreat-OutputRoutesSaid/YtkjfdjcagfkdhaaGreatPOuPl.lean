/-
  The memory of layer 05's reference: the pairs at each place.
-/
import Derived.Test.YtkjfdjcagfkdhaaGreatPOuRx
import Derived.Test.YtkjfdjcagfkdhaaGreatP15
import Derived.Laws.OwnMore
namespace Go.Proofs.YtkjfdjcagfkdhaaGreat
open Go Go.RowKit

/-- A mode and an output with a cost. -/
structure Pq where
  m : Int
  o : ByteArray
  c : Int
  deriving DecidableEq
def encPq (p : Pq) : List Value := [.int .i64 p.m, .string p.o, .int .i64 p.c]
def RPq (_ : World) (p : Pq) (vs : List Value) : Prop := vs = encPq p
/-- The row of a place. -/
structure PRow where
  A : Option Addr
  c : Nat
  ps : List Pq
def PRow.val (r : PRow) : Value := .slice r.A r.ps.length r.c
structure PlcI (w : World) (gp gL cL : Nat) (s : Sc) (A : Option Addr) (c : Nat) (inp : ByteArray) (rows : List PRow) (big : Bool) : Prop where
  hp : Blk w gp 43 #[.int .i64 s.n, .int .u8 s.acc, .slice A s.rs.length c, .string inp, .slice (some ⟨gL, 0, none⟩) rows.length cL, .bool big]
  hL : w.ownsRow (gp + 1) 91 1 (.slice (some ⟨gL, 0, none⟩) rows.length cL) rows.length (rows.map PRow.val)
  own : ∀ (i : Nat) (r : PRow), rows[i]? = some r → w.ownsRow (gp + 1) 94 3 r.val r.ps.length (r.ps.flatMap encPq)
  apart : ∀ (i j : Nat) (a b : PRow), i ≠ j → rows[i]? = some a → rows[j]? = some b → ∀ g, a.val.ownBlock = some g → b.val.ownBlock ≠ some g
theorem flat_setPq : ∀ (l : List Pq) (k : Nat) (p : Pq) (c' : Int), l[k]? = some p → (l.flatMap encPq).set (k * 3 + 2) (.int .i64 c') = (l.set k ⟨p.m, p.o, c'⟩).flatMap encPq
  | [], k, p, c', h => by simp at h
  | q :: l, 0, p, c', h => by
    simp at h
    subst h
    simp [encPq]
  | q :: l, k + 1, p, c', h => by
    have ih := flat_setPq l k p c' (by simpa using h)
    have e : (k + 1) * 3 + 2 = (k * 3 + 2) + 3 := by omega
    rw [List.flatMap_cons, List.set_cons_succ, List.flatMap_cons, ← ih, e]
    simp [encPq, List.set_append]
section
variable {w w' : World} {gp gL cL c : Nat} {s : Sc} {A : Option Addr} {inp : ByteArray} {rows : List PRow} {big : Bool}
theorem PlcI.below (h : PlcI w gp gL cL s A c inp rows big) (hb : Below w.heap.size w w') : PlcI w' gp gL cL s A c inp rows big :=
  ⟨h.hp.below hb h.hp.lt, own_below h.hL hb, fun i r hr => own_below (h.own i r hr) hb, h.apart⟩
theorem PlcI.gl (h : PlcI w gp gL cL s A c inp rows big) : gp < gL ∧ gL < w.heap.size := by
  have h1 := h.hL.lt gL rfl
  omega
theorem PlcI.row (h : PlcI w gp gL cL s A c inp rows big) {i : Nat} {r : PRow} (hi : rows[i]? = some r) : w.cell? ⟨gL, i, none⟩ = some r.val ∧ w.frozen? ⟨gL, i, none⟩ = false ∧ rows.length ≤ cL := by
  have hlt : i < rows.length := (List.getElem?_eq_some_iff.1 hi).1
  refine ⟨?_, h.hL.frozenAt i, ?_⟩
  · rw [h.hL.cellAt i (by omega), List.getElem?_map, hi]
    rfl
  · rcases h.hL.2 with ⟨he, _⟩ | ⟨g, cap, cur, he, _, _, hn, _⟩
    · cases he
    · injection he with _ _ e3
      omega
theorem PlcI.slr (h : PlcI w gp gL cL s A c inp rows big) {i : Nat} {r : PRow} (hi : rows[i]? = some r) : SlR 3 RPq w r.A r.ps ∧ r.ps.length ≤ r.c ∧ r.c ≤ maxLen := by
  obtain ⟨B, cap, he, h1, h2, h3⟩ := own_slr (R := RPq) (h.own i r hi) (fun _ => rfl) (fun _ => rfl) rfl
  unfold PRow.val at he
  injection he with e1 e2 e3
  subst e1 e3
  exact ⟨h3, h1, h2⟩
theorem PlcI.form (h : PlcI w gp gL cL s A c inp rows big) {i : Nat} {r : PRow} (hi : rows[i]? = some r) (hn : 0 < r.ps.length) : ∃ g, r.A = some ⟨g, 0, none⟩ ∧ gp < g ∧ g < w.heap.size ∧ g ≠ gL ∧ r.val.ownBlock = some g := by
  have ho := h.own i r hi
  rcases ho.2 with ⟨_, h0⟩ | ⟨g, cap, cur, hv, hg, hh, _⟩
  · omega
  · have hv' := hv
    unfold PRow.val at hv
    injection hv with e1 e2 e3
    have hb : r.val.ownBlock = some g := by rw [hv']; rfl
    refine ⟨g, e1, by omega, (ho.lt g hb).2, fun e => ?_, hb⟩
    exact own_ne ho h.hL (by decide) g hb (by rw [e]; rfl)
theorem SlR.pq {B : Option Addr} {g : Nat} {xs : List Pq} (h : SlR 3 RPq w B xs) (hB : B = some ⟨g, 0, none⟩) {k : Nat} {p : Pq} (hk : xs[k]? = some p) :
    w.cell? ⟨g, k * 3, none⟩ = some (.int .i64 p.m) ∧ w.cell? ⟨g, k * 3 + 1, none⟩ = some (.string p.o) ∧ w.cell? ⟨g, k * 3 + 2, none⟩ = some (.int .i64 p.c) := by
  obtain ⟨b, off, hA, _, hc⟩ := h (fun e => by subst e; simp at hk)
  rw [hB] at hA
  injection hA with hA
  injection hA with e1 e2
  subst e1 e2
  obtain ⟨vs, rfl, _, hv⟩ := hc k p hk
  have h0 := hv 0 _ rfl
  have h1 := hv 1 _ rfl
  have h2 := hv 2 _ rfl
  simp only [Nat.zero_add, Nat.add_zero] at h0 h1 h2
  exact ⟨h0, h1, h2⟩
theorem PlcI.big_ (h : PlcI w gp gL cL s A c inp rows big) : PlcI (w.setCell ⟨gp, 5, none⟩ (.bool true)) gp gL cL s A c inp rows true where
  hp := by have := h.hp.set_ 5 (.bool true); simpa using this
  hL := own_set h.hL (a := ⟨gp, 5, none⟩) (fun e => absurd (own_block_le h.hL _ e) (Nat.not_succ_le_self _)) _
  own i r hr := own_set (h.own i r hr) (a := ⟨gp, 5, none⟩) (fun e => absurd (own_block_le (h.own i r hr) _ e) (Nat.not_succ_le_self _)) _
  apart := h.apart
theorem get_set_row {i j : Nat} {r x y : PRow} (hi : rows[i]? = some r) (hj : (rows.set i x)[j]? = some y) : (i = j ∧ y = x) ∨ (i ≠ j ∧ rows[j]? = some y) := by
  by_cases e : i = j
  · subst e
    rw [List.getElem?_set_self (List.getElem?_eq_some_iff.1 hi).1] at hj
    exact .inl ⟨rfl, (Option.some.inj hj).symm⟩
  · rw [List.getElem?_set_ne e] at hj
    exact .inr ⟨e, hj⟩
theorem map_set_val {i : Nat} {r x : PRow} (hi : rows[i]? = some r) (hv : x.val = r.val) : (rows.set i x).map PRow.val = rows.map PRow.val := by
  rw [List.map_set, hv]
  refine List.ext_getElem? fun j => ?_
  by_cases e : i = j
  · subst e
    rw [List.getElem?_set_self (by rw [List.length_map]; exact (List.getElem?_eq_some_iff.1 hi).1), List.getElem?_map, hi]
    rfl
  · rw [List.getElem?_set_ne e]
/-- A cost is stored. -/
theorem PlcI.cost (h : PlcI w gp gL cL s A c inp rows big) {i k g : Nat} {r : PRow} {p : Pq} (hi : rows[i]? = some r) (hk : r.ps[k]? = some p) (hA : r.A = some ⟨g, 0, none⟩) (c' : Int) :
    PlcI (w.setCell ⟨g, k * 3 + 2, none⟩ (.int .i64 c')) gp gL cL s A c inp (rows.set i ⟨r.A, r.c, r.ps.set k ⟨p.m, p.o, c'⟩⟩) big := by
  have hg : r.val.ownBlock = some g := by unfold PRow.val; rw [hA]; rfl
  have hgp : gp + 1 ≤ g := own_block_le (h.own i r hi) g hg
  have hgl : (Value.slice (some ⟨gL, 0, none⟩) rows.length cL).ownBlock ≠ some g := own_ne (h.own i r hi) h.hL (by decide) g hg
  have hval : (⟨r.A, r.c, r.ps.set k ⟨p.m, p.o, c'⟩⟩ : PRow).val = r.val := by unfold PRow.val; rw [List.length_set]
  have hlen : (rows.set i ⟨r.A, r.c, r.ps.set k ⟨p.m, p.o, c'⟩⟩).length = rows.length := List.length_set
  refine ⟨?_, ?_, fun j y hy => ?_, fun j j' a b hne ha hb q hq => ?_⟩
  · rw [hlen]; exact h.hp.far (p := ⟨g, k * 3 + 2, none⟩) (by simp; omega) _
  · rw [hlen, map_set_val hi hval]; exact own_set h.hL (a := ⟨g, k * 3 + 2, none⟩) hgl _
  · rcases get_set_row hi hy with ⟨_, rfl⟩ | ⟨hne, hy⟩
    · rw [hval]
      have ho := h.own i r hi
      have hv : r.val = .slice (some ⟨g, 0, none⟩) r.ps.length r.c := by unfold PRow.val; rw [hA]
      rw [hv] at ho ⊢
      have := ho.stored (k * 3 + 2) (.int .i64 c')
      rw [flat_setPq r.ps k p c' hk] at this
      simpa using this.1
    · exact own_set (h.own j y hy) (a := ⟨g, k * 3 + 2, none⟩) (h.apart i j r y hne hi hy g hg) _
  · rcases get_set_row hi ha with ⟨e1, rfl⟩ | ⟨h1, ha⟩
    · rcases get_set_row hi hb with ⟨e2, rfl⟩ | ⟨h2, hb⟩
      · omega
      · rw [hval] at hq; exact h.apart i j' r b h2 hi hb q hq
    · rcases get_set_row hi hb with ⟨e2, rfl⟩ | ⟨h2, hb⟩
      · rw [hval]; exact h.apart j i a r (fun e => h1 e.symm) ha hi q hq
      · exact h.apart j j' a b hne ha hb q hq
/-- A pair is put behind the others. -/
theorem PlcI.app (h : PlcI w gp gL cL s A c inp rows big) {i : Nat} {r : PRow} (hi : rows[i]? = some r) {A' : Option Addr} {c' : Nat} {x : Pq} (hown : w'.ownsRow (gp + 1) 94 3 (.slice A' (r.ps.length + 1) c') (r.ps.length + 1) ((r.ps ++ [x]).flatMap encPq)) (ha : Apps w w' r.val (.slice A' (r.ps.length + 1) c')) :
    PlcI (w'.setCell ⟨gL, i, none⟩ (.slice A' (r.ps.length + 1) c')) gp gL cL s A c inp (rows.set i ⟨A', c', r.ps ++ [x]⟩) big := by
  have ho := h.own i r hi
  have hval : (⟨A', c', r.ps ++ [x]⟩ : PRow).val = .slice A' (r.ps.length + 1) c' := by unfold PRow.val; simp
  have hlen : (rows.set i ⟨A', c', r.ps ++ [x]⟩).length = rows.length := List.length_set
  have hgp : r.val.ownBlock ≠ some gp := fun e => absurd (own_block_le ho _ e) (Nat.not_succ_le_self _)
  have hL' : w'.ownsRow (gp + 1) 91 1 (.slice (some ⟨gL, 0, none⟩) rows.length cL) rows.length (rows.map PRow.val) := own_apps h.hL ho (by decide) ha
  have hgl := h.gl
  have hfar : ∀ (j : Nat) (y : PRow), i ≠ j → rows[j]? = some y → w'.ownsRow (gp + 1) 94 3 y.val y.ps.length (y.ps.flatMap encPq) := fun j y hne hy =>
    own_keep (h.own j y hy) fun g hg hlt => ha.keep g hlt fun e => h.apart i j r y hne hi hy g e hg
  have hnew : ∀ (j : Nat) (y : PRow), i ≠ j → rows[j]? = some y → ∀ g, y.val.ownBlock = some g → (Value.slice A' (r.ps.length + 1) c').ownBlock ≠ some g := fun j y hne hy g hg e => by
    rcases ha.at_ with h1 | ⟨k, h1, h2⟩
    · exact h.apart i j r y hne hi hy g (by rw [← h1]; exact e) hg
    · rw [h1] at e
      injection e with e
      have := ((h.own j y hy).lt g hg).2
      omega
  have hset : ∀ {v : Value} {n : Nat} {xs : List Value}, w'.ownsRow (gp + 1) 94 3 v n xs → (w'.setCell ⟨gL, i, none⟩ (.slice A' (r.ps.length + 1) c')).ownsRow (gp + 1) 94 3 v n xs := fun hx =>
    own_set hx (a := ⟨gL, i, none⟩) (fun e => own_ne hx hL' (by decide) gL e rfl) _
  refine ⟨?_, ?_, fun j y hy => ?_, fun j j' a b hne ha' hb q hq => ?_⟩
  · rw [hlen]; exact (h.hp.apps ha hgp).far (p := ⟨gL, i, none⟩) (by simp; omega) _
  · rw [hlen, List.map_set, hval]; exact (hL'.stored i _).1
  · rcases get_set_row hi hy with ⟨_, rfl⟩ | ⟨hne, hy⟩
    · rw [hval]
      have : (⟨A', c', r.ps ++ [x]⟩ : PRow).ps.length = r.ps.length + 1 := by simp
      rw [this]
      exact hset hown
    · exact hset (hfar j y hne hy)
  · rcases get_set_row hi ha' with ⟨e1, rfl⟩ | ⟨h1, ha'⟩
    · rcases get_set_row hi hb with ⟨e2, rfl⟩ | ⟨h2, hb⟩
      · omega
      · rw [hval] at hq; exact fun e => hnew j' b h2 hb q e hq
    · rcases get_set_row hi hb with ⟨e2, rfl⟩ | ⟨h2, hb⟩
      · rw [hval]; exact hnew j a h1 ha' q hq
      · exact h.apart j j' a b hne ha' hb q hq
end
end Go.Proofs.YtkjfdjcagfkdhaaGreat
