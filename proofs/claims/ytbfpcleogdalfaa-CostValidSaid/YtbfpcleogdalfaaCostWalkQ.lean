/-
  The walks of layer 11: a pair put into a slice (the library's Insert).
-/
import Derived.Test.YtbfpcleogdalfaaCostWalkP
import Derived.Lib.Overlaps
import Derived.Lib.AppendZerosOnto
import Derived.Lib.AppendZeros
import Derived.Laws.IdiomCopy
import Derived.Laws.Externs
import Derived.Lib.JoinLaws
import Derived.Lib.SliceRun
import Derived.RegionTactic
import Derived.Deep.RegionLaw
namespace Go.Proofs.Ytbfpcleogdalfaa
open Go Go.RowKit

theorem run_copyN {P : Program} (w : World) (dT sT ty elem : TypeId) (b o dLen dCap : Nat) (a : Addr) (sLen sCap size k : Nat) (cs : List Value)
    (hu : P.underlying dT = some (.slice elem)) (hs : (P.info? elem).map (·.size) = some size) (hk : k = Nat.min sLen dLen) (hn : cs.length = k * size)
    (hsrc : ∀ j v, cs[j]? = some v → w.cell? (a.add j) = some v) (hc : ∀ j, j < cs.length → (w.cell? ⟨b, o + j, none⟩).isSome = true) (hf : ∀ j, j < cs.length → w.frozen? ⟨b, o + j, none⟩ = false) (h1 : ∀ v ∈ cs, v.oneCell' = true) :
    (Builtin.copy_ #[dT, sT] ty #[.slice (some ⟨b, o, none⟩) dLen dCap, .slice (some a) sLen sCap]).run P w = .ok (goInt k) (w.setCells b o cs) := by
  have hl := run_loadCells_list (P := P) w a cs hsrc
  have hst := run_storeCells_cells (P := P) b o cs 0 w (by simpa using hc) (by simpa using hf) h1
  cases hq : P.info? elem with
  | none => simp [hq] at hs
  | some i =>
    have hi : i.size = size := by simpa [hq] using hs
    rw [hn] at hl
    simp [Builtin.copy_, run_underlying hu, Builtin.lenOf, Builtin.firstCells, sizeOf, typeInfo, hq, hi, ← hk, hl, hst]

/-- vs laid over l from o on. -/
def over (l : List Value) (o : Nat) (vs : List Value) : List Value := l.take o ++ vs ++ l.drop (o + vs.length)
theorem blk_setCells {g : Nat} {t : TypeId} : ∀ (vs : List Value) (o : Nat) (w : World) (cs : List Value), Blk w g t cs.toArray → o + vs.length ≤ cs.length → Blk (w.setCells g o vs) g t (over cs o vs).toArray := by
  intro vs
  induction vs with
  | nil => intro o w cs h _; simpa [World.setCells, over] using h
  | cons v vs ih =>
    intro o w cs h hl
    simp only [List.length_cons] at hl
    have h1 : Blk (w.setCell ⟨g, o, none⟩ v) g t (cs.set o v).toArray := by simpa using h.set_ o v
    have h2 := ih (o + 1) _ _ h1 (by simp; omega)
    rw [World.setCells]
    have e : over (cs.set o v) (o + 1) vs = over cs o (v :: vs) := by
      unfold over
      have ho : o < cs.length := by omega
      rw [List.take_set, List.drop_set_of_lt (by omega), List.take_succ_eq_append_getElem ho, List.set_append_right _ _ (by simp; omega)]
      simp [Nat.min_eq_left (Nat.le_of_lt ho), Nat.add_assoc, Nat.add_comm 1]
    rw [← e]
    exact h2
theorem heap_setCells {g : Nat} : ∀ (vs : List Value) (o : Nat) (w : World) (k : Nat), k ≠ g → (w.setCells g o vs).heap[k]? = w.heap[k]? := by
  intro vs
  induction vs with
  | nil => intro o w k _; rfl
  | cons v vs ih =>
    intro o w k hk
    rw [World.setCells, ih _ _ k hk]
    exact Below.heap_setCell _ _ _ _ hk
theorem size_setCells {g : Nat} : ∀ (vs : List Value) (o : Nat) (w : World), (w.setCells g o vs).heap.size = w.heap.size := by
  intro vs
  induction vs with
  | nil => intro o w; rfl
  | cons v vs ih => intro o w; rw [World.setCells, ih]; simp [World.setCell]
theorem os_setCells {g : Nat} : ∀ (vs : List Value) (o : Nat) (w : World), (w.setCells g o vs).os = w.os ∧ (w.setCells g o vs).tape = w.tape ∧ (w.setCells g o vs).output = w.output := by
  intro vs
  induction vs with
  | nil => intro o w; exact ⟨rfl, rfl, rfl⟩
  | cons v vs ih => intro o w; rw [World.setCells]; exact ih _ _
theorem below_setCells {B g : Nat} {a w : World} (h : Below B a w) (hg : B ≤ g) (o : Nat) (vs : List Value) : Below B a (w.setCells g o vs) := by
  obtain ⟨h1, h2, h3⟩ := os_setCells (g := g) vs o w
  exact h.trans ⟨h1, h2, h3, by rw [size_setCells]; omega, fun k hk => heap_setCells vs o w k (by omega)⟩
/-- An owned row out of its block. -/
theorem own_of_blk {w : World} {base g cap n s : Nat} {e : TypeId} {cur : List Value} (hb : Blk w g e cur.toArray) (hg : base ≤ g) (hn : n ≤ cap) (hc : cap ≤ maxLen) (hs : cur.length = cap * s) :
    w.ownsRow base e s (.slice (some ⟨g, 0, none⟩) n cap) n (cur.take (n * s)) :=
  ⟨by rw [List.length_take, hs, Nat.min_eq_left]; exact Nat.mul_le_mul_right _ hn, .inr ⟨g, cap, cur.toArray, rfl, hg, hb, hn, hc, by simpa using hs, by simp⟩⟩
theorem blk_of_own {w : World} {base n s : Nat} {e : TypeId} {v : Value} {xs : List Value} (h : w.ownsRow base e s v n xs) (hn : 0 < n) :
    ∃ g cap cur, v = .slice (some ⟨g, 0, none⟩) n cap ∧ base ≤ g ∧ Blk w g e (List.toArray cur) ∧ n ≤ cap ∧ cap ≤ maxLen ∧ cur.length = cap * s ∧ cur.take (n * s) = xs := by
  rcases h.2 with ⟨_, h0⟩ | ⟨g, cap, cur, hv, hg, hh, hnc, hcm, hcs, htk⟩
  · omega
  · exact ⟨g, cap, cur.toList, hv, hg, by simpa [Blk] using hh, hnc, hcm, by simpa using hcs, htk⟩

/-- A list with one more at place i. -/
def insAt (xs : List Pr) (i : Nat) (p : Pr) : List Pr := xs.take i ++ [p] ++ xs.drop i

set_option maxRecDepth 100000 in
set_option maxHeartbeats 2000000 in
theorem insP_end (A : Option Addr) (c : Nat) (xs : List Pr) (p : Pr) (base vb : Nat) (w : World) (hown : w.ownsRow base 50 3 (.slice A xs.length c) xs.length (xs.flatMap encP)) (hnc : xs.length ≤ c) (hcm : c ≤ maxLen)
    (hv : Blk w vb 50 #[.int .i64 p.a, .int .i64 p.b, .int .i64 p.n]) (hbase : base ≤ w.heap.size) (hl : xs.length ≤ 65536) :
    Calls Try.prog 44 #[.slice A xs.length c, .int .i64 xs.length, .slice (some ⟨vb, 0, none⟩) 1 1] w fun e w' => ∃ v', e = .returned v' ∧ w'.ownsRow base 50 3 v' (xs.length + 1) ((xs ++ [p]).flatMap encP) ∧ Below base w w' ∧ Apps w w' (.slice A xs.length c) v' := by
  obtain ⟨i0, hi, hz0, hz1, hz2⟩ := info_parts pair_info
  unfold maxLen at hcm
  by_cases hcn : c = xs.length
  all_goals
    first | subst hcn | skip
    go_enter Try.func44, Try.ntmps44
    go_wp2_with (first | (at_builtin; refine wpList_appN rfl _ _ 32 rfl base 50 i0 _ 3 24 Try.underlying32 hi hz0 hz1 hz2 rfl (by decide) (.slice A xs.length _) _ _ rfl hown ⟨vb, 0, none⟩ 1 1 (encP p) rfl rfl (fun j u hj => by rw [add_mk, Nat.zero_add, hv.cell]; simpa [encP] using hj) (fun u hu => by simp [encP] at hu; rcases hu with rfl | rfl | rfl <;> rfl) (by omega) (by decide) hbase ?_; intro v1 w1 hown1 hb1 ha1))
    go_ret
    exact ⟨_, rfl, by rw [encP_snoc]; exact hown1, hb1, ha1⟩
end Go.Proofs.Ytbfpcleogdalfaa
