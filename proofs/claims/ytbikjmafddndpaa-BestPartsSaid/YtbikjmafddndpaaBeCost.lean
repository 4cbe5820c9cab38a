/-
  One link of a graph grows dearer: the ways stay, their sums grow.
-/
import Derived.Test.YtbikjmafddndpaaBsLaw
namespace Go.Proofs.Ytbikjmafddndpaa
open Go Go.RowKit

theorem one_lkB {ls : List Lk} {u : Value} (hu : u ∈ ls.flatMap encLk) : u.oneCell' = true := by
  obtain ⟨y, _, hy⟩ := List.mem_flatMap.1 hu
  simp [encLk] at hy
  rcases hy with rfl | rfl | rfl | rfl <;> rfl
/-- The cost of one link of a row of the call's own is stored anew. -/
theorem lk_set {w : World} {base : Nat} {v : Value} {ls : List Lk} {k : Nat} {l : Lk} (h : w.ownsRow base 54 4 v ls.length (ls.flatMap encLk)) (hk : ls[k]? = some l) (u : Int) :
    ∃ gb cap, v = .slice (some ⟨gb, 0, none⟩) ls.length cap ∧ base ≤ gb ∧ gb < w.heap.size ∧ ls.length ≤ cap ∧ cap ≤ maxLen ∧ w.frozen? ⟨gb, k * 4 + 3, none⟩ = false ∧ w.cell? ⟨gb, k * 4 + 3, none⟩ = some (.int .i64 l.cost) ∧
      SlR 4 RLk (w.setCell ⟨gb, k * 4 + 3, none⟩ (.int .i64 u)) (some ⟨gb, 0, none⟩) (ls.set k { l with cost := u }) := by
  have hkl : k < ls.length := (List.getElem?_eq_some_iff.1 hk).1
  obtain ⟨A, cap, rfl, h1, h2, h3⟩ := own_slr (R := RLk) h (fun _ => rfl) (fun _ => rfl) rfl
  rcases h.2 with ⟨hv, h0⟩ | ⟨g, cap', cur, hv, hg, hh, _⟩
  · omega
  · injection hv with hv1 hv2 hv3
    subst hv1
    have hB : Blk w g 54 cur := hh
    have hS := hB.set_ (k * 4 + 3) (.int .i64 u)
    have cellOf : ∀ (j : Nat) (y : Value), j ≠ k * 4 + 3 → w.cell? ⟨g, j, none⟩ = some y → (w.setCell ⟨g, k * 4 + 3, none⟩ (.int .i64 u)).cell? ⟨g, j, none⟩ = some y := fun j y hj hc => by
      rw [hB.cell] at hc
      rw [hS.cell, Array.getElem?_setIfInBounds_ne (by omega)]
      exact hc
    have ck : ∀ (j : Nat) (x : Lk), ls[j]? = some x → w.cell? ⟨g, j * 4, none⟩ = some (.int .i64 x.fr) ∧ w.cell? ⟨g, j * 4 + 1, none⟩ = some (.int .i64 x.to) ∧ w.cell? ⟨g, j * 4 + 2, none⟩ = some (.int .i64 x.lb) ∧ w.cell? ⟨g, j * 4 + 3, none⟩ = some (.int .i64 x.cost) := fun j x hj => by
      obtain ⟨b, off, y, hA, hb, hy, d0, d1, d2, d3⟩ := h3.lk (List.getElem?_eq_some_iff.1 hj).1
      injection hA with hA
      injection hA with e1 e2
      subst e1
      subst e2
      rw [hj] at hy
      obtain rfl := Option.some.inj hy
      simp only [Nat.zero_add] at d0 d1 d2 d3
      exact ⟨d0, d1, d2, d3⟩
    have d3 := (ck k l hk).2.2.2
    refine ⟨g, cap, rfl, hg, hB.lt, h1, h2, hB.frozen _, d3, fun _ => ⟨g, 0, rfl, by simpa using hB.lt, fun j y hj => ?_⟩⟩
    rw [List.getElem?_set] at hj
    refine ⟨_, rfl, rfl, fun i z hz => ?_⟩
    rw [Nat.zero_add]
    by_cases hjk : k = j
    · subst hjk
      rw [if_pos rfl, if_pos hkl] at hj
      obtain rfl := Option.some.inj hj
      obtain ⟨e0, e1, e2, e3⟩ := ck k l hk
      rcases i with _ | _ | _ | _ | i
      · simp at hz; subst hz; exact cellOf _ _ (by omega) e0
      · simp at hz; subst hz; exact cellOf _ _ (by omega) e1
      · simp at hz; subst hz; exact cellOf _ _ (by omega) e2
      · simp at hz; subst hz
        rw [hS.cell, Array.getElem?_setIfInBounds_self_of_lt]
        have hc := hB.cell (k * 4 + 3)
        rw [d3] at hc
        exact (Array.getElem?_eq_some_iff.1 hc.symm).1
      · simp at hz
    · rw [if_neg hjk] at hj
      obtain ⟨e0, e1, e2, e3⟩ := ck j y hj
      rcases i with _ | _ | _ | _ | i
      · simp at hz; subst hz; exact cellOf _ _ (by omega) e0
      · simp at hz; subst hz; exact cellOf _ _ (by omega) e1
      · simp at hz; subst hz; exact cellOf _ _ (by omega) e2
      · simp at hz; subst hz; exact cellOf _ _ (by omega) e3
      · simp at hz
/-- The graph in which link k costs c more. -/
def dearG (g : Gr) (k : Nat) (c : Int) : Gr := { g with ls := g.ls.set k { lkAt g (k : Int) with cost := (lkAt g (k : Int)).cost + c } }
theorem dear_at {g : Gr} {k : Nat} {c : Int} (hk : k < g.ls.length) {i : Int} (h0 : 0 ≤ i) : (lkAt (dearG g k c) i).fr = (lkAt g i).fr ∧ (lkAt (dearG g k c) i).to = (lkAt g i).to ∧ (lkAt (dearG g k c) i).lb = (lkAt g i).lb ∧ (lkAt (dearG g k c) i).cost = (lkAt g i).cost + (if i = (k : Int) then c else 0) := by
  obtain ⟨j, rfl⟩ : ∃ j : Nat, i = (j : Int) := ⟨i.toNat, by omega⟩
  by_cases hjk : k = j
  · subst hjk
    have e : lkAt (dearG g k c) (k : Int) = { lkAt g (k : Int) with cost := (lkAt g (k : Int)).cost + c } := lkAt_nat (by unfold dearG; simp [hk])
    rw [e, if_pos rfl]
    exact ⟨rfl, rfl, rfl, rfl⟩
  · have e : lkAt (dearG g k c) (j : Int) = lkAt g (j : Int) := by
      unfold lkAt dearG
      simp only [Int.toNat_natCast]
      rw [List.getD_eq_getElem?_getD, List.getD_eq_getElem?_getD, List.getElem?_set_ne hjk]
    rw [e, if_neg (by omega)]
    exact ⟨rfl, rfl, rfl, by omega⟩
theorem dear_len (g : Gr) (k : Nat) (c : Int) : (dearG g k c).ls.length = g.ls.length := List.length_set
theorem dear_ok {g : Gr} {k : Nat} {c : Int} (hg : GrOK g) (hk : k < g.ls.length) (h0 : 0 ≤ c) (h1 : (lkAt g (k : Int)).cost + c ≤ 1000000) : GrOK (dearG g k c) := by
  refine ⟨hg.n, by rw [dear_len]; exact hg.len, fun l hl => ?_⟩
  have hkm := lkAt_ok hg (i := (k : Int)) ⟨by omega, by omega⟩
  rcases List.mem_or_eq_of_mem_set hl with h | h
  · exact hg.ls l h
  · subst h
    exact ⟨hkm.fr, hkm.lt, hkm.to, hkm.lb, by have := hkm.cost; exact ⟨by show 0 ≤ (lkAt g (k : Int)).cost + c; omega, h1⟩⟩
theorem dear_way {g : Gr} {k : Nat} {c : Int} (hk : k < g.ls.length) : ∀ (l : List Int) (v : Int), wayB (dearG g k c) v l = wayB g v l
  | [], v => rfl
  | i :: l, v => by
    rw [wayB_cons, wayB_cons, dear_len]
    by_cases hi : 0 ≤ i
    · obtain ⟨e1, e2, _, _⟩ := dear_at (c := c) hk hi
      rw [e1, e2, dear_way hk l]
    · rw [decide_eq_false (by omega), decide_eq_false (by omega)]
      rfl
/-- What a way costs more. -/
def useC (k : Nat) (c : Int) : List Int → Int
  | [] => 0
  | i :: r => (if i = (k : Int) then c else 0) + useC k c r
theorem useC_nn (k : Nat) {c : Int} (h : 0 ≤ c) : ∀ l, 0 ≤ useC k c l
  | [] => Int.le_refl 0
  | i :: r => by
    have := useC_nn k h r
    rw [show useC k c (i :: r) = (if i = (k : Int) then c else 0) + useC k c r from rfl]
    split <;> omega
theorem dear_sum {g : Gr} {k : Nat} {c : Int} (hk : k < g.ls.length) : ∀ (l : List Int), (∀ i ∈ l, 0 ≤ i) → sumC (dearG g k c) l = sumC g l + useC k c l
  | [], _ => rfl
  | i :: l, h => by
    rw [sumC_cons, sumC_cons, dear_sum hk l (fun j hj => h j (List.mem_cons_of_mem _ hj)), (dear_at (c := c) hk (h i (by simp))).2.2.2,
      show useC k c (i :: l) = (if i = (k : Int) then c else 0) + useC k c l from rfl]
    omega
theorem way_nn {g : Gr} : ∀ {l : List Int} {v : Int}, wayB g v l = true → ∀ i ∈ l, 0 ≤ i
  | [], _, _, i, hi => by cases hi
  | j :: l, v, h, i, hi => by
    rw [wayB_cons, Bool.and_eq_true, decide_eq_true_iff] at h
    rcases List.mem_cons.1 hi with rfl | hi
    · exact h.1.1
    · exact way_nn h.2 i hi
end Go.Proofs.Ytbikjmafddndpaa
