/-
  The graph behind a node, and the number of its ways.
-/
import Derived.Test.YtpajajffkbkeaaaBsNumLaw
namespace Go.Proofs.Ytpajajffkbkeaaa
open Go Go.RowKit

theorem lv_sum {g : Gr} (φ : Int → Nat) (v : Int) : (lvs g v).map (fun i => φ (lkAt g i).to) = (g.ls.filter (fun l => decide (l.fr = v))).map (fun l => φ l.to) := by
  have key : ∀ k, k ≤ g.ls.length → (lvTo g.ls v k).map (fun i => φ (lkAt g i).to) = ((g.ls.take k).filter (fun l => decide (l.fr = v))).map (fun l => φ l.to) := by
    intro k
    induction k with
    | zero => intro _; simp [lvTo]
    | succ k ih =>
      intro hk
      have hl : g.ls[k]? = some g.ls[k] := List.getElem?_eq_getElem (by omega)
      rw [lvTo_succ hl, List.take_add_one, hl, List.filter_append, List.map_append, ← ih (by omega)]
      by_cases hf : (g.ls[k]).fr = v
      · rw [if_pos hf, List.map_append]
        simp [hf, lkAt_nat hl]
      · rw [if_neg hf]
        simp [hf]
  have := key g.ls.length (Nat.le_refl _)
  rw [List.take_length] at this
  exact this
/-- The links behind a node among the first k, turned. -/
def restTo (F : Lk → Lk) (t : Int) (ls : List Lk) (k : Nat) : List Lk := ((ls.take k).filter (fun l => decide (t ≤ l.fr))).map F
theorem restTo_succ {F : Lk → Lk} {t : Int} {ls : List Lk} {k : Nat} {l : Lk} (h : ls[k]? = some l) : restTo F t ls (k + 1) = if t ≤ l.fr then restTo F t ls k ++ [F l] else restTo F t ls k := by
  unfold restTo
  rw [List.take_add_one, h, List.filter_append, List.map_append]
  by_cases hf : t ≤ l.fr
  · rw [if_pos hf]; simp [hf]
  · rw [if_neg hf]; simp [hf]
theorem restTo_len (F : Lk → Lk) (t : Int) (ls : List Lk) (k : Nat) : (restTo F t ls k).length ≤ k := by
  unfold restTo
  rw [List.length_map]
  exact Nat.le_trans (List.length_filter_le _ _) (by simp; omega)
def restG (F : Lk → Lk) (g : Gr) (t : Int) : Gr := ⟨g.n - t, restTo F t g.ls g.ls.length⟩
/-- F turns a link to the graph behind t. -/
structure Turns (F : Lk → Lk) (n t : Int) : Prop where
  tfr : ∀ l, (F l).fr = l.fr - t
  tto : ∀ l, (F l).to = l.to - t
  tlb : ∀ l, LkOK n l → 0 ≤ (F l).lb ∧ (F l).lb ≤ 1000000
  tcost : ∀ l, LkOK n l → 0 ≤ (F l).cost ∧ (F l).cost ≤ 1000000
theorem rest_ok {F : Lk → Lk} {g : Gr} {t : Int} (hg : GrOK g) (h0 : 0 ≤ t) (h1 : t < g.n) (hF : Turns F g.n t) : GrOK (restG F g t) := by
  have hn := hg.n
  have hl := hg.len
  refine ⟨⟨by show 1 ≤ g.n - t; omega, by show g.n - t ≤ 2000; omega⟩, Nat.le_trans (restTo_len _ _ _ _) hl, fun l hl => ?_⟩
  obtain ⟨x, hx, rfl⟩ := List.mem_map.1 hl
  rw [List.take_length, List.mem_filter, decide_eq_true_iff] at hx
  have hk := hg.ls x hx.1
  exact ⟨by rw [hF.tfr]; omega, by rw [hF.tfr, hF.tto]; have := hk.lt; omega, by rw [hF.tto]; have := hk.to; show x.to - t < g.n - t; omega, hF.tlb x hk, hF.tcost x hk⟩
theorem nW_rest {F : Lk → Lk} {g : Gr} {t : Int} (hg : GrOK g) (h0 : 0 ≤ t) (h1 : t < g.n) (hF : Turns F g.n t) : ∀ (m : Nat) (v : Int), 0 ≤ v → v < g.n - t → g.n - t - v ≤ (m : Int) → nW (restG F g t) v = nW g (v + t) := by
  have hr := rest_ok hg h0 h1 hF
  intro m
  induction m with
  | zero => intro v h2 h3 h4; omega
  | succ m ih =>
    intro v h2 h3 h4
    by_cases hv : v = g.n - t - 1
    · have e1 := nW_last hr
      have e2 := nW_last hg
      rw [show (restG F g t).n - 1 = v by show g.n - t - 1 = v; omega] at e1
      rw [show g.n - 1 = v + t by omega] at e2
      rw [e1, e2]
    · rw [nW_step hr h2 (by show v < g.n - t - 1; omega), nW_step hg (v := v + t) (by omega) (by omega), lv_sum, lv_sum]
      have e : (restG F g t).ls.filter (fun l => decide (l.fr = v)) = (g.ls.filter (fun l => decide (l.fr = v + t))).map F := by
        show (restTo F t g.ls g.ls.length).filter _ = _
        unfold restTo
        rw [List.take_length, List.filter_map, List.filter_filter]
        congr 1
        apply List.filter_congr
        intro l _
        simp only [Function.comp, hF.tfr]
        rw [Bool.eq_iff_iff, Bool.and_eq_true, decide_eq_true_iff, decide_eq_true_iff, decide_eq_true_iff]
        omega
      rw [e, List.map_map]
      congr 1
      apply List.map_congr_left
      intro l hl
      rw [List.mem_filter, decide_eq_true_iff] at hl
      have hk := hg.ls l hl.1
      have h5 := hk.lt
      have h6 := hk.to
      simp only [Function.comp, hF.tto]
      rw [ih (l.to - t) (by omega) (by omega) (by omega)]
      congr 1
      omega
/-- The numbers behind the first links among the first k. -/
def headS (g : Gr) (k : Nat) : Nat := (((g.ls.take k).filter (fun l => decide (l.fr = 0))).map (fun l => nW g l.to)).sum
theorem headS_succ {g : Gr} {k : Nat} {l : Lk} (h : g.ls[k]? = some l) : headS g (k + 1) = if l.fr = 0 then headS g k + nW g l.to else headS g k := by
  unfold headS
  rw [List.take_add_one, h, List.filter_append, List.map_append, List.sum_append]
  by_cases hf : l.fr = 0
  · rw [if_pos hf]; simp [hf]
  · rw [if_neg hf]; simp [hf]
theorem headS_all {g : Gr} (hg : GrOK g) (h : 1 < g.n) : headS g g.ls.length = nW g 0 := by
  unfold headS
  rw [List.take_length, nW_step hg (v := 0) (by omega) (by omega), lv_sum]
theorem nW_small {g : Gr} (hg : GrOK g) (h14 : g.ls.length ≤ 14) (v : Int) : nW g v ≤ 168 := waysF_small hg h14 _ _
theorem headS_le {g : Gr} (hg : GrOK g) (h14 : g.ls.length ≤ 14) : ∀ k, k ≤ g.ls.length → headS g k ≤ 168 * k := by
  intro k
  induction k with
  | zero => intro _; simp [headS]
  | succ k ih =>
    intro hk
    have hl : g.ls[k]? = some g.ls[k] := List.getElem?_eq_getElem (by omega)
    rw [headS_succ hl]
    have h1 := ih (by omega)
    have h2 := nW_small hg h14 (g.ls[k]).to
    split <;> omega
/-- The number that is counted behind a node. -/
theorem rest_num {F : Lk → Lk} {g : Gr} {t : Int} (hg : GrOK g) (h14 : g.ls.length ≤ 14) (h0 : 0 ≤ t) (h1 : t < g.n) (hF : Turns F g.n t) : numOf (restG F g t) = (nW g t : Int) := by
  have hr := rest_ok hg h0 h1 hF
  unfold numOf
  rw [if_pos (grB_iff.2 hr), numM_eq hr, nW_rest hg h0 h1 hF g.n.toNat 0 (by omega) (by omega) (by omega), Int.zero_add]
  have := nW_small hg h14 t
  unfold capN
  omega
theorem num_small {g : Gr} (hg : GrOK g) (h14 : g.ls.length ≤ 14) : numOf g = (nW g 0 : Int) := by
  unfold numOf
  rw [if_pos (grB_iff.2 hg), numM_eq hg]
  have := nW_small hg h14 0
  unfold capN
  omega
end Go.Proofs.Ytpajajffkbkeaaa
