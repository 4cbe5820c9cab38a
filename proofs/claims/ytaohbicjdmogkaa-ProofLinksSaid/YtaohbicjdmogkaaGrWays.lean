/-
  The plain law of layer 15: the reference goes through all ways, and puts them in order.
-/
import Derived.Test.YtaohbicjdmogkaaGrAll
namespace Go.Proofs.Ytaohbicjdmogkaa
open List

/-- Adding what follows the link i, as far as there is room. -/
def addW (g : Gr) (most : Nat) (rest : List Can) (out : List Can) (i : Int) : List Can :=
  out ++ (rest.take (most - out.length)).map (fun r => (⟨i :: r.links, r.cost + (lkAt g i).cost⟩ : Can))
def waysM (g : Gr) (most : Nat) : Nat → Int → List Can
  | 0, _ => []
  | f + 1, v => if v = g.n - 1 then [⟨[], 0⟩] else (lvs g v).foldl (fun out i => addW g most (waysM g most f (lkAt g i).to) out i) []
/-- The same without a limit. -/
def waysF (g : Gr) : Nat → Int → List Can
  | 0, _ => []
  | f + 1, v => if v = g.n - 1 then [⟨[], 0⟩] else (lvs g v).flatMap (fun i => (waysF g f (lkAt g i).to).map (fun r => (⟨i :: r.links, r.cost + (lkAt g i).cost⟩ : Can)))
theorem lvs_last {g : Gr} (hg : GrOK g) : lvs g (g.n - 1) = [] := by
  rcases h : lvs g (g.n - 1) with _ | ⟨i, l⟩
  · rfl
  · have hi' := lvs_iff.1 (show i ∈ lvs g (g.n - 1) by rw [h]; simp)
    have hok := lkAt_ok hg ⟨hi'.1, hi'.2.1⟩
    have hto := hok.to
    have hlt := hok.lt
    omega
theorem waysF_mem {g : Gr} (hg : GrOK g) : ∀ (f : Nat) (v : Int), 0 ≤ v → v < g.n → g.n - v ≤ (f : Int) → ∀ c, c ∈ waysF g f v ↔ wayB g v c.links = true ∧ c.cost = sumC g c.links := by
  intro f
  induction f with
  | zero => intro v h0 h1 h2; exfalso; omega
  | succ f ih =>
    intro v h0 h1 h2 c
    unfold waysF
    by_cases hv : v = g.n - 1
    · rw [if_pos hv, mem_singleton]
      constructor
      · rintro rfl; exact ⟨by unfold wayB; simpa using hv, rfl⟩
      · rintro ⟨h3, h4⟩
        obtain ⟨w, k⟩ := c
        cases w with
        | nil => simp at h4; rw [h4]; rfl
        | cons i w =>
          have := (way_cons.1 h3).1
          rw [hv, lvs_last hg] at this
          cases this
    · rw [if_neg hv, mem_flatMap]
      constructor
      · rintro ⟨i, hi, hc⟩
        obtain ⟨r, hr, rfl⟩ := mem_map.1 hc
        have hi' := lvs_iff.1 hi
        have hok := lkAt_ok hg ⟨hi'.1, hi'.2.1⟩
        have hto := hok.to
        have hlt := hok.lt
        obtain ⟨h3, h4⟩ := (ih _ (by omega) (by omega) (by omega) r).1 hr
        exact ⟨way_cons.2 ⟨hi, h3⟩, by show r.cost + (lkAt g i).cost = (lkAt g i).cost + sumC g r.links; omega⟩
      · rintro ⟨h3, h4⟩
        obtain ⟨w, k⟩ := c
        cases w with
        | nil => unfold wayB at h3; simp at h3; exact absurd h3 hv
        | cons i w =>
          obtain ⟨hi, hw⟩ := way_cons.1 h3
          have hi' := lvs_iff.1 hi
          have hok := lkAt_ok hg ⟨hi'.1, hi'.2.1⟩
          have hto := hok.to
          have hlt := hok.lt
          refine ⟨i, hi, mem_map.2 ⟨⟨w, sumC g w⟩, (ih _ (by omega) (by omega) (by omega) _).2 ⟨hw, rfl⟩, ?_⟩⟩
          have h4' : k = (lkAt g i).cost + sumC g w := h4
          simp
          omega
theorem waysF_nodup (g : Gr) : ∀ (f : Nat) (v : Int), (waysF g f v).Nodup := by
  intro f
  induction f with
  | zero => intro v; exact Pairwise.nil
  | succ f ih =>
    intro v
    unfold waysF
    split
    · exact pairwise_singleton _ _
    · have hinc := lvs_inc g v
      generalize lvs g v = L at *
      induction L with
      | nil => exact Pairwise.nil
      | cons i L ihL =>
        obtain ⟨h1, h2⟩ := pairwise_cons.1 hinc
        rw [flatMap_cons]
        refine nodup_append.2 ⟨?_, ihL h2, ?_⟩
        · refine (ih _).map _ fun a b hab e => hab ?_
          obtain ⟨w, k⟩ := a
          obtain ⟨w', k'⟩ := b
          simp at e ⊢
          exact ⟨e.1, by omega⟩
        · intro a ha b hb e
          subst e
          obtain ⟨r, _, rfl⟩ := mem_map.1 ha
          obtain ⟨j, hj, hb⟩ := mem_flatMap.1 hb
          obtain ⟨r', _, he⟩ := mem_map.1 hb
          simp at he
          have := h1 j hj
          omega
/-- How many links leave a node or a later one. -/
def outE (g : Gr) (v : Int) : Nat := g.ls.countP (fun l => decide (v ≤ l.fr))
theorem lvTo_len (ls : List Lk) (v : Int) : ∀ k, k ≤ ls.length → (lvTo ls v k).length = (ls.take k).countP (fun l => decide (l.fr = v)) := by
  intro k
  induction k with
  | zero => intro _; rfl
  | succ k ih =>
    intro hk
    have hl : ls[k]? = some ls[k] := List.getElem?_eq_getElem (by omega)
    rw [lvTo_succ hl, take_succ_of hl, countP_append]
    split
    · rename_i h
      rw [length_append, ih (by omega)]
      simp [h]
    · rename_i h
      rw [ih (by omega)]
      simp [h]
theorem outE_step (g : Gr) (v : Int) : outE g v = (lvs g v).length + outE g (v + 1) := by
  unfold lvs outE
  rw [lvTo_len _ _ _ (Nat.le_refl _), take_length]
  generalize g.ls = l
  induction l with
  | nil => rfl
  | cons x l ih =>
    rw [countP_cons, countP_cons, countP_cons, ih]
    by_cases h1 : x.fr = v
    · simp [h1, show ¬ (v + 1 ≤ v) by omega]; omega
    · by_cases h2 : v ≤ x.fr
      · have h3 : v + 1 ≤ x.fr := by omega
        simp [h1, h2, h3]; omega
      · have h3 : ¬ v + 1 ≤ x.fr := by omega
        simp [h1, h2, h3]
theorem outE_mono (g : Gr) {u v : Int} (h : u ≤ v) : outE g v ≤ outE g u := by
  unfold outE
  exact countP_mono_left fun l _ hl => by simp at hl ⊢; omega
theorem cube_le (d : Nat) : d * d * d ≤ 3 ^ d := by
  match d with
  | 0 => decide
  | 1 => decide
  | 2 => decide
  | 3 => decide
  | d + 4 =>
    induction d with
    | zero => decide
    | succ d ih =>
      have h1 : (d + 1 + 4) * (d + 1 + 4) * (d + 1 + 4) ≤ 3 * ((d + 4) * (d + 4) * (d + 4)) := by
        rw [show d + 1 + 4 = (d + 4) + 1 by omega]
        have hx : 4 ≤ d + 4 := by omega
        generalize d + 4 = x at *
        have e : (x + 1) * (x + 1) * (x + 1) = x * x * x + 3 * (x * x) + 3 * x + 1 := by
          simp only [Nat.add_mul, Nat.mul_add, Nat.one_mul, Nat.mul_one]
          omega
        have h3 : 4 * x ≤ x * x := Nat.mul_le_mul_right x hx
        have h4 : 4 * (x * x) ≤ x * x * x := by rw [Nat.mul_assoc x x x, ]; exact Nat.mul_le_mul_right (x * x) hx
        rw [e]
        omega
      have h2 : 3 ^ (d + 1 + 4) = 3 * 3 ^ (d + 4) := by rw [show d + 1 + 4 = (d + 4) + 1 by omega, Nat.pow_succ]; omega
      rw [h2]
      exact Nat.le_trans h1 (Nat.mul_le_mul_left 3 ih)
theorem sum_cube {α : Type} (L : List α) (f : α → Nat) (B : Nat) (h : ∀ x ∈ L, f x * f x * f x ≤ B) : ∃ M, M * M * M ≤ B ∧ (L.map f).sum ≤ L.length * M := by
  induction L with
  | nil => exact ⟨0, by simp, by simp⟩
  | cons x L ih =>
    obtain ⟨M, h1, h2⟩ := ih fun y hy => h y (by simp [hy])
    have hx := h x (by simp)
    rcases Nat.le_total (f x) M with h3 | h3
    · refine ⟨M, h1, ?_⟩
      rw [map_cons, sum_cons, length_cons, Nat.add_mul, Nat.one_mul]
      omega
    · refine ⟨f x, hx, ?_⟩
      rw [map_cons, sum_cons, length_cons, Nat.add_mul, Nat.one_mul]
      have := Nat.mul_le_mul_left L.length h3
      omega
theorem waysF_len {g : Gr} (hg : GrOK g) : ∀ (f : Nat) (v : Int), (waysF g f v).length * (waysF g f v).length * (waysF g f v).length ≤ 3 ^ outE g v := by
  intro f
  induction f with
  | zero => intro v; simp [waysF]
  | succ f ih =>
    intro v
    unfold waysF
    split
    · simp
      exact Nat.one_le_pow _ _ (by decide)
    · obtain ⟨M, h1, h2⟩ := sum_cube (lvs g v) (fun i => (waysF g f (lkAt g i).to).length) (3 ^ outE g (v + 1)) (fun i hi => by
        have hi' := lvs_iff.1 hi
        have hok := lkAt_ok hg ⟨hi'.1, hi'.2.1⟩
        have hlt := hok.lt
        exact Nat.le_trans (ih _) (Nat.pow_le_pow_right (by decide) (outE_mono g (by omega))))
      have e : ((lvs g v).flatMap (fun i => (waysF g f (lkAt g i).to).map (fun r => (⟨i :: r.links, r.cost + (lkAt g i).cost⟩ : Can)))).length = ((lvs g v).map (fun i => (waysF g f (lkAt g i).to).length)).sum := by
        rw [length_flatMap]
        simp
      rw [e, outE_step, Nat.pow_add]
      generalize ((lvs g v).map (fun i => (waysF g f (lkAt g i).to).length)).sum = s at *
      generalize (lvs g v).length = d at *
      have h3 : s * s * s ≤ (d * M) * (d * M) * (d * M) := Nat.mul_le_mul (Nat.mul_le_mul h2 h2) h2
      have h4 : (d * M) * (d * M) * (d * M) = (d * d * d) * (M * M * M) := by
        rw [Nat.mul_mul_mul_comm d M d M, Nat.mul_mul_mul_comm]
      rw [h4] at h3
      exact Nat.le_trans h3 (Nat.mul_le_mul (cube_le d) h1)
theorem waysF_small {g : Gr} (hg : GrOK g) (h14 : g.ls.length ≤ 14) (f : Nat) (v : Int) : (waysF g f v).length ≤ 168 := by
  have h1 := waysF_len hg f v
  have h2 : outE g v ≤ 14 := Nat.le_trans countP_le_length h14
  have h3 : 3 ^ outE g v ≤ 3 ^ 14 := Nat.pow_le_pow_right (by decide) h2
  rcases Nat.lt_or_ge 168 (waysF g f v).length with h | h
  · exfalso
    have h4 : 169 * 169 * 169 ≤ (waysF g f v).length * (waysF g f v).length * (waysF g f v).length := Nat.mul_le_mul (Nat.mul_le_mul h h) h
    have h5 : 3 ^ 14 = 4782969 := by decide
    omega
  · exact h
theorem waysM_eq {g : Gr} (hg : GrOK g) (h14 : g.ls.length ≤ 14) {most : Nat} (hm : 168 ≤ most) : ∀ (f : Nat) (v : Int), waysM g most f v = waysF g f v := by
  intro f
  induction f with
  | zero => intro v; rfl
  | succ f ih =>
    intro v
    have hs := waysF_small hg h14 (f + 1) v
    unfold waysM waysF
    unfold waysF at hs
    split
    · rfl
    · rename_i hv
      rw [if_neg hv] at hs
      have key : ∀ (L : List Int) (out : List Can), (out ++ L.flatMap (fun i => (waysF g f (lkAt g i).to).map (fun r => (⟨i :: r.links, r.cost + (lkAt g i).cost⟩ : Can)))).length ≤ 168 →
          L.foldl (fun out i => addW g most (waysM g most f (lkAt g i).to) out i) out = out ++ L.flatMap (fun i => (waysF g f (lkAt g i).to).map (fun r => (⟨i :: r.links, r.cost + (lkAt g i).cost⟩ : Can))) := by
        intro L
        induction L with
        | nil => intro out _; simp
        | cons i L ihL =>
          intro out ho
          rw [flatMap_cons] at ho ⊢
          rw [foldl_cons, ih]
          have e : addW g most (waysF g f (lkAt g i).to) out i = out ++ (waysF g f (lkAt g i).to).map (fun r => (⟨i :: r.links, r.cost + (lkAt g i).cost⟩ : Can)) := by
            unfold addW
            rw [take_of_length_le (by simp at ho; omega)]
          rw [e, ihL _ (by rw [append_assoc]; exact ho), append_assoc]
      have := key (lvs g v) [] (by simpa using hs)
      simpa using this

/-- The reference's way to put candidates in order. -/
def insC (out : List Can) (x : Can) : List Can :=
  out.takeWhile (fun c => canLt c x) ++ [x] ++ out.drop (out.takeWhile (fun c => canLt c x)).length
def orderedM (l : List Can) : List Can := l.foldl insC []
theorem insC_perm (out : List Can) (x : Can) : insC out x ~ x :: out := by
  unfold insC
  have h : out.takeWhile (fun c => canLt c x) ++ out.drop (out.takeWhile (fun c => canLt c x)).length = out := by
    have h1 := congrArg (List.take (out.takeWhile (fun c => canLt c x)).length) (takeWhile_append_dropWhile (p := fun c => canLt c x) (l := out))
    rw [take_left] at h1
    conv => lhs; lhs; rw [h1]
    exact take_append_drop _ _
  rw [append_assoc, singleton_append]
  refine perm_middle.trans ?_
  rw [h]
theorem insC_sorted {out : List Can} {x : Can} (h : Sorted out) (hx : x ∉ out) : Sorted (insC out x) := by
  induction out with
  | nil => exact pairwise_singleton _ _
  | cons c out ih =>
    obtain ⟨h1, h2⟩ := pairwise_cons.1 h
    unfold insC
    rw [takeWhile_cons]
    by_cases hc : canLt c x = true
    · rw [if_pos hc, length_cons, drop_succ_cons]
      have ihs := ih h2 (fun hm => hx (by simp [hm]))
      show Sorted (c :: insC out x)
      refine pairwise_cons.2 ⟨fun d hd => ?_, ihs⟩
      have := (insC_perm out x).mem_iff.1 hd
      rcases mem_cons.1 this with rfl | hd
      · exact hc
      · exact h1 d hd
    · rw [if_neg hc]
      show Sorted (x :: c :: out)
      have hxc : canLt x c = true := by
        rcases canLt_total x c with h3 | h3 | h3
        · exact h3
        · exact absurd (by simp [h3]) hx
        · exact absurd h3 hc
      exact pairwise_cons.2 ⟨fun d hd => by
        rcases mem_cons.1 hd with rfl | hd
        · exact hxc
        · exact canLt_trans hxc (h1 d hd), h⟩
theorem ordered_spec {l : List Can} (h : l.Nodup) : Sorted (orderedM l) ∧ ∀ c, c ∈ orderedM l ↔ c ∈ l := by
  unfold orderedM
  have key : ∀ (l out : List Can), Sorted out → (out ++ l).Nodup → Sorted (l.foldl insC out) ∧ l.foldl insC out ~ out ++ l := by
    intro l
    induction l with
    | nil => intro out h1 _; exact ⟨h1, by simp⟩
    | cons x l ih =>
      intro out h1 h2
      have hx : x ∉ out := fun hm => by
        obtain ⟨_, _, h3⟩ := nodup_append.1 h2
        exact h3 x hm x (by simp) rfl
      have hp := insC_perm out x
      have hp2 : insC out x ++ l ~ out ++ x :: l := (hp.append_right l).trans (by rw [cons_append]; exact perm_middle.symm)
      obtain ⟨h3, h4⟩ := ih (insC out x) (insC_sorted h1 hx) (hp2.nodup_iff.2 h2)
      exact ⟨h3, h4.trans hp2⟩
  obtain ⟨h1, h2⟩ := key l [] Pairwise.nil (by simpa using h)
  exact ⟨h1, fun c => by rw [h2.mem_iff]; simp⟩
/-- All candidates of a small graph, as the reference has them. -/
theorem ref_all {g : Gr} (hg : GrOK g) (h14 : g.ls.length ≤ 14) {most : Nat} (hm : 168 ≤ most) : IsAll g (orderedM (waysM g most g.n.toNat 0)) := by
  have hn := hg.n
  rw [waysM_eq hg h14 hm]
  obtain ⟨h1, h2⟩ := ordered_spec (waysF_nodup g g.n.toNat 0)
  exact ⟨h1, fun c => by rw [h2]; exact waysF_mem hg _ 0 (by omega) (by omega) (by omega) c⟩
end Go.Proofs.Ytaohbicjdmogkaa
