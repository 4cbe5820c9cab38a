/-
  The plain law of layer 15: the number that is counted is that of the ways.
-/
import Derived.Test.YtpajajffkbkeaaaBsWalkJ
import Derived.Test.YtpajajffkbkeaaaBase
namespace Go.Proofs.Ytpajajffkbkeaaa
open List

theorem waysF_fuel {g : Gr} (hg : GrOK g) : ∀ (f f' : Nat) (v : Int), 0 ≤ v → v < g.n → g.n - v ≤ (f : Int) → g.n - v ≤ (f' : Int) → waysF g f v = waysF g f' v := by
  intro f
  induction f with
  | zero => intro f' v h0 h1 h2; omega
  | succ f ih =>
    intro f' v h0 h1 h2 h3
    obtain ⟨f', rfl⟩ : ∃ k, f' = k + 1 := ⟨f' - 1, by omega⟩
    unfold waysF
    by_cases hv : v = g.n - 1
    · rw [if_pos hv, if_pos hv]
    · rw [if_neg hv, if_neg hv]
      have key : ∀ (L : List Int), (∀ i ∈ L, i ∈ lvs g v) → L.flatMap (fun i => (waysF g f (lkAt g i).to).map (fun r => (⟨i :: r.links, r.cost + (lkAt g i).cost⟩ : Can))) = L.flatMap (fun i => (waysF g f' (lkAt g i).to).map (fun r => (⟨i :: r.links, r.cost + (lkAt g i).cost⟩ : Can))) := by
        intro L
        induction L with
        | nil => intro _; rfl
        | cons i L ihL =>
          intro hL
          have hi := lvs_iff.1 (hL i (by simp))
          have hok := lkAt_ok hg ⟨hi.1, hi.2.1⟩
          have hto := hok.to
          have hlt := hok.lt
          rw [flatMap_cons, flatMap_cons, ih f' (lkAt g i).to (by omega) (by omega) (by omega) (by omega), ihL fun j hj => hL j (by simp [hj])]
      exact key _ fun _ h => h
def nW (g : Gr) (v : Int) : Nat := (waysF g g.n.toNat v).length
theorem nW_last {g : Gr} (hg : GrOK g) : nW g (g.n - 1) = 1 := by
  unfold nW
  obtain ⟨f, hf⟩ : ∃ f, g.n.toNat = f + 1 := ⟨g.n.toNat - 1, by have := hg.n; omega⟩
  rw [hf]
  unfold waysF
  rw [if_pos rfl]
  rfl
theorem nW_step {g : Gr} (hg : GrOK g) {v : Int} (h0 : 0 ≤ v) (h1 : v < g.n - 1) : nW g v = ((lvs g v).map (fun i => nW g (lkAt g i).to)).sum := by
  unfold nW
  obtain ⟨f, hf⟩ : ∃ f, g.n.toNat = f + 1 := ⟨g.n.toNat - 1, by have := hg.n; omega⟩
  conv => lhs; rw [hf]
  conv => lhs; unfold waysF
  rw [if_neg (by omega), length_flatMap]
  congr 1
  apply map_congr_left
  intro i hi
  have hi' := lvs_iff.1 hi
  have hok := lkAt_ok hg ⟨hi'.1, hi'.2.1⟩
  have hto := hok.to
  have hlt := hok.lt
  show (map _ (waysF g f (lkAt g i).to)).length = _
  rw [length_map, waysF_fuel hg f g.n.toNat (lkAt g i).to (by omega) (by omega) (by omega) (by omega)]
def capN (n : Nat) : Int := min (n : Int) 1000000000
theorem numS_at {g : Gr} (hg : GrOK g) : ∀ k : Nat, 1 ≤ k → (k : Int) ≤ g.n → ∀ j : Nat, j < k → (numS g k)[j]? = some (capN (nW g (g.n - k + j))) := by
  intro k
  induction k with
  | zero => intro h; omega
  | succ k ih =>
    intro _ hk j hj
    rcases Nat.eq_zero_or_pos k with rfl | hk1
    · obtain rfl : j = 0 := by omega
      show some (1 : Int) = _
      have e : g.n - ((0 + 1 : Nat) : Int) + ((0 : Nat) : Int) = g.n - 1 := by omega
      rw [e, nW_last hg]
      rfl
    · rw [numS_succ g hk1]
      rcases Nat.eq_zero_or_pos j with rfl | hj0
      · rw [getElem?_cons_zero]
        congr 1
        have e : g.n - ((k + 1 : Nat) : Int) + ((0 : Nat) : Int) = g.n - (k + 1) := by omega
        rw [e, nW_step hg (by omega) (by omega)]
        have key : ∀ (L : List Int) (a : Nat), (∀ i ∈ L, i ∈ lvs g (g.n - (k + 1))) → L.foldl (numStep g (g.n - (k + 1)) (numS g k)) (capN a) = capN (a + (L.map (fun i => nW g (lkAt g i).to)).sum) := by
          intro L
          induction L with
          | nil => intro a _; simp
          | cons i L ihL =>
            intro a hL
            have hi := lvs_iff.1 (hL i (by simp))
            have hok := lkAt_ok hg ⟨hi.1, hi.2.1⟩
            have hto := hok.to
            have hlt := hok.lt
            rw [foldl_cons, map_cons, sum_cons]
            have hget := ih hk1 (by omega) ((lkAt g i).to - (g.n - (k + 1)) - 1).toNat (by omega)
            have e2 : g.n - (k : Int) + (((lkAt g i).to - (g.n - (k + 1)) - 1).toNat : Int) = (lkAt g i).to := by omega
            rw [e2] at hget
            have e3 : numStep g (g.n - (k + 1)) (numS g k) (capN a) i = capN (a + nW g (lkAt g i).to) := by
              unfold numStep
              rw [getD_eq_getElem?_getD, hget]
              show min (capN a + capN (nW g (lkAt g i).to)) 1000000000 = _
              unfold capN
              omega
            rw [e3, ihL _ fun j hj => hL j (by simp [hj]), Nat.add_assoc]
        have h := key (lvs g (g.n - (k + 1))) 0 (fun _ h => h)
        rw [Nat.zero_add] at h
        exact h
      · obtain ⟨j, rfl⟩ : ∃ i, j = i + 1 := ⟨j - 1, by omega⟩
        rw [getElem?_cons_succ, ih hk1 (by omega) j (by omega)]
        congr 2
        congr 1
        omega
theorem numM_eq {g : Gr} (hg : GrOK g) : numM g = capN (nW g 0) := by
  have hn := hg.n
  have h := numS_at hg g.n.toNat (by omega) (by omega) 0 (by omega)
  have e : g.n - (g.n.toNat : Int) + ((0 : Nat) : Int) = 0 := by omega
  rw [e] at h
  unfold numM
  cases hs : numS g g.n.toNat with
  | nil => rw [hs] at h; simp at h
  | cons x L => rw [hs] at h; simpa using h
theorem allR_nW {g : Gr} (hg : GrOK g) (h14 : g.ls.length ≤ 14) : (allR g).length = nW g 0 ∧ nW g 0 ≤ 168 := by
  unfold allR nW
  rw [ordered_perm_len, waysM_eq hg h14 (by decide)]
  exact ⟨rfl, waysF_small hg h14 _ _⟩
theorem numM_allR {g : Gr} (hg : GrOK g) (h14 : g.ls.length ≤ 14) : numM g = ((allR g).length : Int) := by
  obtain ⟨h1, h2⟩ := allR_nW hg h14
  rw [numM_eq hg, h1]
  unfold capN
  omega
end Go.Proofs.Ytpajajffkbkeaaa
