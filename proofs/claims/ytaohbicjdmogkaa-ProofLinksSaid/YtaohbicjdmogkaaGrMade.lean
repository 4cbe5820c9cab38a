/-
  The plain things of layers 15 and 16: the graphs that the laws draw.
-/
import Derived.Test.YtaohbicjdmogkaaGrWays
namespace Go.Proofs.Ytaohbicjdmogkaa
open Go Go.RowKit

structure T3 where
  a : Int
  b : Int
  c : Int
deriving Inhabited
def RT3 (_ : World) (x : T3) (vs : List Value) : Prop := vs = [.int .u8 x.a, .int .u8 x.b, .int .u8 x.c]
theorem keeps_t3 : Keeps RT3 := fun _ _ _ _ _ h => h
def T3OK (x : T3) : Prop := (0 ≤ x.a ∧ x.a ≤ 255) ∧ (0 ≤ x.b ∧ x.b ≤ 255) ∧ (0 ≤ x.c ∧ x.c ≤ 255)
theorem SlR.t3 {w : World} {A : Option Addr} {k : Nat} {xs : List T3} (h : SlR 3 RT3 w A xs) (hk : k < xs.length) : ∃ b off x, A = some ⟨b, off, none⟩ ∧ b < w.heap.size ∧ xs[k]? = some x ∧
    w.cell? ⟨b, off + k * 3, none⟩ = some (.int .u8 x.a) ∧ w.cell? ⟨b, off + k * 3 + 1, none⟩ = some (.int .u8 x.b) ∧ w.cell? ⟨b, off + k * 3 + 2, none⟩ = some (.int .u8 x.c) := by
  obtain ⟨b, off, x, vs, hA, hlt, hx, hr, _, hv⟩ := h.at_ hk
  exact ⟨b, off, x, hA, hlt, hx, hv 0 _ (by rw [hr]; rfl), hv 1 _ (by rw [hr]; rfl), hv 2 _ (by rw [hr]; rfl)⟩

/-- The link that three numbers describe. -/
def mkLk (n : Int) (k : Nat) (p : T3) : Lk := ⟨p.a % (n - 1), p.a % (n - 1) + 1 + p.b % (n - 1 - p.a % (n - 1)), (k : Int), p.c % 5⟩
def mkTo (n : Int) (l : List T3) : Nat → List Lk
  | 0 => []
  | k + 1 => match l[k]? with
    | some p => mkTo n l k ++ [mkLk n k p]
    | none => mkTo n l k
theorem mk_succ {n : Int} {l : List T3} {k : Nat} {p : T3} (h : l[k]? = some p) : mkTo n l (k + 1) = mkTo n l k ++ [mkLk n k p] := by
  show (match l[k]? with | some p => mkTo n l k ++ [mkLk n k p] | none => mkTo n l k) = _
  rw [h]
theorem mk_len {n : Int} {l : List T3} : ∀ k, (mkTo n l k).length ≤ k
  | 0 => by simp [mkTo]
  | k + 1 => by
    have := mk_len (n := n) (l := l) k
    unfold mkTo
    split
    · simp; omega
    · omega
def madeG (x : Int) (l : List T3) : Gr := ⟨1 + x % 7, if 1 < 1 + x % 7 then mkTo (1 + x % 7) l (min l.length 14) else []⟩
/-- The bounds of a link that is made. -/
structure LkM (n : Int) (l : Lk) : Prop where
  fr : 0 ≤ l.fr ∧ l.fr ≤ 5
  lt : l.fr < l.to
  to : l.to < n
  lb : 0 ≤ l.lb ∧ l.lb ≤ 13
  cost : 0 ≤ l.cost ∧ l.cost ≤ 4
theorem mkLk_ok {n : Int} {k : Nat} {p : T3} (hp : T3OK p) (hn : 1 < n ∧ n ≤ 7) (hk : k < 14) : LkM n (mkLk n k p) := by
  obtain ⟨⟨a1, a2⟩, ⟨b1, b2⟩, c1, c2⟩ := hp
  have h1 := Int.emod_nonneg p.a (show n - 1 ≠ 0 by omega)
  have h2 := Int.emod_lt_of_pos p.a (show 0 < n - 1 by omega)
  have h3 := Int.emod_nonneg p.b (show n - 1 - p.a % (n - 1) ≠ 0 by omega)
  have h4 := Int.emod_lt_of_pos p.b (show 0 < n - 1 - p.a % (n - 1) by omega)
  unfold mkLk
  exact ⟨by dsimp only; omega, by dsimp only; omega, by dsimp only; omega, by dsimp only; omega, by dsimp only; omega⟩
theorem mk_ok {n : Int} {l : List T3} (hl : ∀ p ∈ l, T3OK p) (hn : 1 < n ∧ n ≤ 7) : ∀ k, k ≤ 14 → ∀ x ∈ mkTo n l k, LkM n x := by
  intro k
  induction k with
  | zero => intro _ x hx; simp [mkTo] at hx
  | succ k ih =>
    intro hk x hx
    unfold mkTo at hx
    split at hx
    · rename_i p hp
      rcases List.mem_append.1 hx with h | h
      · exact ih (by omega) x h
      · obtain rfl := List.mem_singleton.1 h
        exact mkLk_ok (hl p (List.mem_of_getElem? hp)) hn (by omega)
    · exact ih (by omega) x hx
theorem madeG_m {x : Int} {l : List T3} (hl : ∀ p ∈ l, T3OK p) : ∀ k ∈ (madeG x l).ls, LkM (madeG x l).n k := by
  intro k hk
  unfold madeG at hk ⊢
  dsimp only at hk ⊢
  split at hk
  · exact mk_ok hl (by omega) _ (Nat.min_le_right _ _) k hk
  · cases hk
theorem madeG_n (x : Int) (l : List T3) : 1 ≤ (madeG x l).n ∧ (madeG x l).n ≤ 7 := by unfold madeG; dsimp only; omega
theorem madeG_len (x : Int) (l : List T3) : (madeG x l).ls.length ≤ 14 := by
  unfold madeG
  dsimp only
  split
  · exact Nat.le_trans (mk_len _) (Nat.min_le_right _ _)
  · simp
theorem madeG_ok {x : Int} {l : List T3} (hl : ∀ p ∈ l, T3OK p) : GrOK (madeG x l) := by
  have h1 := madeG_n x l
  have h2 := madeG_len x l
  refine ⟨by omega, by omega, fun k hk => ?_⟩
  obtain ⟨h3, h4, h5, h6, h7⟩ := madeG_m hl k hk
  exact ⟨by omega, h4, h5, by omega, by omega⟩
theorem madeG_all {x : Int} {l : List T3} (hl : ∀ p ∈ l, T3OK p) {most : Nat} (hm : 168 ≤ most) : IsAll (madeG x l) (orderedM (waysM (madeG x l) most (madeG x l).n.toNat 0)) := ref_all (madeG_ok hl) (madeG_len x l) hm
end Go.Proofs.Ytaohbicjdmogkaa
