/-
  A further link: the ways without it are those of the graph as it was, in their order.
-/
import Derived.Test.YtbikjmafddndpaaBePart
import Derived.Test.YtbikjmafddndpaaGrLinks
import Derived.Test.YtbikjmafddndpaaGrWalkC
namespace Go.Proofs.Ytbikjmafddndpaa
open Go Go.RowKit

theorem lkAt_addI {g : Gr} {l : Lk} {i : Int} (h0 : 0 ≤ i) (h1 : i < g.ls.length) : lkAt (addL g l) i = lkAt g i := by
  have := lkAt_add (g := g) (l := l) (i := i.toNat) (by omega)
  rwa [Int.toNat_of_nonneg h0] at this
theorem way_add {g : Gr} {l : Lk} : ∀ (w : List Int) (v : Int), wayB g v w = true ↔ wayB (addL g l) v w = true ∧ (g.ls.length : Int) ∉ w
  | [], v => by
    show decide (v = g.n - 1) = true ↔ decide (v = g.n - 1) = true ∧ _
    simp
  | i :: r, v => by
    rw [wayB_cons, wayB_cons, Bool.and_eq_true, Bool.and_eq_true, decide_eq_true_iff, decide_eq_true_iff]
    have hl : ((addL g l).ls.length : Int) = g.ls.length + 1 := by unfold addL; simp
    constructor
    · rintro ⟨⟨h0, h1, h2⟩, h3⟩
      obtain ⟨a1, a2⟩ := (way_add r _).1 h3
      rw [lkAt_addI h0 h1]
      refine ⟨⟨⟨h0, by omega, h2⟩, a1⟩, fun hm => ?_⟩
      rcases List.mem_cons.1 hm with h | h
      · omega
      · exact a2 h
    · rintro ⟨⟨⟨h0, h1, h2⟩, h3⟩, h4⟩
      have hne : (g.ls.length : Int) ≠ i := fun e => h4 (by rw [e]; exact List.mem_cons_self)
      have hi : i < (g.ls.length : Int) := by omega
      rw [lkAt_addI h0 hi] at h2 h3
      exact ⟨⟨h0, hi, h2⟩, (way_add r _).2 ⟨h3, fun hm => h4 (List.mem_cons_of_mem _ hm)⟩⟩
theorem sum_add {g : Gr} {l : Lk} : ∀ (w : List Int) (v : Int), wayB g v w = true → sumC (addL g l) w = sumC g w
  | [], _, _ => rfl
  | i :: r, v, h => by
    rw [wayB_cons, Bool.and_eq_true, decide_eq_true_iff] at h
    obtain ⟨⟨h0, h1, _⟩, h3⟩ := h
    rw [sumC_cons, sumC_cons, sum_add r _ h3, lkAt_addI h0 h1]
theorem way_no : ∀ {g : Gr} (w : List Int) (v : Int), wayB g v w = true → (g.ls.length : Int) ∉ w
  | _, [], _, _ => by simp
  | g, i :: r, v, h => by
    rw [wayB_cons, Bool.and_eq_true, decide_eq_true_iff] at h
    obtain ⟨⟨h0, h1, _⟩, h3⟩ := h
    intro hm
    rcases List.mem_cons.1 hm with e | e
    · omega
    · exact way_no r _ h3 e
/-- The way does not use the link m. -/
def noM (m : Int) (y : Can) : Bool := !y.links.contains m
theorem noM_iff {m : Int} {y : Can} : noM m y = true ↔ m ∉ y.links := by unfold noM; simp
theorem link_all {g h : Gr} (hg : GrOK g) (hh : GrOK h) (g14 : g.ls.length ≤ 14) (h14 : h.ls.length ≤ 14) (hc : h = g ∨ ∃ l, h = addL g l) : (allR h).filter (noM (g.ls.length : Int)) = allR g := by
  have hA := allR_is hg g14
  have hB := allR_is hh h14
  refine sorted_same (hB.1.filter _) hA.1 fun c => ?_
  rw [List.mem_filter, noM_iff, hB.2, hA.2]
  rcases hc with rfl | ⟨l, rfl⟩
  · exact ⟨fun h => h.1, fun h => ⟨h, way_no _ _ h.1⟩⟩
  · constructor
    · rintro ⟨⟨h1, h2⟩, h3⟩
      have h4 := (way_add c.links 0).2 ⟨h1, h3⟩
      exact ⟨h4, by rw [h2, sum_add _ _ h4]⟩
    · rintro ⟨h1, h2⟩
      obtain ⟨h3, h4⟩ := (way_add (l := l) c.links 0).1 h1
      exact ⟨⟨h3, by rw [h2, sum_add _ _ h1]⟩, h4⟩
/-- How many of the first i are left. -/
def atL (p : Can → Bool) (B : List Can) (i : Nat) : Nat := ((B.take i).filter p).length
theorem atL_succ {p : Can → Bool} {B : List Can} {i : Nat} {y : Can} (h : B[i]? = some y) : atL p B (i + 1) = atL p B i + (if p y then 1 else 0) := by
  unfold atL
  rw [List.take_add_one, h, List.filter_append, List.length_append]
  cases hp : p y <;> simp [hp]
theorem atL_le (p : Can → Bool) (B : List Can) (i : Nat) : atL p B i ≤ i := by
  unfold atL
  exact Nat.le_trans (List.length_filter_le _ _) (by simp; omega)
theorem atL_get {p : Can → Bool} {B : List Can} {i : Nat} {y : Can} (h : B[i]? = some y) (hp : p y = true) : (B.filter p)[atL p B i]? = some y := by
  obtain ⟨hi, he⟩ := List.getElem?_eq_some_iff.1 h
  have e : B = B.take i ++ y :: B.drop (i + 1) := by rw [← he, ← List.drop_eq_getElem_cons hi, List.take_append_drop]
  conv => lhs; arg 1; rw [e]
  rw [List.filter_append, List.filter_cons_of_pos hp]
  unfold atL
  rw [List.getElem?_append_right (Nat.le_refl _), Nat.sub_self]
  rfl
structure LinkFacts (A B : List Can) (p : Can → Bool) : Prop where
  fnum : A.length ≤ B.length
  fhead : ∀ a, A[0]? = some a → ∃ b, B[0]? = some b ∧ b.cost ≤ a.cost
  fat : ∀ i y, (B.take 50)[i]? = some y → p y = true → (A.take 50)[atL p (B.take 50) i]? = some y
  fend : (B.take 50).length = 50 ∨ atL p (B.take 50) (B.take 50).length = (A.take 50).length
theorem link_facts {A B : List Can} {p : Can → Bool} (hs : Sorted B) (h : B.filter p = A) : LinkFacts A B p := by
  refine ⟨by rw [← h]; exact List.length_filter_le _ _, fun a ha => ?_, fun i y hy hp => ?_, ?_⟩
  · have hm : a ∈ B := by
      have := List.mem_of_getElem? ha
      rw [← h, List.mem_filter] at this
      exact this.1
    cases B with
    | nil => cases hm
    | cons b r =>
      refine ⟨b, rfl, ?_⟩
      rcases List.mem_cons.1 hm with rfl | hm
      · exact Int.le_refl _
      · have := canLt_iff.1 ((List.pairwise_cons.1 hs).1 _ hm)
        omega
  · obtain ⟨hi, _⟩ := List.getElem?_eq_some_iff.1 hy
    have hi50 : i < 50 := by rw [List.length_take] at hi; omega
    have hy2 : B[i]? = some y := by rw [List.getElem?_take] at hy; rwa [if_pos hi50] at hy
    have e : atL p (B.take 50) i = atL p B i := by unfold atL; rw [List.take_take, Nat.min_eq_left (by omega)]
    have h2 := atL_le p B i
    rw [e, List.getElem?_take, if_pos (by omega), ← h]
    exact atL_get hy2 hp
  · by_cases h50 : 50 ≤ B.length
    · left; rw [List.length_take]; omega
    · right
      have hl : A.length ≤ B.length := by rw [← h]; exact List.length_filter_le _ _
      rw [List.take_of_length_le (by omega), List.take_of_length_le (by omega)]
      unfold atL
      rw [List.take_length, h]
/-- One more number. -/
theorem madeG_more {x : Int} {l : List T3} {t : T3} (hl : l.length ≤ 13) : madeG x (l ++ [t]) = madeG x l ∨ ∃ k, madeG x (l ++ [t]) = addL (madeG x l) k := by
  unfold madeG addL
  by_cases hn : 1 < 1 + x % 7
  · right
    have e : min (l ++ [t]).length 14 = l.length + 1 := by simp; omega
    have key : ∀ k, k ≤ l.length → mkTo (1 + x % 7) (l ++ [t]) k = mkTo (1 + x % 7) l k := by
      intro k
      induction k with
      | zero => intro _; rfl
      | succ k ih =>
        intro hk
        have e1 : l[k]? = some l[k] := List.getElem?_eq_getElem (by omega)
        have e2 : (l ++ [t])[k]? = some l[k] := by rw [List.getElem?_append_left (by omega)]; exact e1
        rw [mk_succ e1, mk_succ e2, ih (by omega)]
    refine ⟨mkLk (1 + x % 7) l.length t, ?_⟩
    dsimp only
    rw [if_pos hn, if_pos hn, e, mk_succ (p := t) (by simp), key _ (Nat.le_refl _), Nat.min_eq_left (by omega)]
  · left
    rw [if_neg hn, if_neg hn]
theorem t3_info : (Try.prog.info? 56).map (fun i => (i.zero, i.size, i.bytes)) = some (some (.agg #[.int .u8 0, .int .u8 0, .int .u8 0]), 3, 3) := by kernel_rfl
def encT3 (x : T3) : List Value := [.int .u8 x.a, .int .u8 x.b, .int .u8 x.c]
theorem one_t3 {ls : List T3} {u : Value} (hu : u ∈ ls.flatMap encT3) : u.oneCell' = true := by
  obtain ⟨y, _, hy⟩ := List.mem_flatMap.1 hu
  simp [encT3] at hy
  rcases hy with rfl | rfl | rfl <;> rfl
theorem slr_takeS {α : Type} {s : Nat} {R : World → α → List Value → Prop} {w : World} {A : Option Addr} {xs : List α} (h : SlR s R w A xs) (k : Nat) : SlR s R w A (xs.take k) := fun hn => by
  obtain ⟨b, off, rfl, hlt, hc⟩ := h (by rintro rfl; simp at hn)
  refine ⟨b, off, rfl, hlt, fun j x hx => hc j x ?_⟩
  rw [List.getElem?_take] at hx
  split at hx
  · exact hx
  · cases hx
theorem bcellD {B : Nat} {W w1 : World} (hb : Below B W w1) : ∀ b o, b < B → w1.cell? ⟨b, o, none⟩ = W.cell? ⟨b, o, none⟩ := fun b o h => hb.cell (p := ⟨b, o, none⟩) h
/-- A block of two cells holds no links. -/
theorem slr_far2 {A : Option Addr} {xs : List Lk} {w : World} {b : Nat} {t : TypeId} {u v : Value} (h : SlR 4 RLk w A xs) (hb : Blk w b t #[u, v]) (o : Nat) (z : Value) : SlR 4 RLk (w.setCell ⟨b, o, none⟩ z) A xs := fun hne => by
  obtain ⟨b', off, hA, hlt, hc⟩ := h hne
  have hbb : b' ≠ b := by
    rintro rfl
    cases xs with
    | nil => exact hne rfl
    | cons x r =>
      obtain ⟨vs, hr, _, hv⟩ := hc 0 x rfl
      have h3 := hv 3 (.int .i64 x.cost) (by rw [hr]; rfl)
      rw [hb.cell, Array.getElem?_eq_none (by simp)] at h3
      cases h3
  refine ⟨b', off, hA, by simpa using hlt, fun k x hk => ?_⟩
  obtain ⟨vs, hr, hl, hv⟩ := hc k x hk
  exact ⟨vs, hr, hl, fun j u hj => (World.cell?_of_block (Below.heap_setCell w ⟨b, o, none⟩ z b' hbb)).trans (hv j u hj)⟩
/-- A graph that Made returns. -/
def IsMade (g : Gr) (w : World) (e : Ending) (w' : World) : Prop := ∃ A' c', e = .returned (.agg #[.int .i64 g.n, .slice A' g.ls.length c']) ∧ g.ls.length ≤ c' ∧ c' ≤ maxLen ∧ SlR 4 RLk w' A' g.ls ∧ Below w.heap.size w w'
end Go.Proofs.Ytbikjmafddndpaa
