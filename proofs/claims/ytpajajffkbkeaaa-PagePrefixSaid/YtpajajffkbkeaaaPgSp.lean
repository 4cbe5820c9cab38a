/-
  Words for memory of layer 19's spoilt pages.
-/
import Derived.Test.YtpajajffkbkeaaaPgThree
import Derived.Test.YtpajajffkbkeaaaGrWalkQ
import Derived.Test.YtpajajffkbkeaaaPgWalkE
namespace Go.Proofs.Ytpajajffkbkeaaa
open Go Go.RowKit

/-- The slices of the candidates' links, as they lie in w. -/
def MsW (w : World) (ms : List MC) : Prop := ∀ m ∈ ms, SlR 1 RInt w m.A m.x.links ∧ m.x.links.length ≤ m.c ∧ m.c ≤ maxLen
theorem list_choose_ {α : Type} {p : Nat → α → Prop} : ∀ (n : Nat), (∀ i, i < n → ∃ x, p i x) → ∃ xs : List α, xs.length = n ∧ ∀ i x, xs[i]? = some x → p i x
  | 0, _ => ⟨[], rfl, fun i x h => by simp at h⟩
  | n + 1, h => by
    obtain ⟨xs, hl, hp⟩ := list_choose_ n (fun i hi => h i (by omega))
    obtain ⟨x, hx⟩ := h n (by omega)
    refine ⟨xs ++ [x], by simp [hl], fun i y hy => ?_⟩
    rcases Nat.lt_or_ge i n with hi | hi
    · rw [List.getElem?_append_left (by omega)] at hy; exact hp i y hy
    · obtain ⟨hlt, _⟩ := List.getElem?_eq_some_iff.1 hy
      have : i = n := by simp [hl] at hlt; omega
      subst this
      rw [List.getElem?_append_right (by omega), hl] at hy
      simp at hy
      subst hy
      exact hx
theorem can_mc_ex {w : World} {A : Option Addr} {l : List Can} (h : SlR 2 RCan w A l) : ∃ ms : List MC, ms.map (·.x) = l ∧ SlR 2 RMc w A ms ∧ MsW w ms := by
  by_cases h0 : l = []
  · subst h0
    exact ⟨[], rfl, SlR.nil, fun _ hm => by cases hm⟩
  obtain ⟨b, off, hA, hb, hc⟩ := h h0
  obtain ⟨ms, hml, hms⟩ := list_choose_ (p := fun i (m : MC) => ∃ x, l[i]? = some x ∧ m.x = x ∧ SlR 1 RInt w m.A x.links ∧ x.links.length ≤ m.c ∧ m.c ≤ maxLen ∧ ∀ j v, (encMc m)[j]? = some v → w.cell? ⟨b, off + i * 2 + j, none⟩ = some v) l.length (fun i hi => by
    have hx : l[i]? = some l[i] := List.getElem?_eq_getElem hi
    obtain ⟨vs, ⟨A', c, hr, hs, hl1, hl2⟩, hl, hv⟩ := hc i _ hx
    exact ⟨⟨A', c, l[i]⟩, l[i], hx, rfl, hs, hl1, hl2, fun j v hj => hv j v (by rw [hr]; exact hj)⟩)
  have hmap : ms.map (·.x) = l := by
    apply List.ext_getElem?
    intro i
    rw [List.getElem?_map]
    rcases Nat.lt_or_ge i l.length with hi | hi
    · have hm : ms[i]? = some ms[i] := List.getElem?_eq_getElem (by omega)
      obtain ⟨x, h1, h2, _⟩ := hms i _ hm
      rw [hm, h1]
      exact congrArg some h2
    · rw [List.getElem?_eq_none (by omega), List.getElem?_eq_none hi]
      rfl
  refine ⟨ms, hmap, fun _ => ⟨b, off, hA, hb, fun k m hk => ?_⟩, fun m hm => ?_⟩
  · obtain ⟨x, _, _, _, _, _, h5⟩ := hms k m hk
    exact ⟨encMc m, rfl, rfl, h5⟩
  · obtain ⟨i, hi, rfl⟩ := List.getElem_of_mem hm
    obtain ⟨x, _, h2, h3, h4, h5, _⟩ := hms i _ (List.getElem?_eq_getElem hi)
    rw [h2]
    exact ⟨h3, h4, h5⟩
theorem msw_can {w w' : World} {A : Option Addr} {ms : List MC} (h : SlR 2 RMc w' A ms) (ho : MsW w ms) (hb : Below w.heap.size w w') : SlR 2 RCan w' A (ms.map (·.x)) := fun hne => by
  obtain ⟨b, off, hA, hlt, hc⟩ := h (by rintro rfl; simp at hne)
  refine ⟨b, off, hA, hlt, fun k x hk => ?_⟩
  rw [List.getElem?_map] at hk
  cases hm : ms[k]? with
  | none => rw [hm] at hk; cases hk
  | some m =>
    rw [hm] at hk
    obtain rfl := Option.some.inj hk
    obtain ⟨vs, hr, hl, hv⟩ := hc k m hm
    obtain ⟨h1, h2, h3⟩ := ho m (List.mem_of_getElem? hm)
    exact ⟨vs, ⟨m.A, m.c, hr, h1.below keeps_int hb, h2, h3⟩, hl, hv⟩
theorem own_cut {w : World} {base : Nat} {e : TypeId} {s n k c : Nat} {A : Option Addr} {xs : List Value} (h : w.ownsRow base e s (.slice A n c) n xs) (hk : k ≤ n) : w.ownsRow base e s (.slice A k c) k (xs.take (k * s)) := by
  obtain ⟨hl, h⟩ := h
  refine ⟨by rw [List.length_take, hl, Nat.min_eq_left (Nat.mul_le_mul_right _ hk)], ?_⟩
  rcases h with ⟨hv, h0⟩ | ⟨g, cap, cur, hv, hg, hh, hnc, hcm, hcs, htk⟩
  · injection hv with h1 h2 h3
    subst h1 h3
    exact .inl ⟨by rw [show k = 0 by omega], by omega⟩
  · injection hv with h1 h2 h3
    subst h1 h3
    exact .inr ⟨g, c, cur, rfl, hg, hh, by omega, hcm, hcs, by rw [← htk, List.take_take, Nat.min_eq_left (Nat.mul_le_mul_right _ hk)]⟩
theorem take_mc (ms : List MC) (k : Nat) : (ms.flatMap encMc).take (k * 2) = (ms.take k).flatMap encMc := by
  induction ms generalizing k with
  | nil => simp
  | cons m ms ih =>
    cases k with
    | zero => simp
    | succ k =>
      rw [List.take_succ_cons, List.flatMap_cons, List.flatMap_cons, show (k + 1) * 2 = 2 + k * 2 by omega, List.take_append, ← ih]
      have hl : (encMc m).length = 2 := rfl
      rw [List.take_of_length_le (by omega), hl, show 2 + k * 2 - 2 = k * 2 by omega]
theorem flat_setM (j : Nat) (u : Value) (y : MC) : ∀ (l : List MC) (k : Nat) (x : MC), l[k]? = some x → j < 2 → encMc y = (encMc x).set j u → (l.flatMap encMc).set (k * 2 + j) u = (l.set k y).flatMap encMc
  | [], k, x, h, _, _ => by simp at h
  | a :: l, 0, x, h, hj, he => by
    simp at h
    subst h
    rw [List.flatMap_cons, List.set_cons_zero, List.flatMap_cons, he, Nat.zero_mul, Nat.zero_add, List.set_append_left _ _ (by simp [encMc]; omega)]
  | a :: l, k + 1, x, h, hj, he => by
    have hl : (encMc a).length = 2 := rfl
    rw [List.flatMap_cons, List.set_cons_succ, List.flatMap_cons, List.set_append_right _ _ (by omega), hl,
      show (k + 1) * 2 + j - 2 = k * 2 + j by omega, flat_setM j u y l k x (by simpa using h) hj he]
theorem own_setM {w : World} {base g n c : Nat} {ms : List MC} (h : w.ownsRow base 61 2 (.slice (some ⟨g, 0, none⟩) n c) n (ms.flatMap encMc)) {k : Nat} {x : MC} (hk : ms[k]? = some x) (y : MC) :
    ((w.setCell ⟨g, k * 2, none⟩ (.slice y.A y.x.links.length y.c)).setCell ⟨g, k * 2 + 1, none⟩ (.int .i64 y.x.cost)).ownsRow base 61 2 (.slice (some ⟨g, 0, none⟩) n c) n ((ms.set k y).flatMap encMc) := by
  have h1 := (h.stored (k * 2) (.slice y.A y.x.links.length y.c)).1
  have e1 := flat_setM 0 (.slice y.A y.x.links.length y.c) ⟨y.A, y.c, ⟨y.x.links, x.x.cost⟩⟩ ms k x hk (by decide) rfl
  rw [Nat.add_zero] at e1
  rw [e1] at h1
  have h2 := (h1.stored (k * 2 + 1) (.int .i64 y.x.cost)).1
  have hk2 : (ms.set k ⟨y.A, y.c, ⟨y.x.links, x.x.cost⟩⟩)[k]? = some ⟨y.A, y.c, ⟨y.x.links, x.x.cost⟩⟩ := List.getElem?_set_self (List.getElem?_eq_some_iff.1 hk).1
  rw [flat_setM 1 (.int .i64 y.x.cost) y _ k _ hk2 (by decide) rfl, List.set_set] at h2
  exact h2
theorem own_setC {w : World} {base g n c : Nat} {ms : List MC} (h : w.ownsRow base 61 2 (.slice (some ⟨g, 0, none⟩) n c) n (ms.flatMap encMc)) {k : Nat} {x : MC} (hk : ms[k]? = some x) (z : Int) :
    (w.setCell ⟨g, k * 2 + 1, none⟩ (.int .i64 z)).ownsRow base 61 2 (.slice (some ⟨g, 0, none⟩) n c) n ((ms.set k ⟨x.A, x.c, ⟨x.x.links, z⟩⟩).flatMap encMc) := by
  have h1 := (h.stored (k * 2 + 1) (.int .i64 z)).1
  rw [flat_setM 1 (.int .i64 z) ⟨x.A, x.c, ⟨x.x.links, z⟩⟩ ms k x hk (by decide) rfl] at h1
  exact h1
theorem MsW.set {w : World} {ms : List MC} (h : MsW w ms) (k : Nat) {y : MC} (hy : SlR 1 RInt w y.A y.x.links ∧ y.x.links.length ≤ y.c ∧ y.c ≤ maxLen) : MsW w (ms.set k y) := fun m hm => by
  rcases List.mem_or_eq_of_mem_set hm with h1 | h1
  · exact h m h1
  · rw [h1]; exact hy
/-- A page that spoilt has made: some candidates, at most one more than there were. -/
def IsSpt (n : Nat) (w : World) (e : Ending) (w' : World) : Prop := ∃ A c L b, e = .returned (.agg #[.slice A (List.length L) c, .bool b]) ∧ PgIn w' A c L ∧ L.length ≤ n + 1 ∧ Below w.heap.size w w'
theorem own_form {w : World} {base : Nat} {e : TypeId} {s n c : Nat} {A : Option Addr} {xs : List Value} (h : w.ownsRow base e s (.slice A n c) n xs) (hn : 0 < n) : ∃ g, A = some ⟨g, 0, none⟩ := by
  rcases h.2 with ⟨_, h0⟩ | ⟨g, cap, cur, hv, _⟩
  · omega
  · injection hv with h1 _ _
    exact ⟨g, h1⟩
theorem own_frz {w : World} {base : Nat} {e : TypeId} {s n g c : Nat} {xs : List Value} (h : w.ownsRow base e s (.slice (some ⟨g, 0, none⟩) n c) n xs) (i : Nat) : w.frozen? ⟨g, i, none⟩ = false := by
  rcases h.2 with ⟨hv, _⟩ | ⟨g', cap, cur, hv, _, hh, _⟩
  · cases hv
  · injection hv with h1 _ _
    injection h1 with h1
    injection h1 with h1
    subst h1
    exact Blk.frozen (cs := cur) hh i
end Go.Proofs.Ytpajajffkbkeaaa
