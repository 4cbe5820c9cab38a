/-
  Words for memory of layer 16's spoilt pages: rows of candidates cut, set, and their links' rows.
-/
import Derived.Test.YtbikjmafddndpaaGrSp
import Derived.Test.YtbikjmafddndpaaGrWalkQ
namespace Go.Proofs.Ytbikjmafddndpaa
open Go Go.RowKit

theorem own_le {w : World} {base base' : Nat} {e : TypeId} {s n : Nat} {v : Value} {xs : List Value} (h : w.ownsRow base e s v n xs) (hb : base' ≤ base) : w.ownsRow base' e s v n xs :=
  ⟨h.1, h.2.elim Or.inl (fun ⟨g, cap, cur, hv, hg, r⟩ => Or.inr ⟨g, cap, cur, hv, Nat.le_trans hb hg, r⟩)⟩
theorem own_cut {w : World} {base : Nat} {e : TypeId} {s n k c : Nat} {A : Option Addr} {xs : List Value} (h : w.ownsRow base e s (.slice A n c) n xs) (hk : k ≤ n) : w.ownsRow base e s (.slice A k c) k (xs.take (k * s)) := by
  obtain ⟨hl, h⟩ := h
  refine ⟨by rw [List.length_take, hl, Nat.min_eq_left (Nat.mul_le_mul_right _ hk)], ?_⟩
  rcases h with ⟨hv, h0⟩ | ⟨g, cap, cur, hv, hg, hh, hnc, hcm, hcs, htk⟩
  · injection hv with h1 h2 h3
    subst h1 h3
    exact .inl ⟨by rw [show k = 0 by omega], by omega⟩
  · injection hv with h1 h2 h3
    subst h1 h3
    exact .inr ⟨g, c, cur, rfl, hg, hh, by omega, hcm, hcs, by rw [← htk, List.take_take, Nat.min_eq_left (Nat.mul_le_mul_right _ hk)]⟩
theorem own_form {w : World} {base : Nat} {e : TypeId} {s n c : Nat} {A : Option Addr} {xs : List Value} (h : w.ownsRow base e s (.slice A n c) n xs) (hn : 0 < n) : ∃ g, A = some ⟨g, 0, none⟩ := by
  rcases h.2 with ⟨_, h0⟩ | ⟨g, cap, cur, hv, _⟩
  · omega
  · injection hv with h1 _ _
    exact ⟨g, h1⟩
theorem own_frz {w : World} {base : Nat} {e : TypeId} {s n g c : Nat} {xs : List Value} (h : w.ownsRow base e s (.slice (some ⟨g, 0, none⟩) n c) n xs) (i : Nat) : w.frozen? ⟨g, i, none⟩ = false := by
  rcases h.2 with ⟨hv, _⟩ | ⟨g', cap, cur, hv, _, hh, _⟩
  · cases hv
  · injection hv with h1 _ _
    injection h1 with h1
    injection h1 with h1
    subst h1
    exact Blk.frozen (cs := cur) hh i
theorem take_mc (ms : List MC) (k : Nat) : (ms.flatMap encMc).take (k * 2) = (ms.take k).flatMap encMc := by
  induction ms generalizing k with
  | nil => simp
  | cons m ms ih =>
    cases k with
    | zero => simp
    | succ k =>
      rw [List.take_succ_cons, List.flatMap_cons, List.flatMap_cons, show (k + 1) * 2 = 2 + k * 2 by omega, List.take_append, ← ih]
      have hl : (encMc m).length = 2 := rfl
      rw [List.take_of_length_le (by omega), hl, show 2 + k * 2 - 2 = k * 2 by omega]
theorem flat_setM (j : Nat) (u : Value) (y : MC) : ∀ (l : List MC) (k : Nat) (x : MC), l[k]? = some x → j < 2 → encMc y = (encMc x).set j u → (l.flatMap encMc).set (k * 2 + j) u = (l.set k y).flatMap encMc
  | [], k, x, h, _, _ => by simp at h
  | a :: l, 0, x, h, hj, he => by
    simp at h
    subst h
    rw [List.flatMap_cons, List.set_cons_zero, List.flatMap_cons, he, Nat.zero_mul, Nat.zero_add, List.set_append_left _ _ (by simp [encMc]; omega)]
  | a :: l, k + 1, x, h, hj, he => by
    have hl : (encMc a).length = 2 := rfl
    rw [List.flatMap_cons, List.set_cons_succ, List.flatMap_cons, List.set_append_right _ _ (by omega), hl,
      show (k + 1) * 2 + j - 2 = k * 2 + j by omega, flat_setM j u y l k x (by simpa using h) hj he]
section
variable {w w' : World} {base g n c : Nat} {ms : List MC}
theorem own_setM (h : w.ownsRow base 43 2 (.slice (some ⟨g, 0, none⟩) n c) n (ms.flatMap encMc)) {k : Nat} {x : MC} (hk : ms[k]? = some x) (y : MC) :
    ((w.setCell ⟨g, k * 2, none⟩ (.slice y.A y.x.links.length y.c)).setCell ⟨g, k * 2 + 1, none⟩ (.int .i64 y.x.cost)).ownsRow base 43 2 (.slice (some ⟨g, 0, none⟩) n c) n ((ms.set k y).flatMap encMc) := by
  have h1 := (h.stored (k * 2) (.slice y.A y.x.links.length y.c)).1
  have e1 := flat_setM 0 (.slice y.A y.x.links.length y.c) ⟨y.A, y.c, ⟨y.x.links, x.x.cost⟩⟩ ms k x hk (by decide) rfl
  rw [Nat.add_zero] at e1
  rw [e1] at h1
  have h2 := (h1.stored (k * 2 + 1) (.int .i64 y.x.cost)).1
  have hk2 : (ms.set k ⟨y.A, y.c, ⟨y.x.links, x.x.cost⟩⟩)[k]? = some ⟨y.A, y.c, ⟨y.x.links, x.x.cost⟩⟩ := List.getElem?_set_self (List.getElem?_eq_some_iff.1 hk).1
  rw [flat_setM 1 (.int .i64 y.x.cost) y _ k _ hk2 (by decide) rfl, List.set_set] at h2
  exact h2
theorem own_setC (h : w.ownsRow base 43 2 (.slice (some ⟨g, 0, none⟩) n c) n (ms.flatMap encMc)) {k : Nat} {x : MC} (hk : ms[k]? = some x) (z : Int) :
    (w.setCell ⟨g, k * 2 + 1, none⟩ (.int .i64 z)).ownsRow base 43 2 (.slice (some ⟨g, 0, none⟩) n c) n ((ms.set k ⟨x.A, x.c, ⟨x.x.links, z⟩⟩).flatMap encMc) := by
  have h1 := (h.stored (k * 2 + 1) (.int .i64 z)).1
  rw [flat_setM 1 (.int .i64 z) ⟨x.A, x.c, ⟨x.x.links, z⟩⟩ ms k x hk (by decide) rfl] at h1
  exact h1
theorem own_setL (h : w.ownsRow base 43 2 (.slice (some ⟨g, 0, none⟩) n c) n (ms.flatMap encMc)) {k : Nat} {x : MC} (hk : ms[k]? = some x) (B : Option Addr) (d : Nat) (ls : List Int) :
    (w.setCell ⟨g, k * 2, none⟩ (.slice B ls.length d)).ownsRow base 43 2 (.slice (some ⟨g, 0, none⟩) n c) n ((ms.set k ⟨B, d, ⟨ls, x.x.cost⟩⟩).flatMap encMc) := by
  have h1 := (h.stored (k * 2) (.slice B ls.length d)).1
  have e1 := flat_setM 0 (.slice B ls.length d) ⟨B, d, ⟨ls, x.x.cost⟩⟩ ms k x hk (by decide) rfl
  rw [Nat.add_zero] at e1
  rw [e1] at h1
  exact h1
theorem mok_own {m : MC} (h : w.ownsRow base 3 1 (lnk m) m.x.links.length (m.x.links.map (Value.int .i64))) : MOK w m := by
  obtain ⟨B, cap, he, h1, h2, h3⟩ := own_slt h rfl
  unfold lnk at he
  injection he with e1 e2 e3
  subst e1
  subst e3
  exact ⟨h3, h1, h2⟩
theorem MsOK.setm (h : MsOK w ms) (k : Nat) {y : MC} (hy : MOK w y) : MsOK w (ms.set k y) := fun m hm => by
  rcases List.mem_or_eq_of_mem_set hm with h1 | h1
  · exact h m h1
  · rw [h1]; exact hy
/-- Where one candidate's links alone were written, the others' are as they were. -/
theorem OwnL.others (h : OwnL base w ms) {k : Nat} {m : MC} (hk : ms[k]? = some m) (hkeep : ∀ b, b < w.heap.size → (lnk m).ownBlock ≠ some b → w'.heap[b]? = w.heap[b]?) {y : MC} (hy : MOK w' y) : MsOK w' (ms.set k y) := fun x hx => by
  obtain ⟨j, hj, rfl⟩ := List.getElem_of_mem hx
  have hj' : j < ms.length := by simpa using hj
  obtain ⟨hkl, hkm⟩ := List.getElem?_eq_some_iff.1 hk
  by_cases hjk : k = j
  · subst hjk
    rw [List.getElem_set_self]
    exact hy
  · rw [List.getElem_set_ne hjk]
    have ho := h.own ms[j] (List.getElem_mem hj')
    refine mok_own (own_keep ho fun b hb hlt => hkeep b hlt fun hm => ?_)
    rcases Nat.lt_or_gt_of_ne hjk with h1 | h1
    · have := List.pairwise_iff_getElem.1 h.apart k j hkl hj' h1 b (by rw [hkm]; exact hm)
      exact this hb
    · have := List.pairwise_iff_getElem.1 h.apart j k hj' hkl h1 b hb
      rw [hkm] at this
      exact this hm
end
end Go.Proofs.Ytbikjmafddndpaa
