/-
  Rows of choices: from a row of the call's own to the sort's words and back.
-/
import Derived.Test.YtpjecpefbfobdaaAreaSort
import Derived.Test.YtpjecpefbfobdaaAreaLaw
namespace Go.Proofs.Ytpjecpefbfobdaa
open Go Go.RowKit Go.Sort

theorem holds_of {w : World} {blk off : Nat} {d : Array Cho} (h : ∀ i (hi : i < d.size), w.cell? ⟨blk, off + i * 2, none⟩ = some (.int .u8 d[i].key) ∧ w.cell? ⟨blk, off + i * 2 + 1, none⟩ = some (.int .i64 d[i].cost) ∧
    w.frozen? ⟨blk, off + i * 2, none⟩ = false ∧ w.frozen? ⟨blk, off + i * 2 + 1, none⟩ = false) : HoldsK encCho 2 w blk off d := by
  intro j hj
  rw [size_flatK] at hj
  rw [get_flatK _ _ _ _ hj]
  have hi : j / 2 < d.size := by omega
  obtain ⟨h0, h1, h2, h3⟩ := h (j / 2) hi
  have e : d[j / 2]! = d[j / 2] := by rw [getElem!_pos d (j / 2) hi]
  rw [e]
  rcases Nat.mod_two_eq_zero_or_one j with hm | hm
  · rw [hm, show off + j = off + j / 2 * 2 by omega]
    exact ⟨h0, h2⟩
  · rw [hm, show off + j = off + j / 2 * 2 + 1 by omega]
    exact ⟨h1, h3⟩
theorem holds_to {w : World} {blk off : Nat} {d : Array Cho} (h : HoldsK encCho 2 w blk off d) (i : Nat) (hi : i < d.size) : w.cell? ⟨blk, off + i * 2, none⟩ = some (.int .u8 d[i].key) ∧ w.cell? ⟨blk, off + i * 2 + 1, none⟩ = some (.int .i64 d[i].cost) ∧
    w.frozen? ⟨blk, off + i * 2, none⟩ = false ∧ w.frozen? ⟨blk, off + i * 2 + 1, none⟩ = false := by
  have h0 := h.cell hi (show 0 < 2 by omega)
  have h1 := h.cell hi (show 1 < 2 by omega)
  have e : d[i]! = d[i] := by rw [getElem!_pos d i hi]
  rw [e] at h0 h1
  exact ⟨h0.1, h1.1, h0.2, h1.2⟩
theorem holds_slr {w : World} {blk off : Nat} {d : Array Cho} (h : HoldsK encCho 2 w blk off d) (hb : blk < w.heap.size) : SlR 2 RCho w (some ⟨blk, off, none⟩) d.toList := fun _ => by
  refine ⟨blk, off, rfl, hb, fun k x hx => ⟨encCho x, rfl, rfl, fun j v hj => ?_⟩⟩
  obtain ⟨hk, rfl⟩ := List.getElem?_eq_some_iff.1 hx
  obtain ⟨h0, h1, _⟩ := holds_to h k (by simpa using hk)
  rw [Array.getElem_toList] at hj
  match j, hj with
  | 0, hj => simp [encCho] at hj; rw [← hj]; exact h0
  | 1, hj => simp [encCho] at hj; rw [← hj]; exact h1
  | j + 2, hj => simp [encCho] at hj
theorem holds_take {w : World} {blk off : Nat} {d : Array Cho} (h : HoldsK encCho 2 w blk off d) (n : Nat) (hn : n ≤ d.size) : HoldsK encCho 2 w blk off (d.extract 0 n) := by
  refine holds_of fun i hi => ?_
  simp at hi
  have := holds_to h i (by omega)
  simpa using this
theorem own_holds {w : World} {base : Nat} {v : Value} {L : List Cho} (h : w.ownsRow base 67 2 v L.length (L.flatMap encCho)) (hn : L ≠ []) :
    ∃ g cap, v = .slice (some ⟨g, 0, none⟩) L.length cap ∧ base ≤ g ∧ g < w.heap.size ∧ L.length ≤ cap ∧ cap ≤ maxLen ∧ HoldsK encCho 2 w g 0 L.toArray := by
  have hs := own_slr (R := RCho) h (fun _ => rfl) (fun _ => rfl) rfl
  rcases h.2 with ⟨rfl, h0⟩ | ⟨g, cap, cur, rfl, hg, hh, hnc, hcm, hcs, htk⟩
  · exact absurd (List.length_eq_zero_iff.1 h0) hn
  · obtain ⟨A, cap', e, _, _, hslr⟩ := hs
    injection e with e1 _ e3
    subst e1
    subst e3
    obtain ⟨b, off, e, hb, hc⟩ := hslr hn
    injection e with e
    injection e with e1 e2
    subst e1
    subst e2
    have hB : Blk w g 67 cur := hh
    refine ⟨g, cap, rfl, hg, hb, hnc, hcm, holds_of fun i hi => ?_⟩
    simp at hi
    obtain ⟨vs, rfl, _, hv⟩ := hc i L[i] (List.getElem?_eq_getElem hi)
    exact ⟨by have := hv 0 _ rfl; simpa using this, by have := hv 1 _ rfl; simpa using this, hB.frozen _, hB.frozen _⟩

theorem permIn_perm {d d' : Array Cho} (h : PermIn 0 d.size d d') : d'.toList.Perm d.toList := by
  obtain ⟨h1, _, h3⟩ := h
  have e1 : d'.extract 0 d.size = d' := by rw [← h1]; simp
  have e2 : d.extract 0 d.size = d := by simp
  rwa [e1, e2] at h3
theorem sortedIn_pw {lt : Cho → Cho → Bool} {n : Nat} {d : Array Cho} (h : SortedIn lt 0 n d) (hn : d.size = n) : d.toList.Pairwise (fun x y => lt y x = false) := by
  rw [List.pairwise_iff_getElem]
  intro i j hi hj hij
  have := h i j (Nat.zero_le _) hij (by simp at hj; omega)
  simp at hi hj
  rw [getElem!_pos d j hj, getElem!_pos d i hi] at this
  simpa using this

/-- 'order' by keys, its list of functions just made. -/
theorem order1_new (blk off cap base : Nat) (d : Array Cho) (n : Nat) (w : World) (hn : d.size = n) (hH : HoldsK encCho 2 w blk off d) (hblk : blk < w.heap.size) (hsz : n < 65536) (hbase : base ≤ blk) :
    Calls Try.prog 37 #[.slice (some ⟨blk, off, none⟩) n cap, .slice (some ⟨w.heap.size, 0, none⟩) 1 1] (w.alloc (.cells #[.func (.func 33) #[] #[]] 88)) fun e w' =>
      e = .returned (.tuple #[]) ∧ ∃ d', PermIn 0 d.size d d' ∧ SortedIn (ltOf byKey) 0 d.size d' ∧ HoldsK encCho 2 w' blk off d' ∧ Go.RowKit.Below base w w' := by
  subst hn
  have hb4 : Go.RowKit.Below w.heap.size w (w.alloc (.cells #[.func (.func 33) #[] #[]] 88)) := nw _ (Below.refl _ _)
  have hB4 := Blk.new w 88 #[.func (.func 33) #[] #[]]
  refine (order1 blk off cap base d _ w.heap.size (by
    have := holdsK_grow encCho 2 w #[.cells #[.func (.func 33) #[] #[]] 88] blk off d hblk hH
    rwa [← alloc_eq_grow] at this) (Nat.lt_of_lt_of_le hblk hb4.size) hsz hB4.lt (by omega) hbase (hB4.cell 0)).mono ?_
  rintro e w' ⟨he, d', h1, h2, h3, h4⟩
  exact ⟨he, d', h1, h2, h3, (hb4.mono (by omega)).trans h4⟩
/-- 'order' by costs and keys, its list of functions just made. -/
theorem order2_new (blk off cap base : Nat) (d : Array Cho) (n : Nat) (w : World) (hn : d.size = n) (hH : HoldsK encCho 2 w blk off d) (hblk : blk < w.heap.size) (hsz : n < 65536) (hbase : base ≤ blk) :
    Calls Try.prog 37 #[.slice (some ⟨blk, off, none⟩) n cap, .slice (some ⟨w.heap.size, 0, none⟩) 2 2] (w.alloc (.cells #[.func (.func 35) #[] #[], .func (.func 33) #[] #[]] 88)) fun e w' =>
      e = .returned (.tuple #[]) ∧ ∃ d', PermIn 0 d.size d d' ∧ SortedIn (ltOf byBoth) 0 d.size d' ∧ HoldsK encCho 2 w' blk off d' ∧ Go.RowKit.Below base w w' := by
  subst hn
  have hb4 : Go.RowKit.Below w.heap.size w (w.alloc (.cells #[.func (.func 35) #[] #[], .func (.func 33) #[] #[]] 88)) := nw _ (Below.refl _ _)
  have hB4 := Blk.new w 88 #[.func (.func 35) #[] #[], .func (.func 33) #[] #[]]
  refine (order2 blk off cap base d _ w.heap.size (by
    have := holdsK_grow encCho 2 w #[.cells #[.func (.func 35) #[] #[], .func (.func 33) #[] #[]] 88] blk off d hblk hH
    rwa [← alloc_eq_grow] at this) (Nat.lt_of_lt_of_le hblk hb4.size) hsz hB4.lt (by omega) hbase (hB4.cell 0) (hB4.cell 1)).mono ?_
  rintro e w' ⟨he, d', h1, h2, h3, h4⟩
  exact ⟨he, d', h1, h2, h3, (hb4.mono (by omega)).trans h4⟩
end Go.Proofs.Ytpjecpefbfobdaa
