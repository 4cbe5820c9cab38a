/-
  The fixed examples of layer 20.
-/
import Derived.Test.YtfjkmgjjifhdkaaZ38
import Derived.Test.YtfjkmgjjifhdkaaZ45
import Derived.Test.YtfjkmgjjifhdkaaZ42
import Derived.Test.YtfjkmgjjifhdkaaZ46
namespace Go.Proofs.Ytfjkmgjjifhdkaa
open Go Go.RowKit

def s20x : La := ⟨2, [⟨0, 1, 1, 0⟩, ⟨0, 2, 0, 2⟩, ⟨1, 2, 2, 1⟩]⟩
def s20m : Mo := ⟨[ByteArray.mk #[67], ByteArray.mk #[97], ByteArray.mk #[98]], [0, 0, 0], [], 0⟩
def s20w : Bu := ⟨⟨3, [⟨0, 1, 0, 12⟩, ⟨0, 2, 1, 14⟩, ⟨1, 2, 2, 13⟩]⟩, [-1, 1, -1], 0⟩
def s20o : Bu := ⟨⟨1, []⟩, [2], 0⟩
def s20n (e : Int) : Bu := ⟨⟨0, []⟩, [], e⟩
theorem s20_ok : MoOK s20m := by decide +kernel
theorem s20_f : FitsL s20x 3 := by decide +kernel
theorem s20_b1 : buM s20x s20m (-1) = s20w := by
  unfold buM
  rw [if_pos s20_ok, if_pos ⟨by decide, s20_f⟩, show grL s20x s20m (-1) = s20w.g by decide +kernel, show lastL s20x (-1) = s20w.last by decide +kernel]
  rfl
theorem s20_b2 : buM ⟨0, []⟩ s20m 2 = s20o := by
  unfold buM
  rw [if_pos s20_ok, if_pos (by decide +kernel), show grL ⟨0, []⟩ s20m 2 = s20o.g by decide +kernel, show lastL ⟨0, []⟩ 2 = s20o.last by decide +kernel]
  rfl
theorem s20_b3 : buM s20x s20m 3 = s20n 1 := by
  unfold buM
  rw [if_pos s20_ok, if_neg (by decide +kernel)]
  rfl
theorem s20_b4 : buM s20x sanZ (-1) = s20n 110 := by
  unfold buM
  rw [if_neg (by decide +kernel)]
  rfl
theorem s20_b5 : buM ⟨41, []⟩ s20m (-1) = s20n 1 := by
  unfold buM
  rw [if_pos s20_ok, if_neg (by decide +kernel)]
  rfl
theorem s20_c1 : cx_costM s20x s20m (-1) [0, 2] = (25, true) := by decide +kernel
theorem s20_c2 : cx_costM s20x s20m (-1) [1] = (14, true) := by decide +kernel
theorem s20_c3 : cx_costM s20x s20m (-1) [0] = (0, false) := by decide +kernel
theorem s20_c4 : cx_costM ⟨0, []⟩ s20m 2 [] = (0, true) := by decide +kernel
theorem s20_fld (a b c d : Value) (W : World) : (Instr.field 45 (.agg #[a, b, c, d]) 2).run Try.prog W = .ok d W := by kernel_rfl
/-- The lattice and the model of the examples, in memory. -/
structure S20 (bE bX bS bC bM : Nat) (W : World) : Prop where
  bx : Blk W bX 38 #[.int .i64 2, .slice (some ⟨bE, 0, none⟩) 3 3]
  bm : Blk W bM 34 #[.slice (some ⟨bS, 0, none⟩) 3 3, .slice (some ⟨bC, 0, none⟩) 3 3, .slice none 0 0, .int .i64 0]
  x : SlR 4 REd W (some ⟨bE, 0, none⟩) s20x.es
  r : MoR W s20m (some ⟨bS, 0, none⟩) (some ⟨bC, 0, none⟩) none
section
variable {bE bX bS bC bM : Nat} {W W' : World}
theorem S20.mono (h : S20 bE bX bS bC bM W) (hb : Below W.heap.size W W') : S20 bE bX bS bC bM W' := ⟨h.bx.below hb h.bx.lt, h.bm.below hb h.bm.lt, h.x.below keeps_ed hb, h.r.below hb⟩
theorem S20.cells (h : S20 bE bX bS bC bM W) : (W.cell? ⟨bX, 0, none⟩ = some (.int .i64 2) ∧ W.cell? ⟨bX, 1, none⟩ = some (.slice (some ⟨bE, 0, none⟩) 3 3)) ∧
    (W.cell? ⟨bM, 0, none⟩ = some (.slice (some ⟨bS, 0, none⟩) 3 3) ∧ W.cell? ⟨bM, 1, none⟩ = some (.slice (some ⟨bC, 0, none⟩) 3 3) ∧ W.cell? ⟨bM, 2, none⟩ = some (.slice none 0 0) ∧ W.cell? ⟨bM, 3, none⟩ = some (.int .i64 0)) ∧ bX < W.heap.size ∧ bM < W.heap.size :=
  ⟨⟨by rw [h.bx.cell]; rfl, by rw [h.bx.cell]; rfl⟩, ⟨by rw [h.bm.cell]; rfl, by rw [h.bm.cell]; rfl, by rw [h.bm.cell]; rfl, by rw [h.bm.cell]; rfl⟩, h.bx.lt, h.bm.lt⟩
theorem s20_build1 (h : S20 bE bX bS bC bM W) : Calls Try.prog 8 #[.agg #[.int .i64 2, .slice (some ⟨bE, 0, none⟩) 3 3], .agg #[.slice (some ⟨bS, 0, none⟩) 3 3, .slice (some ⟨bC, 0, none⟩) 3 3, .slice none 0 0, .int .i64 0], .int .i64 (-1)] W (fun e w' => ∃ (LA LB : Option Addr) (cA cB : Nat), e = .returned (.agg #[.int .i64 3, .slice LA 3 cA, .slice LB 3 cB, .int .i64 0]) ∧ SlR 4 RLk w' LA s20w.g.ls ∧ SlR 1 RInt w' LB s20w.last ∧ (s20w.g.ls.length ≤ cA ∧ cA ≤ maxLen) ∧ Below W.heap.size W w' ∧ (∀ a, LA = some a → W.heap.size ≤ a.block) ∧ (∀ a, LB = some a → W.heap.size ≤ a.block)) := by
  have := lawbuild_any s20x (some ⟨bE, 0, none⟩) 3 s20m _ _ _ 3 3 0 (-1) W h.x (by decide) h.r (by decide) (by decide)
  rw [s20_b1] at this
  exact this
theorem s20_build3 (h : S20 bE bX bS bC bM W) : Calls Try.prog 8 #[.agg #[.int .i64 2, .slice (some ⟨bE, 0, none⟩) 3 3], .agg #[.slice (some ⟨bS, 0, none⟩) 3 3, .slice (some ⟨bC, 0, none⟩) 3 3, .slice none 0 0, .int .i64 0], .int .i64 3] W (GivesRB (s20n 1) W) := by
  have := lawbuild_any s20x (some ⟨bE, 0, none⟩) 3 s20m _ _ _ 3 3 0 3 W h.x (by decide) h.r (by decide) (by decide)
  rw [s20_b3] at this
  exact this
theorem s20_build2 (h : S20 bE bX bS bC bM W) : Calls Try.prog 8 #[.agg #[.int .i64 0, .slice none 0 0], .agg #[.slice (some ⟨bS, 0, none⟩) 3 3, .slice (some ⟨bC, 0, none⟩) 3 3, .slice none 0 0, .int .i64 0], .int .i64 2] W (fun e w' => ∃ (LA LB : Option Addr) (cA cB : Nat), e = .returned (.agg #[.int .i64 1, .slice LA 0 cA, .slice LB 1 cB, .int .i64 0]) ∧ SlR 4 RLk w' LA s20o.g.ls ∧ SlR 1 RInt w' LB s20o.last ∧ (s20o.g.ls.length ≤ cA ∧ cA ≤ maxLen) ∧ Below W.heap.size W w' ∧ (∀ a, LA = some a → W.heap.size ≤ a.block) ∧ (∀ a, LB = some a → W.heap.size ≤ a.block)) := by
  have := lawbuild_any ⟨0, []⟩ none 0 s20m _ _ _ 3 3 0 2 W SlR.nil (by decide) h.r (by decide) (by decide)
  rw [s20_b2] at this
  exact this
theorem s20_build4 (h : S20 bE bX bS bC bM W) : Calls Try.prog 8 #[.agg #[.int .i64 2, .slice (some ⟨bE, 0, none⟩) 3 3], .agg #[.slice none 0 0, .slice none 0 0, .slice none 0 0, .int .i64 0], .int .i64 (-1)] W (GivesRB (s20n 110) W) := by
  have := lawbuild_any s20x (some ⟨bE, 0, none⟩) 3 sanZ _ _ _ 0 0 0 (-1) W h.x (by decide) (mor_zero W) (by decide) (by decide)
  rw [s20_b4] at this
  exact this
theorem s20_build5 (h : S20 bE bX bS bC bM W) : Calls Try.prog 8 #[.agg #[.int .i64 41, .slice none 0 0], .agg #[.slice (some ⟨bS, 0, none⟩) 3 3, .slice (some ⟨bC, 0, none⟩) 3 3, .slice none 0 0, .int .i64 0], .int .i64 (-1)] W (GivesRB (s20n 1) W) := by
  have := lawbuild_any ⟨41, []⟩ none 0 s20m _ _ _ 3 3 0 (-1) W SlR.nil (by decide) h.r (by decide) (by decide)
  rw [s20_b5] at this
  exact this
theorem s20_gives {e : Int} {w : World} {r : Ending} {w' : World} : GivesRB (s20n e) w r w' → ∃ (LA LB : Option Addr) (cA cB : Nat), r = .returned (.agg #[.int .i64 0, .slice LA 0 cA, .slice LB 0 cB, .int .i64 e]) ∧ Below w.heap.size w w' :=
  fun ⟨LA, LB, cA, cB, h1, _, _, _, h2, _⟩ => ⟨LA, LB, cA, cB, h1, h2⟩
theorem s20_cost (h : S20 bE bX bS bC bM W) (l : List Int) (hl : l.length ≤ 1000) : Calls Try.prog 11 #[.agg #[.int .i64 2, .slice (some ⟨bE, 0, none⟩) 3 3], .agg #[.slice (some ⟨bS, 0, none⟩) 3 3, .slice (some ⟨bC, 0, none⟩) 3 3, .slice none 0 0, .int .i64 0], .int .i64 (-1), .slice (some ⟨W.heap.size, 0, none⟩) l.length l.length] (W.alloc (.cells (l.map (Value.int .i64)).toArray 3)) fun e w' => e = .returned (.tuple #[.int .i64 (cx_costM s20x s20m (-1) l).1, .bool (cx_costM s20x s20m (-1) l).2]) ∧ Below W.heap.size W w' := by
  have hb : Below W.heap.size W (W.alloc (.cells (l.map (Value.int .i64)).toArray 3)) := nw _ (Below.refl _ _)
  have h2 := h.mono hb
  exact (ccost_any s20x (some ⟨bE, 0, none⟩) 3 s20m _ _ _ 3 3 0 (-1) _ l l.length _ h2.x (by decide) h2.r (by decide) (by decide) (row_ints W l (by omega)) hl).mono fun e w' ⟨e1, e2⟩ => ⟨e1, bthen hb e2⟩
theorem s20_cost1 (h : S20 bE bX bS bC bM W) : Calls Try.prog 11 #[.agg #[.int .i64 2, .slice (some ⟨bE, 0, none⟩) 3 3], .agg #[.slice (some ⟨bS, 0, none⟩) 3 3, .slice (some ⟨bC, 0, none⟩) 3 3, .slice none 0 0, .int .i64 0], .int .i64 (-1), .slice (some ⟨W.heap.size, 0, none⟩) 2 2] (W.alloc (.cells #[.int .i64 0, .int .i64 2] 3)) fun e w' => e = .returned (.tuple #[.int .i64 25, .bool true]) ∧ Below W.heap.size W w' := by
  have := s20_cost h [0, 2] (by decide)
  rw [s20_c1] at this
  exact this
theorem s20_cost2 (h : S20 bE bX bS bC bM W) : Calls Try.prog 11 #[.agg #[.int .i64 2, .slice (some ⟨bE, 0, none⟩) 3 3], .agg #[.slice (some ⟨bS, 0, none⟩) 3 3, .slice (some ⟨bC, 0, none⟩) 3 3, .slice none 0 0, .int .i64 0], .int .i64 (-1), .slice (some ⟨W.heap.size, 0, none⟩) 1 1] (W.alloc (.cells #[.int .i64 1] 3)) fun e w' => e = .returned (.tuple #[.int .i64 14, .bool true]) ∧ Below W.heap.size W w' := by
  have := s20_cost h [1] (by decide)
  rw [s20_c2] at this
  exact this
theorem s20_cost3 (h : S20 bE bX bS bC bM W) : Calls Try.prog 11 #[.agg #[.int .i64 2, .slice (some ⟨bE, 0, none⟩) 3 3], .agg #[.slice (some ⟨bS, 0, none⟩) 3 3, .slice (some ⟨bC, 0, none⟩) 3 3, .slice none 0 0, .int .i64 0], .int .i64 (-1), .slice (some ⟨W.heap.size, 0, none⟩) 1 1] (W.alloc (.cells #[.int .i64 0] 3)) fun e w' => e = .returned (.tuple #[.int .i64 0, .bool false]) ∧ Below W.heap.size W w' := by
  have := s20_cost h [0] (by decide)
  rw [s20_c3] at this
  exact this
theorem s20_cost4 (h : S20 bE bX bS bC bM W) : Calls Try.prog 11 #[.agg #[.int .i64 0, .slice none 0 0], .agg #[.slice (some ⟨bS, 0, none⟩) 3 3, .slice (some ⟨bC, 0, none⟩) 3 3, .slice none 0 0, .int .i64 0], .int .i64 2, .slice none 0 0] W fun e w' => e = .returned (.tuple #[.int .i64 0, .bool true]) ∧ Below W.heap.size W w' := by
  have := ccost_any ⟨0, []⟩ none 0 s20m _ _ _ 3 3 0 2 none [] 0 W SlR.nil (by decide) h.r (by decide) (by decide) SlR.nil (by decide)
  rw [s20_c4] at this
  exact this
theorem s20_same {a b : Bu} (hab : a = b) {AG AL BG BL : Option Addr} {cG cL dG dL n1 n2 n3 n4 : Nat} {g1 g2 e1 e2 : Int} (ha : SlR 4 RLk W AG a.g.ls) (ha' : SlR 1 RInt W AL a.last) (hb : SlR 4 RLk W BG b.g.ls) (hb' : SlR 1 RInt W BL b.last)
    (h1 : a.g.ls.length = n1) (h2 : a.last.length = n2) (h3 : b.g.ls.length = n3) (h4 : b.last.length = n4) (h5 : a.g.n = g1) (h6 : b.g.n = g2) (h7 : a.e = e1) (h8 : b.e = e2) (h9 : a.g.ls.length ≤ 65536) (h10 : a.last.length ≤ 65536) :
    Calls Try.prog 17 #[.agg #[.int .i64 g1, .slice AG n1 cG, .slice AL n2 cL, .int .i64 e1], .agg #[.int .i64 g2, .slice BG n3 dG, .slice BL n4 dL, .int .i64 e2]] W fun e w' => e = .returned (.bool true) ∧ Below W.heap.size W w' := by
  subst h1 h2 h3 h4 h5 h6 h7 h8 hab
  have := same20_any a a AG AL BG BL cG cL dG dL W ha ha' hb hb' h9 h10
  rw [decide_eq_true ⟨⟨rfl, rfl⟩, rfl, rfl⟩] at this
  exact this
/-- Words of the first way. -/
theorem s20_words (h : S20 bE bX bS bC bM W) {bL : Nat} (hl : SlR 4 RLk W (some ⟨bL, 0, none⟩) s20w.g.ls) : Calls Try.prog 16 #[.agg #[.int .i64 2, .slice (some ⟨bE, 0, none⟩) 3 3], .agg #[.int .i64 3, .slice (some ⟨bL, 0, none⟩) 3 3], .agg #[.slice (some ⟨W.heap.size, 0, none⟩) 2 2, .int .i64 0]] (W.alloc (.cells #[.int .i64 0, .int .i64 2] 3)) fun e w' => ∃ B c, e = .returned (.slice B 2 c) ∧ SlR 1 RInt w' B [1, 2] ∧ Below W.heap.size W w' := by
  have hb : Below W.heap.size W (W.alloc (.cells #[.int .i64 0, .int .i64 2] 3)) := nw _ (Below.refl _ _)
  have h2 := h.mono hb
  exact (cxwords_any s20x (some ⟨bE, 0, none⟩) 3 3 (some ⟨bL, 0, none⟩) s20w.g.ls 3 (some ⟨W.heap.size, 0, none⟩) [0, 2] 2 0 _ h2.x (hl.below keeps_lk hb) (row_ints W [0, 2] (by decide)) (by decide) (fun i hi => by
    rcases List.mem_cons.1 hi with rfl | hi
    · exact ⟨0, ⟨0, 1, 0, 12⟩, 0, ⟨0, 1, 1, 0⟩, rfl, rfl, rfl, rfl⟩
    · rw [List.mem_singleton.1 hi]; exact ⟨2, ⟨1, 2, 2, 13⟩, 2, ⟨1, 2, 2, 1⟩, rfl, rfl, rfl, rfl⟩)).mono fun e w' ⟨B, c, e1, e2, _, e4⟩ => ⟨B, c, e1, e2, bthen hb e4⟩
theorem s20_ints {B : Option Addr} {c : Nat} (h : SlR 1 RInt W B [1, 2]) : Calls Try.prog 12 #[.slice B 2 c, .slice (some ⟨W.heap.size, 0, none⟩) 2 2] (W.alloc (.cells #[.int .i64 1, .int .i64 2] 3)) fun e w' => e = .returned (.bool true) ∧ Below W.heap.size W w' := by
  have hb : Below W.heap.size W (W.alloc (.cells #[.int .i64 1, .int .i64 2] 3)) := nw _ (Below.refl _ _)
  have := (co_ints_any B (some ⟨W.heap.size, 0, none⟩) [1, 2] [1, 2] c 2 _ (h.below keeps_int hb) (row_ints W [1, 2] (by decide)) (by decide)).mono fun e w' h => (show e = .returned (.bool (decide (([1, 2] : List Int) = [1, 2]))) ∧ Below W.heap.size W w' from ⟨h.1, bthen hb h.2⟩)
  exact this
end
theorem s20_start (w : World) : S20 w.heap.size (w.heap.size + 1) (w.heap.size + 1 + 1) (w.heap.size + 1 + 1 + 1) (w.heap.size + 1 + 1 + 1 + 1) (((((w.alloc (.cells #[.int .i64 0, .int .i64 1, .int .i64 1, .int .i64 0, .int .i64 0, .int .i64 2, .int .i64 0, .int .i64 2, .int .i64 1, .int .i64 2, .int .i64 2, .int .i64 1] 64)).alloc (.cells #[.int .i64 2, .slice (some ⟨w.heap.size, 0, none⟩) 3 3] 38)).alloc (.cells #[.string (ByteArray.mk #[67]), .string (ByteArray.mk #[97]), .string (ByteArray.mk #[98])] 9)).alloc (.cells #[.int .i64 0, .int .i64 0, .int .i64 0] 3)).alloc (.cells #[.slice (some ⟨w.heap.size + 1 + 1, 0, none⟩) 3 3, .slice (some ⟨w.heap.size + 1 + 1 + 1, 0, none⟩) 3 3, .slice none 0 0, .int .i64 0] 34)) ∧ Below w.heap.size w (((((w.alloc (.cells #[.int .i64 0, .int .i64 1, .int .i64 1, .int .i64 0, .int .i64 0, .int .i64 2, .int .i64 0, .int .i64 2, .int .i64 1, .int .i64 2, .int .i64 2, .int .i64 1] 64)).alloc (.cells #[.int .i64 2, .slice (some ⟨w.heap.size, 0, none⟩) 3 3] 38)).alloc (.cells #[.string (ByteArray.mk #[67]), .string (ByteArray.mk #[97]), .string (ByteArray.mk #[98])] 9)).alloc (.cells #[.int .i64 0, .int .i64 0, .int .i64 0] 3)).alloc (.cells #[.slice (some ⟨w.heap.size + 1 + 1, 0, none⟩) 3 3, .slice (some ⟨w.heap.size + 1 + 1 + 1, 0, none⟩) 3 3, .slice none 0 0, .int .i64 0] 34)) := by
  obtain ⟨w1, h1⟩ : ∃ V, w.alloc (.cells #[.int .i64 0, .int .i64 1, .int .i64 1, .int .i64 0, .int .i64 0, .int .i64 2, .int .i64 0, .int .i64 2, .int .i64 1, .int .i64 2, .int .i64 2, .int .i64 1] 64) = V := ⟨_, rfl⟩
  have b1 : Below w.heap.size w w1 := by rw [← h1]; exact nw _ (Below.refl _ _)
  have s1 : w1.heap.size = w.heap.size + 1 := by rw [← h1]; simp
  have k1 : Blk w1 w.heap.size 64 #[.int .i64 0, .int .i64 1, .int .i64 1, .int .i64 0, .int .i64 0, .int .i64 2, .int .i64 0, .int .i64 2, .int .i64 1, .int .i64 2, .int .i64 2, .int .i64 1] := by rw [← h1]; exact Blk.new _ _ _
  rw [h1]
  obtain ⟨w2, h2⟩ : ∃ V, w1.alloc (.cells #[.int .i64 2, .slice (some ⟨w.heap.size, 0, none⟩) 3 3] 38) = V := ⟨_, rfl⟩
  have b2 : Below w1.heap.size w1 w2 := by rw [← h2]; exact nw _ (Below.refl _ _)
  have s2 : w2.heap.size = w.heap.size + 1 + 1 := by rw [← h2]; simp; omega
  have k2 : Blk w2 (w.heap.size + 1) 38 #[.int .i64 2, .slice (some ⟨w.heap.size, 0, none⟩) 3 3] := by rw [← h2, ← s1]; exact Blk.new _ _ _
  rw [h2]
  obtain ⟨w3, h3⟩ : ∃ V, w2.alloc (.cells #[.string (ByteArray.mk #[67]), .string (ByteArray.mk #[97]), .string (ByteArray.mk #[98])] 9) = V := ⟨_, rfl⟩
  have b3 : Below w2.heap.size w2 w3 := by rw [← h3]; exact nw _ (Below.refl _ _)
  have s3 : w3.heap.size = w.heap.size + 1 + 1 + 1 := by rw [← h3]; simp; omega
  have k3 : Blk w3 (w.heap.size + 1 + 1) 9 #[.string (ByteArray.mk #[67]), .string (ByteArray.mk #[97]), .string (ByteArray.mk #[98])] := by rw [← h3, ← s2]; exact Blk.new _ _ _
  rw [h3]
  obtain ⟨w4, h4⟩ : ∃ V, w3.alloc (.cells #[.int .i64 0, .int .i64 0, .int .i64 0] 3) = V := ⟨_, rfl⟩
  have b4 : Below w3.heap.size w3 w4 := by rw [← h4]; exact nw _ (Below.refl _ _)
  have s4 : w4.heap.size = w.heap.size + 1 + 1 + 1 + 1 := by rw [← h4]; simp; omega
  have k4 : Blk w4 (w.heap.size + 1 + 1 + 1) 3 #[.int .i64 0, .int .i64 0, .int .i64 0] := by rw [← h4, ← s3]; exact Blk.new _ _ _
  rw [h4]
  obtain ⟨w5, h5⟩ : ∃ V, w4.alloc (.cells #[.slice (some ⟨w.heap.size + 1 + 1, 0, none⟩) 3 3, .slice (some ⟨w.heap.size + 1 + 1 + 1, 0, none⟩) 3 3, .slice none 0 0, .int .i64 0] 34) = V := ⟨_, rfl⟩
  have b5 : Below w4.heap.size w4 w5 := by rw [← h5]; exact nw _ (Below.refl _ _)
  have k5 : Blk w5 (w.heap.size + 1 + 1 + 1 + 1) 34 #[.slice (some ⟨w.heap.size + 1 + 1, 0, none⟩) 3 3, .slice (some ⟨w.heap.size + 1 + 1 + 1, 0, none⟩) 3 3, .slice none 0 0, .int .i64 0] := by rw [← h5, ← s4]; exact Blk.new _ _ _
  rw [h5]
  have b25 := bthen (bthen (bthen b2 b3) b4) b5
  have b35 := bthen (bthen b3 b4) b5
  have k1 := k1.below b25 k1.lt
  have k2 := k2.below b35 k2.lt
  have k3 := k3.below (bthen b4 b5) k3.lt
  have k4 := k4.below b5 k4.lt
  have e1 := slr_of_blk (s := 4) (R := REd) (enc := encEd) (xs := s20x.es) k1 (fun _ => rfl) (fun _ => rfl) (by decide)
  have e2 := slr_of_blk (s := 1) (R := RStr) (enc := fun x => [Value.string x]) (xs := s20m.ws) k3 (fun _ => rfl) (fun _ => rfl) (by decide)
  have e3 := slr_of_blk (s := 1) (R := RInt) (enc := fun x => [Value.int .i64 x]) (xs := s20m.cs) k4 (fun _ => rfl) (fun _ => rfl) (by decide)
  exact ⟨⟨k2, k5, e1, ⟨e2, e3, SlR.nil, by decide, by decide, by decide, by decide, by simp [s20m, Within]⟩⟩, bthen b1 b25⟩
set_option maxRecDepth 100000 in
set_option maxHeartbeats 16000000 in
theorem sanity20_any (w : World) : Calls Try.prog 5 #[] w fun e w' => e = .returned (.bool true) ∧ Below w.heap.size w w' := by
  obtain ⟨hS, hbw⟩ := s20_start w
  have hsz := hbw.size
  obtain ⟨W1, hW1⟩ : ∃ V, (((((w.alloc (.cells #[.int .i64 0, .int .i64 1, .int .i64 1, .int .i64 0, .int .i64 0, .int .i64 2, .int .i64 0, .int .i64 2, .int .i64 1, .int .i64 2, .int .i64 2, .int .i64 1] 64)).alloc (.cells #[.int .i64 2, .slice (some ⟨w.heap.size, 0, none⟩) 3 3] 38)).alloc (.cells #[.string (ByteArray.mk #[67]), .string (ByteArray.mk #[97]), .string (ByteArray.mk #[98])] 9)).alloc (.cells #[.int .i64 0, .int .i64 0, .int .i64 0] 3)).alloc (.cells #[.slice (some ⟨w.heap.size + 1 + 1, 0, none⟩) 3 3, .slice (some ⟨w.heap.size + 1 + 1 + 1, 0, none⟩) 3 3, .slice none 0 0, .int .i64 0] 34)) = V := ⟨_, rfl⟩
  rw [hW1] at hS hbw
  have HW1 := Lib.hid hW1
  clear hW1 hsz
  go_enter Try.func5, Try.ntmps5
  go_upto_region 3 with fail
  rw [HW1.out]
  clear HW1
  generalize w.heap.size + 1 + 1 + 1 + 1 = bM at *
  generalize w.heap.size + 1 + 1 + 1 = bC at *
  generalize w.heap.size + 1 + 1 = bS at *
  generalize w.heap.size + 1 = bX at *
  obtain ⟨bE, hbE⟩ : ∃ b, w.heap.size = b := ⟨_, rfl⟩
  rw [hbE] at hS ⊢
  have HBW := Lib.hid hbw
  have HS := Lib.hid hS
  obtain ⟨⟨x0, x1⟩, ⟨m0, m1, m2, m3⟩, xl, ml⟩ := hS.cells
  clear hS hbw hbE
  go_cut [3, 4] (fun s3 s4 W => ∃ (p3 p4 : Nat) (LA LB LC LD : Option Addr) (cA cB cC cD : Nat), s3 = .pointer (some ⟨p3, 0, none⟩) ∧ s4 = .pointer (some ⟨p4, 0, none⟩) ∧ BB s20w p3 LA LB cA cB W ∧ BB s20o p4 LC LD cC cD W ∧ Below W1.heap.size W1 W)
  case first =>
    refine ordB_below (.quiet 0 (.quiet 1 (.quiet 3 (.quiet 4 (.fork3 2 6 7 (.fork3 5 6 7 (.fork 6 7 (.only 7 (.only 8 (.only 9 .done))) (.only 6 (.only 8 (.only 9 .done)))) (.fork 5 7 (.only 7 (.only 8 (.only 9 .done))) (.only 5 (.only 8 (.only 9 .done)))) (.fork 5 6 (.only 6 (.only 8 (.only 9 .done))) (.only 5 (.only 8 (.only 9 .done))))) (.fork 2 7 (.fork 5 7 (.only 7 (.only 8 (.only 9 .done))) (.only 5 (.only 8 (.only 9 .done)))) (.only 2 (.only 5 (.only 8 (.only 9 .done))))) (.fork 2 6 (.fork 5 6 (.only 6 (.only 8 (.only 9 .done))) (.only 5 (.only 8 (.only 9 .done)))) (.only 2 (.only 5 (.only 8 (.only 9 .done)))))))))) (by kernel_rfl) (by kernel_rfl) (by kernel_rfl) (fun _ _ _ _ _ h => h) ?_
    intro V0 hV0
    iterate 4 (first
      | (refine ordB_skip rfl rfl ?_; simp only [Act.put, List.setIfInBounds_toArray, List.set_cons_zero, List.set_cons_succ])
      | (refine ordB_take (v := ?_) rfl rfl ?_ ?_
         rotate_left 1
         focus (intro W hW; obtain ⟨hcW, hfW⟩ := bcell hW; (go_simp <;> with_reducible rfl))
         simp only [Act.put, List.setIfInBounds_toArray, List.set_cons_zero, List.set_cons_succ]))
    refine ordB_fork3 (opB_call rfl rfl (fun K hK => ?_)) (opB_call rfl rfl (fun K hK => ?_)) (opB_call rfl rfl (fun K hK => ?_))
    · go_simp
      go_at_call 8
      refine (s20_build1 (HS.out.mono hV0)).mono ?_
      rintro e VA ⟨LA, LB, cA, cB, rfl, hsA, hsB, hkA, hbA, hoA, hoB⟩
      refine hK.out _ _ (hV0.trans (hbA.mono hV0.size)) (fun hV0_1 => ?_)
      have hz_1 := hbA.size
      have huA := hsA.blkLt
      have huB := hsB.blkLt
      refine ordB_fork3 (opB_call rfl rfl (fun K hK => ?_)) (opB_call rfl rfl (fun K hK => ?_)) (opB_call rfl rfl (fun K hK => ?_))
      · go_simp
        go_at_call 8
        refine (s20_build2 (HS.out.mono hV0_1)).mono ?_
        rintro e VC ⟨LC, LD, cC, cD, rfl, hsC, hsD, hkC, hbC, hoC, hoD⟩
        refine hK.out _ _ (hV0_1.trans (hbC.mono hV0_1.size)) (fun hV0_1_2 => ?_)
        have hsA := hsA.below keeps_lk hbC
        have hsB := hsB.below keeps_int hbC
        have hz_2 := hbC.size
        have huC := hsC.blkLt
        have huD := hsD.blkLt
        refine ordB_fork (opB_call rfl rfl (fun K hK => ?_)) (opB_call rfl rfl (fun K hK => ?_))
        · go_simp
          refine hK.out _ _ (hV0_1_2.alloc hV0_1_2.size _) (fun hV0_1_2_3 => ?_)
          have A := Blk.new VC 45 #[.int .i64 0, .slice none 0 0, .slice none 0 0, .int .i64 0]
          have Ab := nw (.cells #[.int .i64 0, .slice none 0 0, .slice none 0 0, .int .i64 0] 45) (Below.refl VC.heap.size VC)
          have Ag := hV0_1_2.size
          obtain ⟨VC_3, qqVC_3⟩ : ∃ W', VC.alloc (.cells #[.int .i64 0, .slice none 0 0, .slice none 0 0, .int .i64 0] 45) = W' := ⟨_, rfl⟩
          rw [qqVC_3] at hV0_1_2_3 A Ab ⊢
          have hsA := hsA.below keeps_lk Ab
          have hsB := hsB.below keeps_int Ab
          have hsC := hsC.below keeps_lk Ab
          have hsD := hsD.below keeps_int Ab
          have Alt := A.lt
          clear qqVC_3
          refine ordB_only (opB_call rfl rfl (fun K hK => ?_))
          have A_B := Nat.ne_of_lt A.lt
          go_simp
          refine hK.out _ _ (hV0_1_2_3.alloc hV0_1_2_3.size _) (fun hV0_1_2_3_4 => ?_)
          have B := Blk.new VC_3 45 #[.int .i64 0, .slice none 0 0, .slice none 0 0, .int .i64 0]
          have Bb := nw (.cells #[.int .i64 0, .slice none 0 0, .slice none 0 0, .int .i64 0] 45) (Below.refl VC_3.heap.size VC_3)
          have Bg := hV0_1_2_3.size
          obtain ⟨VC_3_4, qqVC_3_4⟩ : ∃ W', VC_3.alloc (.cells #[.int .i64 0, .slice none 0 0, .slice none 0 0, .int .i64 0] 45) = W' := ⟨_, rfl⟩
          rw [qqVC_3_4] at hV0_1_2_3_4 B Bb ⊢
          have A := A.below Bb A.lt
          have hsA := hsA.below keeps_lk Bb
          have hsB := hsB.below keeps_int Bb
          have hsC := hsC.below keeps_lk Bb
          have hsD := hsD.below keeps_int Bb
          have Blt := B.lt
          clear qqVC_3_4
          refine ordB_only (opB_call rfl rfl (fun K hK => ?_))
          have Ac0 := A.cell 0
          have Af0 := A.frozen 0
          have Ac1 := A.cell 1
          have Af1 := A.frozen 1
          have Ac2 := A.cell 2
          have Af2 := A.frozen 2
          have Ac3 := A.cell 3
          have Af3 := A.frozen 3
          simp at Ac0 Ac1 Ac2 Ac3
          go_simp
          refine hK.out _ _ ((((hV0_1_2_3_4.setCell (p := ⟨VC.heap.size, 0, none⟩) Ag _).setCell (p := ⟨VC.heap.size, 1, none⟩) Ag _).setCell (p := ⟨VC.heap.size, 2, none⟩) Ag _).setCell (p := ⟨VC.heap.size, 3, none⟩) Ag _) (fun hV0_1_2_3_4_5 => ?_)
          have A := ((((A.set_ 0 (.int .i64 3)).set_ 1 (.slice LA 3 cA)).set_ 2 (.slice LB 3 cB)).set_ 3 (.int .i64 0))
          have Bne : VC_3.heap.size ≠ VC.heap.size := by first | exact B_A | exact A_B.symm
          have B := ((((B.far (p := ⟨VC.heap.size, 0, none⟩) Bne (.int .i64 3)).far (p := ⟨VC.heap.size, 1, none⟩) Bne (.slice LA 3 cA)).far (p := ⟨VC.heap.size, 2, none⟩) Bne (.slice LB 3 cB)).far (p := ⟨VC.heap.size, 3, none⟩) Bne (.int .i64 0))
          have hsAAne : ∀ a, LA = some a → s20w.g.ls ≠ [] → a.block ≠ VC.heap.size := fun a h hn => by have h1 := hoA a h; have h2 := huA hn a h; omega
          have hsA := ((((hsA.awayG lk_any (p := ⟨VC.heap.size, 0, none⟩) hsAAne (.int .i64 3)).awayG lk_any (p := ⟨VC.heap.size, 1, none⟩) hsAAne (.slice LA 3 cA)).awayG lk_any (p := ⟨VC.heap.size, 2, none⟩) hsAAne (.slice LB 3 cB)).awayG lk_any (p := ⟨VC.heap.size, 3, none⟩) hsAAne (.int .i64 0))
          have hsBAne : ∀ a, LB = some a → s20w.last ≠ [] → a.block ≠ VC.heap.size := fun a h hn => by have h1 := hoB a h; have h2 := huB hn a h; omega
          have hsB := ((((hsB.awayG int_any_ (p := ⟨VC.heap.size, 0, none⟩) hsBAne (.int .i64 3)).awayG int_any_ (p := ⟨VC.heap.size, 1, none⟩) hsBAne (.slice LA 3 cA)).awayG int_any_ (p := ⟨VC.heap.size, 2, none⟩) hsBAne (.slice LB 3 cB)).awayG int_any_ (p := ⟨VC.heap.size, 3, none⟩) hsBAne (.int .i64 0))
          have hsCAne : ∀ a, LC = some a → s20o.g.ls ≠ [] → a.block ≠ VC.heap.size := fun a h hn => by have h1 := hoC a h; have h2 := huC hn a h; omega
          have hsC := ((((hsC.awayG lk_any (p := ⟨VC.heap.size, 0, none⟩) hsCAne (.int .i64 3)).awayG lk_any (p := ⟨VC.heap.size, 1, none⟩) hsCAne (.slice LA 3 cA)).awayG lk_any (p := ⟨VC.heap.size, 2, none⟩) hsCAne (.slice LB 3 cB)).awayG lk_any (p := ⟨VC.heap.size, 3, none⟩) hsCAne (.int .i64 0))
          have hsDAne : ∀ a, LD = some a → s20o.last ≠ [] → a.block ≠ VC.heap.size := fun a h hn => by have h1 := hoD a h; have h2 := huD hn a h; omega
          have hsD := ((((hsD.awayG int_any_ (p := ⟨VC.heap.size, 0, none⟩) hsDAne (.int .i64 3)).awayG int_any_ (p := ⟨VC.heap.size, 1, none⟩) hsDAne (.slice LA 3 cA)).awayG int_any_ (p := ⟨VC.heap.size, 2, none⟩) hsDAne (.slice LB 3 cB)).awayG int_any_ (p := ⟨VC.heap.size, 3, none⟩) hsDAne (.int .i64 0))
          obtain ⟨VC_3_4_5, qqVC_3_4_5⟩ : ∃ W', ((((VC_3_4.setCell ⟨VC.heap.size, 0, none⟩ (.int .i64 3)).setCell ⟨VC.heap.size, 1, none⟩ (.slice LA 3 cA)).setCell ⟨VC.heap.size, 2, none⟩ (.slice LB 3 cB)).setCell ⟨VC.heap.size, 3, none⟩ (.int .i64 0)) = W' := ⟨_, rfl⟩
          rw [qqVC_3_4_5] at hV0_1_2_3_4_5 A B hsA hsB hsC hsD ⊢
          clear qqVC_3_4_5 Ac0 Af0 Ac1 Af1 Ac2 Af2 Ac3 Af3
          refine ordB_only (opB_call rfl rfl (fun K hK => ?_))
          have Bc0 := B.cell 0
          have Bf0 := B.frozen 0
          have Bc1 := B.cell 1
          have Bf1 := B.frozen 1
          have Bc2 := B.cell 2
          have Bf2 := B.frozen 2
          have Bc3 := B.cell 3
          have Bf3 := B.frozen 3
          simp at Bc0 Bc1 Bc2 Bc3
          go_simp
          refine hK.out _ _ ((((hV0_1_2_3_4_5.setCell (p := ⟨VC_3.heap.size, 0, none⟩) Bg _).setCell (p := ⟨VC_3.heap.size, 1, none⟩) Bg _).setCell (p := ⟨VC_3.heap.size, 2, none⟩) Bg _).setCell (p := ⟨VC_3.heap.size, 3, none⟩) Bg _) (fun hV0_1_2_3_4_5_6 => ?_)
          have B := ((((B.set_ 0 (.int .i64 1)).set_ 1 (.slice LC 0 cC)).set_ 2 (.slice LD 1 cD)).set_ 3 (.int .i64 0))
          have Ane : VC.heap.size ≠ VC_3.heap.size := by first | exact A_B | exact B_A.symm
          have A := ((((A.far (p := ⟨VC_3.heap.size, 0, none⟩) Ane (.int .i64 1)).far (p := ⟨VC_3.heap.size, 1, none⟩) Ane (.slice LC 0 cC)).far (p := ⟨VC_3.heap.size, 2, none⟩) Ane (.slice LD 1 cD)).far (p := ⟨VC_3.heap.size, 3, none⟩) Ane (.int .i64 0))
          have hsABne : ∀ a, LA = some a → s20w.g.ls ≠ [] → a.block ≠ VC_3.heap.size := fun a h hn => by have h1 := hoA a h; have h2 := huA hn a h; omega
          have hsA := ((((hsA.awayG lk_any (p := ⟨VC_3.heap.size, 0, none⟩) hsABne (.int .i64 1)).awayG lk_any (p := ⟨VC_3.heap.size, 1, none⟩) hsABne (.slice LC 0 cC)).awayG lk_any (p := ⟨VC_3.heap.size, 2, none⟩) hsABne (.slice LD 1 cD)).awayG lk_any (p := ⟨VC_3.heap.size, 3, none⟩) hsABne (.int .i64 0))
          have hsBBne : ∀ a, LB = some a → s20w.last ≠ [] → a.block ≠ VC_3.heap.size := fun a h hn => by have h1 := hoB a h; have h2 := huB hn a h; omega
          have hsB := ((((hsB.awayG int_any_ (p := ⟨VC_3.heap.size, 0, none⟩) hsBBne (.int .i64 1)).awayG int_any_ (p := ⟨VC_3.heap.size, 1, none⟩) hsBBne (.slice LC 0 cC)).awayG int_any_ (p := ⟨VC_3.heap.size, 2, none⟩) hsBBne (.slice LD 1 cD)).awayG int_any_ (p := ⟨VC_3.heap.size, 3, none⟩) hsBBne (.int .i64 0))
          have hsCBne : ∀ a, LC = some a → s20o.g.ls ≠ [] → a.block ≠ VC_3.heap.size := fun a h hn => by have h1 := hoC a h; have h2 := huC hn a h; omega
          have hsC := ((((hsC.awayG lk_any (p := ⟨VC_3.heap.size, 0, none⟩) hsCBne (.int .i64 1)).awayG lk_any (p := ⟨VC_3.heap.size, 1, none⟩) hsCBne (.slice LC 0 cC)).awayG lk_any (p := ⟨VC_3.heap.size, 2, none⟩) hsCBne (.slice LD 1 cD)).awayG lk_any (p := ⟨VC_3.heap.size, 3, none⟩) hsCBne (.int .i64 0))
          have hsDBne : ∀ a, LD = some a → s20o.last ≠ [] → a.block ≠ VC_3.heap.size := fun a h hn => by have h1 := hoD a h; have h2 := huD hn a h; omega
          have hsD := ((((hsD.awayG int_any_ (p := ⟨VC_3.heap.size, 0, none⟩) hsDBne (.int .i64 1)).awayG int_any_ (p := ⟨VC_3.heap.size, 1, none⟩) hsDBne (.slice LC 0 cC)).awayG int_any_ (p := ⟨VC_3.heap.size, 2, none⟩) hsDBne (.slice LD 1 cD)).awayG int_any_ (p := ⟨VC_3.heap.size, 3, none⟩) hsDBne (.int .i64 0))
          obtain ⟨VC_3_4_5_6, qqVC_3_4_5_6⟩ : ∃ W', ((((VC_3_4_5.setCell ⟨VC_3.heap.size, 0, none⟩ (.int .i64 1)).setCell ⟨VC_3.heap.size, 1, none⟩ (.slice LC 0 cC)).setCell ⟨VC_3.heap.size, 2, none⟩ (.slice LD 1 cD)).setCell ⟨VC_3.heap.size, 3, none⟩ (.int .i64 0)) = W' := ⟨_, rfl⟩
          rw [qqVC_3_4_5_6] at hV0_1_2_3_4_5_6 B A hsA hsB hsC hsD ⊢
          clear qqVC_3_4_5_6 Bc0 Bf0 Bc1 Bf1 Bc2 Bf2 Bc3 Bf3
          refine ordB_nil ?_
          go_wp2_with fail
          go_meet
          have A2 : Blk VC_3_4_5_6 VC.heap.size 45 #[.int .i64 3, .slice LA 3 cA, .slice LB 3 cB, .int .i64 0] := by simpa using A
          have B2 : Blk VC_3_4_5_6 VC_3.heap.size 45 #[.int .i64 1, .slice LC 0 cC, .slice LD 1 cD, .int .i64 0] := by simpa using B
          exact ⟨_, _, LA, LB, LC, LD, cA, cB, cC, cD, rfl, rfl, ⟨A2, hsA, hsB, hkA⟩, ⟨B2, hsC, hsD, hkC⟩, hV0_1_2_3_4_5_6⟩
        · go_simp
          refine hK.out _ _ (hV0_1_2.alloc hV0_1_2.size _) (fun hV0_1_2_3 => ?_)
          have B := Blk.new VC 45 #[.int .i64 0, .slice none 0 0, .slice none 0 0, .int .i64 0]
          have Bb := nw (.cells #[.int .i64 0, .slice none 0 0, .slice none 0 0, .int .i64 0] 45) (Below.refl VC.heap.size VC)
          have Bg := hV0_1_2.size
          obtain ⟨VC_3, qqVC_3⟩ : ∃ W', VC.alloc (.cells #[.int .i64 0, .slice none 0 0, .slice none 0 0, .int .i64 0] 45) = W' := ⟨_, rfl⟩
          rw [qqVC_3] at hV0_1_2_3 B Bb ⊢
          have hsA := hsA.below keeps_lk Bb
          have hsB := hsB.below keeps_int Bb
          have hsC := hsC.below keeps_lk Bb
          have hsD := hsD.below keeps_int Bb
          have Blt := B.lt
          clear qqVC_3
          refine ordB_only (opB_call rfl rfl (fun K hK => ?_))
          have B_A := Nat.ne_of_lt B.lt
          go_simp
          refine hK.out _ _ (hV0_1_2_3.alloc hV0_1_2_3.size _) (fun hV0_1_2_3_4 => ?_)
          have A := Blk.new VC_3 45 #[.int .i64 0, .slice none 0 0, .slice none 0 0, .int .i64 0]
          have Ab := nw (.cells #[.int .i64 0, .slice none 0 0, .slice none 0 0, .int .i64 0] 45) (Below.refl VC_3.heap.size VC_3)
          have Ag := hV0_1_2_3.size
          obtain ⟨VC_3_4, qqVC_3_4⟩ : ∃ W', VC_3.alloc (.cells #[.int .i64 0, .slice none 0 0, .slice none 0 0, .int .i64 0] 45) = W' := ⟨_, rfl⟩
          rw [qqVC_3_4] at hV0_1_2_3_4 A Ab ⊢
          have B := B.below Ab B.lt
          have hsA := hsA.below keeps_lk Ab
          have hsB := hsB.below keeps_int Ab
          have hsC := hsC.below keeps_lk Ab
          have hsD := hsD.below keeps_int Ab
          have Alt := A.lt
          clear qqVC_3_4
          refine ordB_only (opB_call rfl rfl (fun K hK => ?_))
          have Ac0 := A.cell 0
          have Af0 := A.frozen 0
          have Ac1 := A.cell 1
          have Af1 := A.frozen 1
          have Ac2 := A.cell 2
          have Af2 := A.frozen 2
          have Ac3 := A.cell 3
          have Af3 := A.frozen 3
          simp at Ac0 Ac1 Ac2 Ac3
          go_simp
          refine hK.out _ _ ((((hV0_1_2_3_4.setCell (p := ⟨VC_3.heap.size, 0, none⟩) Ag _).setCell (p := ⟨VC_3.heap.size, 1, none⟩) Ag _).setCell (p := ⟨VC_3.heap.size, 2, none⟩) Ag _).setCell (p := ⟨VC_3.heap.size, 3, none⟩) Ag _) (fun hV0_1_2_3_4_5 => ?_)
          have A := ((((A.set_ 0 (.int .i64 3)).set_ 1 (.slice LA 3 cA)).set_ 2 (.slice LB 3 cB)).set_ 3 (.int .i64 0))
          have Bne : VC.heap.size ≠ VC_3.heap.size := by first | exact B_A | exact A_B.symm
          have B := ((((B.far (p := ⟨VC_3.heap.size, 0, none⟩) Bne (.int .i64 3)).far (p := ⟨VC_3.heap.size, 1, none⟩) Bne (.slice LA 3 cA)).far (p := ⟨VC_3.heap.size, 2, none⟩) Bne (.slice LB 3 cB)).far (p := ⟨VC_3.heap.size, 3, none⟩) Bne (.int .i64 0))
          have hsAAne : ∀ a, LA = some a → s20w.g.ls ≠ [] → a.block ≠ VC_3.heap.size := fun a h hn => by have h1 := hoA a h; have h2 := huA hn a h; omega
          have hsA := ((((hsA.awayG lk_any (p := ⟨VC_3.heap.size, 0, none⟩) hsAAne (.int .i64 3)).awayG lk_any (p := ⟨VC_3.heap.size, 1, none⟩) hsAAne (.slice LA 3 cA)).awayG lk_any (p := ⟨VC_3.heap.size, 2, none⟩) hsAAne (.slice LB 3 cB)).awayG lk_any (p := ⟨VC_3.heap.size, 3, none⟩) hsAAne (.int .i64 0))
          have hsBAne : ∀ a, LB = some a → s20w.last ≠ [] → a.block ≠ VC_3.heap.size := fun a h hn => by have h1 := hoB a h; have h2 := huB hn a h; omega
          have hsB := ((((hsB.awayG int_any_ (p := ⟨VC_3.heap.size, 0, none⟩) hsBAne (.int .i64 3)).awayG int_any_ (p := ⟨VC_3.heap.size, 1, none⟩) hsBAne (.slice LA 3 cA)).awayG int_any_ (p := ⟨VC_3.heap.size, 2, none⟩) hsBAne (.slice LB 3 cB)).awayG int_any_ (p := ⟨VC_3.heap.size, 3, none⟩) hsBAne (.int .i64 0))
          have hsCAne : ∀ a, LC = some a → s20o.g.ls ≠ [] → a.block ≠ VC_3.heap.size := fun a h hn => by have h1 := hoC a h; have h2 := huC hn a h; omega
          have hsC := ((((hsC.awayG lk_any (p := ⟨VC_3.heap.size, 0, none⟩) hsCAne (.int .i64 3)).awayG lk_any (p := ⟨VC_3.heap.size, 1, none⟩) hsCAne (.slice LA 3 cA)).awayG lk_any (p := ⟨VC_3.heap.size, 2, none⟩) hsCAne (.slice LB 3 cB)).awayG lk_any (p := ⟨VC_3.heap.size, 3, none⟩) hsCAne (.int .i64 0))
          have hsDAne : ∀ a, LD = some a → s20o.last ≠ [] → a.block ≠ VC_3.heap.size := fun a h hn => by have h1 := hoD a h; have h2 := huD hn a h; omega
          have hsD := ((((hsD.awayG int_any_ (p := ⟨VC_3.heap.size, 0, none⟩) hsDAne (.int .i64 3)).awayG int_any_ (p := ⟨VC_3.heap.size, 1, none⟩) hsDAne (.slice LA 3 cA)).awayG int_any_ (p := ⟨VC_3.heap.size, 2, none⟩) hsDAne (.slice LB 3 cB)).awayG int_any_ (p := ⟨VC_3.heap.size, 3, none⟩) hsDAne (.int .i64 0))
          obtain ⟨VC_3_4_5, qqVC_3_4_5⟩ : ∃ W', ((((VC_3_4.setCell ⟨VC_3.heap.size, 0, none⟩ (.int .i64 3)).setCell ⟨VC_3.heap.size, 1, none⟩ (.slice LA 3 cA)).setCell ⟨VC_3.heap.size, 2, none⟩ (.slice LB 3 cB)).setCell ⟨VC_3.heap.size, 3, none⟩ (.int .i64 0)) = W' := ⟨_, rfl⟩
          rw [qqVC_3_4_5] at hV0_1_2_3_4_5 A B hsA hsB hsC hsD ⊢
          clear qqVC_3_4_5 Ac0 Af0 Ac1 Af1 Ac2 Af2 Ac3 Af3
          refine ordB_only (opB_call rfl rfl (fun K hK => ?_))
          have Bc0 := B.cell 0
          have Bf0 := B.frozen 0
          have Bc1 := B.cell 1
          have Bf1 := B.frozen 1
          have Bc2 := B.cell 2
          have Bf2 := B.frozen 2
          have Bc3 := B.cell 3
          have Bf3 := B.frozen 3
          simp at Bc0 Bc1 Bc2 Bc3
          go_simp
          refine hK.out _ _ ((((hV0_1_2_3_4_5.setCell (p := ⟨VC.heap.size, 0, none⟩) Bg _).setCell (p := ⟨VC.heap.size, 1, none⟩) Bg _).setCell (p := ⟨VC.heap.size, 2, none⟩) Bg _).setCell (p := ⟨VC.heap.size, 3, none⟩) Bg _) (fun hV0_1_2_3_4_5_6 => ?_)
          have B := ((((B.set_ 0 (.int .i64 1)).set_ 1 (.slice LC 0 cC)).set_ 2 (.slice LD 1 cD)).set_ 3 (.int .i64 0))
          have Ane : VC_3.heap.size ≠ VC.heap.size := by first | exact A_B | exact B_A.symm
          have A := ((((A.far (p := ⟨VC.heap.size, 0, none⟩) Ane (.int .i64 1)).far (p := ⟨VC.heap.size, 1, none⟩) Ane (.slice LC 0 cC)).far (p := ⟨VC.heap.size, 2, none⟩) Ane (.slice LD 1 cD)).far (p := ⟨VC.heap.size, 3, none⟩) Ane (.int .i64 0))
          have hsABne : ∀ a, LA = some a → s20w.g.ls ≠ [] → a.block ≠ VC.heap.size := fun a h hn => by have h1 := hoA a h; have h2 := huA hn a h; omega
          have hsA := ((((hsA.awayG lk_any (p := ⟨VC.heap.size, 0, none⟩) hsABne (.int .i64 1)).awayG lk_any (p := ⟨VC.heap.size, 1, none⟩) hsABne (.slice LC 0 cC)).awayG lk_any (p := ⟨VC.heap.size, 2, none⟩) hsABne (.slice LD 1 cD)).awayG lk_any (p := ⟨VC.heap.size, 3, none⟩) hsABne (.int .i64 0))
          have hsBBne : ∀ a, LB = some a → s20w.last ≠ [] → a.block ≠ VC.heap.size := fun a h hn => by have h1 := hoB a h; have h2 := huB hn a h; omega
          have hsB := ((((hsB.awayG int_any_ (p := ⟨VC.heap.size, 0, none⟩) hsBBne (.int .i64 1)).awayG int_any_ (p := ⟨VC.heap.size, 1, none⟩) hsBBne (.slice LC 0 cC)).awayG int_any_ (p := ⟨VC.heap.size, 2, none⟩) hsBBne (.slice LD 1 cD)).awayG int_any_ (p := ⟨VC.heap.size, 3, none⟩) hsBBne (.int .i64 0))
          have hsCBne : ∀ a, LC = some a → s20o.g.ls ≠ [] → a.block ≠ VC.heap.size := fun a h hn => by have h1 := hoC a h; have h2 := huC hn a h; omega
          have hsC := ((((hsC.awayG lk_any (p := ⟨VC.heap.size, 0, none⟩) hsCBne (.int .i64 1)).awayG lk_any (p := ⟨VC.heap.size, 1, none⟩) hsCBne (.slice LC 0 cC)).awayG lk_any (p := ⟨VC.heap.size, 2, none⟩) hsCBne (.slice LD 1 cD)).awayG lk_any (p := ⟨VC.heap.size, 3, none⟩) hsCBne (.int .i64 0))
          have hsDBne : ∀ a, LD = some a → s20o.last ≠ [] → a.block ≠ VC.heap.size := fun a h hn => by have h1 := hoD a h; have h2 := huD hn a h; omega
          have hsD := ((((hsD.awayG int_any_ (p := ⟨VC.heap.size, 0, none⟩) hsDBne (.int .i64 1)).awayG int_any_ (p := ⟨VC.heap.size, 1, none⟩) hsDBne (.slice LC 0 cC)).awayG int_any_ (p := ⟨VC.heap.size, 2, none⟩) hsDBne (.slice LD 1 cD)).awayG int_any_ (p := ⟨VC.heap.size, 3, none⟩) hsDBne (.int .i64 0))
          obtain ⟨VC_3_4_5_6, qqVC_3_4_5_6⟩ : ∃ W', ((((VC_3_4_5.setCell ⟨VC.heap.size, 0, none⟩ (.int .i64 1)).setCell ⟨VC.heap.size, 1, none⟩ (.slice LC 0 cC)).setCell ⟨VC.heap.size, 2, none⟩ (.slice LD 1 cD)).setCell ⟨VC.heap.size, 3, none⟩ (.int .i64 0)) = W' := ⟨_, rfl⟩
          rw [qqVC_3_4_5_6] at hV0_1_2_3_4_5_6 B A hsA hsB hsC hsD ⊢
          clear qqVC_3_4_5_6 Bc0 Bf0 Bc1 Bf1 Bc2 Bf2 Bc3 Bf3
          refine ordB_nil ?_
          go_wp2_with fail
          go_meet
          have A2 : Blk VC_3_4_5_6 VC_3.heap.size 45 #[.int .i64 3, .slice LA 3 cA, .slice LB 3 cB, .int .i64 0] := by simpa using A
          have B2 : Blk VC_3_4_5_6 VC.heap.size 45 #[.int .i64 1, .slice LC 0 cC, .slice LD 1 cD, .int .i64 0] := by simpa using B
          exact ⟨_, _, LA, LB, LC, LD, cA, cB, cC, cD, rfl, rfl, ⟨A2, hsA, hsB, hkA⟩, ⟨B2, hsC, hsD, hkC⟩, hV0_1_2_3_4_5_6⟩
      · go_simp
        refine hK.out _ _ (hV0_1.alloc hV0_1.size _) (fun hV0_1_2 => ?_)
        have A := Blk.new VA 45 #[.int .i64 0, .slice none 0 0, .slice none 0 0, .int .i64 0]
        have Ab := nw (.cells #[.int .i64 0, .slice none 0 0, .slice none 0 0, .int .i64 0] 45) (Below.refl VA.heap.size VA)
        have Ag := hV0_1.size
        obtain ⟨VA_2, qqVA_2⟩ : ∃ W', VA.alloc (.cells #[.int .i64 0, .slice none 0 0, .slice none 0 0, .int .i64 0] 45) = W' := ⟨_, rfl⟩
        rw [qqVA_2] at hV0_1_2 A Ab ⊢
        have hsA := hsA.below keeps_lk Ab
        have hsB := hsB.below keeps_int Ab
        have Alt := A.lt
        clear qqVA_2
        refine ordB_fork (opB_call rfl rfl (fun K hK => ?_)) (opB_call rfl rfl (fun K hK => ?_))
        · go_simp
          go_at_call 8
          refine (s20_build2 (HS.out.mono hV0_1_2)).mono ?_
          rintro e VC ⟨LC, LD, cC, cD, rfl, hsC, hsD, hkC, hbC, hoC, hoD⟩
          refine hK.out _ _ (hV0_1_2.trans (hbC.mono hV0_1_2.size)) (fun hV0_1_2_3 => ?_)
          have A := A.below hbC A.lt
          have hsA := hsA.below keeps_lk hbC
          have hsB := hsB.below keeps_int hbC
          have hz_3 := hbC.size
          have huC := hsC.blkLt
          have huD := hsD.blkLt
          refine ordB_only (opB_call rfl rfl (fun K hK => ?_))
          have A_B := Nat.ne_of_lt A.lt
          go_simp
          refine hK.out _ _ (hV0_1_2_3.alloc hV0_1_2_3.size _) (fun hV0_1_2_3_4 => ?_)
          have B := Blk.new VC 45 #[.int .i64 0, .slice none 0 0, .slice none 0 0, .int .i64 0]
          have Bb := nw (.cells #[.int .i64 0, .slice none 0 0, .slice none 0 0, .int .i64 0] 45) (Below.refl VC.heap.size VC)
          have Bg := hV0_1_2_3.size
          obtain ⟨VC_4, qqVC_4⟩ : ∃ W', VC.alloc (.cells #[.int .i64 0, .slice none 0 0, .slice none 0 0, .int .i64 0] 45) = W' := ⟨_, rfl⟩
          rw [qqVC_4] at hV0_1_2_3_4 B Bb ⊢
          have A := A.below Bb A.lt
          have hsA := hsA.below keeps_lk Bb
          have hsB := hsB.below keeps_int Bb
          have hsC := hsC.below keeps_lk Bb
          have hsD := hsD.below keeps_int Bb
          have Blt := B.lt
          clear qqVC_4
          refine ordB_only (opB_call rfl rfl (fun K hK => ?_))
          have Ac0 := A.cell 0
          have Af0 := A.frozen 0
          have Ac1 := A.cell 1
          have Af1 := A.frozen 1
          have Ac2 := A.cell 2
          have Af2 := A.frozen 2
          have Ac3 := A.cell 3
          have Af3 := A.frozen 3
          simp at Ac0 Ac1 Ac2 Ac3
          go_simp
          refine hK.out _ _ ((((hV0_1_2_3_4.setCell (p := ⟨VA.heap.size, 0, none⟩) Ag _).setCell (p := ⟨VA.heap.size, 1, none⟩) Ag _).setCell (p := ⟨VA.heap.size, 2, none⟩) Ag _).setCell (p := ⟨VA.heap.size, 3, none⟩) Ag _) (fun hV0_1_2_3_4_5 => ?_)
          have A := ((((A.set_ 0 (.int .i64 3)).set_ 1 (.slice LA 3 cA)).set_ 2 (.slice LB 3 cB)).set_ 3 (.int .i64 0))
          have Bne : VC.heap.size ≠ VA.heap.size := by first | exact B_A | exact A_B.symm
          have B := ((((B.far (p := ⟨VA.heap.size, 0, none⟩) Bne (.int .i64 3)).far (p := ⟨VA.heap.size, 1, none⟩) Bne (.slice LA 3 cA)).far (p := ⟨VA.heap.size, 2, none⟩) Bne (.slice LB 3 cB)).far (p := ⟨VA.heap.size, 3, none⟩) Bne (.int .i64 0))
          have hsAAne : ∀ a, LA = some a → s20w.g.ls ≠ [] → a.block ≠ VA.heap.size := fun a h hn => by have h1 := hoA a h; have h2 := huA hn a h; omega
          have hsA := ((((hsA.awayG lk_any (p := ⟨VA.heap.size, 0, none⟩) hsAAne (.int .i64 3)).awayG lk_any (p := ⟨VA.heap.size, 1, none⟩) hsAAne (.slice LA 3 cA)).awayG lk_any (p := ⟨VA.heap.size, 2, none⟩) hsAAne (.slice LB 3 cB)).awayG lk_any (p := ⟨VA.heap.size, 3, none⟩) hsAAne (.int .i64 0))
          have hsBAne : ∀ a, LB = some a → s20w.last ≠ [] → a.block ≠ VA.heap.size := fun a h hn => by have h1 := hoB a h; have h2 := huB hn a h; omega
          have hsB := ((((hsB.awayG int_any_ (p := ⟨VA.heap.size, 0, none⟩) hsBAne (.int .i64 3)).awayG int_any_ (p := ⟨VA.heap.size, 1, none⟩) hsBAne (.slice LA 3 cA)).awayG int_any_ (p := ⟨VA.heap.size, 2, none⟩) hsBAne (.slice LB 3 cB)).awayG int_any_ (p := ⟨VA.heap.size, 3, none⟩) hsBAne (.int .i64 0))
          have hsCAne : ∀ a, LC = some a → s20o.g.ls ≠ [] → a.block ≠ VA.heap.size := fun a h hn => by have h1 := hoC a h; have h2 := huC hn a h; omega
          have hsC := ((((hsC.awayG lk_any (p := ⟨VA.heap.size, 0, none⟩) hsCAne (.int .i64 3)).awayG lk_any (p := ⟨VA.heap.size, 1, none⟩) hsCAne (.slice LA 3 cA)).awayG lk_any (p := ⟨VA.heap.size, 2, none⟩) hsCAne (.slice LB 3 cB)).awayG lk_any (p := ⟨VA.heap.size, 3, none⟩) hsCAne (.int .i64 0))
          have hsDAne : ∀ a, LD = some a → s20o.last ≠ [] → a.block ≠ VA.heap.size := fun a h hn => by have h1 := hoD a h; have h2 := huD hn a h; omega
          have hsD := ((((hsD.awayG int_any_ (p := ⟨VA.heap.size, 0, none⟩) hsDAne (.int .i64 3)).awayG int_any_ (p := ⟨VA.heap.size, 1, none⟩) hsDAne (.slice LA 3 cA)).awayG int_any_ (p := ⟨VA.heap.size, 2, none⟩) hsDAne (.slice LB 3 cB)).awayG int_any_ (p := ⟨VA.heap.size, 3, none⟩) hsDAne (.int .i64 0))
          obtain ⟨VC_4_5, qqVC_4_5⟩ : ∃ W', ((((VC_4.setCell ⟨VA.heap.size, 0, none⟩ (.int .i64 3)).setCell ⟨VA.heap.size, 1, none⟩ (.slice LA 3 cA)).setCell ⟨VA.heap.size, 2, none⟩ (.slice LB 3 cB)).setCell ⟨VA.heap.size, 3, none⟩ (.int .i64 0)) = W' := ⟨_, rfl⟩
          rw [qqVC_4_5] at hV0_1_2_3_4_5 A B hsA hsB hsC hsD ⊢
          clear qqVC_4_5 Ac0 Af0 Ac1 Af1 Ac2 Af2 Ac3 Af3
          refine ordB_only (opB_call rfl rfl (fun K hK => ?_))
          have Bc0 := B.cell 0
          have Bf0 := B.frozen 0
          have Bc1 := B.cell 1
          have Bf1 := B.frozen 1
          have Bc2 := B.cell 2
          have Bf2 := B.frozen 2
          have Bc3 := B.cell 3
          have Bf3 := B.frozen 3
          simp at Bc0 Bc1 Bc2 Bc3
          go_simp
          refine hK.out _ _ ((((hV0_1_2_3_4_5.setCell (p := ⟨VC.heap.size, 0, none⟩) Bg _).setCell (p := ⟨VC.heap.size, 1, none⟩) Bg _).setCell (p := ⟨VC.heap.size, 2, none⟩) Bg _).setCell (p := ⟨VC.heap.size, 3, none⟩) Bg _) (fun hV0_1_2_3_4_5_6 => ?_)
          have B := ((((B.set_ 0 (.int .i64 1)).set_ 1 (.slice LC 0 cC)).set_ 2 (.slice LD 1 cD)).set_ 3 (.int .i64 0))
          have Ane : VA.heap.size ≠ VC.heap.size := by first | exact A_B | exact B_A.symm
          have A := ((((A.far (p := ⟨VC.heap.size, 0, none⟩) Ane (.int .i64 1)).far (p := ⟨VC.heap.size, 1, none⟩) Ane (.slice LC 0 cC)).far (p := ⟨VC.heap.size, 2, none⟩) Ane (.slice LD 1 cD)).far (p := ⟨VC.heap.size, 3, none⟩) Ane (.int .i64 0))
          have hsABne : ∀ a, LA = some a → s20w.g.ls ≠ [] → a.block ≠ VC.heap.size := fun a h hn => by have h1 := hoA a h; have h2 := huA hn a h; omega
          have hsA := ((((hsA.awayG lk_any (p := ⟨VC.heap.size, 0, none⟩) hsABne (.int .i64 1)).awayG lk_any (p := ⟨VC.heap.size, 1, none⟩) hsABne (.slice LC 0 cC)).awayG lk_any (p := ⟨VC.heap.size, 2, none⟩) hsABne (.slice LD 1 cD)).awayG lk_any (p := ⟨VC.heap.size, 3, none⟩) hsABne (.int .i64 0))
          have hsBBne : ∀ a, LB = some a → s20w.last ≠ [] → a.block ≠ VC.heap.size := fun a h hn => by have h1 := hoB a h; have h2 := huB hn a h; omega
          have hsB := ((((hsB.awayG int_any_ (p := ⟨VC.heap.size, 0, none⟩) hsBBne (.int .i64 1)).awayG int_any_ (p := ⟨VC.heap.size, 1, none⟩) hsBBne (.slice LC 0 cC)).awayG int_any_ (p := ⟨VC.heap.size, 2, none⟩) hsBBne (.slice LD 1 cD)).awayG int_any_ (p := ⟨VC.heap.size, 3, none⟩) hsBBne (.int .i64 0))
          have hsCBne : ∀ a, LC = some a → s20o.g.ls ≠ [] → a.block ≠ VC.heap.size := fun a h hn => by have h1 := hoC a h; have h2 := huC hn a h; omega
          have hsC := ((((hsC.awayG lk_any (p := ⟨VC.heap.size, 0, none⟩) hsCBne (.int .i64 1)).awayG lk_any (p := ⟨VC.heap.size, 1, none⟩) hsCBne (.slice LC 0 cC)).awayG lk_any (p := ⟨VC.heap.size, 2, none⟩) hsCBne (.slice LD 1 cD)).awayG lk_any (p := ⟨VC.heap.size, 3, none⟩) hsCBne (.int .i64 0))
          have hsDBne : ∀ a, LD = some a → s20o.last ≠ [] → a.block ≠ VC.heap.size := fun a h hn => by have h1 := hoD a h; have h2 := huD hn a h; omega
          have hsD := ((((hsD.awayG int_any_ (p := ⟨VC.heap.size, 0, none⟩) hsDBne (.int .i64 1)).awayG int_any_ (p := ⟨VC.heap.size, 1, none⟩) hsDBne (.slice LC 0 cC)).awayG int_any_ (p := ⟨VC.heap.size, 2, none⟩) hsDBne (.slice LD 1 cD)).awayG int_any_ (p := ⟨VC.heap.size, 3, none⟩) hsDBne (.int .i64 0))
          obtain ⟨VC_4_5_6, qqVC_4_5_6⟩ : ∃ W', ((((VC_4_5.setCell ⟨VC.heap.size, 0, none⟩ (.int .i64 1)).setCell ⟨VC.heap.size, 1, none⟩ (.slice LC 0 cC)).setCell ⟨VC.heap.size, 2, none⟩ (.slice LD 1 cD)).setCell ⟨VC.heap.size, 3, none⟩ (.int .i64 0)) = W' := ⟨_, rfl⟩
          rw [qqVC_4_5_6] at hV0_1_2_3_4_5_6 B A hsA hsB hsC hsD ⊢
          clear qqVC_4_5_6 Bc0 Bf0 Bc1 Bf1 Bc2 Bf2 Bc3 Bf3
          refine ordB_nil ?_
          go_wp2_with fail
          go_meet
          have A2 : Blk VC_4_5_6 VA.heap.size 45 #[.int .i64 3, .slice LA 3 cA, .slice LB 3 cB, .int .i64 0] := by simpa using A
          have B2 : Blk VC_4_5_6 VC.heap.size 45 #[.int .i64 1, .slice LC 0 cC, .slice LD 1 cD, .int .i64 0] := by simpa using B
          exact ⟨_, _, LA, LB, LC, LD, cA, cB, cC, cD, rfl, rfl, ⟨A2, hsA, hsB, hkA⟩, ⟨B2, hsC, hsD, hkC⟩, hV0_1_2_3_4_5_6⟩
        · have A_B := Nat.ne_of_lt A.lt
          go_simp
          refine hK.out _ _ (hV0_1_2.alloc hV0_1_2.size _) (fun hV0_1_2_3 => ?_)
          have B := Blk.new VA_2 45 #[.int .i64 0, .slice none 0 0, .slice none 0 0, .int .i64 0]
          have Bb := nw (.cells #[.int .i64 0, .slice none 0 0, .slice none 0 0, .int .i64 0] 45) (Below.refl VA_2.heap.size VA_2)
          have Bg := hV0_1_2.size
          obtain ⟨VA_2_3, qqVA_2_3⟩ : ∃ W', VA_2.alloc (.cells #[.int .i64 0, .slice none 0 0, .slice none 0 0, .int .i64 0] 45) = W' := ⟨_, rfl⟩
          rw [qqVA_2_3] at hV0_1_2_3 B Bb ⊢
          have A := A.below Bb A.lt
          have hsA := hsA.below keeps_lk Bb
          have hsB := hsB.below keeps_int Bb
          have Blt := B.lt
          clear qqVA_2_3
          refine ordB_only (opB_call rfl rfl (fun K hK => ?_))
          go_simp
          go_at_call 8
          refine (s20_build2 (HS.out.mono hV0_1_2_3)).mono ?_
          rintro e VC ⟨LC, LD, cC, cD, rfl, hsC, hsD, hkC, hbC, hoC, hoD⟩
          refine hK.out _ _ (hV0_1_2_3.trans (hbC.mono hV0_1_2_3.size)) (fun hV0_1_2_3_4 => ?_)
          have A := A.below hbC A.lt
          have B := B.below hbC B.lt
          have hsA := hsA.below keeps_lk hbC
          have hsB := hsB.below keeps_int hbC
          have hz_4 := hbC.size
          have huC := hsC.blkLt
          have huD := hsD.blkLt
          refine ordB_only (opB_call rfl rfl (fun K hK => ?_))
          have Ac0 := A.cell 0
          have Af0 := A.frozen 0
          have Ac1 := A.cell 1
          have Af1 := A.frozen 1
          have Ac2 := A.cell 2
          have Af2 := A.frozen 2
          have Ac3 := A.cell 3
          have Af3 := A.frozen 3
          simp at Ac0 Ac1 Ac2 Ac3
          go_simp
          refine hK.out _ _ ((((hV0_1_2_3_4.setCell (p := ⟨VA.heap.size, 0, none⟩) Ag _).setCell (p := ⟨VA.heap.size, 1, none⟩) Ag _).setCell (p := ⟨VA.heap.size, 2, none⟩) Ag _).setCell (p := ⟨VA.heap.size, 3, none⟩) Ag _) (fun hV0_1_2_3_4_5 => ?_)
          have A := ((((A.set_ 0 (.int .i64 3)).set_ 1 (.slice LA 3 cA)).set_ 2 (.slice LB 3 cB)).set_ 3 (.int .i64 0))
          have Bne : VA_2.heap.size ≠ VA.heap.size := by first | exact B_A | exact A_B.symm
          have B := ((((B.far (p := ⟨VA.heap.size, 0, none⟩) Bne (.int .i64 3)).far (p := ⟨VA.heap.size, 1, none⟩) Bne (.slice LA 3 cA)).far (p := ⟨VA.heap.size, 2, none⟩) Bne (.slice LB 3 cB)).far (p := ⟨VA.heap.size, 3, none⟩) Bne (.int .i64 0))
          have hsAAne : ∀ a, LA = some a → s20w.g.ls ≠ [] → a.block ≠ VA.heap.size := fun a h hn => by have h1 := hoA a h; have h2 := huA hn a h; omega
          have hsA := ((((hsA.awayG lk_any (p := ⟨VA.heap.size, 0, none⟩) hsAAne (.int .i64 3)).awayG lk_any (p := ⟨VA.heap.size, 1, none⟩) hsAAne (.slice LA 3 cA)).awayG lk_any (p := ⟨VA.heap.size, 2, none⟩) hsAAne (.slice LB 3 cB)).awayG lk_any (p := ⟨VA.heap.size, 3, none⟩) hsAAne (.int .i64 0))
          have hsBAne : ∀ a, LB = some a → s20w.last ≠ [] → a.block ≠ VA.heap.size := fun a h hn => by have h1 := hoB a h; have h2 := huB hn a h; omega
          have hsB := ((((hsB.awayG int_any_ (p := ⟨VA.heap.size, 0, none⟩) hsBAne (.int .i64 3)).awayG int_any_ (p := ⟨VA.heap.size, 1, none⟩) hsBAne (.slice LA 3 cA)).awayG int_any_ (p := ⟨VA.heap.size, 2, none⟩) hsBAne (.slice LB 3 cB)).awayG int_any_ (p := ⟨VA.heap.size, 3, none⟩) hsBAne (.int .i64 0))
          have hsCAne : ∀ a, LC = some a → s20o.g.ls ≠ [] → a.block ≠ VA.heap.size := fun a h hn => by have h1 := hoC a h; have h2 := huC hn a h; omega
          have hsC := ((((hsC.awayG lk_any (p := ⟨VA.heap.size, 0, none⟩) hsCAne (.int .i64 3)).awayG lk_any (p := ⟨VA.heap.size, 1, none⟩) hsCAne (.slice LA 3 cA)).awayG lk_any (p := ⟨VA.heap.size, 2, none⟩) hsCAne (.slice LB 3 cB)).awayG lk_any (p := ⟨VA.heap.size, 3, none⟩) hsCAne (.int .i64 0))
          have hsDAne : ∀ a, LD = some a → s20o.last ≠ [] → a.block ≠ VA.heap.size := fun a h hn => by have h1 := hoD a h; have h2 := huD hn a h; omega
          have hsD := ((((hsD.awayG int_any_ (p := ⟨VA.heap.size, 0, none⟩) hsDAne (.int .i64 3)).awayG int_any_ (p := ⟨VA.heap.size, 1, none⟩) hsDAne (.slice LA 3 cA)).awayG int_any_ (p := ⟨VA.heap.size, 2, none⟩) hsDAne (.slice LB 3 cB)).awayG int_any_ (p := ⟨VA.heap.size, 3, none⟩) hsDAne (.int .i64 0))
          obtain ⟨VC_5, qqVC_5⟩ : ∃ W', ((((VC.setCell ⟨VA.heap.size, 0, none⟩ (.int .i64 3)).setCell ⟨VA.heap.size, 1, none⟩ (.slice LA 3 cA)).setCell ⟨VA.heap.size, 2, none⟩ (.slice LB 3 cB)).setCell ⟨VA.heap.size, 3, none⟩ (.int .i64 0)) = W' := ⟨_, rfl⟩
          rw [qqVC_5] at hV0_1_2_3_4_5 A B hsA hsB hsC hsD ⊢
          clear qqVC_5 Ac0 Af0 Ac1 Af1 Ac2 Af2 Ac3 Af3
          refine ordB_only (opB_call rfl rfl (fun K hK => ?_))
          have Bc0 := B.cell 0
          have Bf0 := B.frozen 0
          have Bc1 := B.cell 1
          have Bf1 := B.frozen 1
          have Bc2 := B.cell 2
          have Bf2 := B.frozen 2
          have Bc3 := B.cell 3
          have Bf3 := B.frozen 3
          simp at Bc0 Bc1 Bc2 Bc3
          go_simp
          refine hK.out _ _ ((((hV0_1_2_3_4_5.setCell (p := ⟨VA_2.heap.size, 0, none⟩) Bg _).setCell (p := ⟨VA_2.heap.size, 1, none⟩) Bg _).setCell (p := ⟨VA_2.heap.size, 2, none⟩) Bg _).setCell (p := ⟨VA_2.heap.size, 3, none⟩) Bg _) (fun hV0_1_2_3_4_5_6 => ?_)
          have B := ((((B.set_ 0 (.int .i64 1)).set_ 1 (.slice LC 0 cC)).set_ 2 (.slice LD 1 cD)).set_ 3 (.int .i64 0))
          have Ane : VA.heap.size ≠ VA_2.heap.size := by first | exact A_B | exact B_A.symm
          have A := ((((A.far (p := ⟨VA_2.heap.size, 0, none⟩) Ane (.int .i64 1)).far (p := ⟨VA_2.heap.size, 1, none⟩) Ane (.slice LC 0 cC)).far (p := ⟨VA_2.heap.size, 2, none⟩) Ane (.slice LD 1 cD)).far (p := ⟨VA_2.heap.size, 3, none⟩) Ane (.int .i64 0))
          have hsABne : ∀ a, LA = some a → s20w.g.ls ≠ [] → a.block ≠ VA_2.heap.size := fun a h hn => by have h1 := hoA a h; have h2 := huA hn a h; omega
          have hsA := ((((hsA.awayG lk_any (p := ⟨VA_2.heap.size, 0, none⟩) hsABne (.int .i64 1)).awayG lk_any (p := ⟨VA_2.heap.size, 1, none⟩) hsABne (.slice LC 0 cC)).awayG lk_any (p := ⟨VA_2.heap.size, 2, none⟩) hsABne (.slice LD 1 cD)).awayG lk_any (p := ⟨VA_2.heap.size, 3, none⟩) hsABne (.int .i64 0))
          have hsBBne : ∀ a, LB = some a → s20w.last ≠ [] → a.block ≠ VA_2.heap.size := fun a h hn => by have h1 := hoB a h; have h2 := huB hn a h; omega
          have hsB := ((((hsB.awayG int_any_ (p := ⟨VA_2.heap.size, 0, none⟩) hsBBne (.int .i64 1)).awayG int_any_ (p := ⟨VA_2.heap.size, 1, none⟩) hsBBne (.slice LC 0 cC)).awayG int_any_ (p := ⟨VA_2.heap.size, 2, none⟩) hsBBne (.slice LD 1 cD)).awayG int_any_ (p := ⟨VA_2.heap.size, 3, none⟩) hsBBne (.int .i64 0))
          have hsCBne : ∀ a, LC = some a → s20o.g.ls ≠ [] → a.block ≠ VA_2.heap.size := fun a h hn => by have h1 := hoC a h; have h2 := huC hn a h; omega
          have hsC := ((((hsC.awayG lk_any (p := ⟨VA_2.heap.size, 0, none⟩) hsCBne (.int .i64 1)).awayG lk_any (p := ⟨VA_2.heap.size, 1, none⟩) hsCBne (.slice LC 0 cC)).awayG lk_any (p := ⟨VA_2.heap.size, 2, none⟩) hsCBne (.slice LD 1 cD)).awayG lk_any (p := ⟨VA_2.heap.size, 3, none⟩) hsCBne (.int .i64 0))
          have hsDBne : ∀ a, LD = some a → s20o.last ≠ [] → a.block ≠ VA_2.heap.size := fun a h hn => by have h1 := hoD a h; have h2 := huD hn a h; omega
          have hsD := ((((hsD.awayG int_any_ (p := ⟨VA_2.heap.size, 0, none⟩) hsDBne (.int .i64 1)).awayG int_any_ (p := ⟨VA_2.heap.size, 1, none⟩) hsDBne (.slice LC 0 cC)).awayG int_any_ (p := ⟨VA_2.heap.size, 2, none⟩) hsDBne (.slice LD 1 cD)).awayG int_any_ (p := ⟨VA_2.heap.size, 3, none⟩) hsDBne (.int .i64 0))
          obtain ⟨VC_5_6, qqVC_5_6⟩ : ∃ W', ((((VC_5.setCell ⟨VA_2.heap.size, 0, none⟩ (.int .i64 1)).setCell ⟨VA_2.heap.size, 1, none⟩ (.slice LC 0 cC)).setCell ⟨VA_2.heap.size, 2, none⟩ (.slice LD 1 cD)).setCell ⟨VA_2.heap.size, 3, none⟩ (.int .i64 0)) = W' := ⟨_, rfl⟩
          rw [qqVC_5_6] at hV0_1_2_3_4_5_6 B A hsA hsB hsC hsD ⊢
          clear qqVC_5_6 Bc0 Bf0 Bc1 Bf1 Bc2 Bf2 Bc3 Bf3
          refine ordB_nil ?_
          go_wp2_with fail
          go_meet
          have A2 : Blk VC_5_6 VA.heap.size 45 #[.int .i64 3, .slice LA 3 cA, .slice LB 3 cB, .int .i64 0] := by simpa using A
          have B2 : Blk VC_5_6 VA_2.heap.size 45 #[.int .i64 1, .slice LC 0 cC, .slice LD 1 cD, .int .i64 0] := by simpa using B
          exact ⟨_, _, LA, LB, LC, LD, cA, cB, cC, cD, rfl, rfl, ⟨A2, hsA, hsB, hkA⟩, ⟨B2, hsC, hsD, hkC⟩, hV0_1_2_3_4_5_6⟩
      · go_simp
        refine hK.out _ _ (hV0_1.alloc hV0_1.size _) (fun hV0_1_2 => ?_)
        have B := Blk.new VA 45 #[.int .i64 0, .slice none 0 0, .slice none 0 0, .int .i64 0]
        have Bb := nw (.cells #[.int .i64 0, .slice none 0 0, .slice none 0 0, .int .i64 0] 45) (Below.refl VA.heap.size VA)
        have Bg := hV0_1.size
        obtain ⟨VA_2, qqVA_2⟩ : ∃ W', VA.alloc (.cells #[.int .i64 0, .slice none 0 0, .slice none 0 0, .int .i64 0] 45) = W' := ⟨_, rfl⟩
        rw [qqVA_2] at hV0_1_2 B Bb ⊢
        have hsA := hsA.below keeps_lk Bb
        have hsB := hsB.below keeps_int Bb
        have Blt := B.lt
        clear qqVA_2
        refine ordB_fork (opB_call rfl rfl (fun K hK => ?_)) (opB_call rfl rfl (fun K hK => ?_))
        · go_simp
          go_at_call 8
          refine (s20_build2 (HS.out.mono hV0_1_2)).mono ?_
          rintro e VC ⟨LC, LD, cC, cD, rfl, hsC, hsD, hkC, hbC, hoC, hoD⟩
          refine hK.out _ _ (hV0_1_2.trans (hbC.mono hV0_1_2.size)) (fun hV0_1_2_3 => ?_)
          have B := B.below hbC B.lt
          have hsA := hsA.below keeps_lk hbC
          have hsB := hsB.below keeps_int hbC
          have hz_3 := hbC.size
          have huC := hsC.blkLt
          have huD := hsD.blkLt
          refine ordB_only (opB_call rfl rfl (fun K hK => ?_))
          have B_A := Nat.ne_of_lt B.lt
          go_simp
          refine hK.out _ _ (hV0_1_2_3.alloc hV0_1_2_3.size _) (fun hV0_1_2_3_4 => ?_)
          have A := Blk.new VC 45 #[.int .i64 0, .slice none 0 0, .slice none 0 0, .int .i64 0]
          have Ab := nw (.cells #[.int .i64 0, .slice none 0 0, .slice none 0 0, .int .i64 0] 45) (Below.refl VC.heap.size VC)
          have Ag := hV0_1_2_3.size
          obtain ⟨VC_4, qqVC_4⟩ : ∃ W', VC.alloc (.cells #[.int .i64 0, .slice none 0 0, .slice none 0 0, .int .i64 0] 45) = W' := ⟨_, rfl⟩
          rw [qqVC_4] at hV0_1_2_3_4 A Ab ⊢
          have B := B.below Ab B.lt
          have hsA := hsA.below keeps_lk Ab
          have hsB := hsB.below keeps_int Ab
          have hsC := hsC.below keeps_lk Ab
          have hsD := hsD.below keeps_int Ab
          have Alt := A.lt
          clear qqVC_4
          refine ordB_only (opB_call rfl rfl (fun K hK => ?_))
          have Ac0 := A.cell 0
          have Af0 := A.frozen 0
          have Ac1 := A.cell 1
          have Af1 := A.frozen 1
          have Ac2 := A.cell 2
          have Af2 := A.frozen 2
          have Ac3 := A.cell 3
          have Af3 := A.frozen 3
          simp at Ac0 Ac1 Ac2 Ac3
          go_simp
          refine hK.out _ _ ((((hV0_1_2_3_4.setCell (p := ⟨VC.heap.size, 0, none⟩) Ag _).setCell (p := ⟨VC.heap.size, 1, none⟩) Ag _).setCell (p := ⟨VC.heap.size, 2, none⟩) Ag _).setCell (p := ⟨VC.heap.size, 3, none⟩) Ag _) (fun hV0_1_2_3_4_5 => ?_)
          have A := ((((A.set_ 0 (.int .i64 3)).set_ 1 (.slice LA 3 cA)).set_ 2 (.slice LB 3 cB)).set_ 3 (.int .i64 0))
          have Bne : VA.heap.size ≠ VC.heap.size := by first | exact B_A | exact A_B.symm
          have B := ((((B.far (p := ⟨VC.heap.size, 0, none⟩) Bne (.int .i64 3)).far (p := ⟨VC.heap.size, 1, none⟩) Bne (.slice LA 3 cA)).far (p := ⟨VC.heap.size, 2, none⟩) Bne (.slice LB 3 cB)).far (p := ⟨VC.heap.size, 3, none⟩) Bne (.int .i64 0))
          have hsAAne : ∀ a, LA = some a → s20w.g.ls ≠ [] → a.block ≠ VC.heap.size := fun a h hn => by have h1 := hoA a h; have h2 := huA hn a h; omega
          have hsA := ((((hsA.awayG lk_any (p := ⟨VC.heap.size, 0, none⟩) hsAAne (.int .i64 3)).awayG lk_any (p := ⟨VC.heap.size, 1, none⟩) hsAAne (.slice LA 3 cA)).awayG lk_any (p := ⟨VC.heap.size, 2, none⟩) hsAAne (.slice LB 3 cB)).awayG lk_any (p := ⟨VC.heap.size, 3, none⟩) hsAAne (.int .i64 0))
          have hsBAne : ∀ a, LB = some a → s20w.last ≠ [] → a.block ≠ VC.heap.size := fun a h hn => by have h1 := hoB a h; have h2 := huB hn a h; omega
          have hsB := ((((hsB.awayG int_any_ (p := ⟨VC.heap.size, 0, none⟩) hsBAne (.int .i64 3)).awayG int_any_ (p := ⟨VC.heap.size, 1, none⟩) hsBAne (.slice LA 3 cA)).awayG int_any_ (p := ⟨VC.heap.size, 2, none⟩) hsBAne (.slice LB 3 cB)).awayG int_any_ (p := ⟨VC.heap.size, 3, none⟩) hsBAne (.int .i64 0))
          have hsCAne : ∀ a, LC = some a → s20o.g.ls ≠ [] → a.block ≠ VC.heap.size := fun a h hn => by have h1 := hoC a h; have h2 := huC hn a h; omega
          have hsC := ((((hsC.awayG lk_any (p := ⟨VC.heap.size, 0, none⟩) hsCAne (.int .i64 3)).awayG lk_any (p := ⟨VC.heap.size, 1, none⟩) hsCAne (.slice LA 3 cA)).awayG lk_any (p := ⟨VC.heap.size, 2, none⟩) hsCAne (.slice LB 3 cB)).awayG lk_any (p := ⟨VC.heap.size, 3, none⟩) hsCAne (.int .i64 0))
          have hsDAne : ∀ a, LD = some a → s20o.last ≠ [] → a.block ≠ VC.heap.size := fun a h hn => by have h1 := hoD a h; have h2 := huD hn a h; omega
          have hsD := ((((hsD.awayG int_any_ (p := ⟨VC.heap.size, 0, none⟩) hsDAne (.int .i64 3)).awayG int_any_ (p := ⟨VC.heap.size, 1, none⟩) hsDAne (.slice LA 3 cA)).awayG int_any_ (p := ⟨VC.heap.size, 2, none⟩) hsDAne (.slice LB 3 cB)).awayG int_any_ (p := ⟨VC.heap.size, 3, none⟩) hsDAne (.int .i64 0))
          obtain ⟨VC_4_5, qqVC_4_5⟩ : ∃ W', ((((VC_4.setCell ⟨VC.heap.size, 0, none⟩ (.int .i64 3)).setCell ⟨VC.heap.size, 1, none⟩ (.slice LA 3 cA)).setCell ⟨VC.heap.size, 2, none⟩ (.slice LB 3 cB)).setCell ⟨VC.heap.size, 3, none⟩ (.int .i64 0)) = W' := ⟨_, rfl⟩
          rw [qqVC_4_5] at hV0_1_2_3_4_5 A B hsA hsB hsC hsD ⊢
          clear qqVC_4_5 Ac0 Af0 Ac1 Af1 Ac2 Af2 Ac3 Af3
          refine ordB_only (opB_call rfl rfl (fun K hK => ?_))
          have Bc0 := B.cell 0
          have Bf0 := B.frozen 0
          have Bc1 := B.cell 1
          have Bf1 := B.frozen 1
          have Bc2 := B.cell 2
          have Bf2 := B.frozen 2
          have Bc3 := B.cell 3
          have Bf3 := B.frozen 3
          simp at Bc0 Bc1 Bc2 Bc3
          go_simp
          refine hK.out _ _ ((((hV0_1_2_3_4_5.setCell (p := ⟨VA.heap.size, 0, none⟩) Bg _).setCell (p := ⟨VA.heap.size, 1, none⟩) Bg _).setCell (p := ⟨VA.heap.size, 2, none⟩) Bg _).setCell (p := ⟨VA.heap.size, 3, none⟩) Bg _) (fun hV0_1_2_3_4_5_6 => ?_)
          have B := ((((B.set_ 0 (.int .i64 1)).set_ 1 (.slice LC 0 cC)).set_ 2 (.slice LD 1 cD)).set_ 3 (.int .i64 0))
          have Ane : VC.heap.size ≠ VA.heap.size := by first | exact A_B | exact B_A.symm
          have A := ((((A.far (p := ⟨VA.heap.size, 0, none⟩) Ane (.int .i64 1)).far (p := ⟨VA.heap.size, 1, none⟩) Ane (.slice LC 0 cC)).far (p := ⟨VA.heap.size, 2, none⟩) Ane (.slice LD 1 cD)).far (p := ⟨VA.heap.size, 3, none⟩) Ane (.int .i64 0))
          have hsABne : ∀ a, LA = some a → s20w.g.ls ≠ [] → a.block ≠ VA.heap.size := fun a h hn => by have h1 := hoA a h; have h2 := huA hn a h; omega
          have hsA := ((((hsA.awayG lk_any (p := ⟨VA.heap.size, 0, none⟩) hsABne (.int .i64 1)).awayG lk_any (p := ⟨VA.heap.size, 1, none⟩) hsABne (.slice LC 0 cC)).awayG lk_any (p := ⟨VA.heap.size, 2, none⟩) hsABne (.slice LD 1 cD)).awayG lk_any (p := ⟨VA.heap.size, 3, none⟩) hsABne (.int .i64 0))
          have hsBBne : ∀ a, LB = some a → s20w.last ≠ [] → a.block ≠ VA.heap.size := fun a h hn => by have h1 := hoB a h; have h2 := huB hn a h; omega
          have hsB := ((((hsB.awayG int_any_ (p := ⟨VA.heap.size, 0, none⟩) hsBBne (.int .i64 1)).awayG int_any_ (p := ⟨VA.heap.size, 1, none⟩) hsBBne (.slice LC 0 cC)).awayG int_any_ (p := ⟨VA.heap.size, 2, none⟩) hsBBne (.slice LD 1 cD)).awayG int_any_ (p := ⟨VA.heap.size, 3, none⟩) hsBBne (.int .i64 0))
          have hsCBne : ∀ a, LC = some a → s20o.g.ls ≠ [] → a.block ≠ VA.heap.size := fun a h hn => by have h1 := hoC a h; have h2 := huC hn a h; omega
          have hsC := ((((hsC.awayG lk_any (p := ⟨VA.heap.size, 0, none⟩) hsCBne (.int .i64 1)).awayG lk_any (p := ⟨VA.heap.size, 1, none⟩) hsCBne (.slice LC 0 cC)).awayG lk_any (p := ⟨VA.heap.size, 2, none⟩) hsCBne (.slice LD 1 cD)).awayG lk_any (p := ⟨VA.heap.size, 3, none⟩) hsCBne (.int .i64 0))
          have hsDBne : ∀ a, LD = some a → s20o.last ≠ [] → a.block ≠ VA.heap.size := fun a h hn => by have h1 := hoD a h; have h2 := huD hn a h; omega
          have hsD := ((((hsD.awayG int_any_ (p := ⟨VA.heap.size, 0, none⟩) hsDBne (.int .i64 1)).awayG int_any_ (p := ⟨VA.heap.size, 1, none⟩) hsDBne (.slice LC 0 cC)).awayG int_any_ (p := ⟨VA.heap.size, 2, none⟩) hsDBne (.slice LD 1 cD)).awayG int_any_ (p := ⟨VA.heap.size, 3, none⟩) hsDBne (.int .i64 0))
          obtain ⟨VC_4_5_6, qqVC_4_5_6⟩ : ∃ W', ((((VC_4_5.setCell ⟨VA.heap.size, 0, none⟩ (.int .i64 1)).setCell ⟨VA.heap.size, 1, none⟩ (.slice LC 0 cC)).setCell ⟨VA.heap.size, 2, none⟩ (.slice LD 1 cD)).setCell ⟨VA.heap.size, 3, none⟩ (.int .i64 0)) = W' := ⟨_, rfl⟩
          rw [qqVC_4_5_6] at hV0_1_2_3_4_5_6 B A hsA hsB hsC hsD ⊢
          clear qqVC_4_5_6 Bc0 Bf0 Bc1 Bf1 Bc2 Bf2 Bc3 Bf3
          refine ordB_nil ?_
          go_wp2_with fail
          go_meet
          have A2 : Blk VC_4_5_6 VC.heap.size 45 #[.int .i64 3, .slice LA 3 cA, .slice LB 3 cB, .int .i64 0] := by simpa using A
          have B2 : Blk VC_4_5_6 VA.heap.size 45 #[.int .i64 1, .slice LC 0 cC, .slice LD 1 cD, .int .i64 0] := by simpa using B
          exact ⟨_, _, LA, LB, LC, LD, cA, cB, cC, cD, rfl, rfl, ⟨A2, hsA, hsB, hkA⟩, ⟨B2, hsC, hsD, hkC⟩, hV0_1_2_3_4_5_6⟩
        · have B_A := Nat.ne_of_lt B.lt
          go_simp
          refine hK.out _ _ (hV0_1_2.alloc hV0_1_2.size _) (fun hV0_1_2_3 => ?_)
          have A := Blk.new VA_2 45 #[.int .i64 0, .slice none 0 0, .slice none 0 0, .int .i64 0]
          have Ab := nw (.cells #[.int .i64 0, .slice none 0 0, .slice none 0 0, .int .i64 0] 45) (Below.refl VA_2.heap.size VA_2)
          have Ag := hV0_1_2.size
          obtain ⟨VA_2_3, qqVA_2_3⟩ : ∃ W', VA_2.alloc (.cells #[.int .i64 0, .slice none 0 0, .slice none 0 0, .int .i64 0] 45) = W' := ⟨_, rfl⟩
          rw [qqVA_2_3] at hV0_1_2_3 A Ab ⊢
          have B := B.below Ab B.lt
          have hsA := hsA.below keeps_lk Ab
          have hsB := hsB.below keeps_int Ab
          have Alt := A.lt
          clear qqVA_2_3
          refine ordB_only (opB_call rfl rfl (fun K hK => ?_))
          go_simp
          go_at_call 8
          refine (s20_build2 (HS.out.mono hV0_1_2_3)).mono ?_
          rintro e VC ⟨LC, LD, cC, cD, rfl, hsC, hsD, hkC, hbC, hoC, hoD⟩
          refine hK.out _ _ (hV0_1_2_3.trans (hbC.mono hV0_1_2_3.size)) (fun hV0_1_2_3_4 => ?_)
          have B := B.below hbC B.lt
          have A := A.below hbC A.lt
          have hsA := hsA.below keeps_lk hbC
          have hsB := hsB.below keeps_int hbC
          have hz_4 := hbC.size
          have huC := hsC.blkLt
          have huD := hsD.blkLt
          refine ordB_only (opB_call rfl rfl (fun K hK => ?_))
          have Ac0 := A.cell 0
          have Af0 := A.frozen 0
          have Ac1 := A.cell 1
          have Af1 := A.frozen 1
          have Ac2 := A.cell 2
          have Af2 := A.frozen 2
          have Ac3 := A.cell 3
          have Af3 := A.frozen 3
          simp at Ac0 Ac1 Ac2 Ac3
          go_simp
          refine hK.out _ _ ((((hV0_1_2_3_4.setCell (p := ⟨VA_2.heap.size, 0, none⟩) Ag _).setCell (p := ⟨VA_2.heap.size, 1, none⟩) Ag _).setCell (p := ⟨VA_2.heap.size, 2, none⟩) Ag _).setCell (p := ⟨VA_2.heap.size, 3, none⟩) Ag _) (fun hV0_1_2_3_4_5 => ?_)
          have A := ((((A.set_ 0 (.int .i64 3)).set_ 1 (.slice LA 3 cA)).set_ 2 (.slice LB 3 cB)).set_ 3 (.int .i64 0))
          have Bne : VA.heap.size ≠ VA_2.heap.size := by first | exact B_A | exact A_B.symm
          have B := ((((B.far (p := ⟨VA_2.heap.size, 0, none⟩) Bne (.int .i64 3)).far (p := ⟨VA_2.heap.size, 1, none⟩) Bne (.slice LA 3 cA)).far (p := ⟨VA_2.heap.size, 2, none⟩) Bne (.slice LB 3 cB)).far (p := ⟨VA_2.heap.size, 3, none⟩) Bne (.int .i64 0))
          have hsAAne : ∀ a, LA = some a → s20w.g.ls ≠ [] → a.block ≠ VA_2.heap.size := fun a h hn => by have h1 := hoA a h; have h2 := huA hn a h; omega
          have hsA := ((((hsA.awayG lk_any (p := ⟨VA_2.heap.size, 0, none⟩) hsAAne (.int .i64 3)).awayG lk_any (p := ⟨VA_2.heap.size, 1, none⟩) hsAAne (.slice LA 3 cA)).awayG lk_any (p := ⟨VA_2.heap.size, 2, none⟩) hsAAne (.slice LB 3 cB)).awayG lk_any (p := ⟨VA_2.heap.size, 3, none⟩) hsAAne (.int .i64 0))
          have hsBAne : ∀ a, LB = some a → s20w.last ≠ [] → a.block ≠ VA_2.heap.size := fun a h hn => by have h1 := hoB a h; have h2 := huB hn a h; omega
          have hsB := ((((hsB.awayG int_any_ (p := ⟨VA_2.heap.size, 0, none⟩) hsBAne (.int .i64 3)).awayG int_any_ (p := ⟨VA_2.heap.size, 1, none⟩) hsBAne (.slice LA 3 cA)).awayG int_any_ (p := ⟨VA_2.heap.size, 2, none⟩) hsBAne (.slice LB 3 cB)).awayG int_any_ (p := ⟨VA_2.heap.size, 3, none⟩) hsBAne (.int .i64 0))
          have hsCAne : ∀ a, LC = some a → s20o.g.ls ≠ [] → a.block ≠ VA_2.heap.size := fun a h hn => by have h1 := hoC a h; have h2 := huC hn a h; omega
          have hsC := ((((hsC.awayG lk_any (p := ⟨VA_2.heap.size, 0, none⟩) hsCAne (.int .i64 3)).awayG lk_any (p := ⟨VA_2.heap.size, 1, none⟩) hsCAne (.slice LA 3 cA)).awayG lk_any (p := ⟨VA_2.heap.size, 2, none⟩) hsCAne (.slice LB 3 cB)).awayG lk_any (p := ⟨VA_2.heap.size, 3, none⟩) hsCAne (.int .i64 0))
          have hsDAne : ∀ a, LD = some a → s20o.last ≠ [] → a.block ≠ VA_2.heap.size := fun a h hn => by have h1 := hoD a h; have h2 := huD hn a h; omega
          have hsD := ((((hsD.awayG int_any_ (p := ⟨VA_2.heap.size, 0, none⟩) hsDAne (.int .i64 3)).awayG int_any_ (p := ⟨VA_2.heap.size, 1, none⟩) hsDAne (.slice LA 3 cA)).awayG int_any_ (p := ⟨VA_2.heap.size, 2, none⟩) hsDAne (.slice LB 3 cB)).awayG int_any_ (p := ⟨VA_2.heap.size, 3, none⟩) hsDAne (.int .i64 0))
          obtain ⟨VC_5, qqVC_5⟩ : ∃ W', ((((VC.setCell ⟨VA_2.heap.size, 0, none⟩ (.int .i64 3)).setCell ⟨VA_2.heap.size, 1, none⟩ (.slice LA 3 cA)).setCell ⟨VA_2.heap.size, 2, none⟩ (.slice LB 3 cB)).setCell ⟨VA_2.heap.size, 3, none⟩ (.int .i64 0)) = W' := ⟨_, rfl⟩
          rw [qqVC_5] at hV0_1_2_3_4_5 A B hsA hsB hsC hsD ⊢
          clear qqVC_5 Ac0 Af0 Ac1 Af1 Ac2 Af2 Ac3 Af3
          refine ordB_only (opB_call rfl rfl (fun K hK => ?_))
          have Bc0 := B.cell 0
          have Bf0 := B.frozen 0
          have Bc1 := B.cell 1
          have Bf1 := B.frozen 1
          have Bc2 := B.cell 2
          have Bf2 := B.frozen 2
          have Bc3 := B.cell 3
          have Bf3 := B.frozen 3
          simp at Bc0 Bc1 Bc2 Bc3
          go_simp
          refine hK.out _ _ ((((hV0_1_2_3_4_5.setCell (p := ⟨VA.heap.size, 0, none⟩) Bg _).setCell (p := ⟨VA.heap.size, 1, none⟩) Bg _).setCell (p := ⟨VA.heap.size, 2, none⟩) Bg _).setCell (p := ⟨VA.heap.size, 3, none⟩) Bg _) (fun hV0_1_2_3_4_5_6 => ?_)
          have B := ((((B.set_ 0 (.int .i64 1)).set_ 1 (.slice LC 0 cC)).set_ 2 (.slice LD 1 cD)).set_ 3 (.int .i64 0))
          have Ane : VA_2.heap.size ≠ VA.heap.size := by first | exact A_B | exact B_A.symm
          have A := ((((A.far (p := ⟨VA.heap.size, 0, none⟩) Ane (.int .i64 1)).far (p := ⟨VA.heap.size, 1, none⟩) Ane (.slice LC 0 cC)).far (p := ⟨VA.heap.size, 2, none⟩) Ane (.slice LD 1 cD)).far (p := ⟨VA.heap.size, 3, none⟩) Ane (.int .i64 0))
          have hsABne : ∀ a, LA = some a → s20w.g.ls ≠ [] → a.block ≠ VA.heap.size := fun a h hn => by have h1 := hoA a h; have h2 := huA hn a h; omega
          have hsA := ((((hsA.awayG lk_any (p := ⟨VA.heap.size, 0, none⟩) hsABne (.int .i64 1)).awayG lk_any (p := ⟨VA.heap.size, 1, none⟩) hsABne (.slice LC 0 cC)).awayG lk_any (p := ⟨VA.heap.size, 2, none⟩) hsABne (.slice LD 1 cD)).awayG lk_any (p := ⟨VA.heap.size, 3, none⟩) hsABne (.int .i64 0))
          have hsBBne : ∀ a, LB = some a → s20w.last ≠ [] → a.block ≠ VA.heap.size := fun a h hn => by have h1 := hoB a h; have h2 := huB hn a h; omega
          have hsB := ((((hsB.awayG int_any_ (p := ⟨VA.heap.size, 0, none⟩) hsBBne (.int .i64 1)).awayG int_any_ (p := ⟨VA.heap.size, 1, none⟩) hsBBne (.slice LC 0 cC)).awayG int_any_ (p := ⟨VA.heap.size, 2, none⟩) hsBBne (.slice LD 1 cD)).awayG int_any_ (p := ⟨VA.heap.size, 3, none⟩) hsBBne (.int .i64 0))
          have hsCBne : ∀ a, LC = some a → s20o.g.ls ≠ [] → a.block ≠ VA.heap.size := fun a h hn => by have h1 := hoC a h; have h2 := huC hn a h; omega
          have hsC := ((((hsC.awayG lk_any (p := ⟨VA.heap.size, 0, none⟩) hsCBne (.int .i64 1)).awayG lk_any (p := ⟨VA.heap.size, 1, none⟩) hsCBne (.slice LC 0 cC)).awayG lk_any (p := ⟨VA.heap.size, 2, none⟩) hsCBne (.slice LD 1 cD)).awayG lk_any (p := ⟨VA.heap.size, 3, none⟩) hsCBne (.int .i64 0))
          have hsDBne : ∀ a, LD = some a → s20o.last ≠ [] → a.block ≠ VA.heap.size := fun a h hn => by have h1 := hoD a h; have h2 := huD hn a h; omega
          have hsD := ((((hsD.awayG int_any_ (p := ⟨VA.heap.size, 0, none⟩) hsDBne (.int .i64 1)).awayG int_any_ (p := ⟨VA.heap.size, 1, none⟩) hsDBne (.slice LC 0 cC)).awayG int_any_ (p := ⟨VA.heap.size, 2, none⟩) hsDBne (.slice LD 1 cD)).awayG int_any_ (p := ⟨VA.heap.size, 3, none⟩) hsDBne (.int .i64 0))
          obtain ⟨VC_5_6, qqVC_5_6⟩ : ∃ W', ((((VC_5.setCell ⟨VA.heap.size, 0, none⟩ (.int .i64 1)).setCell ⟨VA.heap.size, 1, none⟩ (.slice LC 0 cC)).setCell ⟨VA.heap.size, 2, none⟩ (.slice LD 1 cD)).setCell ⟨VA.heap.size, 3, none⟩ (.int .i64 0)) = W' := ⟨_, rfl⟩
          rw [qqVC_5_6] at hV0_1_2_3_4_5_6 B A hsA hsB hsC hsD ⊢
          clear qqVC_5_6 Bc0 Bf0 Bc1 Bf1 Bc2 Bf2 Bc3 Bf3
          refine ordB_nil ?_
          go_wp2_with fail
          go_meet
          have A2 : Blk VC_5_6 VA_2.heap.size 45 #[.int .i64 3, .slice LA 3 cA, .slice LB 3 cB, .int .i64 0] := by simpa using A
          have B2 : Blk VC_5_6 VA.heap.size 45 #[.int .i64 1, .slice LC 0 cC, .slice LD 1 cD, .int .i64 0] := by simpa using B
          exact ⟨_, _, LA, LB, LC, LD, cA, cB, cC, cD, rfl, rfl, ⟨A2, hsA, hsB, hkA⟩, ⟨B2, hsC, hsD, hkC⟩, hV0_1_2_3_4_5_6⟩
    · go_simp
      refine hK.out _ _ (hV0.alloc hV0.size _) (fun hV0_1 => ?_)
      have A := Blk.new V0 45 #[.int .i64 0, .slice none 0 0, .slice none 0 0, .int .i64 0]
      have Ab := nw (.cells #[.int .i64 0, .slice none 0 0, .slice none 0 0, .int .i64 0] 45) (Below.refl V0.heap.size V0)
      have Ag := hV0.size
      obtain ⟨V0_1, qqV0_1⟩ : ∃ W', V0.alloc (.cells #[.int .i64 0, .slice none 0 0, .slice none 0 0, .int .i64 0] 45) = W' := ⟨_, rfl⟩
      rw [qqV0_1] at hV0_1 A Ab ⊢
      have Alt := A.lt
      clear qqV0_1
      refine ordB_fork (opB_call rfl rfl (fun K hK => ?_)) (opB_call rfl rfl (fun K hK => ?_))
      · go_simp
        go_at_call 8
        refine (s20_build1 (HS.out.mono hV0_1)).mono ?_
        rintro e VA ⟨LA, LB, cA, cB, rfl, hsA, hsB, hkA, hbA, hoA, hoB⟩
        refine hK.out _ _ (hV0_1.trans (hbA.mono hV0_1.size)) (fun hV0_1_2 => ?_)
        have A := A.below hbA A.lt
        have hz_2 := hbA.size
        have huA := hsA.blkLt
        have huB := hsB.blkLt
        refine ordB_fork (opB_call rfl rfl (fun K hK => ?_)) (opB_call rfl rfl (fun K hK => ?_))
        · go_simp
          go_at_call 8
          refine (s20_build2 (HS.out.mono hV0_1_2)).mono ?_
          rintro e VC ⟨LC, LD, cC, cD, rfl, hsC, hsD, hkC, hbC, hoC, hoD⟩
          refine hK.out _ _ (hV0_1_2.trans (hbC.mono hV0_1_2.size)) (fun hV0_1_2_3 => ?_)
          have A := A.below hbC A.lt
          have hsA := hsA.below keeps_lk hbC
          have hsB := hsB.below keeps_int hbC
          have hz_3 := hbC.size
          have huC := hsC.blkLt
          have huD := hsD.blkLt
          refine ordB_only (opB_call rfl rfl (fun K hK => ?_))
          have A_B := Nat.ne_of_lt A.lt
          go_simp
          refine hK.out _ _ (hV0_1_2_3.alloc hV0_1_2_3.size _) (fun hV0_1_2_3_4 => ?_)
          have B := Blk.new VC 45 #[.int .i64 0, .slice none 0 0, .slice none 0 0, .int .i64 0]
          have Bb := nw (.cells #[.int .i64 0, .slice none 0 0, .slice none 0 0, .int .i64 0] 45) (Below.refl VC.heap.size VC)
          have Bg := hV0_1_2_3.size
          obtain ⟨VC_4, qqVC_4⟩ : ∃ W', VC.alloc (.cells #[.int .i64 0, .slice none 0 0, .slice none 0 0, .int .i64 0] 45) = W' := ⟨_, rfl⟩
          rw [qqVC_4] at hV0_1_2_3_4 B Bb ⊢
          have A := A.below Bb A.lt
          have hsA := hsA.below keeps_lk Bb
          have hsB := hsB.below keeps_int Bb
          have hsC := hsC.below keeps_lk Bb
          have hsD := hsD.below keeps_int Bb
          have Blt := B.lt
          clear qqVC_4
          refine ordB_only (opB_call rfl rfl (fun K hK => ?_))
          have Ac0 := A.cell 0
          have Af0 := A.frozen 0
          have Ac1 := A.cell 1
          have Af1 := A.frozen 1
          have Ac2 := A.cell 2
          have Af2 := A.frozen 2
          have Ac3 := A.cell 3
          have Af3 := A.frozen 3
          simp at Ac0 Ac1 Ac2 Ac3
          go_simp
          refine hK.out _ _ ((((hV0_1_2_3_4.setCell (p := ⟨V0.heap.size, 0, none⟩) Ag _).setCell (p := ⟨V0.heap.size, 1, none⟩) Ag _).setCell (p := ⟨V0.heap.size, 2, none⟩) Ag _).setCell (p := ⟨V0.heap.size, 3, none⟩) Ag _) (fun hV0_1_2_3_4_5 => ?_)
          have A := ((((A.set_ 0 (.int .i64 3)).set_ 1 (.slice LA 3 cA)).set_ 2 (.slice LB 3 cB)).set_ 3 (.int .i64 0))
          have Bne : VC.heap.size ≠ V0.heap.size := by first | exact B_A | exact A_B.symm
          have B := ((((B.far (p := ⟨V0.heap.size, 0, none⟩) Bne (.int .i64 3)).far (p := ⟨V0.heap.size, 1, none⟩) Bne (.slice LA 3 cA)).far (p := ⟨V0.heap.size, 2, none⟩) Bne (.slice LB 3 cB)).far (p := ⟨V0.heap.size, 3, none⟩) Bne (.int .i64 0))
          have hsAAne : ∀ a, LA = some a → s20w.g.ls ≠ [] → a.block ≠ V0.heap.size := fun a h hn => by have h1 := hoA a h; have h2 := huA hn a h; omega
          have hsA := ((((hsA.awayG lk_any (p := ⟨V0.heap.size, 0, none⟩) hsAAne (.int .i64 3)).awayG lk_any (p := ⟨V0.heap.size, 1, none⟩) hsAAne (.slice LA 3 cA)).awayG lk_any (p := ⟨V0.heap.size, 2, none⟩) hsAAne (.slice LB 3 cB)).awayG lk_any (p := ⟨V0.heap.size, 3, none⟩) hsAAne (.int .i64 0))
          have hsBAne : ∀ a, LB = some a → s20w.last ≠ [] → a.block ≠ V0.heap.size := fun a h hn => by have h1 := hoB a h; have h2 := huB hn a h; omega
          have hsB := ((((hsB.awayG int_any_ (p := ⟨V0.heap.size, 0, none⟩) hsBAne (.int .i64 3)).awayG int_any_ (p := ⟨V0.heap.size, 1, none⟩) hsBAne (.slice LA 3 cA)).awayG int_any_ (p := ⟨V0.heap.size, 2, none⟩) hsBAne (.slice LB 3 cB)).awayG int_any_ (p := ⟨V0.heap.size, 3, none⟩) hsBAne (.int .i64 0))
          have hsCAne : ∀ a, LC = some a → s20o.g.ls ≠ [] → a.block ≠ V0.heap.size := fun a h hn => by have h1 := hoC a h; have h2 := huC hn a h; omega
          have hsC := ((((hsC.awayG lk_any (p := ⟨V0.heap.size, 0, none⟩) hsCAne (.int .i64 3)).awayG lk_any (p := ⟨V0.heap.size, 1, none⟩) hsCAne (.slice LA 3 cA)).awayG lk_any (p := ⟨V0.heap.size, 2, none⟩) hsCAne (.slice LB 3 cB)).awayG lk_any (p := ⟨V0.heap.size, 3, none⟩) hsCAne (.int .i64 0))
          have hsDAne : ∀ a, LD = some a → s20o.last ≠ [] → a.block ≠ V0.heap.size := fun a h hn => by have h1 := hoD a h; have h2 := huD hn a h; omega
          have hsD := ((((hsD.awayG int_any_ (p := ⟨V0.heap.size, 0, none⟩) hsDAne (.int .i64 3)).awayG int_any_ (p := ⟨V0.heap.size, 1, none⟩) hsDAne (.slice LA 3 cA)).awayG int_any_ (p := ⟨V0.heap.size, 2, none⟩) hsDAne (.slice LB 3 cB)).awayG int_any_ (p := ⟨V0.heap.size, 3, none⟩) hsDAne (.int .i64 0))
          obtain ⟨VC_4_5, qqVC_4_5⟩ : ∃ W', ((((VC_4.setCell ⟨V0.heap.size, 0, none⟩ (.int .i64 3)).setCell ⟨V0.heap.size, 1, none⟩ (.slice LA 3 cA)).setCell ⟨V0.heap.size, 2, none⟩ (.slice LB 3 cB)).setCell ⟨V0.heap.size, 3, none⟩ (.int .i64 0)) = W' := ⟨_, rfl⟩
          rw [qqVC_4_5] at hV0_1_2_3_4_5 A B hsA hsB hsC hsD ⊢
          clear qqVC_4_5 Ac0 Af0 Ac1 Af1 Ac2 Af2 Ac3 Af3
          refine ordB_only (opB_call rfl rfl (fun K hK => ?_))
          have Bc0 := B.cell 0
          have Bf0 := B.frozen 0
          have Bc1 := B.cell 1
          have Bf1 := B.frozen 1
          have Bc2 := B.cell 2
          have Bf2 := B.frozen 2
          have Bc3 := B.cell 3
          have Bf3 := B.frozen 3
          simp at Bc0 Bc1 Bc2 Bc3
          go_simp
          refine hK.out _ _ ((((hV0_1_2_3_4_5.setCell (p := ⟨VC.heap.size, 0, none⟩) Bg _).setCell (p := ⟨VC.heap.size, 1, none⟩) Bg _).setCell (p := ⟨VC.heap.size, 2, none⟩) Bg _).setCell (p := ⟨VC.heap.size, 3, none⟩) Bg _) (fun hV0_1_2_3_4_5_6 => ?_)
          have B := ((((B.set_ 0 (.int .i64 1)).set_ 1 (.slice LC 0 cC)).set_ 2 (.slice LD 1 cD)).set_ 3 (.int .i64 0))
          have Ane : V0.heap.size ≠ VC.heap.size := by first | exact A_B | exact B_A.symm
          have A := ((((A.far (p := ⟨VC.heap.size, 0, none⟩) Ane (.int .i64 1)).far (p := ⟨VC.heap.size, 1, none⟩) Ane (.slice LC 0 cC)).far (p := ⟨VC.heap.size, 2, none⟩) Ane (.slice LD 1 cD)).far (p := ⟨VC.heap.size, 3, none⟩) Ane (.int .i64 0))
          have hsABne : ∀ a, LA = some a → s20w.g.ls ≠ [] → a.block ≠ VC.heap.size := fun a h hn => by have h1 := hoA a h; have h2 := huA hn a h; omega
          have hsA := ((((hsA.awayG lk_any (p := ⟨VC.heap.size, 0, none⟩) hsABne (.int .i64 1)).awayG lk_any (p := ⟨VC.heap.size, 1, none⟩) hsABne (.slice LC 0 cC)).awayG lk_any (p := ⟨VC.heap.size, 2, none⟩) hsABne (.slice LD 1 cD)).awayG lk_any (p := ⟨VC.heap.size, 3, none⟩) hsABne (.int .i64 0))
          have hsBBne : ∀ a, LB = some a → s20w.last ≠ [] → a.block ≠ VC.heap.size := fun a h hn => by have h1 := hoB a h; have h2 := huB hn a h; omega
          have hsB := ((((hsB.awayG int_any_ (p := ⟨VC.heap.size, 0, none⟩) hsBBne (.int .i64 1)).awayG int_any_ (p := ⟨VC.heap.size, 1, none⟩) hsBBne (.slice LC 0 cC)).awayG int_any_ (p := ⟨VC.heap.size, 2, none⟩) hsBBne (.slice LD 1 cD)).awayG int_any_ (p := ⟨VC.heap.size, 3, none⟩) hsBBne (.int .i64 0))
          have hsCBne : ∀ a, LC = some a → s20o.g.ls ≠ [] → a.block ≠ VC.heap.size := fun a h hn => by have h1 := hoC a h; have h2 := huC hn a h; omega
          have hsC := ((((hsC.awayG lk_any (p := ⟨VC.heap.size, 0, none⟩) hsCBne (.int .i64 1)).awayG lk_any (p := ⟨VC.heap.size, 1, none⟩) hsCBne (.slice LC 0 cC)).awayG lk_any (p := ⟨VC.heap.size, 2, none⟩) hsCBne (.slice LD 1 cD)).awayG lk_any (p := ⟨VC.heap.size, 3, none⟩) hsCBne (.int .i64 0))
          have hsDBne : ∀ a, LD = some a → s20o.last ≠ [] → a.block ≠ VC.heap.size := fun a h hn => by have h1 := hoD a h; have h2 := huD hn a h; omega
          have hsD := ((((hsD.awayG int_any_ (p := ⟨VC.heap.size, 0, none⟩) hsDBne (.int .i64 1)).awayG int_any_ (p := ⟨VC.heap.size, 1, none⟩) hsDBne (.slice LC 0 cC)).awayG int_any_ (p := ⟨VC.heap.size, 2, none⟩) hsDBne (.slice LD 1 cD)).awayG int_any_ (p := ⟨VC.heap.size, 3, none⟩) hsDBne (.int .i64 0))
          obtain ⟨VC_4_5_6, qqVC_4_5_6⟩ : ∃ W', ((((VC_4_5.setCell ⟨VC.heap.size, 0, none⟩ (.int .i64 1)).setCell ⟨VC.heap.size, 1, none⟩ (.slice LC 0 cC)).setCell ⟨VC.heap.size, 2, none⟩ (.slice LD 1 cD)).setCell ⟨VC.heap.size, 3, none⟩ (.int .i64 0)) = W' := ⟨_, rfl⟩
          rw [qqVC_4_5_6] at hV0_1_2_3_4_5_6 B A hsA hsB hsC hsD ⊢
          clear qqVC_4_5_6 Bc0 Bf0 Bc1 Bf1 Bc2 Bf2 Bc3 Bf3
          refine ordB_nil ?_
          go_wp2_with fail
          go_meet
          have A2 : Blk VC_4_5_6 V0.heap.size 45 #[.int .i64 3, .slice LA 3 cA, .slice LB 3 cB, .int .i64 0] := by simpa using A
          have B2 : Blk VC_4_5_6 VC.heap.size 45 #[.int .i64 1, .slice LC 0 cC, .slice LD 1 cD, .int .i64 0] := by simpa using B
          exact ⟨_, _, LA, LB, LC, LD, cA, cB, cC, cD, rfl, rfl, ⟨A2, hsA, hsB, hkA⟩, ⟨B2, hsC, hsD, hkC⟩, hV0_1_2_3_4_5_6⟩
        · have A_B := Nat.ne_of_lt A.lt
          go_simp
          refine hK.out _ _ (hV0_1_2.alloc hV0_1_2.size _) (fun hV0_1_2_3 => ?_)
          have B := Blk.new VA 45 #[.int .i64 0, .slice none 0 0, .slice none 0 0, .int .i64 0]
          have Bb := nw (.cells #[.int .i64 0, .slice none 0 0, .slice none 0 0, .int .i64 0] 45) (Below.refl VA.heap.size VA)
          have Bg := hV0_1_2.size
          obtain ⟨VA_3, qqVA_3⟩ : ∃ W', VA.alloc (.cells #[.int .i64 0, .slice none 0 0, .slice none 0 0, .int .i64 0] 45) = W' := ⟨_, rfl⟩
          rw [qqVA_3] at hV0_1_2_3 B Bb ⊢
          have A := A.below Bb A.lt
          have hsA := hsA.below keeps_lk Bb
          have hsB := hsB.below keeps_int Bb
          have Blt := B.lt
          clear qqVA_3
          refine ordB_only (opB_call rfl rfl (fun K hK => ?_))
          go_simp
          go_at_call 8
          refine (s20_build2 (HS.out.mono hV0_1_2_3)).mono ?_
          rintro e VC ⟨LC, LD, cC, cD, rfl, hsC, hsD, hkC, hbC, hoC, hoD⟩
          refine hK.out _ _ (hV0_1_2_3.trans (hbC.mono hV0_1_2_3.size)) (fun hV0_1_2_3_4 => ?_)
          have A := A.below hbC A.lt
          have B := B.below hbC B.lt
          have hsA := hsA.below keeps_lk hbC
          have hsB := hsB.below keeps_int hbC
          have hz_4 := hbC.size
          have huC := hsC.blkLt
          have huD := hsD.blkLt
          refine ordB_only (opB_call rfl rfl (fun K hK => ?_))
          have Ac0 := A.cell 0
          have Af0 := A.frozen 0
          have Ac1 := A.cell 1
          have Af1 := A.frozen 1
          have Ac2 := A.cell 2
          have Af2 := A.frozen 2
          have Ac3 := A.cell 3
          have Af3 := A.frozen 3
          simp at Ac0 Ac1 Ac2 Ac3
          go_simp
          refine hK.out _ _ ((((hV0_1_2_3_4.setCell (p := ⟨V0.heap.size, 0, none⟩) Ag _).setCell (p := ⟨V0.heap.size, 1, none⟩) Ag _).setCell (p := ⟨V0.heap.size, 2, none⟩) Ag _).setCell (p := ⟨V0.heap.size, 3, none⟩) Ag _) (fun hV0_1_2_3_4_5 => ?_)
          have A := ((((A.set_ 0 (.int .i64 3)).set_ 1 (.slice LA 3 cA)).set_ 2 (.slice LB 3 cB)).set_ 3 (.int .i64 0))
          have Bne : VA.heap.size ≠ V0.heap.size := by first | exact B_A | exact A_B.symm
          have B := ((((B.far (p := ⟨V0.heap.size, 0, none⟩) Bne (.int .i64 3)).far (p := ⟨V0.heap.size, 1, none⟩) Bne (.slice LA 3 cA)).far (p := ⟨V0.heap.size, 2, none⟩) Bne (.slice LB 3 cB)).far (p := ⟨V0.heap.size, 3, none⟩) Bne (.int .i64 0))
          have hsAAne : ∀ a, LA = some a → s20w.g.ls ≠ [] → a.block ≠ V0.heap.size := fun a h hn => by have h1 := hoA a h; have h2 := huA hn a h; omega
          have hsA := ((((hsA.awayG lk_any (p := ⟨V0.heap.size, 0, none⟩) hsAAne (.int .i64 3)).awayG lk_any (p := ⟨V0.heap.size, 1, none⟩) hsAAne (.slice LA 3 cA)).awayG lk_any (p := ⟨V0.heap.size, 2, none⟩) hsAAne (.slice LB 3 cB)).awayG lk_any (p := ⟨V0.heap.size, 3, none⟩) hsAAne (.int .i64 0))
          have hsBAne : ∀ a, LB = some a → s20w.last ≠ [] → a.block ≠ V0.heap.size := fun a h hn => by have h1 := hoB a h; have h2 := huB hn a h; omega
          have hsB := ((((hsB.awayG int_any_ (p := ⟨V0.heap.size, 0, none⟩) hsBAne (.int .i64 3)).awayG int_any_ (p := ⟨V0.heap.size, 1, none⟩) hsBAne (.slice LA 3 cA)).awayG int_any_ (p := ⟨V0.heap.size, 2, none⟩) hsBAne (.slice LB 3 cB)).awayG int_any_ (p := ⟨V0.heap.size, 3, none⟩) hsBAne (.int .i64 0))
          have hsCAne : ∀ a, LC = some a → s20o.g.ls ≠ [] → a.block ≠ V0.heap.size := fun a h hn => by have h1 := hoC a h; have h2 := huC hn a h; omega
          have hsC := ((((hsC.awayG lk_any (p := ⟨V0.heap.size, 0, none⟩) hsCAne (.int .i64 3)).awayG lk_any (p := ⟨V0.heap.size, 1, none⟩) hsCAne (.slice LA 3 cA)).awayG lk_any (p := ⟨V0.heap.size, 2, none⟩) hsCAne (.slice LB 3 cB)).awayG lk_any (p := ⟨V0.heap.size, 3, none⟩) hsCAne (.int .i64 0))
          have hsDAne : ∀ a, LD = some a → s20o.last ≠ [] → a.block ≠ V0.heap.size := fun a h hn => by have h1 := hoD a h; have h2 := huD hn a h; omega
          have hsD := ((((hsD.awayG int_any_ (p := ⟨V0.heap.size, 0, none⟩) hsDAne (.int .i64 3)).awayG int_any_ (p := ⟨V0.heap.size, 1, none⟩) hsDAne (.slice LA 3 cA)).awayG int_any_ (p := ⟨V0.heap.size, 2, none⟩) hsDAne (.slice LB 3 cB)).awayG int_any_ (p := ⟨V0.heap.size, 3, none⟩) hsDAne (.int .i64 0))
          obtain ⟨VC_5, qqVC_5⟩ : ∃ W', ((((VC.setCell ⟨V0.heap.size, 0, none⟩ (.int .i64 3)).setCell ⟨V0.heap.size, 1, none⟩ (.slice LA 3 cA)).setCell ⟨V0.heap.size, 2, none⟩ (.slice LB 3 cB)).setCell ⟨V0.heap.size, 3, none⟩ (.int .i64 0)) = W' := ⟨_, rfl⟩
          rw [qqVC_5] at hV0_1_2_3_4_5 A B hsA hsB hsC hsD ⊢
          clear qqVC_5 Ac0 Af0 Ac1 Af1 Ac2 Af2 Ac3 Af3
          refine ordB_only (opB_call rfl rfl (fun K hK => ?_))
          have Bc0 := B.cell 0
          have Bf0 := B.frozen 0
          have Bc1 := B.cell 1
          have Bf1 := B.frozen 1
          have Bc2 := B.cell 2
          have Bf2 := B.frozen 2
          have Bc3 := B.cell 3
          have Bf3 := B.frozen 3
          simp at Bc0 Bc1 Bc2 Bc3
          go_simp
          refine hK.out _ _ ((((hV0_1_2_3_4_5.setCell (p := ⟨VA.heap.size, 0, none⟩) Bg _).setCell (p := ⟨VA.heap.size, 1, none⟩) Bg _).setCell (p := ⟨VA.heap.size, 2, none⟩) Bg _).setCell (p := ⟨VA.heap.size, 3, none⟩) Bg _) (fun hV0_1_2_3_4_5_6 => ?_)
          have B := ((((B.set_ 0 (.int .i64 1)).set_ 1 (.slice LC 0 cC)).set_ 2 (.slice LD 1 cD)).set_ 3 (.int .i64 0))
          have Ane : V0.heap.size ≠ VA.heap.size := by first | exact A_B | exact B_A.symm
          have A := ((((A.far (p := ⟨VA.heap.size, 0, none⟩) Ane (.int .i64 1)).far (p := ⟨VA.heap.size, 1, none⟩) Ane (.slice LC 0 cC)).far (p := ⟨VA.heap.size, 2, none⟩) Ane (.slice LD 1 cD)).far (p := ⟨VA.heap.size, 3, none⟩) Ane (.int .i64 0))
          have hsABne : ∀ a, LA = some a → s20w.g.ls ≠ [] → a.block ≠ VA.heap.size := fun a h hn => by have h1 := hoA a h; have h2 := huA hn a h; omega
          have hsA := ((((hsA.awayG lk_any (p := ⟨VA.heap.size, 0, none⟩) hsABne (.int .i64 1)).awayG lk_any (p := ⟨VA.heap.size, 1, none⟩) hsABne (.slice LC 0 cC)).awayG lk_any (p := ⟨VA.heap.size, 2, none⟩) hsABne (.slice LD 1 cD)).awayG lk_any (p := ⟨VA.heap.size, 3, none⟩) hsABne (.int .i64 0))
          have hsBBne : ∀ a, LB = some a → s20w.last ≠ [] → a.block ≠ VA.heap.size := fun a h hn => by have h1 := hoB a h; have h2 := huB hn a h; omega
          have hsB := ((((hsB.awayG int_any_ (p := ⟨VA.heap.size, 0, none⟩) hsBBne (.int .i64 1)).awayG int_any_ (p := ⟨VA.heap.size, 1, none⟩) hsBBne (.slice LC 0 cC)).awayG int_any_ (p := ⟨VA.heap.size, 2, none⟩) hsBBne (.slice LD 1 cD)).awayG int_any_ (p := ⟨VA.heap.size, 3, none⟩) hsBBne (.int .i64 0))
          have hsCBne : ∀ a, LC = some a → s20o.g.ls ≠ [] → a.block ≠ VA.heap.size := fun a h hn => by have h1 := hoC a h; have h2 := huC hn a h; omega
          have hsC := ((((hsC.awayG lk_any (p := ⟨VA.heap.size, 0, none⟩) hsCBne (.int .i64 1)).awayG lk_any (p := ⟨VA.heap.size, 1, none⟩) hsCBne (.slice LC 0 cC)).awayG lk_any (p := ⟨VA.heap.size, 2, none⟩) hsCBne (.slice LD 1 cD)).awayG lk_any (p := ⟨VA.heap.size, 3, none⟩) hsCBne (.int .i64 0))
          have hsDBne : ∀ a, LD = some a → s20o.last ≠ [] → a.block ≠ VA.heap.size := fun a h hn => by have h1 := hoD a h; have h2 := huD hn a h; omega
          have hsD := ((((hsD.awayG int_any_ (p := ⟨VA.heap.size, 0, none⟩) hsDBne (.int .i64 1)).awayG int_any_ (p := ⟨VA.heap.size, 1, none⟩) hsDBne (.slice LC 0 cC)).awayG int_any_ (p := ⟨VA.heap.size, 2, none⟩) hsDBne (.slice LD 1 cD)).awayG int_any_ (p := ⟨VA.heap.size, 3, none⟩) hsDBne (.int .i64 0))
          obtain ⟨VC_5_6, qqVC_5_6⟩ : ∃ W', ((((VC_5.setCell ⟨VA.heap.size, 0, none⟩ (.int .i64 1)).setCell ⟨VA.heap.size, 1, none⟩ (.slice LC 0 cC)).setCell ⟨VA.heap.size, 2, none⟩ (.slice LD 1 cD)).setCell ⟨VA.heap.size, 3, none⟩ (.int .i64 0)) = W' := ⟨_, rfl⟩
          rw [qqVC_5_6] at hV0_1_2_3_4_5_6 B A hsA hsB hsC hsD ⊢
          clear qqVC_5_6 Bc0 Bf0 Bc1 Bf1 Bc2 Bf2 Bc3 Bf3
          refine ordB_nil ?_
          go_wp2_with fail
          go_meet
          have A2 : Blk VC_5_6 V0.heap.size 45 #[.int .i64 3, .slice LA 3 cA, .slice LB 3 cB, .int .i64 0] := by simpa using A
          have B2 : Blk VC_5_6 VA.heap.size 45 #[.int .i64 1, .slice LC 0 cC, .slice LD 1 cD, .int .i64 0] := by simpa using B
          exact ⟨_, _, LA, LB, LC, LD, cA, cB, cC, cD, rfl, rfl, ⟨A2, hsA, hsB, hkA⟩, ⟨B2, hsC, hsD, hkC⟩, hV0_1_2_3_4_5_6⟩
      · have A_B := Nat.ne_of_lt A.lt
        go_simp
        refine hK.out _ _ (hV0_1.alloc hV0_1.size _) (fun hV0_1_2 => ?_)
        have B := Blk.new V0_1 45 #[.int .i64 0, .slice none 0 0, .slice none 0 0, .int .i64 0]
        have Bb := nw (.cells #[.int .i64 0, .slice none 0 0, .slice none 0 0, .int .i64 0] 45) (Below.refl V0_1.heap.size V0_1)
        have Bg := hV0_1.size
        obtain ⟨V0_1_2, qqV0_1_2⟩ : ∃ W', V0_1.alloc (.cells #[.int .i64 0, .slice none 0 0, .slice none 0 0, .int .i64 0] 45) = W' := ⟨_, rfl⟩
        rw [qqV0_1_2] at hV0_1_2 B Bb ⊢
        have A := A.below Bb A.lt
        have Blt := B.lt
        clear qqV0_1_2
        refine ordB_only (opB_call rfl rfl (fun K hK => ?_))
        go_simp
        go_at_call 8
        refine (s20_build1 (HS.out.mono hV0_1_2)).mono ?_
        rintro e VA ⟨LA, LB, cA, cB, rfl, hsA, hsB, hkA, hbA, hoA, hoB⟩
        refine hK.out _ _ (hV0_1_2.trans (hbA.mono hV0_1_2.size)) (fun hV0_1_2_3 => ?_)
        have A := A.below hbA A.lt
        have B := B.below hbA B.lt
        have hz_3 := hbA.size
        have huA := hsA.blkLt
        have huB := hsB.blkLt
        refine ordB_only (opB_call rfl rfl (fun K hK => ?_))
        go_simp
        go_at_call 8
        refine (s20_build2 (HS.out.mono hV0_1_2_3)).mono ?_
        rintro e VC ⟨LC, LD, cC, cD, rfl, hsC, hsD, hkC, hbC, hoC, hoD⟩
        refine hK.out _ _ (hV0_1_2_3.trans (hbC.mono hV0_1_2_3.size)) (fun hV0_1_2_3_4 => ?_)
        have A := A.below hbC A.lt
        have B := B.below hbC B.lt
        have hsA := hsA.below keeps_lk hbC
        have hsB := hsB.below keeps_int hbC
        have hz_4 := hbC.size
        have huC := hsC.blkLt
        have huD := hsD.blkLt
        refine ordB_only (opB_call rfl rfl (fun K hK => ?_))
        have Ac0 := A.cell 0
        have Af0 := A.frozen 0
        have Ac1 := A.cell 1
        have Af1 := A.frozen 1
        have Ac2 := A.cell 2
        have Af2 := A.frozen 2
        have Ac3 := A.cell 3
        have Af3 := A.frozen 3
        simp at Ac0 Ac1 Ac2 Ac3
        go_simp
        refine hK.out _ _ ((((hV0_1_2_3_4.setCell (p := ⟨V0.heap.size, 0, none⟩) Ag _).setCell (p := ⟨V0.heap.size, 1, none⟩) Ag _).setCell (p := ⟨V0.heap.size, 2, none⟩) Ag _).setCell (p := ⟨V0.heap.size, 3, none⟩) Ag _) (fun hV0_1_2_3_4_5 => ?_)
        have A := ((((A.set_ 0 (.int .i64 3)).set_ 1 (.slice LA 3 cA)).set_ 2 (.slice LB 3 cB)).set_ 3 (.int .i64 0))
        have Bne : V0_1.heap.size ≠ V0.heap.size := by first | exact B_A | exact A_B.symm
        have B := ((((B.far (p := ⟨V0.heap.size, 0, none⟩) Bne (.int .i64 3)).far (p := ⟨V0.heap.size, 1, none⟩) Bne (.slice LA 3 cA)).far (p := ⟨V0.heap.size, 2, none⟩) Bne (.slice LB 3 cB)).far (p := ⟨V0.heap.size, 3, none⟩) Bne (.int .i64 0))
        have hsAAne : ∀ a, LA = some a → s20w.g.ls ≠ [] → a.block ≠ V0.heap.size := fun a h hn => by have h1 := hoA a h; have h2 := huA hn a h; omega
        have hsA := ((((hsA.awayG lk_any (p := ⟨V0.heap.size, 0, none⟩) hsAAne (.int .i64 3)).awayG lk_any (p := ⟨V0.heap.size, 1, none⟩) hsAAne (.slice LA 3 cA)).awayG lk_any (p := ⟨V0.heap.size, 2, none⟩) hsAAne (.slice LB 3 cB)).awayG lk_any (p := ⟨V0.heap.size, 3, none⟩) hsAAne (.int .i64 0))
        have hsBAne : ∀ a, LB = some a → s20w.last ≠ [] → a.block ≠ V0.heap.size := fun a h hn => by have h1 := hoB a h; have h2 := huB hn a h; omega
        have hsB := ((((hsB.awayG int_any_ (p := ⟨V0.heap.size, 0, none⟩) hsBAne (.int .i64 3)).awayG int_any_ (p := ⟨V0.heap.size, 1, none⟩) hsBAne (.slice LA 3 cA)).awayG int_any_ (p := ⟨V0.heap.size, 2, none⟩) hsBAne (.slice LB 3 cB)).awayG int_any_ (p := ⟨V0.heap.size, 3, none⟩) hsBAne (.int .i64 0))
        have hsCAne : ∀ a, LC = some a → s20o.g.ls ≠ [] → a.block ≠ V0.heap.size := fun a h hn => by have h1 := hoC a h; have h2 := huC hn a h; omega
        have hsC := ((((hsC.awayG lk_any (p := ⟨V0.heap.size, 0, none⟩) hsCAne (.int .i64 3)).awayG lk_any (p := ⟨V0.heap.size, 1, none⟩) hsCAne (.slice LA 3 cA)).awayG lk_any (p := ⟨V0.heap.size, 2, none⟩) hsCAne (.slice LB 3 cB)).awayG lk_any (p := ⟨V0.heap.size, 3, none⟩) hsCAne (.int .i64 0))
        have hsDAne : ∀ a, LD = some a → s20o.last ≠ [] → a.block ≠ V0.heap.size := fun a h hn => by have h1 := hoD a h; have h2 := huD hn a h; omega
        have hsD := ((((hsD.awayG int_any_ (p := ⟨V0.heap.size, 0, none⟩) hsDAne (.int .i64 3)).awayG int_any_ (p := ⟨V0.heap.size, 1, none⟩) hsDAne (.slice LA 3 cA)).awayG int_any_ (p := ⟨V0.heap.size, 2, none⟩) hsDAne (.slice LB 3 cB)).awayG int_any_ (p := ⟨V0.heap.size, 3, none⟩) hsDAne (.int .i64 0))
        obtain ⟨VC_5, qqVC_5⟩ : ∃ W', ((((VC.setCell ⟨V0.heap.size, 0, none⟩ (.int .i64 3)).setCell ⟨V0.heap.size, 1, none⟩ (.slice LA 3 cA)).setCell ⟨V0.heap.size, 2, none⟩ (.slice LB 3 cB)).setCell ⟨V0.heap.size, 3, none⟩ (.int .i64 0)) = W' := ⟨_, rfl⟩
        rw [qqVC_5] at hV0_1_2_3_4_5 A B hsA hsB hsC hsD ⊢
        clear qqVC_5 Ac0 Af0 Ac1 Af1 Ac2 Af2 Ac3 Af3
        refine ordB_only (opB_call rfl rfl (fun K hK => ?_))
        have Bc0 := B.cell 0
        have Bf0 := B.frozen 0
        have Bc1 := B.cell 1
        have Bf1 := B.frozen 1
        have Bc2 := B.cell 2
        have Bf2 := B.frozen 2
        have Bc3 := B.cell 3
        have Bf3 := B.frozen 3
        simp at Bc0 Bc1 Bc2 Bc3
        go_simp
        refine hK.out _ _ ((((hV0_1_2_3_4_5.setCell (p := ⟨V0_1.heap.size, 0, none⟩) Bg _).setCell (p := ⟨V0_1.heap.size, 1, none⟩) Bg _).setCell (p := ⟨V0_1.heap.size, 2, none⟩) Bg _).setCell (p := ⟨V0_1.heap.size, 3, none⟩) Bg _) (fun hV0_1_2_3_4_5_6 => ?_)
        have B := ((((B.set_ 0 (.int .i64 1)).set_ 1 (.slice LC 0 cC)).set_ 2 (.slice LD 1 cD)).set_ 3 (.int .i64 0))
        have Ane : V0.heap.size ≠ V0_1.heap.size := by first | exact A_B | exact B_A.symm
        have A := ((((A.far (p := ⟨V0_1.heap.size, 0, none⟩) Ane (.int .i64 1)).far (p := ⟨V0_1.heap.size, 1, none⟩) Ane (.slice LC 0 cC)).far (p := ⟨V0_1.heap.size, 2, none⟩) Ane (.slice LD 1 cD)).far (p := ⟨V0_1.heap.size, 3, none⟩) Ane (.int .i64 0))
        have hsABne : ∀ a, LA = some a → s20w.g.ls ≠ [] → a.block ≠ V0_1.heap.size := fun a h hn => by have h1 := hoA a h; have h2 := huA hn a h; omega
        have hsA := ((((hsA.awayG lk_any (p := ⟨V0_1.heap.size, 0, none⟩) hsABne (.int .i64 1)).awayG lk_any (p := ⟨V0_1.heap.size, 1, none⟩) hsABne (.slice LC 0 cC)).awayG lk_any (p := ⟨V0_1.heap.size, 2, none⟩) hsABne (.slice LD 1 cD)).awayG lk_any (p := ⟨V0_1.heap.size, 3, none⟩) hsABne (.int .i64 0))
        have hsBBne : ∀ a, LB = some a → s20w.last ≠ [] → a.block ≠ V0_1.heap.size := fun a h hn => by have h1 := hoB a h; have h2 := huB hn a h; omega
        have hsB := ((((hsB.awayG int_any_ (p := ⟨V0_1.heap.size, 0, none⟩) hsBBne (.int .i64 1)).awayG int_any_ (p := ⟨V0_1.heap.size, 1, none⟩) hsBBne (.slice LC 0 cC)).awayG int_any_ (p := ⟨V0_1.heap.size, 2, none⟩) hsBBne (.slice LD 1 cD)).awayG int_any_ (p := ⟨V0_1.heap.size, 3, none⟩) hsBBne (.int .i64 0))
        have hsCBne : ∀ a, LC = some a → s20o.g.ls ≠ [] → a.block ≠ V0_1.heap.size := fun a h hn => by have h1 := hoC a h; have h2 := huC hn a h; omega
        have hsC := ((((hsC.awayG lk_any (p := ⟨V0_1.heap.size, 0, none⟩) hsCBne (.int .i64 1)).awayG lk_any (p := ⟨V0_1.heap.size, 1, none⟩) hsCBne (.slice LC 0 cC)).awayG lk_any (p := ⟨V0_1.heap.size, 2, none⟩) hsCBne (.slice LD 1 cD)).awayG lk_any (p := ⟨V0_1.heap.size, 3, none⟩) hsCBne (.int .i64 0))
        have hsDBne : ∀ a, LD = some a → s20o.last ≠ [] → a.block ≠ V0_1.heap.size := fun a h hn => by have h1 := hoD a h; have h2 := huD hn a h; omega
        have hsD := ((((hsD.awayG int_any_ (p := ⟨V0_1.heap.size, 0, none⟩) hsDBne (.int .i64 1)).awayG int_any_ (p := ⟨V0_1.heap.size, 1, none⟩) hsDBne (.slice LC 0 cC)).awayG int_any_ (p := ⟨V0_1.heap.size, 2, none⟩) hsDBne (.slice LD 1 cD)).awayG int_any_ (p := ⟨V0_1.heap.size, 3, none⟩) hsDBne (.int .i64 0))
        obtain ⟨VC_5_6, qqVC_5_6⟩ : ∃ W', ((((VC_5.setCell ⟨V0_1.heap.size, 0, none⟩ (.int .i64 1)).setCell ⟨V0_1.heap.size, 1, none⟩ (.slice LC 0 cC)).setCell ⟨V0_1.heap.size, 2, none⟩ (.slice LD 1 cD)).setCell ⟨V0_1.heap.size, 3, none⟩ (.int .i64 0)) = W' := ⟨_, rfl⟩
        rw [qqVC_5_6] at hV0_1_2_3_4_5_6 B A hsA hsB hsC hsD ⊢
        clear qqVC_5_6 Bc0 Bf0 Bc1 Bf1 Bc2 Bf2 Bc3 Bf3
        refine ordB_nil ?_
        go_wp2_with fail
        go_meet
        have A2 : Blk VC_5_6 V0.heap.size 45 #[.int .i64 3, .slice LA 3 cA, .slice LB 3 cB, .int .i64 0] := by simpa using A
        have B2 : Blk VC_5_6 V0_1.heap.size 45 #[.int .i64 1, .slice LC 0 cC, .slice LD 1 cD, .int .i64 0] := by simpa using B
        exact ⟨_, _, LA, LB, LC, LD, cA, cB, cC, cD, rfl, rfl, ⟨A2, hsA, hsB, hkA⟩, ⟨B2, hsC, hsD, hkC⟩, hV0_1_2_3_4_5_6⟩
    · go_simp
      refine hK.out _ _ (hV0.alloc hV0.size _) (fun hV0_1 => ?_)
      have B := Blk.new V0 45 #[.int .i64 0, .slice none 0 0, .slice none 0 0, .int .i64 0]
      have Bb := nw (.cells #[.int .i64 0, .slice none 0 0, .slice none 0 0, .int .i64 0] 45) (Below.refl V0.heap.size V0)
      have Bg := hV0.size
      obtain ⟨V0_1, qqV0_1⟩ : ∃ W', V0.alloc (.cells #[.int .i64 0, .slice none 0 0, .slice none 0 0, .int .i64 0] 45) = W' := ⟨_, rfl⟩
      rw [qqV0_1] at hV0_1 B Bb ⊢
      have Blt := B.lt
      clear qqV0_1
      refine ordB_fork (opB_call rfl rfl (fun K hK => ?_)) (opB_call rfl rfl (fun K hK => ?_))
      · go_simp
        go_at_call 8
        refine (s20_build1 (HS.out.mono hV0_1)).mono ?_
        rintro e VA ⟨LA, LB, cA, cB, rfl, hsA, hsB, hkA, hbA, hoA, hoB⟩
        refine hK.out _ _ (hV0_1.trans (hbA.mono hV0_1.size)) (fun hV0_1_2 => ?_)
        have B := B.below hbA B.lt
        have hz_2 := hbA.size
        have huA := hsA.blkLt
        have huB := hsB.blkLt
        refine ordB_fork (opB_call rfl rfl (fun K hK => ?_)) (opB_call rfl rfl (fun K hK => ?_))
        · go_simp
          go_at_call 8
          refine (s20_build2 (HS.out.mono hV0_1_2)).mono ?_
          rintro e VC ⟨LC, LD, cC, cD, rfl, hsC, hsD, hkC, hbC, hoC, hoD⟩
          refine hK.out _ _ (hV0_1_2.trans (hbC.mono hV0_1_2.size)) (fun hV0_1_2_3 => ?_)
          have B := B.below hbC B.lt
          have hsA := hsA.below keeps_lk hbC
          have hsB := hsB.below keeps_int hbC
          have hz_3 := hbC.size
          have huC := hsC.blkLt
          have huD := hsD.blkLt
          refine ordB_only (opB_call rfl rfl (fun K hK => ?_))
          have B_A := Nat.ne_of_lt B.lt
          go_simp
          refine hK.out _ _ (hV0_1_2_3.alloc hV0_1_2_3.size _) (fun hV0_1_2_3_4 => ?_)
          have A := Blk.new VC 45 #[.int .i64 0, .slice none 0 0, .slice none 0 0, .int .i64 0]
          have Ab := nw (.cells #[.int .i64 0, .slice none 0 0, .slice none 0 0, .int .i64 0] 45) (Below.refl VC.heap.size VC)
          have Ag := hV0_1_2_3.size
          obtain ⟨VC_4, qqVC_4⟩ : ∃ W', VC.alloc (.cells #[.int .i64 0, .slice none 0 0, .slice none 0 0, .int .i64 0] 45) = W' := ⟨_, rfl⟩
          rw [qqVC_4] at hV0_1_2_3_4 A Ab ⊢
          have B := B.below Ab B.lt
          have hsA := hsA.below keeps_lk Ab
          have hsB := hsB.below keeps_int Ab
          have hsC := hsC.below keeps_lk Ab
          have hsD := hsD.below keeps_int Ab
          have Alt := A.lt
          clear qqVC_4
          refine ordB_only (opB_call rfl rfl (fun K hK => ?_))
          have Ac0 := A.cell 0
          have Af0 := A.frozen 0
          have Ac1 := A.cell 1
          have Af1 := A.frozen 1
          have Ac2 := A.cell 2
          have Af2 := A.frozen 2
          have Ac3 := A.cell 3
          have Af3 := A.frozen 3
          simp at Ac0 Ac1 Ac2 Ac3
          go_simp
          refine hK.out _ _ ((((hV0_1_2_3_4.setCell (p := ⟨VC.heap.size, 0, none⟩) Ag _).setCell (p := ⟨VC.heap.size, 1, none⟩) Ag _).setCell (p := ⟨VC.heap.size, 2, none⟩) Ag _).setCell (p := ⟨VC.heap.size, 3, none⟩) Ag _) (fun hV0_1_2_3_4_5 => ?_)
          have A := ((((A.set_ 0 (.int .i64 3)).set_ 1 (.slice LA 3 cA)).set_ 2 (.slice LB 3 cB)).set_ 3 (.int .i64 0))
          have Bne : V0.heap.size ≠ VC.heap.size := by first | exact B_A | exact A_B.symm
          have B := ((((B.far (p := ⟨VC.heap.size, 0, none⟩) Bne (.int .i64 3)).far (p := ⟨VC.heap.size, 1, none⟩) Bne (.slice LA 3 cA)).far (p := ⟨VC.heap.size, 2, none⟩) Bne (.slice LB 3 cB)).far (p := ⟨VC.heap.size, 3, none⟩) Bne (.int .i64 0))
          have hsAAne : ∀ a, LA = some a → s20w.g.ls ≠ [] → a.block ≠ VC.heap.size := fun a h hn => by have h1 := hoA a h; have h2 := huA hn a h; omega
          have hsA := ((((hsA.awayG lk_any (p := ⟨VC.heap.size, 0, none⟩) hsAAne (.int .i64 3)).awayG lk_any (p := ⟨VC.heap.size, 1, none⟩) hsAAne (.slice LA 3 cA)).awayG lk_any (p := ⟨VC.heap.size, 2, none⟩) hsAAne (.slice LB 3 cB)).awayG lk_any (p := ⟨VC.heap.size, 3, none⟩) hsAAne (.int .i64 0))
          have hsBAne : ∀ a, LB = some a → s20w.last ≠ [] → a.block ≠ VC.heap.size := fun a h hn => by have h1 := hoB a h; have h2 := huB hn a h; omega
          have hsB := ((((hsB.awayG int_any_ (p := ⟨VC.heap.size, 0, none⟩) hsBAne (.int .i64 3)).awayG int_any_ (p := ⟨VC.heap.size, 1, none⟩) hsBAne (.slice LA 3 cA)).awayG int_any_ (p := ⟨VC.heap.size, 2, none⟩) hsBAne (.slice LB 3 cB)).awayG int_any_ (p := ⟨VC.heap.size, 3, none⟩) hsBAne (.int .i64 0))
          have hsCAne : ∀ a, LC = some a → s20o.g.ls ≠ [] → a.block ≠ VC.heap.size := fun a h hn => by have h1 := hoC a h; have h2 := huC hn a h; omega
          have hsC := ((((hsC.awayG lk_any (p := ⟨VC.heap.size, 0, none⟩) hsCAne (.int .i64 3)).awayG lk_any (p := ⟨VC.heap.size, 1, none⟩) hsCAne (.slice LA 3 cA)).awayG lk_any (p := ⟨VC.heap.size, 2, none⟩) hsCAne (.slice LB 3 cB)).awayG lk_any (p := ⟨VC.heap.size, 3, none⟩) hsCAne (.int .i64 0))
          have hsDAne : ∀ a, LD = some a → s20o.last ≠ [] → a.block ≠ VC.heap.size := fun a h hn => by have h1 := hoD a h; have h2 := huD hn a h; omega
          have hsD := ((((hsD.awayG int_any_ (p := ⟨VC.heap.size, 0, none⟩) hsDAne (.int .i64 3)).awayG int_any_ (p := ⟨VC.heap.size, 1, none⟩) hsDAne (.slice LA 3 cA)).awayG int_any_ (p := ⟨VC.heap.size, 2, none⟩) hsDAne (.slice LB 3 cB)).awayG int_any_ (p := ⟨VC.heap.size, 3, none⟩) hsDAne (.int .i64 0))
          obtain ⟨VC_4_5, qqVC_4_5⟩ : ∃ W', ((((VC_4.setCell ⟨VC.heap.size, 0, none⟩ (.int .i64 3)).setCell ⟨VC.heap.size, 1, none⟩ (.slice LA 3 cA)).setCell ⟨VC.heap.size, 2, none⟩ (.slice LB 3 cB)).setCell ⟨VC.heap.size, 3, none⟩ (.int .i64 0)) = W' := ⟨_, rfl⟩
          rw [qqVC_4_5] at hV0_1_2_3_4_5 A B hsA hsB hsC hsD ⊢
          clear qqVC_4_5 Ac0 Af0 Ac1 Af1 Ac2 Af2 Ac3 Af3
          refine ordB_only (opB_call rfl rfl (fun K hK => ?_))
          have Bc0 := B.cell 0
          have Bf0 := B.frozen 0
          have Bc1 := B.cell 1
          have Bf1 := B.frozen 1
          have Bc2 := B.cell 2
          have Bf2 := B.frozen 2
          have Bc3 := B.cell 3
          have Bf3 := B.frozen 3
          simp at Bc0 Bc1 Bc2 Bc3
          go_simp
          refine hK.out _ _ ((((hV0_1_2_3_4_5.setCell (p := ⟨V0.heap.size, 0, none⟩) Bg _).setCell (p := ⟨V0.heap.size, 1, none⟩) Bg _).setCell (p := ⟨V0.heap.size, 2, none⟩) Bg _).setCell (p := ⟨V0.heap.size, 3, none⟩) Bg _) (fun hV0_1_2_3_4_5_6 => ?_)
          have B := ((((B.set_ 0 (.int .i64 1)).set_ 1 (.slice LC 0 cC)).set_ 2 (.slice LD 1 cD)).set_ 3 (.int .i64 0))
          have Ane : VC.heap.size ≠ V0.heap.size := by first | exact A_B | exact B_A.symm
          have A := ((((A.far (p := ⟨V0.heap.size, 0, none⟩) Ane (.int .i64 1)).far (p := ⟨V0.heap.size, 1, none⟩) Ane (.slice LC 0 cC)).far (p := ⟨V0.heap.size, 2, none⟩) Ane (.slice LD 1 cD)).far (p := ⟨V0.heap.size, 3, none⟩) Ane (.int .i64 0))
          have hsABne : ∀ a, LA = some a → s20w.g.ls ≠ [] → a.block ≠ V0.heap.size := fun a h hn => by have h1 := hoA a h; have h2 := huA hn a h; omega
          have hsA := ((((hsA.awayG lk_any (p := ⟨V0.heap.size, 0, none⟩) hsABne (.int .i64 1)).awayG lk_any (p := ⟨V0.heap.size, 1, none⟩) hsABne (.slice LC 0 cC)).awayG lk_any (p := ⟨V0.heap.size, 2, none⟩) hsABne (.slice LD 1 cD)).awayG lk_any (p := ⟨V0.heap.size, 3, none⟩) hsABne (.int .i64 0))
          have hsBBne : ∀ a, LB = some a → s20w.last ≠ [] → a.block ≠ V0.heap.size := fun a h hn => by have h1 := hoB a h; have h2 := huB hn a h; omega
          have hsB := ((((hsB.awayG int_any_ (p := ⟨V0.heap.size, 0, none⟩) hsBBne (.int .i64 1)).awayG int_any_ (p := ⟨V0.heap.size, 1, none⟩) hsBBne (.slice LC 0 cC)).awayG int_any_ (p := ⟨V0.heap.size, 2, none⟩) hsBBne (.slice LD 1 cD)).awayG int_any_ (p := ⟨V0.heap.size, 3, none⟩) hsBBne (.int .i64 0))
          have hsCBne : ∀ a, LC = some a → s20o.g.ls ≠ [] → a.block ≠ V0.heap.size := fun a h hn => by have h1 := hoC a h; have h2 := huC hn a h; omega
          have hsC := ((((hsC.awayG lk_any (p := ⟨V0.heap.size, 0, none⟩) hsCBne (.int .i64 1)).awayG lk_any (p := ⟨V0.heap.size, 1, none⟩) hsCBne (.slice LC 0 cC)).awayG lk_any (p := ⟨V0.heap.size, 2, none⟩) hsCBne (.slice LD 1 cD)).awayG lk_any (p := ⟨V0.heap.size, 3, none⟩) hsCBne (.int .i64 0))
          have hsDBne : ∀ a, LD = some a → s20o.last ≠ [] → a.block ≠ V0.heap.size := fun a h hn => by have h1 := hoD a h; have h2 := huD hn a h; omega
          have hsD := ((((hsD.awayG int_any_ (p := ⟨V0.heap.size, 0, none⟩) hsDBne (.int .i64 1)).awayG int_any_ (p := ⟨V0.heap.size, 1, none⟩) hsDBne (.slice LC 0 cC)).awayG int_any_ (p := ⟨V0.heap.size, 2, none⟩) hsDBne (.slice LD 1 cD)).awayG int_any_ (p := ⟨V0.heap.size, 3, none⟩) hsDBne (.int .i64 0))
          obtain ⟨VC_4_5_6, qqVC_4_5_6⟩ : ∃ W', ((((VC_4_5.setCell ⟨V0.heap.size, 0, none⟩ (.int .i64 1)).setCell ⟨V0.heap.size, 1, none⟩ (.slice LC 0 cC)).setCell ⟨V0.heap.size, 2, none⟩ (.slice LD 1 cD)).setCell ⟨V0.heap.size, 3, none⟩ (.int .i64 0)) = W' := ⟨_, rfl⟩
          rw [qqVC_4_5_6] at hV0_1_2_3_4_5_6 B A hsA hsB hsC hsD ⊢
          clear qqVC_4_5_6 Bc0 Bf0 Bc1 Bf1 Bc2 Bf2 Bc3 Bf3
          refine ordB_nil ?_
          go_wp2_with fail
          go_meet
          have A2 : Blk VC_4_5_6 VC.heap.size 45 #[.int .i64 3, .slice LA 3 cA, .slice LB 3 cB, .int .i64 0] := by simpa using A
          have B2 : Blk VC_4_5_6 V0.heap.size 45 #[.int .i64 1, .slice LC 0 cC, .slice LD 1 cD, .int .i64 0] := by simpa using B
          exact ⟨_, _, LA, LB, LC, LD, cA, cB, cC, cD, rfl, rfl, ⟨A2, hsA, hsB, hkA⟩, ⟨B2, hsC, hsD, hkC⟩, hV0_1_2_3_4_5_6⟩
        · have B_A := Nat.ne_of_lt B.lt
          go_simp
          refine hK.out _ _ (hV0_1_2.alloc hV0_1_2.size _) (fun hV0_1_2_3 => ?_)
          have A := Blk.new VA 45 #[.int .i64 0, .slice none 0 0, .slice none 0 0, .int .i64 0]
          have Ab := nw (.cells #[.int .i64 0, .slice none 0 0, .slice none 0 0, .int .i64 0] 45) (Below.refl VA.heap.size VA)
          have Ag := hV0_1_2.size
          obtain ⟨VA_3, qqVA_3⟩ : ∃ W', VA.alloc (.cells #[.int .i64 0, .slice none 0 0, .slice none 0 0, .int .i64 0] 45) = W' := ⟨_, rfl⟩
          rw [qqVA_3] at hV0_1_2_3 A Ab ⊢
          have B := B.below Ab B.lt
          have hsA := hsA.below keeps_lk Ab
          have hsB := hsB.below keeps_int Ab
          have Alt := A.lt
          clear qqVA_3
          refine ordB_only (opB_call rfl rfl (fun K hK => ?_))
          go_simp
          go_at_call 8
          refine (s20_build2 (HS.out.mono hV0_1_2_3)).mono ?_
          rintro e VC ⟨LC, LD, cC, cD, rfl, hsC, hsD, hkC, hbC, hoC, hoD⟩
          refine hK.out _ _ (hV0_1_2_3.trans (hbC.mono hV0_1_2_3.size)) (fun hV0_1_2_3_4 => ?_)
          have B := B.below hbC B.lt
          have A := A.below hbC A.lt
          have hsA := hsA.below keeps_lk hbC
          have hsB := hsB.below keeps_int hbC
          have hz_4 := hbC.size
          have huC := hsC.blkLt
          have huD := hsD.blkLt
          refine ordB_only (opB_call rfl rfl (fun K hK => ?_))
          have Ac0 := A.cell 0
          have Af0 := A.frozen 0
          have Ac1 := A.cell 1
          have Af1 := A.frozen 1
          have Ac2 := A.cell 2
          have Af2 := A.frozen 2
          have Ac3 := A.cell 3
          have Af3 := A.frozen 3
          simp at Ac0 Ac1 Ac2 Ac3
          go_simp
          refine hK.out _ _ ((((hV0_1_2_3_4.setCell (p := ⟨VA.heap.size, 0, none⟩) Ag _).setCell (p := ⟨VA.heap.size, 1, none⟩) Ag _).setCell (p := ⟨VA.heap.size, 2, none⟩) Ag _).setCell (p := ⟨VA.heap.size, 3, none⟩) Ag _) (fun hV0_1_2_3_4_5 => ?_)
          have A := ((((A.set_ 0 (.int .i64 3)).set_ 1 (.slice LA 3 cA)).set_ 2 (.slice LB 3 cB)).set_ 3 (.int .i64 0))
          have Bne : V0.heap.size ≠ VA.heap.size := by first | exact B_A | exact A_B.symm
          have B := ((((B.far (p := ⟨VA.heap.size, 0, none⟩) Bne (.int .i64 3)).far (p := ⟨VA.heap.size, 1, none⟩) Bne (.slice LA 3 cA)).far (p := ⟨VA.heap.size, 2, none⟩) Bne (.slice LB 3 cB)).far (p := ⟨VA.heap.size, 3, none⟩) Bne (.int .i64 0))
          have hsAAne : ∀ a, LA = some a → s20w.g.ls ≠ [] → a.block ≠ VA.heap.size := fun a h hn => by have h1 := hoA a h; have h2 := huA hn a h; omega
          have hsA := ((((hsA.awayG lk_any (p := ⟨VA.heap.size, 0, none⟩) hsAAne (.int .i64 3)).awayG lk_any (p := ⟨VA.heap.size, 1, none⟩) hsAAne (.slice LA 3 cA)).awayG lk_any (p := ⟨VA.heap.size, 2, none⟩) hsAAne (.slice LB 3 cB)).awayG lk_any (p := ⟨VA.heap.size, 3, none⟩) hsAAne (.int .i64 0))
          have hsBAne : ∀ a, LB = some a → s20w.last ≠ [] → a.block ≠ VA.heap.size := fun a h hn => by have h1 := hoB a h; have h2 := huB hn a h; omega
          have hsB := ((((hsB.awayG int_any_ (p := ⟨VA.heap.size, 0, none⟩) hsBAne (.int .i64 3)).awayG int_any_ (p := ⟨VA.heap.size, 1, none⟩) hsBAne (.slice LA 3 cA)).awayG int_any_ (p := ⟨VA.heap.size, 2, none⟩) hsBAne (.slice LB 3 cB)).awayG int_any_ (p := ⟨VA.heap.size, 3, none⟩) hsBAne (.int .i64 0))
          have hsCAne : ∀ a, LC = some a → s20o.g.ls ≠ [] → a.block ≠ VA.heap.size := fun a h hn => by have h1 := hoC a h; have h2 := huC hn a h; omega
          have hsC := ((((hsC.awayG lk_any (p := ⟨VA.heap.size, 0, none⟩) hsCAne (.int .i64 3)).awayG lk_any (p := ⟨VA.heap.size, 1, none⟩) hsCAne (.slice LA 3 cA)).awayG lk_any (p := ⟨VA.heap.size, 2, none⟩) hsCAne (.slice LB 3 cB)).awayG lk_any (p := ⟨VA.heap.size, 3, none⟩) hsCAne (.int .i64 0))
          have hsDAne : ∀ a, LD = some a → s20o.last ≠ [] → a.block ≠ VA.heap.size := fun a h hn => by have h1 := hoD a h; have h2 := huD hn a h; omega
          have hsD := ((((hsD.awayG int_any_ (p := ⟨VA.heap.size, 0, none⟩) hsDAne (.int .i64 3)).awayG int_any_ (p := ⟨VA.heap.size, 1, none⟩) hsDAne (.slice LA 3 cA)).awayG int_any_ (p := ⟨VA.heap.size, 2, none⟩) hsDAne (.slice LB 3 cB)).awayG int_any_ (p := ⟨VA.heap.size, 3, none⟩) hsDAne (.int .i64 0))
          obtain ⟨VC_5, qqVC_5⟩ : ∃ W', ((((VC.setCell ⟨VA.heap.size, 0, none⟩ (.int .i64 3)).setCell ⟨VA.heap.size, 1, none⟩ (.slice LA 3 cA)).setCell ⟨VA.heap.size, 2, none⟩ (.slice LB 3 cB)).setCell ⟨VA.heap.size, 3, none⟩ (.int .i64 0)) = W' := ⟨_, rfl⟩
          rw [qqVC_5] at hV0_1_2_3_4_5 A B hsA hsB hsC hsD ⊢
          clear qqVC_5 Ac0 Af0 Ac1 Af1 Ac2 Af2 Ac3 Af3
          refine ordB_only (opB_call rfl rfl (fun K hK => ?_))
          have Bc0 := B.cell 0
          have Bf0 := B.frozen 0
          have Bc1 := B.cell 1
          have Bf1 := B.frozen 1
          have Bc2 := B.cell 2
          have Bf2 := B.frozen 2
          have Bc3 := B.cell 3
          have Bf3 := B.frozen 3
          simp at Bc0 Bc1 Bc2 Bc3
          go_simp
          refine hK.out _ _ ((((hV0_1_2_3_4_5.setCell (p := ⟨V0.heap.size, 0, none⟩) Bg _).setCell (p := ⟨V0.heap.size, 1, none⟩) Bg _).setCell (p := ⟨V0.heap.size, 2, none⟩) Bg _).setCell (p := ⟨V0.heap.size, 3, none⟩) Bg _) (fun hV0_1_2_3_4_5_6 => ?_)
          have B := ((((B.set_ 0 (.int .i64 1)).set_ 1 (.slice LC 0 cC)).set_ 2 (.slice LD 1 cD)).set_ 3 (.int .i64 0))
          have Ane : VA.heap.size ≠ V0.heap.size := by first | exact A_B | exact B_A.symm
          have A := ((((A.far (p := ⟨V0.heap.size, 0, none⟩) Ane (.int .i64 1)).far (p := ⟨V0.heap.size, 1, none⟩) Ane (.slice LC 0 cC)).far (p := ⟨V0.heap.size, 2, none⟩) Ane (.slice LD 1 cD)).far (p := ⟨V0.heap.size, 3, none⟩) Ane (.int .i64 0))
          have hsABne : ∀ a, LA = some a → s20w.g.ls ≠ [] → a.block ≠ V0.heap.size := fun a h hn => by have h1 := hoA a h; have h2 := huA hn a h; omega
          have hsA := ((((hsA.awayG lk_any (p := ⟨V0.heap.size, 0, none⟩) hsABne (.int .i64 1)).awayG lk_any (p := ⟨V0.heap.size, 1, none⟩) hsABne (.slice LC 0 cC)).awayG lk_any (p := ⟨V0.heap.size, 2, none⟩) hsABne (.slice LD 1 cD)).awayG lk_any (p := ⟨V0.heap.size, 3, none⟩) hsABne (.int .i64 0))
          have hsBBne : ∀ a, LB = some a → s20w.last ≠ [] → a.block ≠ V0.heap.size := fun a h hn => by have h1 := hoB a h; have h2 := huB hn a h; omega
          have hsB := ((((hsB.awayG int_any_ (p := ⟨V0.heap.size, 0, none⟩) hsBBne (.int .i64 1)).awayG int_any_ (p := ⟨V0.heap.size, 1, none⟩) hsBBne (.slice LC 0 cC)).awayG int_any_ (p := ⟨V0.heap.size, 2, none⟩) hsBBne (.slice LD 1 cD)).awayG int_any_ (p := ⟨V0.heap.size, 3, none⟩) hsBBne (.int .i64 0))
          have hsCBne : ∀ a, LC = some a → s20o.g.ls ≠ [] → a.block ≠ V0.heap.size := fun a h hn => by have h1 := hoC a h; have h2 := huC hn a h; omega
          have hsC := ((((hsC.awayG lk_any (p := ⟨V0.heap.size, 0, none⟩) hsCBne (.int .i64 1)).awayG lk_any (p := ⟨V0.heap.size, 1, none⟩) hsCBne (.slice LC 0 cC)).awayG lk_any (p := ⟨V0.heap.size, 2, none⟩) hsCBne (.slice LD 1 cD)).awayG lk_any (p := ⟨V0.heap.size, 3, none⟩) hsCBne (.int .i64 0))
          have hsDBne : ∀ a, LD = some a → s20o.last ≠ [] → a.block ≠ V0.heap.size := fun a h hn => by have h1 := hoD a h; have h2 := huD hn a h; omega
          have hsD := ((((hsD.awayG int_any_ (p := ⟨V0.heap.size, 0, none⟩) hsDBne (.int .i64 1)).awayG int_any_ (p := ⟨V0.heap.size, 1, none⟩) hsDBne (.slice LC 0 cC)).awayG int_any_ (p := ⟨V0.heap.size, 2, none⟩) hsDBne (.slice LD 1 cD)).awayG int_any_ (p := ⟨V0.heap.size, 3, none⟩) hsDBne (.int .i64 0))
          obtain ⟨VC_5_6, qqVC_5_6⟩ : ∃ W', ((((VC_5.setCell ⟨V0.heap.size, 0, none⟩ (.int .i64 1)).setCell ⟨V0.heap.size, 1, none⟩ (.slice LC 0 cC)).setCell ⟨V0.heap.size, 2, none⟩ (.slice LD 1 cD)).setCell ⟨V0.heap.size, 3, none⟩ (.int .i64 0)) = W' := ⟨_, rfl⟩
          rw [qqVC_5_6] at hV0_1_2_3_4_5_6 B A hsA hsB hsC hsD ⊢
          clear qqVC_5_6 Bc0 Bf0 Bc1 Bf1 Bc2 Bf2 Bc3 Bf3
          refine ordB_nil ?_
          go_wp2_with fail
          go_meet
          have A2 : Blk VC_5_6 VA.heap.size 45 #[.int .i64 3, .slice LA 3 cA, .slice LB 3 cB, .int .i64 0] := by simpa using A
          have B2 : Blk VC_5_6 V0.heap.size 45 #[.int .i64 1, .slice LC 0 cC, .slice LD 1 cD, .int .i64 0] := by simpa using B
          exact ⟨_, _, LA, LB, LC, LD, cA, cB, cC, cD, rfl, rfl, ⟨A2, hsA, hsB, hkA⟩, ⟨B2, hsC, hsD, hkC⟩, hV0_1_2_3_4_5_6⟩
      · have B_A := Nat.ne_of_lt B.lt
        go_simp
        refine hK.out _ _ (hV0_1.alloc hV0_1.size _) (fun hV0_1_2 => ?_)
        have A := Blk.new V0_1 45 #[.int .i64 0, .slice none 0 0, .slice none 0 0, .int .i64 0]
        have Ab := nw (.cells #[.int .i64 0, .slice none 0 0, .slice none 0 0, .int .i64 0] 45) (Below.refl V0_1.heap.size V0_1)
        have Ag := hV0_1.size
        obtain ⟨V0_1_2, qqV0_1_2⟩ : ∃ W', V0_1.alloc (.cells #[.int .i64 0, .slice none 0 0, .slice none 0 0, .int .i64 0] 45) = W' := ⟨_, rfl⟩
        rw [qqV0_1_2] at hV0_1_2 A Ab ⊢
        have B := B.below Ab B.lt
        have Alt := A.lt
        clear qqV0_1_2
        refine ordB_only (opB_call rfl rfl (fun K hK => ?_))
        go_simp
        go_at_call 8
        refine (s20_build1 (HS.out.mono hV0_1_2)).mono ?_
        rintro e VA ⟨LA, LB, cA, cB, rfl, hsA, hsB, hkA, hbA, hoA, hoB⟩
        refine hK.out _ _ (hV0_1_2.trans (hbA.mono hV0_1_2.size)) (fun hV0_1_2_3 => ?_)
        have B := B.below hbA B.lt
        have A := A.below hbA A.lt
        have hz_3 := hbA.size
        have huA := hsA.blkLt
        have huB := hsB.blkLt
        refine ordB_only (opB_call rfl rfl (fun K hK => ?_))
        go_simp
        go_at_call 8
        refine (s20_build2 (HS.out.mono hV0_1_2_3)).mono ?_
        rintro e VC ⟨LC, LD, cC, cD, rfl, hsC, hsD, hkC, hbC, hoC, hoD⟩
        refine hK.out _ _ (hV0_1_2_3.trans (hbC.mono hV0_1_2_3.size)) (fun hV0_1_2_3_4 => ?_)
        have B := B.below hbC B.lt
        have A := A.below hbC A.lt
        have hsA := hsA.below keeps_lk hbC
        have hsB := hsB.below keeps_int hbC
        have hz_4 := hbC.size
        have huC := hsC.blkLt
        have huD := hsD.blkLt
        refine ordB_only (opB_call rfl rfl (fun K hK => ?_))
        have Ac0 := A.cell 0
        have Af0 := A.frozen 0
        have Ac1 := A.cell 1
        have Af1 := A.frozen 1
        have Ac2 := A.cell 2
        have Af2 := A.frozen 2
        have Ac3 := A.cell 3
        have Af3 := A.frozen 3
        simp at Ac0 Ac1 Ac2 Ac3
        go_simp
        refine hK.out _ _ ((((hV0_1_2_3_4.setCell (p := ⟨V0_1.heap.size, 0, none⟩) Ag _).setCell (p := ⟨V0_1.heap.size, 1, none⟩) Ag _).setCell (p := ⟨V0_1.heap.size, 2, none⟩) Ag _).setCell (p := ⟨V0_1.heap.size, 3, none⟩) Ag _) (fun hV0_1_2_3_4_5 => ?_)
        have A := ((((A.set_ 0 (.int .i64 3)).set_ 1 (.slice LA 3 cA)).set_ 2 (.slice LB 3 cB)).set_ 3 (.int .i64 0))
        have Bne : V0.heap.size ≠ V0_1.heap.size := by first | exact B_A | exact A_B.symm
        have B := ((((B.far (p := ⟨V0_1.heap.size, 0, none⟩) Bne (.int .i64 3)).far (p := ⟨V0_1.heap.size, 1, none⟩) Bne (.slice LA 3 cA)).far (p := ⟨V0_1.heap.size, 2, none⟩) Bne (.slice LB 3 cB)).far (p := ⟨V0_1.heap.size, 3, none⟩) Bne (.int .i64 0))
        have hsAAne : ∀ a, LA = some a → s20w.g.ls ≠ [] → a.block ≠ V0_1.heap.size := fun a h hn => by have h1 := hoA a h; have h2 := huA hn a h; omega
        have hsA := ((((hsA.awayG lk_any (p := ⟨V0_1.heap.size, 0, none⟩) hsAAne (.int .i64 3)).awayG lk_any (p := ⟨V0_1.heap.size, 1, none⟩) hsAAne (.slice LA 3 cA)).awayG lk_any (p := ⟨V0_1.heap.size, 2, none⟩) hsAAne (.slice LB 3 cB)).awayG lk_any (p := ⟨V0_1.heap.size, 3, none⟩) hsAAne (.int .i64 0))
        have hsBAne : ∀ a, LB = some a → s20w.last ≠ [] → a.block ≠ V0_1.heap.size := fun a h hn => by have h1 := hoB a h; have h2 := huB hn a h; omega
        have hsB := ((((hsB.awayG int_any_ (p := ⟨V0_1.heap.size, 0, none⟩) hsBAne (.int .i64 3)).awayG int_any_ (p := ⟨V0_1.heap.size, 1, none⟩) hsBAne (.slice LA 3 cA)).awayG int_any_ (p := ⟨V0_1.heap.size, 2, none⟩) hsBAne (.slice LB 3 cB)).awayG int_any_ (p := ⟨V0_1.heap.size, 3, none⟩) hsBAne (.int .i64 0))
        have hsCAne : ∀ a, LC = some a → s20o.g.ls ≠ [] → a.block ≠ V0_1.heap.size := fun a h hn => by have h1 := hoC a h; have h2 := huC hn a h; omega
        have hsC := ((((hsC.awayG lk_any (p := ⟨V0_1.heap.size, 0, none⟩) hsCAne (.int .i64 3)).awayG lk_any (p := ⟨V0_1.heap.size, 1, none⟩) hsCAne (.slice LA 3 cA)).awayG lk_any (p := ⟨V0_1.heap.size, 2, none⟩) hsCAne (.slice LB 3 cB)).awayG lk_any (p := ⟨V0_1.heap.size, 3, none⟩) hsCAne (.int .i64 0))
        have hsDAne : ∀ a, LD = some a → s20o.last ≠ [] → a.block ≠ V0_1.heap.size := fun a h hn => by have h1 := hoD a h; have h2 := huD hn a h; omega
        have hsD := ((((hsD.awayG int_any_ (p := ⟨V0_1.heap.size, 0, none⟩) hsDAne (.int .i64 3)).awayG int_any_ (p := ⟨V0_1.heap.size, 1, none⟩) hsDAne (.slice LA 3 cA)).awayG int_any_ (p := ⟨V0_1.heap.size, 2, none⟩) hsDAne (.slice LB 3 cB)).awayG int_any_ (p := ⟨V0_1.heap.size, 3, none⟩) hsDAne (.int .i64 0))
        obtain ⟨VC_5, qqVC_5⟩ : ∃ W', ((((VC.setCell ⟨V0_1.heap.size, 0, none⟩ (.int .i64 3)).setCell ⟨V0_1.heap.size, 1, none⟩ (.slice LA 3 cA)).setCell ⟨V0_1.heap.size, 2, none⟩ (.slice LB 3 cB)).setCell ⟨V0_1.heap.size, 3, none⟩ (.int .i64 0)) = W' := ⟨_, rfl⟩
        rw [qqVC_5] at hV0_1_2_3_4_5 A B hsA hsB hsC hsD ⊢
        clear qqVC_5 Ac0 Af0 Ac1 Af1 Ac2 Af2 Ac3 Af3
        refine ordB_only (opB_call rfl rfl (fun K hK => ?_))
        have Bc0 := B.cell 0
        have Bf0 := B.frozen 0
        have Bc1 := B.cell 1
        have Bf1 := B.frozen 1
        have Bc2 := B.cell 2
        have Bf2 := B.frozen 2
        have Bc3 := B.cell 3
        have Bf3 := B.frozen 3
        simp at Bc0 Bc1 Bc2 Bc3
        go_simp
        refine hK.out _ _ ((((hV0_1_2_3_4_5.setCell (p := ⟨V0.heap.size, 0, none⟩) Bg _).setCell (p := ⟨V0.heap.size, 1, none⟩) Bg _).setCell (p := ⟨V0.heap.size, 2, none⟩) Bg _).setCell (p := ⟨V0.heap.size, 3, none⟩) Bg _) (fun hV0_1_2_3_4_5_6 => ?_)
        have B := ((((B.set_ 0 (.int .i64 1)).set_ 1 (.slice LC 0 cC)).set_ 2 (.slice LD 1 cD)).set_ 3 (.int .i64 0))
        have Ane : V0_1.heap.size ≠ V0.heap.size := by first | exact A_B | exact B_A.symm
        have A := ((((A.far (p := ⟨V0.heap.size, 0, none⟩) Ane (.int .i64 1)).far (p := ⟨V0.heap.size, 1, none⟩) Ane (.slice LC 0 cC)).far (p := ⟨V0.heap.size, 2, none⟩) Ane (.slice LD 1 cD)).far (p := ⟨V0.heap.size, 3, none⟩) Ane (.int .i64 0))
        have hsABne : ∀ a, LA = some a → s20w.g.ls ≠ [] → a.block ≠ V0.heap.size := fun a h hn => by have h1 := hoA a h; have h2 := huA hn a h; omega
        have hsA := ((((hsA.awayG lk_any (p := ⟨V0.heap.size, 0, none⟩) hsABne (.int .i64 1)).awayG lk_any (p := ⟨V0.heap.size, 1, none⟩) hsABne (.slice LC 0 cC)).awayG lk_any (p := ⟨V0.heap.size, 2, none⟩) hsABne (.slice LD 1 cD)).awayG lk_any (p := ⟨V0.heap.size, 3, none⟩) hsABne (.int .i64 0))
        have hsBBne : ∀ a, LB = some a → s20w.last ≠ [] → a.block ≠ V0.heap.size := fun a h hn => by have h1 := hoB a h; have h2 := huB hn a h; omega
        have hsB := ((((hsB.awayG int_any_ (p := ⟨V0.heap.size, 0, none⟩) hsBBne (.int .i64 1)).awayG int_any_ (p := ⟨V0.heap.size, 1, none⟩) hsBBne (.slice LC 0 cC)).awayG int_any_ (p := ⟨V0.heap.size, 2, none⟩) hsBBne (.slice LD 1 cD)).awayG int_any_ (p := ⟨V0.heap.size, 3, none⟩) hsBBne (.int .i64 0))
        have hsCBne : ∀ a, LC = some a → s20o.g.ls ≠ [] → a.block ≠ V0.heap.size := fun a h hn => by have h1 := hoC a h; have h2 := huC hn a h; omega
        have hsC := ((((hsC.awayG lk_any (p := ⟨V0.heap.size, 0, none⟩) hsCBne (.int .i64 1)).awayG lk_any (p := ⟨V0.heap.size, 1, none⟩) hsCBne (.slice LC 0 cC)).awayG lk_any (p := ⟨V0.heap.size, 2, none⟩) hsCBne (.slice LD 1 cD)).awayG lk_any (p := ⟨V0.heap.size, 3, none⟩) hsCBne (.int .i64 0))
        have hsDBne : ∀ a, LD = some a → s20o.last ≠ [] → a.block ≠ V0.heap.size := fun a h hn => by have h1 := hoD a h; have h2 := huD hn a h; omega
        have hsD := ((((hsD.awayG int_any_ (p := ⟨V0.heap.size, 0, none⟩) hsDBne (.int .i64 1)).awayG int_any_ (p := ⟨V0.heap.size, 1, none⟩) hsDBne (.slice LC 0 cC)).awayG int_any_ (p := ⟨V0.heap.size, 2, none⟩) hsDBne (.slice LD 1 cD)).awayG int_any_ (p := ⟨V0.heap.size, 3, none⟩) hsDBne (.int .i64 0))
        obtain ⟨VC_5_6, qqVC_5_6⟩ : ∃ W', ((((VC_5.setCell ⟨V0.heap.size, 0, none⟩ (.int .i64 1)).setCell ⟨V0.heap.size, 1, none⟩ (.slice LC 0 cC)).setCell ⟨V0.heap.size, 2, none⟩ (.slice LD 1 cD)).setCell ⟨V0.heap.size, 3, none⟩ (.int .i64 0)) = W' := ⟨_, rfl⟩
        rw [qqVC_5_6] at hV0_1_2_3_4_5_6 B A hsA hsB hsC hsD ⊢
        clear qqVC_5_6 Bc0 Bf0 Bc1 Bf1 Bc2 Bf2 Bc3 Bf3
        refine ordB_nil ?_
        go_wp2_with fail
        go_meet
        have A2 : Blk VC_5_6 V0_1.heap.size 45 #[.int .i64 3, .slice LA 3 cA, .slice LB 3 cB, .int .i64 0] := by simpa using A
        have B2 : Blk VC_5_6 V0.heap.size 45 #[.int .i64 1, .slice LC 0 cC, .slice LD 1 cD, .int .i64 0] := by simpa using B
        exact ⟨_, _, LA, LB, LC, LD, cA, cB, cC, cD, rfl, rfl, ⟨A2, hsA, hsB, hkA⟩, ⟨B2, hsC, hsD, hkC⟩, hV0_1_2_3_4_5_6⟩
  case rest =>
    obtain ⟨V3, rfl⟩ : ∃ W, W = wc := ⟨wc, rfl⟩
    obtain ⟨p3, p4, LA, LB, LC, LD, cA, cB, cC, cD, rfl, rfl, hB3, hB4, hb3⟩ := hcut
    have hS := HS.out.mono hb3
    have hbw := bthen HBW.out hb3
    obtain ⟨V4, hV4⟩ : ∃ V, ((V3.alloc (.cells #[.int .i64 0, .int .i64 1, .int .i64 0, .int .i64 12, .int .i64 0, .int .i64 2, .int .i64 1, .int .i64 14, .int .i64 1, .int .i64 2, .int .i64 2, .int .i64 13] 67)).alloc (.cells #[.int .i64 (-1), .int .i64 1, .int .i64 (-1)] 3)).alloc (.cells #[.int .i64 3, .slice (some ⟨V3.heap.size, 0, none⟩) 3 3, .slice (some ⟨V3.heap.size + 1, 0, none⟩) 3 3, .int .i64 0] 45) = V := ⟨_, rfl⟩
    have hb4 : Below V3.heap.size V3 V4 := by rw [← hV4]; exact nw _ (nw _ (nw _ (Below.refl _ _)))
    have k1 : Blk V4 V3.heap.size 67 #[.int .i64 0, .int .i64 1, .int .i64 0, .int .i64 12, .int .i64 0, .int .i64 2, .int .i64 1, .int .i64 14, .int .i64 1, .int .i64 2, .int .i64 2, .int .i64 13] := by rw [← hV4]; exact ((Blk.new _ _ _).alloc _).alloc _
    have k2 : Blk V4 (V3.heap.size + 1) 3 #[.int .i64 (-1), .int .i64 1, .int .i64 (-1)] := by rw [← hV4]; exact (Blk.new_ (by simp)).alloc _
    have k3 : Blk V4 (V3.heap.size + 1 + 1) 45 #[.int .i64 3, .slice (some ⟨V3.heap.size, 0, none⟩) 3 3, .slice (some ⟨V3.heap.size + 1, 0, none⟩) 3 3, .int .i64 0] := by rw [← hV4]; exact Blk.new_ (by simp)
    have e1 := slr_of_blk (s := 4) (R := RLk) (enc := encLk) (xs := s20w.g.ls) k1 (fun _ => rfl) (fun _ => rfl) (by decide)
    have e2 := slr_of_blk (s := 1) (R := RInt) (enc := fun x => [Value.int .i64 x]) (xs := s20w.last) k2 (fun _ => rfl) (fun _ => rfl) (by decide)
    have hB5 : BB s20w (V3.heap.size + 1 + 1) (some ⟨V3.heap.size, 0, none⟩) (some ⟨V3.heap.size + 1, 0, none⟩) 3 3 V4 := ⟨k3, e1, e2, by decide⟩
    have HV4 := Lib.hid hV4
    have HS4 := Lib.hid (hS.mono hb4)
    have HBB := Lib.hid (And.intro (hB3.below hb4) (And.intro (hB4.below hb4) hB5))
    have HBW4 := Lib.hid (bthen hbw hb4)
    clear x0 x1 m0 m1 m2 m3 xl ml hB3 hB4 hb3 hS hbw hb4 k1 k2 k3 e1 e2 hB5 hV4 HS HBW
    go_upto_region 5 with fail
    rw [HV4.out]
    clear HV4
    obtain ⟨q1, hq1⟩ : ∃ b, V3.heap.size + 1 = b := ⟨_, rfl⟩
    rw [hq1] at HBB ⊢
    generalize q1 + 1 = p5 at *
    generalize V3.heap.size = bL at *
    clear hq1
    have HC : Hid (∀ W', Below V4.heap.size V4 W' → ((W'.cell? ⟨bX, 0, none⟩ = some (.int .i64 2) ∧ W'.cell? ⟨bX, 1, none⟩ = some (.slice (some ⟨bE, 0, none⟩) 3 3)) ∧ (W'.cell? ⟨bM, 0, none⟩ = some (.slice (some ⟨bS, 0, none⟩) 3 3) ∧ W'.cell? ⟨bM, 1, none⟩ = some (.slice (some ⟨bC, 0, none⟩) 3 3) ∧ W'.cell? ⟨bM, 2, none⟩ = some (.slice none 0 0) ∧ W'.cell? ⟨bM, 3, none⟩ = some (.int .i64 0)) ∧ bX < W'.heap.size ∧ bM < W'.heap.size) ∧ (W'.cell? ⟨p3, 0, none⟩ = some (.int .i64 3) ∧ W'.cell? ⟨p3, 1, none⟩ = some (.slice LA 3 cA) ∧ W'.cell? ⟨p3, 2, none⟩ = some (.slice LB 3 cB) ∧ W'.cell? ⟨p3, 3, none⟩ = some (.int .i64 0) ∧ p3 < W'.heap.size) ∧ (W'.cell? ⟨p4, 0, none⟩ = some (.int .i64 1) ∧ W'.cell? ⟨p4, 1, none⟩ = some (.slice LC 0 cC) ∧ W'.cell? ⟨p4, 2, none⟩ = some (.slice LD 1 cD) ∧ W'.cell? ⟨p4, 3, none⟩ = some (.int .i64 0) ∧ p4 < W'.heap.size) ∧ (W'.cell? ⟨p5, 0, none⟩ = some (.int .i64 3) ∧ W'.cell? ⟨p5, 1, none⟩ = some (.slice (some ⟨bL, 0, none⟩) 3 3) ∧ W'.cell? ⟨p5, 2, none⟩ = some (.slice (some ⟨q1, 0, none⟩) 3 3) ∧ W'.cell? ⟨p5, 3, none⟩ = some (.int .i64 0) ∧ p5 < W'.heap.size)) := fun W' hW' => by
      obtain ⟨h3, h4, h5⟩ := HBB.out
      have hs := (HS4.out.mono hW').cells
      have f3 := (h3.below hW').b
      have f4 := (h4.below hW').b
      have f5 := (h5.below hW').b
      exact ⟨hs, ⟨by rw [f3.cell]; rfl, by rw [f3.cell]; rfl, by rw [f3.cell]; rfl, by rw [f3.cell]; rfl, f3.lt⟩, ⟨by rw [f4.cell]; rfl, by rw [f4.cell]; rfl, by rw [f4.cell]; rfl, by rw [f4.cell]; rfl, f4.lt⟩, ⟨by rw [f5.cell]; rfl, by rw [f5.cell]; rfl, by rw [f5.cell]; rfl, by rw [f5.cell]; rfl, f5.lt⟩⟩
    have hx0 : Below V4.heap.size V4 V4 := Below.refl _ _
    obtain ⟨⟨⟨x0, x1⟩, ⟨m0, m1, m2, m3⟩, xl, ml⟩, ⟨u0, u1, u2, u3, ul⟩, ⟨v0, v1, v2, v3, vl⟩, ⟨z0, z1, z2, z3, zl⟩⟩ := HC.out _ hx0
    go_upto_region 6 with (go_at_call 11; go_loud (refine (s20_cost1 HS4.out).mono ?_; rintro e X1 ⟨rfl, hx1⟩; clear x0 x1 m0 m1 m2 m3 xl ml u0 u1 u2 u3 ul v0 v1 v2 v3 vl z0 z1 z2 z3 zl; obtain ⟨⟨⟨x0, x1⟩, ⟨m0, m1, m2, m3⟩, xl, ml⟩, ⟨u0, u1, u2, u3, ul⟩, ⟨v0, v1, v2, v3, vl⟩, ⟨z0, z1, z2, z3, zl⟩⟩ := HC.out _ hx1))
    go_upto_region 7 with (go_at_call 11; go_loud (refine (s20_cost2 (HS4.out.mono hx1)).mono ?_; rintro e X2 ⟨rfl, hy⟩; have hx2 := bthen hx1 hy; clear hy x0 x1 m0 m1 m2 m3 xl ml u0 u1 u2 u3 ul v0 v1 v2 v3 vl z0 z1 z2 z3 zl; obtain ⟨⟨⟨x0, x1⟩, ⟨m0, m1, m2, m3⟩, xl, ml⟩, ⟨u0, u1, u2, u3, ul⟩, ⟨v0, v1, v2, v3, vl⟩, ⟨z0, z1, z2, z3, zl⟩⟩ := HC.out _ hx2))
    go_upto_region 8 with (go_at_call 11; go_loud (refine (s20_cost3 (HS4.out.mono hx2)).mono ?_; rintro e X3 ⟨rfl, hy⟩; have hx3 := bthen hx2 hy; clear hy x0 x1 m0 m1 m2 m3 xl ml u0 u1 u2 u3 ul v0 v1 v2 v3 vl z0 z1 z2 z3 zl; obtain ⟨⟨⟨x0, x1⟩, ⟨m0, m1, m2, m3⟩, xl, ml⟩, ⟨u0, u1, u2, u3, ul⟩, ⟨v0, v1, v2, v3, vl⟩, ⟨z0, z1, z2, z3, zl⟩⟩ := HC.out _ hx3))
    go_upto_region 9 with (go_at_call 11; go_loud (refine (s20_cost4 (HS4.out.mono hx3)).mono ?_; rintro e X4 ⟨rfl, hy⟩; have hx4 := bthen hx3 hy; clear hy x0 x1 m0 m1 m2 m3 xl ml u0 u1 u2 u3 ul v0 v1 v2 v3 vl z0 z1 z2 z3 zl; obtain ⟨⟨⟨x0, x1⟩, ⟨m0, m1, m2, m3⟩, xl, ml⟩, ⟨u0, u1, u2, u3, ul⟩, ⟨v0, v1, v2, v3, vl⟩, ⟨z0, z1, z2, z3, zl⟩⟩ := HC.out _ hx4))
    have HO : Hid (∀ W, Below V4.heap.size V4 W → Calls Try.prog 17 #[.agg #[.int .i64 1, .slice LC 0 cC, .slice LD 1 cD, .int .i64 0], .agg #[.int .i64 1, .slice none 0 0, .slice (some ⟨W.heap.size, 0, none⟩) 1 1, .int .i64 0]] (W.alloc (.cells #[.int .i64 2] 3)) fun e w' => e = .returned (.bool true) ∧ Below W.heap.size W w') := fun W hW => by
      have hb : Below W.heap.size W (W.alloc (.cells #[.int .i64 2] 3)) := nw _ (Below.refl _ _)
      have h4 := (HBB.out.2.1.below hW).below hb
      exact (s20_same (a := s20o) (b := s20o) rfl h4.g h4.l (BG := none) (BL := some ⟨W.heap.size, 0, none⟩) SlR.nil (row_ints W [2] (by decide)) rfl rfl rfl rfl rfl rfl rfl rfl (by decide) (by decide)).mono fun e w' h => ⟨h.1, bthen hb h.2⟩
    have hfld := s20_fld
    have HO1 : Hid (∀ W, Below V4.heap.size V4 W → Calls Try.prog 17 #[.agg #[.int .i64 3, .slice LA 3 cA, .slice LB 3 cB, .int .i64 0], .agg #[.int .i64 3, .slice (some ⟨bL, 0, none⟩) 3 3, .slice (some ⟨q1, 0, none⟩) 3 3, .int .i64 0]] W fun e w' => e = .returned (.bool true) ∧ Below W.heap.size W w') := fun W hW => by
      have h3 := HBB.out.1.below hW
      have h5 := HBB.out.2.2.below hW
      exact s20_same (a := s20w) (b := s20w) rfl h3.g h3.l h5.g h5.l rfl rfl rfl rfl rfl rfl rfl rfl (by decide) (by decide)
    go_upto_region 10 with (first
      | (go_at_call 17; go_loud ((with_reducible refine (HO1.out _ hx4).mono ?_); rintro e X5 ⟨rfl, hy⟩; have hx5 := bthen hx4 hy; clear hy x0 x1 m0 m1 m2 m3 xl ml u0 u1 u2 u3 ul v0 v1 v2 v3 vl z0 z1 z2 z3 zl; obtain ⟨⟨⟨x0, x1⟩, ⟨m0, m1, m2, m3⟩, xl, ml⟩, ⟨u0, u1, u2, u3, ul⟩, ⟨v0, v1, v2, v3, vl⟩, ⟨z0, z1, z2, z3, zl⟩⟩ := HC.out _ hx5))
      | (go_at_call 17; go_loud ((with_reducible refine (HO.out _ hx5).mono ?_); rintro e X6 ⟨rfl, hy⟩; have hx6 := bthen hx5 hy; clear hy x0 x1 m0 m1 m2 m3 xl ml u0 u1 u2 u3 ul v0 v1 v2 v3 vl z0 z1 z2 z3 zl; obtain ⟨⟨⟨x0, x1⟩, ⟨m0, m1, m2, m3⟩, xl, ml⟩, ⟨u0, u1, u2, u3, ul⟩, ⟨v0, v1, v2, v3, vl⟩, ⟨z0, z1, z2, z3, zl⟩⟩ := HC.out _ hx6))
      | (go_at_call 8; go_loud ((with_reducible refine (s20_build3 (HS4.out.mono hx6)).mono ?_); intro e X7 hg; obtain ⟨_, _, _, _, rfl, hy⟩ := s20_gives hg; have hx7 := bthen hx6 hy; clear hy hg x0 x1 m0 m1 m2 m3 xl ml u0 u1 u2 u3 ul v0 v1 v2 v3 vl z0 z1 z2 z3 zl; obtain ⟨⟨⟨x0, x1⟩, ⟨m0, m1, m2, m3⟩, xl, ml⟩, ⟨u0, u1, u2, u3, ul⟩, ⟨v0, v1, v2, v3, vl⟩, ⟨z0, z1, z2, z3, zl⟩⟩ := HC.out _ hx7))
      | (go_at_call 8; go_loud ((with_reducible refine (s20_build4 (HS4.out.mono hx7)).mono ?_); intro e X8 hg; obtain ⟨_, _, _, _, rfl, hy⟩ := s20_gives hg; have hx8 := bthen hx7 hy; clear hy hg x0 x1 m0 m1 m2 m3 xl ml u0 u1 u2 u3 ul v0 v1 v2 v3 vl z0 z1 z2 z3 zl; obtain ⟨⟨⟨x0, x1⟩, ⟨m0, m1, m2, m3⟩, xl, ml⟩, ⟨u0, u1, u2, u3, ul⟩, ⟨v0, v1, v2, v3, vl⟩, ⟨z0, z1, z2, z3, zl⟩⟩ := HC.out _ hx8))
      | (go_at_call 8; go_loud ((with_reducible refine (s20_build5 (HS4.out.mono hx8)).mono ?_); intro e X9 hg; obtain ⟨_, _, _, _, rfl, hy⟩ := s20_gives hg; have hx9 := bthen hx8 hy; clear hy hg x0 x1 m0 m1 m2 m3 xl ml u0 u1 u2 u3 ul v0 v1 v2 v3 vl z0 z1 z2 z3 zl; obtain ⟨⟨⟨x0, x1⟩, ⟨m0, m1, m2, m3⟩, xl, ml⟩, ⟨u0, u1, u2, u3, ul⟩, ⟨v0, v1, v2, v3, vl⟩, ⟨z0, z1, z2, z3, zl⟩⟩ := HC.out _ hx9)))
    go_wp2_with (first
      | (go_at_call 16; go_loud (refine (s20_words (HS4.out.mono hx9) (HBB.out.2.2.below hx9).g).mono ?_; rintro e X10 ⟨B10, c10, rfl, hr10, hy⟩; have hx10 := bthen hx9 hy; clear hy))
      | (go_at_call 12; go_loud (refine (s20_ints hr10).mono ?_; rintro e X11 ⟨rfl, hy⟩; have hx11 := bthen hx10 hy; clear hy)))
    go_ret
    exact ⟨rfl, by first | exact bthen HBW4.out hx11⟩
end Go.Proofs.Ytfjkmgjjifhdkaa
