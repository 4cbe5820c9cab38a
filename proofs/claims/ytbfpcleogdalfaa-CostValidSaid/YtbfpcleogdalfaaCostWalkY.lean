/-
  The walks of layer 11: the fixed examples.
-/
import Derived.Test.YtbfpcleogdalfaaCostWalkX
namespace Go.Proofs.Ytbfpcleogdalfaa
open Go Go.RowKit

theorem slr_of_blk {α : Type} {s : Nat} {enc : α → List Value} {R : World → α → List Value → Prop} {w : World} {g : Nat} {t : TypeId} {xs : List α} (h : Blk w g t (xs.flatMap enc).toArray) (hl : ∀ x, (enc x).length = s) (hR : ∀ x, R w x (enc x)) (hn : xs.length ≤ 65536) :
    SlR s R w (some ⟨g, 0, none⟩) xs := by
  have h1 := own_of_blk (base := 0) (n := xs.length) (cap := xs.length) h (Nat.zero_le _) (Nat.le_refl _) (by unfold maxLen; omega) (flatMap_len hl xs)
  rw [List.take_of_length_le (by rw [flatMap_len hl xs]; exact Nat.le_refl _)] at h1
  obtain ⟨A, cap, hv, _, _, hs⟩ := own_slr (R := R) h1 hl hR rfl
  injection hv with hv
  subst hv
  exact hs
def sNums : List Int := [1, 2, 3, 4, 5, 7, 8, 1000, 0]
def sLogs : List Int := [0, 8, 12, 16, 18, 22, 24, 79, 0]
theorem logs_ok : ∀ k < 9, lg (sNums.getD k 0) = sLogs.getD k 0 := by decide +kernel
theorem logs_at {k : Nat} {x y : Int} (hx : sNums[k]? = some x) (hy : sLogs[k]? = some y) : lg x = y ∧ x ≤ 1000 := by
  obtain ⟨hk, _⟩ := List.getElem?_eq_some_iff.1 hx
  have h := logs_ok k hk
  rw [List.getD_eq_getElem?_getD, List.getD_eq_getElem?_getD, hx, hy] at h
  refine ⟨h, ?_⟩
  have h2 : ∀ z ∈ sNums, z ≤ 1000 := by decide
  exact h2 x (List.mem_of_getElem? hx)
def sanM : Mo := ⟨ab, [0, 3], [], 10⟩
def sanP : Mo := ⟨ab, [0, 3], [⟨0, 0, 3⟩, ⟨0, 1, 1⟩], 10⟩
def sanA : Mo := ⟨ab, [0, 5], [⟨0, 1, 2⟩], 10⟩
def sanZ : Mo := ⟨[], [], [], 0⟩

/-- What the fixed examples keep in memory. -/
structure San (B : Nat) (W : World) : Prop where
  b4 : Blk W (B + 1 + 1) 34 #[.slice (some ⟨B, 0, none⟩) 2 2, .slice (some ⟨B + 1, 0, none⟩) 2 2, .slice none 0 0, .int .i64 10]
  b5 : Blk W (B + 1 + 1 + 1) 34 #[.slice (some ⟨B, 0, none⟩) 2 2, .slice (some ⟨B + 1, 0, none⟩) 2 2, .slice (some ⟨B + 1 + 1 + 1 + 1, 0, none⟩) 2 2, .int .i64 10]
  r4 : MoR W sanM (some ⟨B, 0, none⟩) (some ⟨B + 1, 0, none⟩) none
  r5 : MoR W sanP (some ⟨B, 0, none⟩) (some ⟨B + 1, 0, none⟩) (some ⟨B + 1 + 1 + 1 + 1, 0, none⟩)
theorem San.below {B : Nat} {W W' : World} (h : San B W) (hb : Below W.heap.size W W') : San B W' := ⟨h.b4.below hb h.b4.lt, h.b5.below hb h.b5.lt, h.r4.below hb, h.r5.below hb⟩
theorem San.alloc {B : Nat} {W : World} (h : San B W) (o : Obj) : San B (W.alloc o) := h.below ((Below.refl _ _).alloc (Nat.le_refl _) o)
theorem ok_san : MoOK sanM ∧ MoOK sanP ∧ MoOK sanA := by decide +kernel
section
variable {B : Nat} {W : World}
theorem sanW0 (I : San B W) : Calls Try.prog 12 #[.agg #[.slice (some ⟨B, 0, none⟩) 2 2, .slice (some ⟨B + 1, 0, none⟩) 2 2, .slice none 0 0, .int .i64 10], .int .i64 0] W fun e w' => e = .returned (.int .i64 18) ∧ Below W.heap.size W w' := by
  have h := wcost_any sanM _ _ _ 2 2 0 0 W I.r4 ok_san.1.1.1.2 (by decide)
  rw [show wcost sanM 0 = 18 by decide +kernel] at h
  exact h
theorem sanW1 (I : San B W) : Calls Try.prog 12 #[.agg #[.slice (some ⟨B, 0, none⟩) 2 2, .slice (some ⟨B + 1, 0, none⟩) 2 2, .slice none 0 0, .int .i64 10], .int .i64 1] W fun e w' => e = .returned (.int .i64 2) ∧ Below W.heap.size W w' := by
  have h := wcost_any sanM _ _ _ 2 2 0 1 W I.r4 ok_san.1.1.1.2 (by decide)
  rw [show wcost sanM 1 = 2 by decide +kernel] at h
  exact h
theorem sanP01 (I : San B W) : Calls Try.prog 14 #[.agg #[.slice (some ⟨B, 0, none⟩) 2 2, .slice (some ⟨B + 1, 0, none⟩) 2 2, .slice (some ⟨B + 1 + 1 + 1 + 1, 0, none⟩) 2 2, .int .i64 10], .int .i64 0, .int .i64 1] W fun e w' => e = .returned (.int .i64 16) ∧ Below W.heap.size W w' := by
  have h := pair_any sanP _ _ _ 2 2 2 0 1 W I.r5 ok_san.2.1 (by decide) (by decide) (by decide) (by decide)
  rw [show pcost sanP 0 1 = 16 by decide +kernel] at h
  exact h
theorem sanP00 (I : San B W) : Calls Try.prog 14 #[.agg #[.slice (some ⟨B, 0, none⟩) 2 2, .slice (some ⟨B + 1, 0, none⟩) 2 2, .slice (some ⟨B + 1 + 1 + 1 + 1, 0, none⟩) 2 2, .int .i64 10], .int .i64 0, .int .i64 0] W fun e w' => e = .returned (.int .i64 4) ∧ Below W.heap.size W w' := by
  have h := pair_any sanP _ _ _ 2 2 2 0 0 W I.r5 ok_san.2.1 (by decide) (by decide) (by decide) (by decide)
  rw [show pcost sanP 0 0 = 4 by decide +kernel] at h
  exact h
theorem sanP10 (I : San B W) : Calls Try.prog 14 #[.agg #[.slice (some ⟨B, 0, none⟩) 2 2, .slice (some ⟨B + 1, 0, none⟩) 2 2, .slice (some ⟨B + 1 + 1 + 1 + 1, 0, none⟩) 2 2, .int .i64 10], .int .i64 1, .int .i64 0] W fun e w' => e = .returned (.int .i64 28) ∧ Below W.heap.size W w' := by
  have h := pair_any sanP _ _ _ 2 2 2 1 0 W I.r5 ok_san.2.1 (by decide) (by decide) (by decide) (by decide)
  rw [show pcost sanP 1 0 = 28 by decide +kernel] at h
  exact h
theorem sanPm (I : San B W) : Calls Try.prog 14 #[.agg #[.slice (some ⟨B, 0, none⟩) 2 2, .slice (some ⟨B + 1, 0, none⟩) 2 2, .slice (some ⟨B + 1 + 1 + 1 + 1, 0, none⟩) 2 2, .int .i64 10], .int .i64 (-1), .int .i64 0] W fun e w' => e = .returned (.int .i64 18) ∧ Below W.heap.size W w' := by
  have h := pair_any sanP _ _ _ 2 2 2 (-1) 0 W I.r5 ok_san.2.1 (by decide) (by decide) (by decide) (by decide)
  rw [show pcost sanP (-1) 0 = 18 by decide +kernel] at h
  exact h
theorem sanL1x (I : San B W) : Calls Try.prog 16 #[.agg #[.slice (some ⟨B, 0, none⟩) 2 2, .slice (some ⟨B + 1, 0, none⟩) 2 2, .slice none 0 0, .int .i64 10], .int .i64 0, .int .i64 1, .int .i64 2] W (GivesL (some sanA) W) := by
  have h := learn_any sanM _ _ _ 2 2 0 0 1 2 W I.r4
  rw [show learnM sanM 0 1 2 = some sanA by kernel_rfl] at h
  exact h
theorem sanL2 (I : San B W) : Calls Try.prog 16 #[.agg #[.slice (some ⟨B, 0, none⟩) 2 2, .slice (some ⟨B + 1, 0, none⟩) 2 2, .slice none 0 0, .int .i64 10], .int .i64 0, .int .i64 1, .int .i64 0] W (GivesL (none) W) := by
  have h := learn_any sanM _ _ _ 2 2 0 0 1 0 W I.r4
  rw [show learnM sanM 0 1 0 = none by kernel_rfl] at h
  exact h
theorem sanL3 (I : San B W) : Calls Try.prog 16 #[.agg #[.slice (some ⟨B, 0, none⟩) 2 2, .slice (some ⟨B + 1, 0, none⟩) 2 2, .slice none 0 0, .int .i64 10], .int .i64 2, .int .i64 1, .int .i64 1] W (GivesL (none) W) := by
  have h := learn_any sanM _ _ _ 2 2 0 2 1 1 W I.r4
  rw [show learnM sanM 2 1 1 = none by kernel_rfl] at h
  exact h
theorem sanL4 (I : San B W) : Calls Try.prog 16 #[.agg #[.slice (some ⟨B, 0, none⟩) 2 2, .slice (some ⟨B + 1, 0, none⟩) 2 2, .slice none 0 0, .int .i64 10], .int .i64 (-1), .int .i64 2, .int .i64 1] W (GivesL (none) W) := by
  have h := learn_any sanM _ _ _ 2 2 0 (-1) 2 1 W I.r4
  rw [show learnM sanM (-1) 2 1 = none by kernel_rfl] at h
  exact h
theorem sanL1 (I : San B W) : Calls Try.prog 16 #[.agg #[.slice (some ⟨B, 0, none⟩) 2 2, .slice (some ⟨B + 1, 0, none⟩) 2 2, .slice none 0 0, .int .i64 10], .int .i64 0, .int .i64 1, .int .i64 2] W fun e w' => ∃ (B1 B2 B3 : Option Addr) (d1 d2 d3 : Nat), e = .returned (.tuple #[.agg #[.slice B1 2 d1, .slice B2 2 d2, .slice B3 1 d3, .int .i64 10], .int .i64 0]) ∧ MoR w' sanA B1 B2 B3 ∧ Below W.heap.size W w' :=
  (sanL1x I).mono fun _ _ ⟨B1, B2, B3, d1, d2, d3, h1, h2, _, h3⟩ => ⟨B1, B2, B3, d1, d2, d3, h1, h2, h3⟩
theorem sanN2 (I : San B W) : Calls Try.prog 16 #[.agg #[.slice (some ⟨B, 0, none⟩) 2 2, .slice (some ⟨B + 1, 0, none⟩) 2 2, .slice none 0 0, .int .i64 10], .int .i64 0, .int .i64 1, .int .i64 0] W fun e w' => e = .returned (.tuple #[.agg #[.slice none 0 0, .slice none 0 0, .slice none 0 0, .int .i64 0], .int .i64 110]) ∧ Below W.heap.size W w' := sanL2 I
theorem sanN3 (I : San B W) : Calls Try.prog 16 #[.agg #[.slice (some ⟨B, 0, none⟩) 2 2, .slice (some ⟨B + 1, 0, none⟩) 2 2, .slice none 0 0, .int .i64 10], .int .i64 2, .int .i64 1, .int .i64 1] W fun e w' => e = .returned (.tuple #[.agg #[.slice none 0 0, .slice none 0 0, .slice none 0 0, .int .i64 0], .int .i64 110]) ∧ Below W.heap.size W w' := sanL3 I
theorem sanN4 (I : San B W) : Calls Try.prog 16 #[.agg #[.slice (some ⟨B, 0, none⟩) 2 2, .slice (some ⟨B + 1, 0, none⟩) 2 2, .slice none 0 0, .int .i64 10], .int .i64 (-1), .int .i64 2, .int .i64 1] W fun e w' => e = .returned (.tuple #[.agg #[.slice none 0 0, .slice none 0 0, .slice none 0 0, .int .i64 0], .int .i64 110]) ∧ Below W.heap.size W w' := sanL4 I
theorem sanS (W : World) {B1 B2 B3 C1 C2 C3 : Option Addr} (d1 d2 d3 : Nat) (h : MoR W sanA B1 B2 B3) (h' : MoR W sanA C1 C2 C3) : Calls Try.prog 18 #[.agg #[.slice B1 2 d1, .slice B2 2 d2, .slice B3 1 d3, .int .i64 10], .agg #[.slice C1 2 2, .slice C2 2 2, .slice C3 1 1, .int .i64 10]] W fun e w' => e = .returned (.bool true) ∧ Below W.heap.size W w' := by
  have h := same_any sanA sanA B1 B2 B3 C1 C2 C3 d1 d2 d3 2 2 1 W h h'
  rw [show decide (SameM sanA sanA) = true from decide_eq_true ⟨rfl, rfl, rfl, rfl⟩] at h
  exact h
theorem sanV5 (I : San B W) : Calls Try.prog 19 #[.agg #[.slice (some ⟨B, 0, none⟩) 2 2, .slice (some ⟨B + 1, 0, none⟩) 2 2, .slice (some ⟨B + 1 + 1 + 1 + 1, 0, none⟩) 2 2, .int .i64 10]] W fun e w' => e = .returned (.bool true) ∧ Below W.heap.size W w' := by
  have h := valid_any sanP _ _ _ 2 2 2 W I.r5
  rw [show decide (MoOK sanP) = true by decide +kernel] at h
  exact h
theorem sanVZ (W : World) : Calls Try.prog 19 #[.agg #[.slice none 0 0, .slice none 0 0, .slice none 0 0, .int .i64 0]] W fun e w' => e = .returned (.bool false) ∧ Below W.heap.size W w' := by
  have h := valid_any sanZ none none none 0 0 0 W ⟨SlR.nil, SlR.nil, SlR.nil, by decide, by decide, by decide, by simp [sanZ], by simp [sanZ, Within]⟩
  rw [show decide (MoOK sanZ) = false by decide +kernel] at h
  exact h
end

theorem san_start (w : World) : San w.heap.size (((((w.alloc (.cells #[.string (ByteArray.mk #[97]), .string (ByteArray.mk #[98])] 9)).alloc (.cells #[.int .i64 0, .int .i64 3] 3)).alloc (.cells #[.slice (some ⟨w.heap.size, 0, none⟩) 2 2, .slice (some ⟨w.heap.size + 1, 0, none⟩) 2 2, .slice none 0 0, .int .i64 10] 34)).alloc (.cells #[.slice (some ⟨w.heap.size, 0, none⟩) 2 2, .slice (some ⟨w.heap.size + 1, 0, none⟩) 2 2, .slice (some ⟨w.heap.size + 1 + 1 + 1 + 1, 0, none⟩) 2 2, .int .i64 10] 34)).alloc (.cells #[.int .i64 0, .int .i64 0, .int .i64 3, .int .i64 0, .int .i64 1, .int .i64 1] 50)) := by
  have k1 := ((((Blk.new w 9 #[.string (ByteArray.mk #[97]), .string (ByteArray.mk #[98])]).alloc (.cells #[.int .i64 0, .int .i64 3] 3)).alloc (.cells #[.slice (some ⟨w.heap.size, 0, none⟩) 2 2, .slice (some ⟨w.heap.size + 1, 0, none⟩) 2 2, .slice none 0 0, .int .i64 10] 34)).alloc (.cells #[.slice (some ⟨w.heap.size, 0, none⟩) 2 2, .slice (some ⟨w.heap.size + 1, 0, none⟩) 2 2, .slice (some ⟨w.heap.size + 1 + 1 + 1 + 1, 0, none⟩) 2 2, .int .i64 10] 34)).alloc (.cells #[.int .i64 0, .int .i64 0, .int .i64 3, .int .i64 0, .int .i64 1, .int .i64 1] 50)
  have k2 := (((Blk.new_ (w := (w.alloc (.cells #[.string (ByteArray.mk #[97]), .string (ByteArray.mk #[98])] 9))) (t := 3) (cs := #[.int .i64 0, .int .i64 3]) (g := w.heap.size + 1) (by simp)).alloc (.cells #[.slice (some ⟨w.heap.size, 0, none⟩) 2 2, .slice (some ⟨w.heap.size + 1, 0, none⟩) 2 2, .slice none 0 0, .int .i64 10] 34)).alloc (.cells #[.slice (some ⟨w.heap.size, 0, none⟩) 2 2, .slice (some ⟨w.heap.size + 1, 0, none⟩) 2 2, .slice (some ⟨w.heap.size + 1 + 1 + 1 + 1, 0, none⟩) 2 2, .int .i64 10] 34)).alloc (.cells #[.int .i64 0, .int .i64 0, .int .i64 3, .int .i64 0, .int .i64 1, .int .i64 1] 50)
  have k3 := (((Blk.new_ (w := ((w.alloc (.cells #[.string (ByteArray.mk #[97]), .string (ByteArray.mk #[98])] 9)).alloc (.cells #[.int .i64 0, .int .i64 3] 3))) (t := 34) (cs := #[.slice (some ⟨w.heap.size, 0, none⟩) 2 2, .slice (some ⟨w.heap.size + 1, 0, none⟩) 2 2, .slice none 0 0, .int .i64 10]) (g := w.heap.size + 1 + 1) (by simp))).alloc (.cells #[.slice (some ⟨w.heap.size, 0, none⟩) 2 2, .slice (some ⟨w.heap.size + 1, 0, none⟩) 2 2, .slice (some ⟨w.heap.size + 1 + 1 + 1 + 1, 0, none⟩) 2 2, .int .i64 10] 34)).alloc (.cells #[.int .i64 0, .int .i64 0, .int .i64 3, .int .i64 0, .int .i64 1, .int .i64 1] 50)
  have k4 := (Blk.new_ (w := (((w.alloc (.cells #[.string (ByteArray.mk #[97]), .string (ByteArray.mk #[98])] 9)).alloc (.cells #[.int .i64 0, .int .i64 3] 3)).alloc (.cells #[.slice (some ⟨w.heap.size, 0, none⟩) 2 2, .slice (some ⟨w.heap.size + 1, 0, none⟩) 2 2, .slice none 0 0, .int .i64 10] 34))) (t := 34) (cs := #[.slice (some ⟨w.heap.size, 0, none⟩) 2 2, .slice (some ⟨w.heap.size + 1, 0, none⟩) 2 2, .slice (some ⟨w.heap.size + 1 + 1 + 1 + 1, 0, none⟩) 2 2, .int .i64 10]) (g := w.heap.size + 1 + 1 + 1) (by simp)).alloc (.cells #[.int .i64 0, .int .i64 0, .int .i64 3, .int .i64 0, .int .i64 1, .int .i64 1] 50)
  have k5 := Blk.new_ (w := ((((w.alloc (.cells #[.string (ByteArray.mk #[97]), .string (ByteArray.mk #[98])] 9)).alloc (.cells #[.int .i64 0, .int .i64 3] 3)).alloc (.cells #[.slice (some ⟨w.heap.size, 0, none⟩) 2 2, .slice (some ⟨w.heap.size + 1, 0, none⟩) 2 2, .slice none 0 0, .int .i64 10] 34)).alloc (.cells #[.slice (some ⟨w.heap.size, 0, none⟩) 2 2, .slice (some ⟨w.heap.size + 1, 0, none⟩) 2 2, .slice (some ⟨w.heap.size + 1 + 1 + 1 + 1, 0, none⟩) 2 2, .int .i64 10] 34))) (t := 50) (cs := #[.int .i64 0, .int .i64 0, .int .i64 3, .int .i64 0, .int .i64 1, .int .i64 1]) (g := w.heap.size + 1 + 1 + 1 + 1) (by simp)
  have s1 := slr_of_blk (s := 1) (R := RStr) (enc := fun x => [Value.string x]) (xs := ab) k1 (fun _ => rfl) (fun _ => rfl) (by decide)
  have s2 := slr_of_blk (s := 1) (R := RInt) (enc := fun x => [Value.int .i64 x]) (xs := [0, 3]) k2 (fun _ => rfl) (fun _ => rfl) (by decide)
  have s3 := slr_of_blk (s := 3) (R := RPr) (enc := encP) (xs := [⟨0, 0, 3⟩, ⟨0, 1, 1⟩]) k5 (fun _ => rfl) (fun _ => rfl) (by decide)
  exact ⟨k3, k4, ⟨s1, s2, SlR.nil, by decide, by decide, by decide, by decide, by simp [sanM, Within]⟩, ⟨s1, s2, s3, by decide, by decide, by decide, by decide, by simp [sanP, Within]⟩⟩

set_option maxRecDepth 100000 in
set_option maxHeartbeats 4000000 in
theorem sanity_any (w : World) : Calls Try.prog 10 #[] w fun e w' => e = .returned (.bool true) ∧ Below w.heap.size w w' := by
  have HN := Lib.hid (slr_of_blk (s := 1) (R := RInt) (enc := fun x => [Value.int .i64 x]) (xs := sNums) ((Blk.new w 3 #[.int .i64 1, .int .i64 2, .int .i64 3, .int .i64 4, .int .i64 5, .int .i64 7, .int .i64 8, .int .i64 1000, .int .i64 0]).alloc (.cells #[.int .i64 0, .int .i64 8, .int .i64 12, .int .i64 16, .int .i64 18, .int .i64 22, .int .i64 24, .int .i64 79, .int .i64 0] 3)) (fun _ => rfl) (fun _ => rfl) (by decide))
  have HL := Lib.hid (slr_of_blk (s := 1) (R := RInt) (enc := fun x => [Value.int .i64 x]) (xs := sLogs) (Blk.new_ (w := w.alloc (.cells #[.int .i64 1, .int .i64 2, .int .i64 3, .int .i64 4, .int .i64 5, .int .i64 7, .int .i64 8, .int .i64 1000, .int .i64 0] 3)) (t := 3) (cs := #[.int .i64 0, .int .i64 8, .int .i64 12, .int .i64 16, .int .i64 18, .int .i64 22, .int .i64 24, .int .i64 79, .int .i64 0]) (g := w.heap.size + 1) (by simp)) (fun _ => rfl) (fun _ => rfl) (by decide))
  have HB := Lib.hid (((Below.refl w.heap.size w).alloc (Nat.le_refl _) (.cells #[.int .i64 1, .int .i64 2, .int .i64 3, .int .i64 4, .int .i64 5, .int .i64 7, .int .i64 8, .int .i64 1000, .int .i64 0] 3)).alloc (by simp) (.cells #[.int .i64 0, .int .i64 8, .int .i64 12, .int .i64 16, .int .i64 18, .int .i64 22, .int .i64 24, .int .i64 79, .int .i64 0] 3))
  go_enter Try.func10, Try.ntmps10
  go_wp2_with fail
  generalize hw2 : (w.alloc (.cells #[.int .i64 1, .int .i64 2, .int .i64 3, .int .i64 4, .int .i64 5, .int .i64 7, .int .i64 8, .int .i64 1000, .int .i64 0] 3)).alloc (.cells #[.int .i64 0, .int .i64 8, .int .i64 12, .int .i64 16, .int .i64 18, .int .i64 22, .int .i64 24, .int .i64 79, .int .i64 0] 3) = w2 at *
  clear hw2
  have hl9 : sNums.length = 9 := rfl
  have hl9' : sLogs.length = 9 := rfl
  go_loopw [3] (fun i wr => ∃ k : Nat, k ≤ 9 ∧ i = .int .i64 k ∧ Below w2.heap.size w2 wr) (fun i _ => 9 - (intOf i).toNat)
  case atStart => exact ⟨0, by omega, rfl, Below.refl _ _⟩
  case round =>
    obtain ⟨k, hk, rfl, hb⟩ := hrel
    by_cases hlt : k < 9
    · obtain ⟨b, off, x, hA, hbb, hxx, hc⟩ := (HN.out.below keeps_int hb).int (k := k) hlt
      obtain ⟨b', off', y, hA', hbb', hyy, hc'⟩ := (HL.out.below keeps_int hb).int (k := k) hlt
      injection hA with hA
      injection hA with h1 h2
      injection hA' with hA'
      injection hA' with h3 h4
      subst h1 h2 h3 h4
      simp only [Nat.zero_add] at hc hc'
      obtain ⟨hl, hx1000⟩ := logs_at hxx hyy
      subst hl
      clear hxx hyy
      go_wp2_with fail
      go_quiet ((go_at_call 21; exact quiet_l (log_any x _ (by omega))))
      go_wp2_with fail
      go_roundw
      case rel => exact ⟨k + 1, by omega, by go_num, below_drewN hb _⟩
      case measure => simp [intOf]; omega
    · have HB2 := Lib.hid (HB.out.trans (hb.mono HB.out.size))
      obtain rfl : k = 9 := by omega
      clear hb hlt hl9 hl9' hk HN HL HB
      go_wp2_with fail
      have I := san_start wr
      have HBB := Lib.hid (HB2.out.trans ((((((Below.refl wr.heap.size wr).alloc (Nat.le_refl _) (.cells #[.string (ByteArray.mk #[97]), .string (ByteArray.mk #[98])] 9)).alloc (by simp) (.cells #[.int .i64 0, .int .i64 3] 3)).alloc (by simp; omega) (.cells #[.slice (some ⟨wr.heap.size, 0, none⟩) 2 2, .slice (some ⟨wr.heap.size + 1, 0, none⟩) 2 2, .slice none 0 0, .int .i64 10] 34)).alloc (by simp; omega) (.cells #[.slice (some ⟨wr.heap.size, 0, none⟩) 2 2, .slice (some ⟨wr.heap.size + 1, 0, none⟩) 2 2, .slice (some ⟨wr.heap.size + 1 + 1 + 1 + 1, 0, none⟩) 2 2, .int .i64 10] 34)).alloc (by simp; omega) (.cells #[.int .i64 0, .int .i64 0, .int .i64 3, .int .i64 0, .int .i64 1, .int .i64 1] 50) |>.mono HB2.out.size))
      generalize (((((wr.alloc (.cells #[.string (ByteArray.mk #[97]), .string (ByteArray.mk #[98])] 9)).alloc (.cells #[.int .i64 0, .int .i64 3] 3)).alloc (.cells #[.slice (some ⟨wr.heap.size, 0, none⟩) 2 2, .slice (some ⟨wr.heap.size + 1, 0, none⟩) 2 2, .slice none 0 0, .int .i64 10] 34)).alloc (.cells #[.slice (some ⟨wr.heap.size, 0, none⟩) 2 2, .slice (some ⟨wr.heap.size + 1, 0, none⟩) 2 2, .slice (some ⟨wr.heap.size + 1 + 1 + 1 + 1, 0, none⟩) 2 2, .int .i64 10] 34)).alloc (.cells #[.int .i64 0, .int .i64 0, .int .i64 3, .int .i64 0, .int .i64 1, .int .i64 1] 50)) = W0 at *
      generalize wr.heap.size = B at *
      have b40 := I.b4.cell 0
      have b41 := I.b4.cell 1
      have b42 := I.b4.cell 2
      have b43 := I.b4.cell 3
      have b50 := I.b5.cell 0
      have b51 := I.b5.cell 1
      have b52 := I.b5.cell 2
      have b53 := I.b5.cell 3
      have s4 := I.b4.lt; have s5 := I.b5.lt
      go_wp2_with (first | (go_at_call 12; (with_reducible refine (sanW0 I).mono ?_); rintro e w' ⟨rfl, hb'⟩; replace HBB := Lib.hid (HBB.out.trans (hb'.mono HBB.out.size)); replace I := I.below hb'; clear s4 s5 b40 b41 b42 b43 b50 b51 b52 b53; have b40 := I.b4.cell 0; have b41 := I.b4.cell 1; have b42 := I.b4.cell 2; have b43 := I.b4.cell 3; have b50 := I.b5.cell 0; have b51 := I.b5.cell 1; have b52 := I.b5.cell 2; have b53 := I.b5.cell 3; have s4 := I.b4.lt; have s5 := I.b5.lt; clear hb') | (go_at_call 12; (with_reducible refine (sanW1 I).mono ?_); rintro e w' ⟨rfl, hb'⟩; replace HBB := Lib.hid (HBB.out.trans (hb'.mono HBB.out.size)); replace I := I.below hb'; clear s4 s5 b40 b41 b42 b43 b50 b51 b52 b53; have b40 := I.b4.cell 0; have b41 := I.b4.cell 1; have b42 := I.b4.cell 2; have b43 := I.b4.cell 3; have b50 := I.b5.cell 0; have b51 := I.b5.cell 1; have b52 := I.b5.cell 2; have b53 := I.b5.cell 3; have s4 := I.b4.lt; have s5 := I.b5.lt; clear hb') | (go_at_call 14; (with_reducible refine (sanP01 I).mono ?_); rintro e w' ⟨rfl, hb'⟩; replace HBB := Lib.hid (HBB.out.trans (hb'.mono HBB.out.size)); replace I := I.below hb'; clear s4 s5 b40 b41 b42 b43 b50 b51 b52 b53; have b40 := I.b4.cell 0; have b41 := I.b4.cell 1; have b42 := I.b4.cell 2; have b43 := I.b4.cell 3; have b50 := I.b5.cell 0; have b51 := I.b5.cell 1; have b52 := I.b5.cell 2; have b53 := I.b5.cell 3; have s4 := I.b4.lt; have s5 := I.b5.lt; clear hb') | (go_at_call 14; (with_reducible refine (sanP00 I).mono ?_); rintro e w' ⟨rfl, hb'⟩; replace HBB := Lib.hid (HBB.out.trans (hb'.mono HBB.out.size)); replace I := I.below hb'; clear s4 s5 b40 b41 b42 b43 b50 b51 b52 b53; have b40 := I.b4.cell 0; have b41 := I.b4.cell 1; have b42 := I.b4.cell 2; have b43 := I.b4.cell 3; have b50 := I.b5.cell 0; have b51 := I.b5.cell 1; have b52 := I.b5.cell 2; have b53 := I.b5.cell 3; have s4 := I.b4.lt; have s5 := I.b5.lt; clear hb') | (go_at_call 14; (with_reducible refine (sanP10 I).mono ?_); rintro e w' ⟨rfl, hb'⟩; replace HBB := Lib.hid (HBB.out.trans (hb'.mono HBB.out.size)); replace I := I.below hb'; clear s4 s5 b40 b41 b42 b43 b50 b51 b52 b53; have b40 := I.b4.cell 0; have b41 := I.b4.cell 1; have b42 := I.b4.cell 2; have b43 := I.b4.cell 3; have b50 := I.b5.cell 0; have b51 := I.b5.cell 1; have b52 := I.b5.cell 2; have b53 := I.b5.cell 3; have s4 := I.b4.lt; have s5 := I.b5.lt; clear hb') | (go_at_call 14; (with_reducible refine (sanPm I).mono ?_); rintro e w' ⟨rfl, hb'⟩; replace HBB := Lib.hid (HBB.out.trans (hb'.mono HBB.out.size)); replace I := I.below hb'; clear s4 s5 b40 b41 b42 b43 b50 b51 b52 b53; have b40 := I.b4.cell 0; have b41 := I.b4.cell 1; have b42 := I.b4.cell 2; have b43 := I.b4.cell 3; have b50 := I.b5.cell 0; have b51 := I.b5.cell 1; have b52 := I.b5.cell 2; have b53 := I.b5.cell 3; have s4 := I.b4.lt; have s5 := I.b5.lt; clear hb'))
      refine (sanL1 I).mono ?_
      rintro e w1 ⟨B1, B2, B3, d1, d2, d3, rfl, hma, hb1⟩
      replace HBB := Lib.hid (HBB.out.trans (hb1.mono HBB.out.size))
      replace I := I.below hb1
      clear s4 s5 b40 b41 b42 b43 b50 b51 b52 b53
      clear hb1
      have b40 := I.b4.cell 0; have b41 := I.b4.cell 1; have b42 := I.b4.cell 2; have b43 := I.b4.cell 3; have b50 := I.b5.cell 0; have b51 := I.b5.cell 1; have b52 := I.b5.cell 2; have b53 := I.b5.cell 3; have s4 := I.b4.lt; have s5 := I.b5.lt
      go_wp2_with fail
      have k7 := Blk.new w1 34 #[.slice B1 2 d1, .slice B2 2 d2, .slice B3 1 d3, .int .i64 10]
      replace HBB := Lib.hid (HBB.out.alloc HBB.out.size (.cells #[.slice B1 2 d1, .slice B2 2 d2, .slice B3 1 d3, .int .i64 10] 34))
      replace hma := hma.below ((Below.refl _ _).alloc (Nat.le_refl _) (.cells #[.slice B1 2 d1, .slice B2 2 d2, .slice B3 1 d3, .int .i64 10] 34))
      replace I := I.alloc (.cells #[.slice B1 2 d1, .slice B2 2 d2, .slice B3 1 d3, .int .i64 10] 34)
      clear s4 s5 b40 b41 b42 b43 b50 b51 b52 b53
      generalize w1.alloc (.cells #[.slice B1 2 d1, .slice B2 2 d2, .slice B3 1 d3, .int .i64 10] 34) = x1 at *
      generalize w1.heap.size = g7 at *
      refine (sanN2 I).mono ?_
      rintro e y2 ⟨rfl, hb1⟩
      replace HBB := Lib.hid (HBB.out.trans (hb1.mono HBB.out.size))
      replace I := I.below hb1
      replace hma := hma.below hb1
      replace k7 := k7.below hb1 k7.lt
      clear hb1
      have b40 := I.b4.cell 0; have b41 := I.b4.cell 1; have b42 := I.b4.cell 2; have b43 := I.b4.cell 3; have b50 := I.b5.cell 0; have b51 := I.b5.cell 1; have b52 := I.b5.cell 2; have b53 := I.b5.cell 3; have s4 := I.b4.lt; have s5 := I.b5.lt
      go_wp2_with fail
      replace HBB := Lib.hid (HBB.out.alloc HBB.out.size (.cells #[.slice none 0 0, .slice none 0 0, .slice none 0 0, .int .i64 0] 34))
      replace hma := hma.below ((Below.refl _ _).alloc (Nat.le_refl _) (.cells #[.slice none 0 0, .slice none 0 0, .slice none 0 0, .int .i64 0] 34))
      replace k7 := k7.alloc (.cells #[.slice none 0 0, .slice none 0 0, .slice none 0 0, .int .i64 0] 34)
      replace I := I.alloc (.cells #[.slice none 0 0, .slice none 0 0, .slice none 0 0, .int .i64 0] 34)
      clear s4 s5 b40 b41 b42 b43 b50 b51 b52 b53
      generalize y2.alloc (.cells #[.slice none 0 0, .slice none 0 0, .slice none 0 0, .int .i64 0] 34) = x2 at *
      generalize y2.heap.size = z2 at *
      refine (sanN3 I).mono ?_
      rintro e y3 ⟨rfl, hb1⟩
      replace HBB := Lib.hid (HBB.out.trans (hb1.mono HBB.out.size))
      replace I := I.below hb1
      replace hma := hma.below hb1
      replace k7 := k7.below hb1 k7.lt
      clear hb1
      have b40 := I.b4.cell 0; have b41 := I.b4.cell 1; have b42 := I.b4.cell 2; have b43 := I.b4.cell 3; have b50 := I.b5.cell 0; have b51 := I.b5.cell 1; have b52 := I.b5.cell 2; have b53 := I.b5.cell 3; have s4 := I.b4.lt; have s5 := I.b5.lt
      go_wp2_with fail
      replace HBB := Lib.hid (HBB.out.alloc HBB.out.size (.cells #[.slice none 0 0, .slice none 0 0, .slice none 0 0, .int .i64 0] 34))
      replace hma := hma.below ((Below.refl _ _).alloc (Nat.le_refl _) (.cells #[.slice none 0 0, .slice none 0 0, .slice none 0 0, .int .i64 0] 34))
      replace k7 := k7.alloc (.cells #[.slice none 0 0, .slice none 0 0, .slice none 0 0, .int .i64 0] 34)
      replace I := I.alloc (.cells #[.slice none 0 0, .slice none 0 0, .slice none 0 0, .int .i64 0] 34)
      clear s4 s5 b40 b41 b42 b43 b50 b51 b52 b53
      generalize y3.alloc (.cells #[.slice none 0 0, .slice none 0 0, .slice none 0 0, .int .i64 0] 34) = x3 at *
      generalize y3.heap.size = z3 at *
      refine (sanN4 I).mono ?_
      rintro e w5 ⟨rfl, hb1⟩
      replace HBB := Lib.hid (HBB.out.trans (hb1.mono HBB.out.size))
      replace I := I.below hb1
      replace hma := hma.below hb1
      replace k7 := k7.below hb1 k7.lt
      clear hb1
      have b40 := I.b4.cell 0; have b41 := I.b4.cell 1; have b42 := I.b4.cell 2; have b43 := I.b4.cell 3; have b50 := I.b5.cell 0; have b51 := I.b5.cell 1; have b52 := I.b5.cell 2; have b53 := I.b5.cell 3; have s4 := I.b4.lt; have s5 := I.b5.lt
      clear s4 s5 b40 b41 b42 b43 b50 b51 b52 b53
      have b40 := I.b4.cell 0
      have s4 := I.b4.lt
      have k70 := k7.cell 0
      have k71 := k7.cell 1
      have k72 := k7.cell 2
      have k73 := k7.cell 3
      have s7 := k7.lt
      have s7a : g7 < w5.heap.size + 1 := by omega
      have s7b : g7 < w5.heap.size + 1 + 1 := by omega
      have s7c : g7 < w5.heap.size + 1 + 1 + 1 := by omega
      go_wp2_with fail
      have HBE := Lib.hid (((((Below.refl w5.heap.size w5).alloc (Nat.le_refl _) (.cells #[.slice none 0 0, .slice none 0 0, .slice none 0 0, .int .i64 0] 34)).alloc (by simp) (.cells #[.int .i64 0, .int .i64 5] 3)).alloc (by simp; omega) (.cells #[.int .i64 0, .int .i64 1, .int .i64 2] 50)).alloc (by simp; omega) (.cells #[.slice (some ⟨B, 0, none⟩) 2 2, .slice (some ⟨w5.heap.size + 1, 0, none⟩) 2 2, .slice (some ⟨w5.heap.size + 1 + 1, 0, none⟩) 1 1, .int .i64 10] 34))
      have k2 := (((Blk.new_ (w := (w5.alloc (.cells #[.slice none 0 0, .slice none 0 0, .slice none 0 0, .int .i64 0] 34))) (t := 3) (cs := #[.int .i64 0, .int .i64 5]) (g := w5.heap.size + 1) (by simp))).alloc (.cells #[.int .i64 0, .int .i64 1, .int .i64 2] 50)).alloc (.cells #[.slice (some ⟨B, 0, none⟩) 2 2, .slice (some ⟨w5.heap.size + 1, 0, none⟩) 2 2, .slice (some ⟨w5.heap.size + 1 + 1, 0, none⟩) 1 1, .int .i64 10] 34)
      have k3 := (Blk.new_ (w := ((w5.alloc (.cells #[.slice none 0 0, .slice none 0 0, .slice none 0 0, .int .i64 0] 34)).alloc (.cells #[.int .i64 0, .int .i64 5] 3))) (t := 50) (cs := #[.int .i64 0, .int .i64 1, .int .i64 2]) (g := w5.heap.size + 1 + 1) (by simp)).alloc (.cells #[.slice (some ⟨B, 0, none⟩) 2 2, .slice (some ⟨w5.heap.size + 1, 0, none⟩) 2 2, .slice (some ⟨w5.heap.size + 1 + 1, 0, none⟩) 1 1, .int .i64 10] 34)
      have n2 := slr_of_blk (s := 1) (R := RInt) (enc := fun x => [Value.int .i64 x]) (xs := [0, 5]) k2 (fun _ => rfl) (fun _ => rfl) (by decide)
      have n3 := slr_of_blk (s := 3) (R := RPr) (enc := encP) (xs := [⟨0, 1, 2⟩]) k3 (fun _ => rfl) (fun _ => rfl) (by decide)
      have hwant : MoR ((((w5.alloc (.cells #[.slice none 0 0, .slice none 0 0, .slice none 0 0, .int .i64 0] 34)).alloc (.cells #[.int .i64 0, .int .i64 5] 3)).alloc (.cells #[.int .i64 0, .int .i64 1, .int .i64 2] 50)).alloc (.cells #[.slice (some ⟨B, 0, none⟩) 2 2, .slice (some ⟨w5.heap.size + 1, 0, none⟩) 2 2, .slice (some ⟨w5.heap.size + 1 + 1, 0, none⟩) 1 1, .int .i64 10] 34)) sanA (some ⟨B, 0, none⟩) (some ⟨w5.heap.size + 1, 0, none⟩) (some ⟨w5.heap.size + 1 + 1, 0, none⟩) := ⟨(I.below HBE.out).r4.h1, n2, n3, by decide, by decide, by decide, by decide, by simp [sanA, Within]⟩
      replace hma := hma.below HBE.out
      replace HBB := Lib.hid (HBB.out.trans (HBE.out.mono HBB.out.size))
      replace I := I.below HBE.out
      clear k2 k3 n2 n3 HBE b40 s4 k70 k71 k72 k73 s7 s7a s7b s7c k7
      generalize ((((w5.alloc (.cells #[.slice none 0 0, .slice none 0 0, .slice none 0 0, .int .i64 0] 34)).alloc (.cells #[.int .i64 0, .int .i64 5] 3)).alloc (.cells #[.int .i64 0, .int .i64 1, .int .i64 2] 50)).alloc (.cells #[.slice (some ⟨B, 0, none⟩) 2 2, .slice (some ⟨w5.heap.size + 1, 0, none⟩) 2 2, .slice (some ⟨w5.heap.size + 1 + 1, 0, none⟩) 1 1, .int .i64 10] 34)) = w6 at *
      refine (sanS w6 d1 d2 d3 hma hwant).mono ?_
      rintro e w7 ⟨rfl, hb1⟩
      replace HBB := Lib.hid (HBB.out.trans (hb1.mono HBB.out.size))
      replace I := I.below hb1
      clear hb1
      have b50 := I.b5.cell 0
      have b51 := I.b5.cell 1
      have b52 := I.b5.cell 2
      have b53 := I.b5.cell 3
      go_wp2_with fail
      refine (sanV5 I).mono ?_
      rintro e w8 ⟨rfl, hb1⟩
      replace HBB := Lib.hid (HBB.out.trans (hb1.mono HBB.out.size))
      clear hb1 b50 b51 b52 b53
      go_wp2_with fail
      refine (sanVZ w8).mono ?_
      rintro e w9 ⟨rfl, hb1⟩
      replace HBB := Lib.hid (HBB.out.trans (hb1.mono HBB.out.size))
      clear hb1
      go_wp2_with fail
      go_ret
      exact ⟨rfl, HBB.out⟩
end Go.Proofs.Ytbfpcleogdalfaa
