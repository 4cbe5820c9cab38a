/-
  SiLawB, OuLeave, OuLvr, OuLiveW, OuRunI, OuGoesP, OuGoesW, OuLawA, OuLawB, OuLawC, OuLawD, OuLawE, OuLawF, OuBaseP, joined. No conditions.
-/
import Derived.Test.YtfpnhgahkjglgaaGreatQ29
import Derived.Test.YtfpnhgahkjglgaaGreatQ21
import Derived.Test.YtfpnhgahkjglgaaGreatQ18
import Derived.Test.YtfpnhgahkjglgaaGreatQ22
import Derived.Test.YtfpnhgahkjglgaaGreatQ17
import Derived.Carry
import Derived.Test.YtfpnhgahkjglgaaGreatQ13
import Derived.Test.YtfpnhgahkjglgaaGreatQ28
import Derived.Laws.EntriesVeiled
import Derived.Test.YtfpnhgahkjglgaaGreatQ26
/-
  The walk of layer 08's laws: the examples hold.
-/
namespace Go.Proofs.YtfpnhgahkjglgaaGreat
open Go Go.RowKit Go.Maps

theorem bel1 {W w' : World} {o : Obj} (h : Below (W.alloc o).heap.size (W.alloc o) w') : Below W.heap.size W w' := (nw o (Below.refl _ _)).trans (h.mono (by simp))
theorem lit_in {s : Sc} (hok : ∀ r ∈ s.rs, r.inp.size ≤ 4 ∧ r.out.size ≤ 4) (ha : 0 ≤ s.acc ∧ s.acc ≤ 255) (hl : s.rs.length ≤ 64) {W : World} {g : Nat} (h : Blk W g 61 (s.rs.flatMap encRu).toArray) : ScIn W s (some ⟨g, 0, none⟩) s.rs.length where
  sl := slr_blkR h (fun _ => rfl) (fun _ => rfl)
  len := Nat.le_trans hl (by decide)
  txt r hr := ⟨Nat.le_trans (hok r hr).1 (by decide), Nat.le_trans (hok r hr).2 (by decide)⟩
  acc := ha
  cap := ⟨Nat.le_refl _, Nat.le_trans hl (by decide)⟩
set_option maxRecDepth 100000 in
theorem lit_in1 {W W' : World} (hb : Below (W.alloc (.cells #[.int .i64 0, .int .i64 0, .string { data := #[97] }, .string { data := #[65] }, .int .i64 0, .int .i64 0, .int .i64 0, .string { data := #[98] }, .string { data := #[66] }, .int .i64 0] 61)).heap.size (W.alloc (.cells #[.int .i64 0, .int .i64 0, .string { data := #[97] }, .string { data := #[65] }, .int .i64 0, .int .i64 0, .int .i64 0, .string { data := #[98] }, .string { data := #[66] }, .int .i64 0] 61)) W') : ScIn W' eS1 (some ⟨W.heap.size, 0, none⟩) 2 :=
  (lit_in (s := eS1) (by decide) (by decide) (by decide) (show Blk (W.alloc (.cells #[.int .i64 0, .int .i64 0, .string { data := #[97] }, .string { data := #[65] }, .int .i64 0, .int .i64 0, .int .i64 0, .string { data := #[98] }, .string { data := #[66] }, .int .i64 0] 61)) W.heap.size 61 (eS1.rs.flatMap encRu).toArray from Blk.new _ _ _)).below hb
set_option maxRecDepth 100000 in
theorem lit_in2 {W W' : World} (hb : Below (W.alloc (.cells #[.int .i64 0, .int .i64 0, .string { data := #[97] }, .string { data := #[65] }, .int .i64 0, .int .i64 0, .int .i64 0, .string { data := #[97, 97] }, .string { data := #[65, 65] }, .int .i64 0] 61)).heap.size (W.alloc (.cells #[.int .i64 0, .int .i64 0, .string { data := #[97] }, .string { data := #[65] }, .int .i64 0, .int .i64 0, .int .i64 0, .string { data := #[97, 97] }, .string { data := #[65, 65] }, .int .i64 0] 61)) W') : ScIn W' eS2 (some ⟨W.heap.size, 0, none⟩) 2 :=
  (lit_in (s := eS2) (by decide) (by decide) (by decide) (show Blk (W.alloc (.cells #[.int .i64 0, .int .i64 0, .string { data := #[97] }, .string { data := #[65] }, .int .i64 0, .int .i64 0, .int .i64 0, .string { data := #[97, 97] }, .string { data := #[65, 65] }, .int .i64 0] 61)) W.heap.size 61 (eS2.rs.flatMap encRu).toArray from Blk.new _ _ _)).below hb
set_option maxRecDepth 100000 in
theorem lit_in5 {W W' : World} (hb : Below (W.alloc (.cells #[.int .i64 0, .int .i64 0, .string { data := #[97] }, .string { data := #[65] }, .int .i64 0, .int .i64 0, .int .i64 0, .string { data := #[97, 98] }, .string { data := #[66] }, .int .i64 0, .int .i64 0, .int .i64 0, .string { data := #[98] }, .string { data := #[] }, .int .i64 0] 61)).heap.size (W.alloc (.cells #[.int .i64 0, .int .i64 0, .string { data := #[97] }, .string { data := #[65] }, .int .i64 0, .int .i64 0, .int .i64 0, .string { data := #[97, 98] }, .string { data := #[66] }, .int .i64 0, .int .i64 0, .int .i64 0, .string { data := #[98] }, .string { data := #[] }, .int .i64 0] 61)) W') : ScIn W' eS5 (some ⟨W.heap.size, 0, none⟩) 3 :=
  (lit_in (s := eS5) (by decide) (by decide) (by decide) (show Blk (W.alloc (.cells #[.int .i64 0, .int .i64 0, .string { data := #[97] }, .string { data := #[65] }, .int .i64 0, .int .i64 0, .int .i64 0, .string { data := #[97, 98] }, .string { data := #[66] }, .int .i64 0, .int .i64 0, .int .i64 0, .string { data := #[98] }, .string { data := #[] }, .int .i64 0] 61)) W.heap.size 61 (eS5.rs.flatMap encRu).toArray from Blk.new _ _ _)).below hb
set_option maxRecDepth 100000 in
theorem lit_in6 {W W' : World} (hb : Below (W.alloc (.cells #[.int .i64 0, .int .i64 0, .string { data := #[97] }, .string { data := #[120] }, .int .i64 0, .int .i64 0, .int .i64 0, .string { data := #[97, 97] }, .string { data := #[121] }, .int .i64 0] 61)).heap.size (W.alloc (.cells #[.int .i64 0, .int .i64 0, .string { data := #[97] }, .string { data := #[120] }, .int .i64 0, .int .i64 0, .int .i64 0, .string { data := #[97, 97] }, .string { data := #[121] }, .int .i64 0] 61)) W') : ScIn W' eS6 (some ⟨W.heap.size, 0, none⟩) 2 :=
  (lit_in (s := eS6) (by decide) (by decide) (by decide) (show Blk (W.alloc (.cells #[.int .i64 0, .int .i64 0, .string { data := #[97] }, .string { data := #[120] }, .int .i64 0, .int .i64 0, .int .i64 0, .string { data := #[97, 97] }, .string { data := #[121] }, .int .i64 0] 61)) W.heap.size 61 (eS6.rs.flatMap encRu).toArray from Blk.new _ _ _)).below hb
set_option maxRecDepth 100000 in
theorem lchk1 (W W' : World) (hb : Below (W.alloc (.cells #[.int .i64 0, .int .i64 0, .string { data := #[97] }, .string { data := #[65] }, .int .i64 0, .int .i64 0, .int .i64 0, .string { data := #[98] }, .string { data := #[66] }, .int .i64 0] 61)).heap.size (W.alloc (.cells #[.int .i64 0, .int .i64 0, .string { data := #[97] }, .string { data := #[65] }, .int .i64 0, .int .i64 0, .int .i64 0, .string { data := #[98] }, .string { data := #[66] }, .int .i64 0] 61)) W') : Calls Tryz.prog 21 #[.agg #[.int .i64 1, .int .u8 1, .slice (some ⟨W.heap.size, 0, none⟩) 2 2], .agg #[.string { data := #[] }, .string { data := #[] }, .string { data := #[] }], .int .i64 0] W' fun e w' => e = .returned (.bool true) ∧ Below W'.heap.size W' w' :=
  lchecks_any eS1 (some ⟨W.heap.size, 0, none⟩) 2 { data := #[] } { data := #[] } { data := #[] } 0 W' (lit_in1 hb) (fun _ _ => eF1) (fun h => chk_none eE1 eN1 h)
set_option maxRecDepth 100000 in
theorem lchk2 (W W' : World) (hb : Below (W.alloc (.cells #[.int .i64 0, .int .i64 0, .string { data := #[97] }, .string { data := #[65] }, .int .i64 0, .int .i64 0, .int .i64 0, .string { data := #[97, 97] }, .string { data := #[65, 65] }, .int .i64 0] 61)).heap.size (W.alloc (.cells #[.int .i64 0, .int .i64 0, .string { data := #[97] }, .string { data := #[65] }, .int .i64 0, .int .i64 0, .int .i64 0, .string { data := #[97, 97] }, .string { data := #[65, 65] }, .int .i64 0] 61)) W') : Calls Tryz.prog 21 #[.agg #[.int .i64 1, .int .u8 1, .slice (some ⟨W.heap.size, 0, none⟩) 2 2], .agg #[.string { data := #[] }, .string { data := #[] }, .string { data := #[] }], .int .i64 0] W' fun e w' => e = .returned (.bool true) ∧ Below W'.heap.size W' w' :=
  lchecks_any eS2 (some ⟨W.heap.size, 0, none⟩) 2 { data := #[] } { data := #[] } { data := #[] } 0 W' (lit_in2 hb) (fun _ _ => eF2) (fun h => chk_none eE2 eN2 h)
set_option maxRecDepth 100000 in
theorem lchk5 (W W' : World) (hb : Below (W.alloc (.cells #[.int .i64 0, .int .i64 0, .string { data := #[97] }, .string { data := #[65] }, .int .i64 0, .int .i64 0, .int .i64 0, .string { data := #[97, 98] }, .string { data := #[66] }, .int .i64 0, .int .i64 0, .int .i64 0, .string { data := #[98] }, .string { data := #[] }, .int .i64 0] 61)).heap.size (W.alloc (.cells #[.int .i64 0, .int .i64 0, .string { data := #[97] }, .string { data := #[65] }, .int .i64 0, .int .i64 0, .int .i64 0, .string { data := #[97, 98] }, .string { data := #[66] }, .int .i64 0, .int .i64 0, .int .i64 0, .string { data := #[98] }, .string { data := #[] }, .int .i64 0] 61)) W') : Calls Tryz.prog 21 #[.agg #[.int .i64 1, .int .u8 1, .slice (some ⟨W.heap.size, 0, none⟩) 3 3], .agg #[.string { data := #[97, 98] }, .string { data := #[65] }, .string { data := #[66] }], .int .i64 80] W' fun e w' => e = .returned (.bool true) ∧ Below W'.heap.size W' w' :=
  lchecks_any eS5 (some ⟨W.heap.size, 0, none⟩) 3 { data := #[97, 98] } { data := #[65] } { data := #[66] } 80 W' (lit_in5 hb) (fun _ _ => eF5) (fun h => eC5 h)
set_option maxRecDepth 100000 in
theorem lchk6 (W W' : World) (hb : Below (W.alloc (.cells #[.int .i64 0, .int .i64 0, .string { data := #[97] }, .string { data := #[120] }, .int .i64 0, .int .i64 0, .int .i64 0, .string { data := #[97, 97] }, .string { data := #[121] }, .int .i64 0] 61)).heap.size (W.alloc (.cells #[.int .i64 0, .int .i64 0, .string { data := #[97] }, .string { data := #[120] }, .int .i64 0, .int .i64 0, .int .i64 0, .string { data := #[97, 97] }, .string { data := #[121] }, .int .i64 0] 61)) W') : Calls Tryz.prog 21 #[.agg #[.int .i64 1, .int .u8 1, .slice (some ⟨W.heap.size, 0, none⟩) 2 2], .agg #[.string { data := #[97, 97] }, .string { data := #[120, 120] }, .string { data := #[121] }], .int .i64 80] W' fun e w' => e = .returned (.bool true) ∧ Below W'.heap.size W' w' :=
  lchecks_any eS6 (some ⟨W.heap.size, 0, none⟩) 2 { data := #[97, 97] } { data := #[120, 120] } { data := #[121] } 80 W' (lit_in6 hb) (fun _ _ => eF6) (fun h => eC6 h)
theorem nil_in (s : Sc) (hn : s.rs = []) (ha : 0 ≤ s.acc ∧ s.acc ≤ 255) (W : World) : ScIn W s none 0 where
  sl := by rw [hn]; exact SlR.nil
  len := by rw [hn]; decide
  txt r hr := by rw [hn] at hr; cases hr
  acc := ha
  cap := by rw [hn]; exact ⟨Nat.le_refl _, Nat.zero_le _⟩
theorem lchk3 (W : World) : Calls Tryz.prog 21 #[.agg #[.int .i64 1, .int .u8 1, .slice none 0 0], .agg #[.string { data := #[] }, .string { data := #[] }, .string { data := #[] }], .int .i64 0] W fun e w' => e = .returned (.bool true) ∧ Below W.heap.size W w' :=
  lchecks_any eS3 none 0 _ _ _ 0 W (nil_in eS3 rfl (by decide) W) (fun _ _ => eF3) (fun h => chk_none eE3 eN3 h)
theorem lchk4 (W : World) : Calls Tryz.prog 21 #[.agg #[.int .i64 0, .int .u8 0, .slice none 0 0], .agg #[.string { data := #[] }, .string { data := #[] }, .string { data := #[] }], .int .i64 20] W fun e w' => e = .returned (.bool true) ∧ Below W.heap.size W w' :=
  lchecks_any eS4 none 0 _ _ _ 20 W (nil_in eS4 rfl (by decide) W) (fun _ _ => eF4) (fun h => chk_err eE4 h)
theorem bool_yes {b : Bool} {P : Prop} (h : b = true ↔ P) (hp : P) : b = true := h.2 hp
theorem bool_no {b : Bool} {P : Prop} (h : b = true ↔ P) (hp : ¬ P) : b = false := by
  cases b with
  | false => rfl
  | true => exact absurd (h.1 rfl) hp
set_option maxRecDepth 100000 in
set_option maxHeartbeats 8000000 in
theorem lsan_any (w : World) : Calls Tryz.prog 7 #[] w fun e w' => e = .returned (.bool true) ∧ Below w.heap.size w w' := by
  have HCK1 : Hid (∀ W W' : World, Below (W.alloc (.cells #[.int .i64 0, .int .i64 0, .string { data := #[97] }, .string { data := #[65] }, .int .i64 0, .int .i64 0, .int .i64 0, .string { data := #[98] }, .string { data := #[66] }, .int .i64 0] 61)).heap.size (W.alloc (.cells #[.int .i64 0, .int .i64 0, .string { data := #[97] }, .string { data := #[65] }, .int .i64 0, .int .i64 0, .int .i64 0, .string { data := #[98] }, .string { data := #[66] }, .int .i64 0] 61)) W' → Calls Tryz.prog 21 #[.agg #[.int .i64 1, .int .u8 1, .slice (some ⟨W.heap.size, 0, none⟩) 2 2], .agg #[.string { data := #[] }, .string { data := #[] }, .string { data := #[] }], .int .i64 0] W' fun e w' => e = .returned (.bool true) ∧ Below W'.heap.size W' w') := fun W W' h => lchk1 W W' h
  have HCK2 : Hid (∀ W W' : World, Below (W.alloc (.cells #[.int .i64 0, .int .i64 0, .string { data := #[97] }, .string { data := #[65] }, .int .i64 0, .int .i64 0, .int .i64 0, .string { data := #[97, 97] }, .string { data := #[65, 65] }, .int .i64 0] 61)).heap.size (W.alloc (.cells #[.int .i64 0, .int .i64 0, .string { data := #[97] }, .string { data := #[65] }, .int .i64 0, .int .i64 0, .int .i64 0, .string { data := #[97, 97] }, .string { data := #[65, 65] }, .int .i64 0] 61)) W' → Calls Tryz.prog 21 #[.agg #[.int .i64 1, .int .u8 1, .slice (some ⟨W.heap.size, 0, none⟩) 2 2], .agg #[.string { data := #[] }, .string { data := #[] }, .string { data := #[] }], .int .i64 0] W' fun e w' => e = .returned (.bool true) ∧ Below W'.heap.size W' w') := fun W W' h => lchk2 W W' h
  have HCK5 : Hid (∀ W W' : World, Below (W.alloc (.cells #[.int .i64 0, .int .i64 0, .string { data := #[97] }, .string { data := #[65] }, .int .i64 0, .int .i64 0, .int .i64 0, .string { data := #[97, 98] }, .string { data := #[66] }, .int .i64 0, .int .i64 0, .int .i64 0, .string { data := #[98] }, .string { data := #[] }, .int .i64 0] 61)).heap.size (W.alloc (.cells #[.int .i64 0, .int .i64 0, .string { data := #[97] }, .string { data := #[65] }, .int .i64 0, .int .i64 0, .int .i64 0, .string { data := #[97, 98] }, .string { data := #[66] }, .int .i64 0, .int .i64 0, .int .i64 0, .string { data := #[98] }, .string { data := #[] }, .int .i64 0] 61)) W' → Calls Tryz.prog 21 #[.agg #[.int .i64 1, .int .u8 1, .slice (some ⟨W.heap.size, 0, none⟩) 3 3], .agg #[.string { data := #[97, 98] }, .string { data := #[65] }, .string { data := #[66] }], .int .i64 80] W' fun e w' => e = .returned (.bool true) ∧ Below W'.heap.size W' w') := fun W W' h => lchk5 W W' h
  have HCK6 : Hid (∀ W W' : World, Below (W.alloc (.cells #[.int .i64 0, .int .i64 0, .string { data := #[97] }, .string { data := #[120] }, .int .i64 0, .int .i64 0, .int .i64 0, .string { data := #[97, 97] }, .string { data := #[121] }, .int .i64 0] 61)).heap.size (W.alloc (.cells #[.int .i64 0, .int .i64 0, .string { data := #[97] }, .string { data := #[120] }, .int .i64 0, .int .i64 0, .int .i64 0, .string { data := #[97, 97] }, .string { data := #[121] }, .int .i64 0] 61)) W' → Calls Tryz.prog 21 #[.agg #[.int .i64 1, .int .u8 1, .slice (some ⟨W.heap.size, 0, none⟩) 2 2], .agg #[.string { data := #[97, 97] }, .string { data := #[120, 120] }, .string { data := #[121] }], .int .i64 80] W' fun e w' => e = .returned (.bool true) ∧ Below W'.heap.size W' w') := fun W W' h => lchk6 W W' h
  have HCK3 : Hid (∀ W : World, Calls Tryz.prog 21 #[.agg #[.int .i64 1, .int .u8 1, .slice none 0 0], .agg #[.string { data := #[] }, .string { data := #[] }, .string { data := #[] }], .int .i64 0] W fun e w' => e = .returned (.bool true) ∧ Below W.heap.size W w') := lchk3
  have HCK4 : Hid (∀ W : World, Calls Tryz.prog 21 #[.agg #[.int .i64 0, .int .u8 0, .slice none 0 0], .agg #[.string { data := #[] }, .string { data := #[] }, .string { data := #[] }], .int .i64 20] W fun e w' => e = .returned (.bool true) ∧ Below W.heap.size W w') := lchk4
  have HP1 : Hid (∀ W W' : World, Below (W.alloc (.cells #[.int .i64 0, .int .i64 0, .string { data := #[97] }, .string { data := #[120] }, .int .i64 0, .int .i64 0, .int .i64 0, .string { data := #[97, 97] }, .string { data := #[121] }, .int .i64 0] 61)).heap.size (W.alloc (.cells #[.int .i64 0, .int .i64 0, .string { data := #[97] }, .string { data := #[120] }, .int .i64 0, .int .i64 0, .int .i64 0, .string { data := #[97, 97] }, .string { data := #[121] }, .int .i64 0] 61)) W' → Calls Tryz.prog 12 #[.agg #[.int .i64 1, .int .u8 1, .slice (some ⟨W.heap.size, 0, none⟩) 2 2], .agg #[.string { data := #[97, 97, 97] }, .string { data := #[120, 121] }, .string { data := #[121, 120] }]] W' fun e w' => e = .returned (.bool true) ∧ Below W'.heap.size W' w') := fun W W' h => (sproves_any eS6 (some ⟨W.heap.size, 0, none⟩) 2 { data := #[97, 97, 97] } { data := #[120, 121] } { data := #[121, 120] } W' (lit_in6 h) (fun _ _ => eF6) (by decide) (by decide) (by decide)).mono fun e w' ⟨b, h1, h2, h3⟩ => ⟨by rw [h1, bool_yes h2 eP1], h3⟩
  have HP2 : Hid (∀ W W' : World, Below (W.alloc (.cells #[.int .i64 0, .int .i64 0, .string { data := #[97] }, .string { data := #[120] }, .int .i64 0, .int .i64 0, .int .i64 0, .string { data := #[97, 97] }, .string { data := #[121] }, .int .i64 0] 61)).heap.size (W.alloc (.cells #[.int .i64 0, .int .i64 0, .string { data := #[97] }, .string { data := #[120] }, .int .i64 0, .int .i64 0, .int .i64 0, .string { data := #[97, 97] }, .string { data := #[121] }, .int .i64 0] 61)) W' → Calls Tryz.prog 12 #[.agg #[.int .i64 1, .int .u8 1, .slice (some ⟨W.heap.size, 0, none⟩) 2 2], .agg #[.string { data := #[97, 97] }, .string { data := #[121] }, .string { data := #[121] }]] W' fun e w' => e = .returned (.bool false) ∧ Below W'.heap.size W' w') := fun W W' h => (sproves_any eS6 (some ⟨W.heap.size, 0, none⟩) 2 { data := #[97, 97] } { data := #[121] } { data := #[121] } W' (lit_in6 h) (fun _ _ => eF6) (by decide) (by decide) (by decide)).mono fun e w' ⟨b, h1, h2, h3⟩ => ⟨by rw [h1, bool_no h2 eP2], h3⟩
  have HP3 : Hid (∀ W W' : World, Below (W.alloc (.cells #[.int .i64 0, .int .i64 0, .string { data := #[97] }, .string { data := #[120] }, .int .i64 0, .int .i64 0, .int .i64 0, .string { data := #[97, 97] }, .string { data := #[121] }, .int .i64 0] 61)).heap.size (W.alloc (.cells #[.int .i64 0, .int .i64 0, .string { data := #[97] }, .string { data := #[120] }, .int .i64 0, .int .i64 0, .int .i64 0, .string { data := #[97, 97] }, .string { data := #[121] }, .int .i64 0] 61)) W' → Calls Tryz.prog 12 #[.agg #[.int .i64 1, .int .u8 1, .slice (some ⟨W.heap.size, 0, none⟩) 2 2], .agg #[.string { data := #[97] }, .string { data := #[120] }, .string { data := #[121] }]] W' fun e w' => e = .returned (.bool false) ∧ Below W'.heap.size W' w') := fun W W' h => (sproves_any eS6 (some ⟨W.heap.size, 0, none⟩) 2 { data := #[97] } { data := #[120] } { data := #[121] } W' (lit_in6 h) (fun _ _ => eF6) (by decide) (by decide) (by decide)).mono fun e w' ⟨b, h1, h2, h3⟩ => ⟨by rw [h1, bool_no h2 eP3], h3⟩
  go_enter Tryz.func7, Tryz.ntmps7
  go_upto_region 2 with fail
  obtain ⟨g1, hg1⟩ : ∃ g, w.heap.size = g := ⟨_, rfl⟩
  obtain ⟨g2, hg2⟩ : ∃ g, g1 + 1 = g := ⟨_, rfl⟩
  obtain ⟨w3, hw3⟩ : ∃ W, (w.alloc (.cells #[.int .i64 0, .int .i64 0, .string { data := #[97] }, .string { data := #[65] }, .int .i64 0] 61)).alloc (.cells #[.int .i64 0, .int .i64 0, .string { data := #[98] }, .string { data := #[66] }, .int .i64 0] 61) = W := ⟨_, rfl⟩
  have hb3 : Below w.heap.size w w3 := by rw [← hw3]; exact nw _ (nw _ (Below.refl _ _))
  have hA : Blk w3 g1 61 #[.int .i64 0, .int .i64 0, .string { data := #[97] }, .string { data := #[65] }, .int .i64 0] := by rw [← hw3, ← hg1]; exact (Blk.new _ _ _).alloc _
  have hC : Blk w3 g2 61 #[.int .i64 0, .int .i64 0, .string { data := #[98] }, .string { data := #[66] }, .int .i64 0] := by rw [← hw3]; exact Blk.new_ (by simp; omega)
  have HCE : Hid (∀ W, Below w3.heap.size w3 W → W.cell? ⟨g1, 0, none⟩ = some (.int .i64 0) ∧ W.cell? ⟨g1, 1, none⟩ = some (.int .i64 0) ∧ W.cell? ⟨g1, 2, none⟩ = some (.string { data := #[97] }) ∧ W.cell? ⟨g1, 3, none⟩ = some (.string { data := #[65] }) ∧ W.cell? ⟨g1, 4, none⟩ = some (.int .i64 0) ∧ g1 < W.heap.size ∧
      W.cell? ⟨g2, 0, none⟩ = some (.int .i64 0) ∧ W.cell? ⟨g2, 1, none⟩ = some (.int .i64 0) ∧ W.cell? ⟨g2, 2, none⟩ = some (.string { data := #[98] }) ∧ W.cell? ⟨g2, 3, none⟩ = some (.string { data := #[66] }) ∧ W.cell? ⟨g2, 4, none⟩ = some (.int .i64 0) ∧ g2 < W.heap.size) := fun W hW => by
    have e1 := hA.below hW hA.lt
    have e2 := hC.below hW hC.lt
    exact ⟨by rw [e1.cell]; rfl, by rw [e1.cell]; rfl, by rw [e1.cell]; rfl, by rw [e1.cell]; rfl, by rw [e1.cell]; rfl, e1.lt, by rw [e2.cell]; rfl, by rw [e2.cell]; rfl, by rw [e2.cell]; rfl, by rw [e2.cell]; rfl, by rw [e2.cell]; rfl, e2.lt⟩
  have HB3 := Lib.hid hb3
  have B3 : Hid (Below w3.heap.size w3 w3) := Below.refl _ _
  obtain ⟨a0, a1, a2, a3, a4, al, c0, c1, c2, c3, c4, cl⟩ := HCE.out _ B3.out
  simp only [hg1, hg2]
  rw [hw3]
  clear hw3 hg1 hg2 hb3 hA hC
  go_upto_region 3 with (first | (go_at_call 21; go_loud (refine (HCK4.out w9).mono ?_; rintro e w10 ⟨rfl, hb10⟩; have B10 := Lib.hid (bthen B9.out hb10); obtain ⟨a0, a1, a2, a3, a4, al, c0, c1, c2, c3, c4, cl⟩ := HCE.out _ B10.out)) | (go_at_call 21; go_loud (refine (HCK3.out w8).mono ?_; rintro e w9 ⟨rfl, hb9⟩; have B9 := Lib.hid (bthen B8.out hb9); obtain ⟨a0, a1, a2, a3, a4, al, c0, c1, c2, c3, c4, cl⟩ := HCE.out _ B9.out)) | (go_at_call 22; go_loud (refine (lone_any _ _ _ _).mono ?_; rintro e w8 ⟨rfl, hb8⟩; have B8 := Lib.hid (bthen B7.out hb8))) | (go_at_call 21; go_loud (refine (HCK2.out _ _ hb6).mono ?_; rintro e w7 ⟨rfl, hb7⟩; have B7 := Lib.hid (bthen B6.out hb7); obtain ⟨a0, a1, a2, a3, a4, al, c0, c1, c2, c3, c4, cl⟩ := HCE.out _ B7.out)) | (go_at_call 22; go_loud (refine (lone_any _ _ _ _).mono ?_; rintro e w6 ⟨rfl, hb6⟩; have B6 := Lib.hid (bthen B5.out (bel1 hb6)))) | (go_at_call 21; go_loud (refine (HCK1.out _ _ hb4).mono ?_; rintro e w5 ⟨rfl, hb5⟩; have B5 := Lib.hid (bthen B4.out hb5); obtain ⟨a0, a1, a2, a3, a4, al, c0, c1, c2, c3, c4, cl⟩ := HCE.out _ B5.out)) | (go_at_call 22; go_loud (refine (lone_any _ _ _ _).mono ?_; rintro e w4 ⟨rfl, hb4⟩; have B4 := Lib.hid (bthen B3.out (bel1 hb4)))))
  go_upto_region 4 with (first | (go_at_call 21; go_loud (refine (HCK5.out _ _ hb11).mono ?_; rintro e w12 ⟨rfl, hb12⟩; have B12 := Lib.hid (bthen B11.out hb12); obtain ⟨a0, a1, a2, a3, a4, al, c0, c1, c2, c3, c4, cl⟩ := HCE.out _ B12.out)) | (go_at_call 22; go_loud (refine (lone_any _ _ _ _).mono ?_; rintro e w11 ⟨rfl, hb11⟩; have B11 := Lib.hid (bthen B10.out (bel1 hb11)))))
  go_upto_region 5 with ((go_at_call 22; go_loud (refine (lone_any _ _ _ _).mono ?_; rintro e w13 ⟨rfl, hb13⟩; have B13 := Lib.hid (bthen B12.out (bel1 hb13)))))
  obtain ⟨g5, hg5⟩ : ∃ g, w13.heap.size = g := ⟨_, rfl⟩
  obtain ⟨w14, hw14⟩ : ∃ W, w13.alloc (.cells #[.int .i64 1, .int .u8 1, .slice (some ⟨w12.heap.size, 0, none⟩) 2 2] 30) = W := ⟨_, rfl⟩
  have hb14 : Below w13.heap.size w13 w14 := by rw [← hw14]; exact nw _ (Below.refl _ _)
  have hB : Blk w14 g5 30 #[.int .i64 1, .int .u8 1, .slice (some ⟨w12.heap.size, 0, none⟩) 2 2] := by rw [← hw14, ← hg5]; exact Blk.new _ _ _
  have HCS : Hid (∀ W, Below w14.heap.size w14 W → W.cell? ⟨g5, 0, none⟩ = some (.int .i64 1) ∧ W.cell? ⟨g5, 1, none⟩ = some (.int .u8 1) ∧ W.cell? ⟨g5, 2, none⟩ = some (.slice (some ⟨w12.heap.size, 0, none⟩) 2 2) ∧ g5 < W.heap.size) := fun W hW => by
    have e1 := hB.below hW hB.lt
    exact ⟨by rw [e1.cell]; rfl, by rw [e1.cell]; rfl, by rw [e1.cell]; rfl, e1.lt⟩
  have HL6 : Hid (∀ W, Below w14.heap.size w14 W → Below (w12.alloc (.cells #[.int .i64 0, .int .i64 0, .string { data := #[97] }, .string { data := #[120] }, .int .i64 0, .int .i64 0, .int .i64 0, .string { data := #[97, 97] }, .string { data := #[121] }, .int .i64 0] 61)).heap.size (w12.alloc (.cells #[.int .i64 0, .int .i64 0, .string { data := #[97] }, .string { data := #[120] }, .int .i64 0, .int .i64 0, .int .i64 0, .string { data := #[97, 97] }, .string { data := #[121] }, .int .i64 0] 61)) W) := fun W hW => bthen hb13 (bthen hb14 hW)
  have B14 := Lib.hid (bthen B13.out hb14)
  have R14 : Hid (Below w14.heap.size w14 w14) := Below.refl _ _
  rw [hw14, hg5]
  clear hw14 hg5 hb14 hB
  obtain ⟨s0, s1, s2, sl⟩ := HCS.out _ R14.out
  go_wp2_with (first | (go_at_call 12; go_loud (refine (HP3.out _ _ (HL6.out _ R17.out)).mono ?_; rintro e w18 ⟨rfl, hb18⟩; have R18 := Lib.hid (bthen R17.out hb18); obtain ⟨s0, s1, s2, sl⟩ := HCS.out _ R18.out)) | (go_at_call 12; go_loud (refine (HP2.out _ _ (HL6.out _ R16.out)).mono ?_; rintro e w17 ⟨rfl, hb17⟩; have R17 := Lib.hid (bthen R16.out hb17); obtain ⟨s0, s1, s2, sl⟩ := HCS.out _ R17.out)) | (go_at_call 12; go_loud (refine (HP1.out _ _ (HL6.out _ R15.out)).mono ?_; rintro e w16 ⟨rfl, hb16⟩; have R16 := Lib.hid (bthen R15.out hb16); obtain ⟨s0, s1, s2, sl⟩ := HCS.out _ R16.out)) | (go_at_call 21; go_loud (refine (HCK6.out _ _ (HL6.out _ R14.out)).mono ?_; rintro e w15 ⟨rfl, hb15⟩; have R15 := Lib.hid (bthen R14.out hb15); obtain ⟨s0, s1, s2, sl⟩ := HCS.out _ R15.out)))
  go_ret
  exact ⟨rfl, bthen HB3.out (bthen B14.out R18.out)⟩
end Go.Proofs.YtfpnhgahkjglgaaGreat

/-
  The walks of layer 05: marks of modes; the rules that leave each mode.
-/
namespace Go.Proofs.YtfpnhgahkjglgaaGreat
open Go Go.RowKit Go.Maps

end Go.Proofs.YtfpnhgahkjglgaaGreat

/-
  Words for memory of layer 05: the loop that makes modes live.
-/
namespace Go.Proofs.YtfpnhgahkjglgaaGreat
open Go Go.RowKit Go.Maps

def cntf (N : Nat) (f : Int → Bool) : Nat := (List.range N).countP fun k : Nat => !f (k : Int)
theorem cntf_lt {N : Nat} {f g : Int → Bool} (h : ∀ x, f x = true → g x = true) {m : Nat} (hm : m < N) (h1 : f (m : Int) = false) (h2 : g (m : Int) = true) : cntf N g < cntf N f := by
  unfold cntf
  have key : ∀ l : List Nat, m ∈ l → l.countP (fun k : Nat => !g (k : Int)) < l.countP (fun k : Nat => !f (k : Int)) := by
    intro l
    induction l with
    | nil => intro h; cases h
    | cons a l ih =>
      intro hml
      have hle : l.countP (fun k : Nat => !g (k : Int)) ≤ l.countP (fun k : Nat => !f (k : Int)) := List.countP_mono_left fun k _ hk => by
        cases hf : f (k : Int) with
        | false => rfl
        | true => rw [h _ hf] at hk; exact hk
      rw [List.countP_cons, List.countP_cons]
      by_cases e : a = m
      · subst e
        simp [h1, h2]
        omega
      · have := ih ((List.mem_cons.1 hml).elim (fun e2 => absurd e2.symm e) id)
        have hx : (if (!g (a : Int)) = true then 1 else 0) ≤ (if (!f (a : Int)) = true then 1 else 0) := by
          cases hf : f (a : Int) with
          | false => cases g (a : Int) <;> decide
          | true => rw [h _ hf]; decide
        omega
  exact key _ (List.mem_range.2 hm)
section
variable {w w' : World} {gm n N gL r cnt : Nat} {V : Int → Value} {Ls : Int → List Int} {D : DataW Unit} {left : Lit → Bool} {f : Int → Bool}
theorem LvM.far (h : LvM Tryz.prog 3 3 w gm n N (gm + 1) V Ls D) (hL : BB w gL N f) (hg : w.grownBy w' (some gL)) : LvM Tryz.prog 3 3 w' gm n N (gm + 1) V Ls D := by
  have hne : gL ≠ gm := by
    obtain ⟨es, clock, h1, _⟩ := h.own
    exact map_blk h1 hL
  refine ⟨h.own.kept hg (fun e => hne (Option.some.inj e).symm), h.at_, fun m h0 h1 => (h.row m h0 h1).kept hg ?_, h.has_, h.put, h.apart, h.below⟩
  have := own_blk_ne (h.row m h0 h1) hL (by decide)
  exact .inr this
theorem LvM.iter (h : LvM Tryz.prog 3 3 w gm n N (gm + 1) V Ls D) (hr : w.ranges Tryz.prog 3 slE gm r n D left cnt) (hg : w.grownBy w' (some r)) : LvM Tryz.prog 3 3 w' gm n N (gm + 1) V Ls D := by
  refine ⟨h.own.kept hg (fun e => hr.ne (Option.some.inj e).symm), h.at_, fun m h0 h1 => (h.row m h0 h1).kept hg ?_, h.has_, h.put, h.apart, h.below⟩
  cases hv : (V m).ownBlock with
  | none => exact .inl rfl
  | some g =>
    refine .inr fun e => ?_
    obtain rfl := Option.some.inj e
    obtain ⟨cs, t, f, h2⟩ := own_cells (h.row m h0 h1) hv
    obtain ⟨es, clock, since, seen, c0, _, _, _, _, h5, _⟩ := hr
    rw [h2] at h5
    cases h5
theorem BB.iter (h : BB w gL N f) (hr : w.ranges Tryz.prog 3 slE gm r n D left cnt) (hg : w.grownBy w' (some r)) : BB w' gL N f := by
  refine (hg.block gL h.lt fun e => ?_).trans h
  obtain rfl := Option.some.inj e
  obtain ⟨es, clock, since, seen, c0, _, _, _, _, h5, _⟩ := hr
  have h : w.heap[gL]? = some _ := h
  rw [h5] at h
  cases h
end
/-- What a pass has done: nothing, and the modes looked at are closed; or a mark more. -/
def PassF (N : Nat) (f0 f : Int → Bool) (ch : Bool) (C : Prop) : Prop := (∀ x, f0 x = true → f x = true) ∧ (ch = false → f = f0 ∧ C) ∧ (ch = true → cntf N f < cntf N f0)
theorem PassF.mark {N : Nat} {f0 f : Int → Bool} {ch : Bool} {C C' : Prop} (h : PassF N f0 f ch C) {m : Nat} (hm : m < N) (h1 : f (m : Int) = false) : PassF N f0 (fun x => if x = (m : Int) then true else f x) true C' := by
  refine ⟨fun x hx => ?_, fun h => (by cases h), fun _ => ?_⟩
  · show (if x = (m : Int) then true else f x) = true
    split
    · rfl
    · exact h.1 x hx
  · refine cntf_lt (fun x hx => ?_) hm ?_ (if_pos rfl)
    · show (if x = (m : Int) then true else f x) = true
      split
      · rfl
      · exact h.1 x hx
    · cases h0 : f0 (m : Int) with
      | false => rfl
      | true => rw [h.1 _ h0] at h1; cases h1
theorem PassF.keep {N : Nat} {f0 f : Int → Bool} {ch : Bool} {C C' : Prop} (h : PassF N f0 f ch C) (hc : f = f0 → C → C') : PassF N f0 f ch C' :=
  ⟨h.1, fun e => ⟨(h.2.1 e).1, hc (h.2.1 e).1 (h.2.1 e).2⟩, h.2.2⟩
end Go.Proofs.YtfpnhgahkjglgaaGreat

/-
  The walk of layer 05: the modes that are live.
-/
namespace Go.Proofs.YtfpnhgahkjglgaaGreat
open Go Go.RowKit Go.Maps

end Go.Proofs.YtfpnhgahkjglgaaGreat

/-
  The walk of layer 05: the states to which routes lead.
-/
namespace Go.Proofs.YtfpnhgahkjglgaaGreat
open Go Go.RowKit Go.Maps

end Go.Proofs.YtfpnhgahkjglgaaGreat

/-
  Whether an input goes on, by the modes alone; a look into a map or none.
-/
namespace Go.Proofs.YtfpnhgahkjglgaaGreat
open Go Go.RowKit Go.Maps

section
variable {s : Sc} {f : Int → Bool} {inp : ByteArray} {M : Int → Option Int}
/-- None leads on behind this place: the rules' first j looked at, at the place a. -/
def NotAt (s : Sc) (inp : ByteArray) (i j : Nat) : Prop := ∀ t o c x k, k < j → s.rs[k]? = some x → bl t = (bl inp).take i → Rte s x.fr t o c → ¬ (bl inp).drop i <+: bl x.inp
theorem NotAt.zero {i : Nat} : NotAt s inp i 0 := fun _ _ _ _ _ h => absurd h (Nat.not_lt_zero _)
theorem NotAt.succ {i j : Nat} {x : Ru} (h : NotAt s inp i j) (hx : s.rs[j]? = some x) (hn : (¬ ∃ t o c, bl t = (bl inp).take i ∧ Rte s x.fr t o c) ∨ ¬ (bl inp).drop i <+: bl x.inp) : NotAt s inp i (j + 1) := fun t o c y k hk hy h1 h2 h3 => by
  rcases Nat.lt_succ_iff_lt_or_eq.1 hk with h4 | rfl
  · exact h t o c y k h4 hy h1 h2 h3
  · rw [hx] at hy
    obtain rfl := Option.some.inj hy
    rcases hn with hn | hn
    · exact hn ⟨t, o, c, h1, h2⟩
    · exact hn h3
end
/-- What Goes answers. -/
def GoesOf (s : Sc) (inp : ByteArray) (b : Bool) : Prop := b = true ↔ soundE s = 0 ∧ letB inp = true ∧ GoesP s inp
end Go.Proofs.YtfpnhgahkjglgaaGreat

/-
  The walk of layer 05: whether an input goes on.
-/
namespace Go.Proofs.YtfpnhgahkjglgaaGreat
open Go Go.RowKit Go.Maps

theorem GoesOf.no {s : Sc} {inp : ByteArray} (h : ¬ (soundE s = 0 ∧ letB inp = true)) : GoesOf s inp false := ⟨fun h => (by cases h), fun h2 => absurd ⟨h2.1, h2.2.1⟩ h⟩
end Go.Proofs.YtfpnhgahkjglgaaGreat

/-
  The walks of layer 05: equal results; which comes before.
-/
namespace Go.Proofs.YtfpnhgahkjglgaaGreat
open Go Go.RowKit

end Go.Proofs.YtfpnhgahkjglgaaGreat

/-
  The scheme of the examples of layer 05: what it gives. No conditions.
-/
namespace Go.Proofs.YtfpnhgahkjglgaaGreat
open Go Go.RowKit

end Go.Proofs.YtfpnhgahkjglgaaGreat

/-
  The walks of layer 05: the scheme of the examples, and what is found in it.
-/
namespace Go.Proofs.YtfpnhgahkjglgaaGreat
open Go Go.RowKit

def encRu5 (r : Ru) : List Value := [.int .i64 r.fr, .int .i64 r.to, .string r.inp, .string r.out, .int .i64 r.co]
end Go.Proofs.YtfpnhgahkjglgaaGreat

/-
  The walk of layer 05: the examples hold.
-/
namespace Go.Proofs.YtfpnhgahkjglgaaGreat
open Go Go.RowKit

end Go.Proofs.YtfpnhgahkjglgaaGreat

/-
  The walks of layer 05: a rule between two modes; an input out of bytes.
-/
namespace Go.Proofs.YtfpnhgahkjglgaaGreat
open Go Go.RowKit

set_option maxRecDepth 100000 in
set_option maxHeartbeats 4000000 in
theorem simple_any (a b : Int) (i o : ByteArray) (w : World) : Calls Tryz.prog 49 #[.agg #[.int .i64 a, .int .i64 b], .string i, .string o] w fun e w' => e = .returned (.agg #[.int .i64 a, .int .i64 b, .string i, .string o, .int .i64 (i.size : Int)]) ∧ Below w.heap.size w w' := by
  obtain ⟨w1, hw1⟩ : ∃ w1, w.alloc (.cells #[.int .i64 a, .int .i64 b] 100) = w1 := ⟨_, rfl⟩
  obtain ⟨g, hg⟩ : ∃ g, w.heap.size = g := ⟨_, rfl⟩
  have hb1 : Below w.heap.size w w1 := by rw [← hw1]; exact nw _ (Below.refl _ _)
  have hB : Blk w1 g 100 #[.int .i64 a, .int .i64 b] := by rw [← hw1, ← hg]; exact Blk.new _ _ _
  obtain ⟨w2, hw2⟩ : ∃ w2, w1.alloc (.cells #[.int .i64 0, .int .i64 0, .string ⟨#[]⟩, .string ⟨#[]⟩, .int .i64 0] 61) = w2 := ⟨_, rfl⟩
  have hb2 : Below w.heap.size w w2 := by rw [← hw2, ← hw1]; exact nw _ (nw _ (Below.refl _ _))
  have hC : Blk w2 (g + 1) 61 #[.int .i64 0, .int .i64 0, .string ⟨#[]⟩, .string ⟨#[]⟩, .int .i64 0] := by rw [← hw2]; exact Blk.new_ (by rw [← hw1, ← hg]; simp)
  have hB2 : Blk w2 g 100 #[.int .i64 a, .int .i64 b] := by rw [← hw2]; exact hB.alloc _
  have hgw : w.heap.size ≤ g + 1 := by omega
  have HW1 := Lib.hid hw1
  have HW2 := Lib.hid hw2
  have HG := Lib.hid hg
  have c0 := hB2.cell 0
  have c1 := hB2.cell 1
  have cl := hB2.lt
  have d0 := hC.cell 0
  have d1 := hC.cell 1
  have d2 := hC.cell 2
  have d3 := hC.cell 3
  have d4 := hC.cell 4
  have dl := hC.lt
  have f0 := hC.frozen 0
  have f1 := hC.frozen 1
  have f2 := hC.frozen 2
  have f3 := hC.frozen 3
  have f4 := hC.frozen 4
  simp at c0 c1 d0 d1 d2 d3 d4
  have HE := Lib.hid (((((hC.set_ 0 (.int .i64 a)).set_ 1 (.int .i64 b)).set_ 2 (.string i)).set_ 3 (.string o)).set_ 4 (.int .i64 (i.size : Int)))
  have HBE := Lib.hid (((((hb2.setCell (p := ⟨g + 1, 0, none⟩) hgw (.int .i64 a)).setCell (p := ⟨g + 1, 1, none⟩) hgw (.int .i64 b)).setCell (p := ⟨g + 1, 2, none⟩) hgw (.string i)).setCell (p := ⟨g + 1, 3, none⟩) hgw (.string o)).setCell (p := ⟨g + 1, 4, none⟩) hgw (.int .i64 (i.size : Int)))
  clear hw1 hg hb1 hB hw2 hB2 hC hb2
  go_enter Tryz.func49, Tryz.ntmps49
  go_upto_region 1 with fail
  rw [HW1.out, HG.out, HW2.out]
  go_wp2_with fail
  obtain ⟨W, hW⟩ : ∃ W, (((((w2.setCell ⟨g + 1, 0, none⟩ (.int .i64 a)).setCell ⟨g + 1, 1, none⟩ (.int .i64 b)).setCell ⟨g + 1, 2, none⟩ (.string i)).setCell ⟨g + 1, 3, none⟩ (.string o)).setCell ⟨g + 1, 4, none⟩ (.int .i64 (i.size : Int))) = W := ⟨_, rfl⟩
  have hE := HE.out
  have hbE := HBE.out
  rw [hW] at hE hbE ⊢
  clear hW HE HBE
  have q0 := hE.cell 0
  have q1 := hE.cell 1
  have q2 := hE.cell 2
  have q3 := hE.cell 3
  have q4 := hE.cell 4
  simp at q0 q1 q2 q3 q4
  refine bodyPost_ret (v := .agg #[.int .i64 a, .int .i64 b, .string i, .string o, .int .i64 (i.size : Int)]) (by simp [results, Tryz.results49, go_sem, q0, q1, q2, q3, q4]; done) rfl ?_
  exact ⟨rfl, hbE⟩
end Go.Proofs.YtfpnhgahkjglgaaGreat

/-
  The walk of layer 05: an input out of bytes.
-/
namespace Go.Proofs.YtfpnhgahkjglgaaGreat
open Go Go.RowKit

def abcL (x : Int) : ByteArray := (ByteArray.mk #[97, 98, 99]).extract (x % 3).toNat (x % 3 + 1).toNat
theorem abcL_cases (x : Int) : abcL x = ByteArray.mk #[97] ∨ abcL x = ByteArray.mk #[98] ∨ abcL x = ByteArray.mk #[99] := by
  have h : x % 3 = 0 ∨ x % 3 = 1 ∨ x % 3 = 2 := by omega
  unfold abcL
  rcases h with h | h | h
  · rw [h]; exact .inl (by rfl)
  · rw [h]; exact .inr (.inl (by rfl))
  · rw [h]; exact .inr (.inr (by rfl))
theorem abcL_ok (x : Int) : (abcL x).size = 1 ∧ smallS (abcL x) = true := by
  rcases abcL_cases x with h | h | h <;> rw [h] <;> exact ⟨by rfl, by decide +kernel⟩
end Go.Proofs.YtfpnhgahkjglgaaGreat

/-
  The six schemes that R2.Base gives: plain. No conditions.
-/
namespace Go.Proofs.YtfpnhgahkjglgaaGreat
open Go Go.RowKit

def one5 (i o : ByteArray) : Ru := ⟨0, 0, i, o, (i.size : Int)⟩
def baseS : Nat → Sc
  | 0 => ⟨1, 1, [one5 ⟨#[97]⟩ ⟨#[97]⟩, one5 ⟨#[98]⟩ ⟨#[98]⟩, one5 ⟨#[99]⟩ ⟨#[99]⟩]⟩
  | 1 => ⟨1, 1, [one5 ⟨#[97]⟩ ⟨#[65]⟩, one5 ⟨#[98, 97]⟩ ⟨#[66]⟩, one5 ⟨#[99, 97]⟩ ⟨#[67]⟩, one5 ⟨#[98]⟩ ⟨#[98]⟩]⟩
  | 2 => ⟨2, 1, [⟨0, 1, ⟨#[99]⟩, ⟨#[]⟩, 1⟩, ⟨1, 0, ⟨#[97]⟩, ⟨#[65]⟩, 1⟩, ⟨1, 0, ⟨#[98]⟩, ⟨#[66]⟩, 1⟩, one5 ⟨#[97]⟩ ⟨#[97]⟩, one5 ⟨#[98]⟩ ⟨#[98]⟩]⟩
  | 3 => ⟨1, 1, [one5 ⟨#[97]⟩ ⟨#[97]⟩, one5 ⟨#[98]⟩ ⟨#[98]⟩, one5 ⟨#[97, 98]⟩ ⟨#[97, 98, 99, 49]⟩, one5 ⟨#[99]⟩ ⟨#[99]⟩]⟩
  | 4 => ⟨1, 1, [one5 ⟨#[97]⟩ ⟨#[97]⟩, ⟨0, 0, ⟨#[98]⟩, ⟨#[98]⟩, 0⟩, ⟨0, 0, ⟨#[99]⟩, ⟨#[98]⟩, 7⟩, ⟨0, 0, ⟨#[98]⟩, ⟨#[99]⟩, 9⟩]⟩
  | _ => ⟨1, 1, [one5 ⟨#[97]⟩ ⟨#[97]⟩, one5 ⟨#[97]⟩ ⟨#[65]⟩, one5 ⟨#[97, 97]⟩ ⟨#[66]⟩, one5 ⟨#[98]⟩ ⟨#[98]⟩, ⟨0, 0, ⟨#[98]⟩, ⟨#[]⟩, 20⟩]⟩
theorem base_ok (k : Nat) : ScOK (baseS k) ∧ (baseS k).n ≤ 2 ∧ 3 ≤ (baseS k).rs.length ∧ (baseS k).rs.length ≤ 5 := by
  unfold baseS
  split <;> decide
/-- Rules left out ahead. -/
theorem scOK_drop {s : Sc} (h : ScOK s) (d : Nat) : ScOK ⟨s.n, s.acc, s.rs.drop d⟩ := by
  obtain ⟨h1, h2, h3, h4, h5⟩ := h
  refine ⟨h1, ?_, h3, fun r hr => h4 r (List.mem_of_mem_drop hr), h5.sublist (List.drop_sublist d s.rs)⟩
  show (s.rs.drop d).length ≤ 64
  rw [List.length_drop]
  omega
/-- A right rule more. -/
theorem scOK_snoc {s : Sc} (h : ScOK s) {r : Ru} (hr : RuOK s.n r) (hn : r ∉ s.rs) (hl : s.rs.length < 64) : ScOK ⟨s.n, s.acc, s.rs ++ [r]⟩ := by
  obtain ⟨h1, h2, h3, h4, h5⟩ := h
  refine ⟨h1, ?_, h3, fun x hx => ?_, ?_⟩
  · show (s.rs ++ [r]).length ≤ 64
    simp
    omega
  · rcases List.mem_append.1 hx with hx | hx
    · exact h4 x hx
    · rw [List.mem_singleton.1 hx]; exact hr
  · show (s.rs ++ [r]).Nodup
    rw [List.nodup_append]
    exact ⟨h5, List.pairwise_singleton _ r, fun a ha b hb e => hn (by rw [← List.mem_singleton.1 hb, ← e]; exact ha)⟩
end Go.Proofs.YtfpnhgahkjglgaaGreat
