/-
  SiLawB, SiLong, SiLongB, joined. No conditions.
-/
import Derived.Test.YtfpnhgahkjglgaaP28
import Derived.Test.YtfpnhgahkjglgaaP21
import Derived.Test.YtfpnhgahkjglgaaP03
/-
  The walk of layer 08's laws: the examples hold.
-/
namespace Go.Proofs.Ytfpnhgahkjglgaa
open Go Go.RowKit Go.Maps

theorem bel1 {W w' : World} {o : Obj} (h : Below (W.alloc o).heap.size (W.alloc o) w') : Below W.heap.size W w' := (nw o (Below.refl _ _)).trans (h.mono (by simp))
theorem lit_in {s : Sc} (hok : ∀ r ∈ s.rs, r.inp.size ≤ 4 ∧ r.out.size ≤ 4) (ha : 0 ≤ s.acc ∧ s.acc ≤ 255) (hl : s.rs.length ≤ 64) {W : World} {g : Nat} (h : Blk W g 32 (s.rs.flatMap encRu).toArray) : ScIn W s (some ⟨g, 0, none⟩) s.rs.length where
  sl := slr_blkR h (fun _ => rfl) (fun _ => rfl)
  len := Nat.le_trans hl (by decide)
  txt r hr := ⟨Nat.le_trans (hok r hr).1 (by decide), Nat.le_trans (hok r hr).2 (by decide)⟩
  acc := ha
  cap := ⟨Nat.le_refl _, Nat.le_trans hl (by decide)⟩
set_option maxRecDepth 100000 in
theorem lit_in1 {W W' : World} (hb : Below (W.alloc (.cells #[.int .i64 0, .int .i64 0, .string { data := #[97] }, .string { data := #[65] }, .int .i64 0, .int .i64 0, .int .i64 0, .string { data := #[98] }, .string { data := #[66] }, .int .i64 0] 32)).heap.size (W.alloc (.cells #[.int .i64 0, .int .i64 0, .string { data := #[97] }, .string { data := #[65] }, .int .i64 0, .int .i64 0, .int .i64 0, .string { data := #[98] }, .string { data := #[66] }, .int .i64 0] 32)) W') : ScIn W' eS1 (some ⟨W.heap.size, 0, none⟩) 2 :=
  (lit_in (s := eS1) (by decide) (by decide) (by decide) (show Blk (W.alloc (.cells #[.int .i64 0, .int .i64 0, .string { data := #[97] }, .string { data := #[65] }, .int .i64 0, .int .i64 0, .int .i64 0, .string { data := #[98] }, .string { data := #[66] }, .int .i64 0] 32)) W.heap.size 32 (eS1.rs.flatMap encRu).toArray from Blk.new _ _ _)).below hb
set_option maxRecDepth 100000 in
theorem lit_in2 {W W' : World} (hb : Below (W.alloc (.cells #[.int .i64 0, .int .i64 0, .string { data := #[97] }, .string { data := #[65] }, .int .i64 0, .int .i64 0, .int .i64 0, .string { data := #[97, 97] }, .string { data := #[65, 65] }, .int .i64 0] 32)).heap.size (W.alloc (.cells #[.int .i64 0, .int .i64 0, .string { data := #[97] }, .string { data := #[65] }, .int .i64 0, .int .i64 0, .int .i64 0, .string { data := #[97, 97] }, .string { data := #[65, 65] }, .int .i64 0] 32)) W') : ScIn W' eS2 (some ⟨W.heap.size, 0, none⟩) 2 :=
  (lit_in (s := eS2) (by decide) (by decide) (by decide) (show Blk (W.alloc (.cells #[.int .i64 0, .int .i64 0, .string { data := #[97] }, .string { data := #[65] }, .int .i64 0, .int .i64 0, .int .i64 0, .string { data := #[97, 97] }, .string { data := #[65, 65] }, .int .i64 0] 32)) W.heap.size 32 (eS2.rs.flatMap encRu).toArray from Blk.new _ _ _)).below hb
set_option maxRecDepth 100000 in
theorem lit_in5 {W W' : World} (hb : Below (W.alloc (.cells #[.int .i64 0, .int .i64 0, .string { data := #[97] }, .string { data := #[65] }, .int .i64 0, .int .i64 0, .int .i64 0, .string { data := #[97, 98] }, .string { data := #[66] }, .int .i64 0, .int .i64 0, .int .i64 0, .string { data := #[98] }, .string { data := #[] }, .int .i64 0] 32)).heap.size (W.alloc (.cells #[.int .i64 0, .int .i64 0, .string { data := #[97] }, .string { data := #[65] }, .int .i64 0, .int .i64 0, .int .i64 0, .string { data := #[97, 98] }, .string { data := #[66] }, .int .i64 0, .int .i64 0, .int .i64 0, .string { data := #[98] }, .string { data := #[] }, .int .i64 0] 32)) W') : ScIn W' eS5 (some ⟨W.heap.size, 0, none⟩) 3 :=
  (lit_in (s := eS5) (by decide) (by decide) (by decide) (show Blk (W.alloc (.cells #[.int .i64 0, .int .i64 0, .string { data := #[97] }, .string { data := #[65] }, .int .i64 0, .int .i64 0, .int .i64 0, .string { data := #[97, 98] }, .string { data := #[66] }, .int .i64 0, .int .i64 0, .int .i64 0, .string { data := #[98] }, .string { data := #[] }, .int .i64 0] 32)) W.heap.size 32 (eS5.rs.flatMap encRu).toArray from Blk.new _ _ _)).below hb
set_option maxRecDepth 100000 in
theorem lit_in6 {W W' : World} (hb : Below (W.alloc (.cells #[.int .i64 0, .int .i64 0, .string { data := #[97] }, .string { data := #[120] }, .int .i64 0, .int .i64 0, .int .i64 0, .string { data := #[97, 97] }, .string { data := #[121] }, .int .i64 0] 32)).heap.size (W.alloc (.cells #[.int .i64 0, .int .i64 0, .string { data := #[97] }, .string { data := #[120] }, .int .i64 0, .int .i64 0, .int .i64 0, .string { data := #[97, 97] }, .string { data := #[121] }, .int .i64 0] 32)) W') : ScIn W' eS6 (some ⟨W.heap.size, 0, none⟩) 2 :=
  (lit_in (s := eS6) (by decide) (by decide) (by decide) (show Blk (W.alloc (.cells #[.int .i64 0, .int .i64 0, .string { data := #[97] }, .string { data := #[120] }, .int .i64 0, .int .i64 0, .int .i64 0, .string { data := #[97, 97] }, .string { data := #[121] }, .int .i64 0] 32)) W.heap.size 32 (eS6.rs.flatMap encRu).toArray from Blk.new _ _ _)).below hb
set_option maxRecDepth 100000 in
theorem lchk1 (W W' : World) (hb : Below (W.alloc (.cells #[.int .i64 0, .int .i64 0, .string { data := #[97] }, .string { data := #[65] }, .int .i64 0, .int .i64 0, .int .i64 0, .string { data := #[98] }, .string { data := #[66] }, .int .i64 0] 32)).heap.size (W.alloc (.cells #[.int .i64 0, .int .i64 0, .string { data := #[97] }, .string { data := #[65] }, .int .i64 0, .int .i64 0, .int .i64 0, .string { data := #[98] }, .string { data := #[66] }, .int .i64 0] 32)) W') : Calls Try.prog 12 #[.agg #[.int .i64 1, .int .u8 1, .slice (some ⟨W.heap.size, 0, none⟩) 2 2], .agg #[.string { data := #[] }, .string { data := #[] }, .string { data := #[] }], .int .i64 0] W' fun e w' => e = .returned (.bool true) ∧ Below W'.heap.size W' w' :=
  lchecks_any eS1 (some ⟨W.heap.size, 0, none⟩) 2 { data := #[] } { data := #[] } { data := #[] } 0 W' (lit_in1 hb) (fun _ _ => eF1) (fun h => chk_none eE1 eN1 h)
set_option maxRecDepth 100000 in
theorem lchk2 (W W' : World) (hb : Below (W.alloc (.cells #[.int .i64 0, .int .i64 0, .string { data := #[97] }, .string { data := #[65] }, .int .i64 0, .int .i64 0, .int .i64 0, .string { data := #[97, 97] }, .string { data := #[65, 65] }, .int .i64 0] 32)).heap.size (W.alloc (.cells #[.int .i64 0, .int .i64 0, .string { data := #[97] }, .string { data := #[65] }, .int .i64 0, .int .i64 0, .int .i64 0, .string { data := #[97, 97] }, .string { data := #[65, 65] }, .int .i64 0] 32)) W') : Calls Try.prog 12 #[.agg #[.int .i64 1, .int .u8 1, .slice (some ⟨W.heap.size, 0, none⟩) 2 2], .agg #[.string { data := #[] }, .string { data := #[] }, .string { data := #[] }], .int .i64 0] W' fun e w' => e = .returned (.bool true) ∧ Below W'.heap.size W' w' :=
  lchecks_any eS2 (some ⟨W.heap.size, 0, none⟩) 2 { data := #[] } { data := #[] } { data := #[] } 0 W' (lit_in2 hb) (fun _ _ => eF2) (fun h => chk_none eE2 eN2 h)
set_option maxRecDepth 100000 in
theorem lchk5 (W W' : World) (hb : Below (W.alloc (.cells #[.int .i64 0, .int .i64 0, .string { data := #[97] }, .string { data := #[65] }, .int .i64 0, .int .i64 0, .int .i64 0, .string { data := #[97, 98] }, .string { data := #[66] }, .int .i64 0, .int .i64 0, .int .i64 0, .string { data := #[98] }, .string { data := #[] }, .int .i64 0] 32)).heap.size (W.alloc (.cells #[.int .i64 0, .int .i64 0, .string { data := #[97] }, .string { data := #[65] }, .int .i64 0, .int .i64 0, .int .i64 0, .string { data := #[97, 98] }, .string { data := #[66] }, .int .i64 0, .int .i64 0, .int .i64 0, .string { data := #[98] }, .string { data := #[] }, .int .i64 0] 32)) W') : Calls Try.prog 12 #[.agg #[.int .i64 1, .int .u8 1, .slice (some ⟨W.heap.size, 0, none⟩) 3 3], .agg #[.string { data := #[97, 98] }, .string { data := #[65] }, .string { data := #[66] }], .int .i64 80] W' fun e w' => e = .returned (.bool true) ∧ Below W'.heap.size W' w' :=
  lchecks_any eS5 (some ⟨W.heap.size, 0, none⟩) 3 { data := #[97, 98] } { data := #[65] } { data := #[66] } 80 W' (lit_in5 hb) (fun _ _ => eF5) (fun h => eC5 h)
set_option maxRecDepth 100000 in
theorem lchk6 (W W' : World) (hb : Below (W.alloc (.cells #[.int .i64 0, .int .i64 0, .string { data := #[97] }, .string { data := #[120] }, .int .i64 0, .int .i64 0, .int .i64 0, .string { data := #[97, 97] }, .string { data := #[121] }, .int .i64 0] 32)).heap.size (W.alloc (.cells #[.int .i64 0, .int .i64 0, .string { data := #[97] }, .string { data := #[120] }, .int .i64 0, .int .i64 0, .int .i64 0, .string { data := #[97, 97] }, .string { data := #[121] }, .int .i64 0] 32)) W') : Calls Try.prog 12 #[.agg #[.int .i64 1, .int .u8 1, .slice (some ⟨W.heap.size, 0, none⟩) 2 2], .agg #[.string { data := #[97, 97] }, .string { data := #[120, 120] }, .string { data := #[121] }], .int .i64 80] W' fun e w' => e = .returned (.bool true) ∧ Below W'.heap.size W' w' :=
  lchecks_any eS6 (some ⟨W.heap.size, 0, none⟩) 2 { data := #[97, 97] } { data := #[120, 120] } { data := #[121] } 80 W' (lit_in6 hb) (fun _ _ => eF6) (fun h => eC6 h)
theorem nil_in (s : Sc) (hn : s.rs = []) (ha : 0 ≤ s.acc ∧ s.acc ≤ 255) (W : World) : ScIn W s none 0 where
  sl := by rw [hn]; exact SlR.nil
  len := by rw [hn]; decide
  txt r hr := by rw [hn] at hr; cases hr
  acc := ha
  cap := by rw [hn]; exact ⟨Nat.le_refl _, Nat.zero_le _⟩
theorem lchk3 (W : World) : Calls Try.prog 12 #[.agg #[.int .i64 1, .int .u8 1, .slice none 0 0], .agg #[.string { data := #[] }, .string { data := #[] }, .string { data := #[] }], .int .i64 0] W fun e w' => e = .returned (.bool true) ∧ Below W.heap.size W w' :=
  lchecks_any eS3 none 0 _ _ _ 0 W (nil_in eS3 rfl (by decide) W) (fun _ _ => eF3) (fun h => chk_none eE3 eN3 h)
theorem lchk4 (W : World) : Calls Try.prog 12 #[.agg #[.int .i64 0, .int .u8 0, .slice none 0 0], .agg #[.string { data := #[] }, .string { data := #[] }, .string { data := #[] }], .int .i64 20] W fun e w' => e = .returned (.bool true) ∧ Below W.heap.size W w' :=
  lchecks_any eS4 none 0 _ _ _ 20 W (nil_in eS4 rfl (by decide) W) (fun _ _ => eF4) (fun h => chk_err eE4 h)
theorem bool_yes {b : Bool} {P : Prop} (h : b = true ↔ P) (hp : P) : b = true := h.2 hp
theorem bool_no {b : Bool} {P : Prop} (h : b = true ↔ P) (hp : ¬ P) : b = false := by
  cases b with
  | false => rfl
  | true => exact absurd (h.1 rfl) hp
set_option maxRecDepth 100000 in
set_option maxHeartbeats 8000000 in
theorem lsan_any (w : World) : Calls Try.prog 5 #[] w fun e w' => e = .returned (.bool true) ∧ Below w.heap.size w w' := by
  have HCK1 : Hid (∀ W W' : World, Below (W.alloc (.cells #[.int .i64 0, .int .i64 0, .string { data := #[97] }, .string { data := #[65] }, .int .i64 0, .int .i64 0, .int .i64 0, .string { data := #[98] }, .string { data := #[66] }, .int .i64 0] 32)).heap.size (W.alloc (.cells #[.int .i64 0, .int .i64 0, .string { data := #[97] }, .string { data := #[65] }, .int .i64 0, .int .i64 0, .int .i64 0, .string { data := #[98] }, .string { data := #[66] }, .int .i64 0] 32)) W' → Calls Try.prog 12 #[.agg #[.int .i64 1, .int .u8 1, .slice (some ⟨W.heap.size, 0, none⟩) 2 2], .agg #[.string { data := #[] }, .string { data := #[] }, .string { data := #[] }], .int .i64 0] W' fun e w' => e = .returned (.bool true) ∧ Below W'.heap.size W' w') := fun W W' h => lchk1 W W' h
  have HCK2 : Hid (∀ W W' : World, Below (W.alloc (.cells #[.int .i64 0, .int .i64 0, .string { data := #[97] }, .string { data := #[65] }, .int .i64 0, .int .i64 0, .int .i64 0, .string { data := #[97, 97] }, .string { data := #[65, 65] }, .int .i64 0] 32)).heap.size (W.alloc (.cells #[.int .i64 0, .int .i64 0, .string { data := #[97] }, .string { data := #[65] }, .int .i64 0, .int .i64 0, .int .i64 0, .string { data := #[97, 97] }, .string { data := #[65, 65] }, .int .i64 0] 32)) W' → Calls Try.prog 12 #[.agg #[.int .i64 1, .int .u8 1, .slice (some ⟨W.heap.size, 0, none⟩) 2 2], .agg #[.string { data := #[] }, .string { data := #[] }, .string { data := #[] }], .int .i64 0] W' fun e w' => e = .returned (.bool true) ∧ Below W'.heap.size W' w') := fun W W' h => lchk2 W W' h
  have HCK5 : Hid (∀ W W' : World, Below (W.alloc (.cells #[.int .i64 0, .int .i64 0, .string { data := #[97] }, .string { data := #[65] }, .int .i64 0, .int .i64 0, .int .i64 0, .string { data := #[97, 98] }, .string { data := #[66] }, .int .i64 0, .int .i64 0, .int .i64 0, .string { data := #[98] }, .string { data := #[] }, .int .i64 0] 32)).heap.size (W.alloc (.cells #[.int .i64 0, .int .i64 0, .string { data := #[97] }, .string { data := #[65] }, .int .i64 0, .int .i64 0, .int .i64 0, .string { data := #[97, 98] }, .string { data := #[66] }, .int .i64 0, .int .i64 0, .int .i64 0, .string { data := #[98] }, .string { data := #[] }, .int .i64 0] 32)) W' → Calls Try.prog 12 #[.agg #[.int .i64 1, .int .u8 1, .slice (some ⟨W.heap.size, 0, none⟩) 3 3], .agg #[.string { data := #[97, 98] }, .string { data := #[65] }, .string { data := #[66] }], .int .i64 80] W' fun e w' => e = .returned (.bool true) ∧ Below W'.heap.size W' w') := fun W W' h => lchk5 W W' h
  have HCK6 : Hid (∀ W W' : World, Below (W.alloc (.cells #[.int .i64 0, .int .i64 0, .string { data := #[97] }, .string { data := #[120] }, .int .i64 0, .int .i64 0, .int .i64 0, .string { data := #[97, 97] }, .string { data := #[121] }, .int .i64 0] 32)).heap.size (W.alloc (.cells #[.int .i64 0, .int .i64 0, .string { data := #[97] }, .string { data := #[120] }, .int .i64 0, .int .i64 0, .int .i64 0, .string { data := #[97, 97] }, .string { data := #[121] }, .int .i64 0] 32)) W' → Calls Try.prog 12 #[.agg #[.int .i64 1, .int .u8 1, .slice (some ⟨W.heap.size, 0, none⟩) 2 2], .agg #[.string { data := #[97, 97] }, .string { data := #[120, 120] }, .string { data := #[121] }], .int .i64 80] W' fun e w' => e = .returned (.bool true) ∧ Below W'.heap.size W' w') := fun W W' h => lchk6 W W' h
  have HCK3 : Hid (∀ W : World, Calls Try.prog 12 #[.agg #[.int .i64 1, .int .u8 1, .slice none 0 0], .agg #[.string { data := #[] }, .string { data := #[] }, .string { data := #[] }], .int .i64 0] W fun e w' => e = .returned (.bool true) ∧ Below W.heap.size W w') := lchk3
  have HCK4 : Hid (∀ W : World, Calls Try.prog 12 #[.agg #[.int .i64 0, .int .u8 0, .slice none 0 0], .agg #[.string { data := #[] }, .string { data := #[] }, .string { data := #[] }], .int .i64 20] W fun e w' => e = .returned (.bool true) ∧ Below W.heap.size W w') := lchk4
  have HP1 : Hid (∀ W W' : World, Below (W.alloc (.cells #[.int .i64 0, .int .i64 0, .string { data := #[97] }, .string { data := #[120] }, .int .i64 0, .int .i64 0, .int .i64 0, .string { data := #[97, 97] }, .string { data := #[121] }, .int .i64 0] 32)).heap.size (W.alloc (.cells #[.int .i64 0, .int .i64 0, .string { data := #[97] }, .string { data := #[120] }, .int .i64 0, .int .i64 0, .int .i64 0, .string { data := #[97, 97] }, .string { data := #[121] }, .int .i64 0] 32)) W' → Calls Try.prog 11 #[.agg #[.int .i64 1, .int .u8 1, .slice (some ⟨W.heap.size, 0, none⟩) 2 2], .agg #[.string { data := #[97, 97, 97] }, .string { data := #[120, 121] }, .string { data := #[121, 120] }]] W' fun e w' => e = .returned (.bool true) ∧ Below W'.heap.size W' w') := fun W W' h => (sproves_any eS6 (some ⟨W.heap.size, 0, none⟩) 2 { data := #[97, 97, 97] } { data := #[120, 121] } { data := #[121, 120] } W' (lit_in6 h) (fun _ _ => eF6) (by decide) (by decide) (by decide)).mono fun e w' ⟨b, h1, h2, h3⟩ => ⟨by rw [h1, bool_yes h2 eP1], h3⟩
  have HP2 : Hid (∀ W W' : World, Below (W.alloc (.cells #[.int .i64 0, .int .i64 0, .string { data := #[97] }, .string { data := #[120] }, .int .i64 0, .int .i64 0, .int .i64 0, .string { data := #[97, 97] }, .string { data := #[121] }, .int .i64 0] 32)).heap.size (W.alloc (.cells #[.int .i64 0, .int .i64 0, .string { data := #[97] }, .string { data := #[120] }, .int .i64 0, .int .i64 0, .int .i64 0, .string { data := #[97, 97] }, .string { data := #[121] }, .int .i64 0] 32)) W' → Calls Try.prog 11 #[.agg #[.int .i64 1, .int .u8 1, .slice (some ⟨W.heap.size, 0, none⟩) 2 2], .agg #[.string { data := #[97, 97] }, .string { data := #[121] }, .string { data := #[121] }]] W' fun e w' => e = .returned (.bool false) ∧ Below W'.heap.size W' w') := fun W W' h => (sproves_any eS6 (some ⟨W.heap.size, 0, none⟩) 2 { data := #[97, 97] } { data := #[121] } { data := #[121] } W' (lit_in6 h) (fun _ _ => eF6) (by decide) (by decide) (by decide)).mono fun e w' ⟨b, h1, h2, h3⟩ => ⟨by rw [h1, bool_no h2 eP2], h3⟩
  have HP3 : Hid (∀ W W' : World, Below (W.alloc (.cells #[.int .i64 0, .int .i64 0, .string { data := #[97] }, .string { data := #[120] }, .int .i64 0, .int .i64 0, .int .i64 0, .string { data := #[97, 97] }, .string { data := #[121] }, .int .i64 0] 32)).heap.size (W.alloc (.cells #[.int .i64 0, .int .i64 0, .string { data := #[97] }, .string { data := #[120] }, .int .i64 0, .int .i64 0, .int .i64 0, .string { data := #[97, 97] }, .string { data := #[121] }, .int .i64 0] 32)) W' → Calls Try.prog 11 #[.agg #[.int .i64 1, .int .u8 1, .slice (some ⟨W.heap.size, 0, none⟩) 2 2], .agg #[.string { data := #[97] }, .string { data := #[120] }, .string { data := #[121] }]] W' fun e w' => e = .returned (.bool false) ∧ Below W'.heap.size W' w') := fun W W' h => (sproves_any eS6 (some ⟨W.heap.size, 0, none⟩) 2 { data := #[97] } { data := #[120] } { data := #[121] } W' (lit_in6 h) (fun _ _ => eF6) (by decide) (by decide) (by decide)).mono fun e w' ⟨b, h1, h2, h3⟩ => ⟨by rw [h1, bool_no h2 eP3], h3⟩
  go_enter Try.func5, Try.ntmps5
  go_upto_region 2 with fail
  obtain ⟨g1, hg1⟩ : ∃ g, w.heap.size = g := ⟨_, rfl⟩
  obtain ⟨g2, hg2⟩ : ∃ g, g1 + 1 = g := ⟨_, rfl⟩
  obtain ⟨w3, hw3⟩ : ∃ W, (w.alloc (.cells #[.int .i64 0, .int .i64 0, .string { data := #[97] }, .string { data := #[65] }, .int .i64 0] 32)).alloc (.cells #[.int .i64 0, .int .i64 0, .string { data := #[98] }, .string { data := #[66] }, .int .i64 0] 32) = W := ⟨_, rfl⟩
  have hb3 : Below w.heap.size w w3 := by rw [← hw3]; exact nw _ (nw _ (Below.refl _ _))
  have hA : Blk w3 g1 32 #[.int .i64 0, .int .i64 0, .string { data := #[97] }, .string { data := #[65] }, .int .i64 0] := by rw [← hw3, ← hg1]; exact (Blk.new _ _ _).alloc _
  have hC : Blk w3 g2 32 #[.int .i64 0, .int .i64 0, .string { data := #[98] }, .string { data := #[66] }, .int .i64 0] := by rw [← hw3]; exact Blk.new_ (by simp; omega)
  have HCE : Hid (∀ W, Below w3.heap.size w3 W → W.cell? ⟨g1, 0, none⟩ = some (.int .i64 0) ∧ W.cell? ⟨g1, 1, none⟩ = some (.int .i64 0) ∧ W.cell? ⟨g1, 2, none⟩ = some (.string { data := #[97] }) ∧ W.cell? ⟨g1, 3, none⟩ = some (.string { data := #[65] }) ∧ W.cell? ⟨g1, 4, none⟩ = some (.int .i64 0) ∧ g1 < W.heap.size ∧
      W.cell? ⟨g2, 0, none⟩ = some (.int .i64 0) ∧ W.cell? ⟨g2, 1, none⟩ = some (.int .i64 0) ∧ W.cell? ⟨g2, 2, none⟩ = some (.string { data := #[98] }) ∧ W.cell? ⟨g2, 3, none⟩ = some (.string { data := #[66] }) ∧ W.cell? ⟨g2, 4, none⟩ = some (.int .i64 0) ∧ g2 < W.heap.size) := fun W hW => by
    have e1 := hA.below hW hA.lt
    have e2 := hC.below hW hC.lt
    exact ⟨by rw [e1.cell]; rfl, by rw [e1.cell]; rfl, by rw [e1.cell]; rfl, by rw [e1.cell]; rfl, by rw [e1.cell]; rfl, e1.lt, by rw [e2.cell]; rfl, by rw [e2.cell]; rfl, by rw [e2.cell]; rfl, by rw [e2.cell]; rfl, by rw [e2.cell]; rfl, e2.lt⟩
  have HB3 := Lib.hid hb3
  have B3 : Hid (Below w3.heap.size w3 w3) := Below.refl _ _
  obtain ⟨a0, a1, a2, a3, a4, al, c0, c1, c2, c3, c4, cl⟩ := HCE.out _ B3.out
  simp only [hg1, hg2]
  rw [hw3]
  clear hw3 hg1 hg2 hb3 hA hC
  go_upto_region 3 with (first | (go_at_call 12; go_loud (refine (HCK4.out w9).mono ?_; rintro e w10 ⟨rfl, hb10⟩; have B10 := Lib.hid (bthen B9.out hb10); obtain ⟨a0, a1, a2, a3, a4, al, c0, c1, c2, c3, c4, cl⟩ := HCE.out _ B10.out)) | (go_at_call 12; go_loud (refine (HCK3.out w8).mono ?_; rintro e w9 ⟨rfl, hb9⟩; have B9 := Lib.hid (bthen B8.out hb9); obtain ⟨a0, a1, a2, a3, a4, al, c0, c1, c2, c3, c4, cl⟩ := HCE.out _ B9.out)) | (go_at_call 13; go_loud (refine (lone_any _ _ _ _).mono ?_; rintro e w8 ⟨rfl, hb8⟩; have B8 := Lib.hid (bthen B7.out hb8))) | (go_at_call 12; go_loud (refine (HCK2.out _ _ hb6).mono ?_; rintro e w7 ⟨rfl, hb7⟩; have B7 := Lib.hid (bthen B6.out hb7); obtain ⟨a0, a1, a2, a3, a4, al, c0, c1, c2, c3, c4, cl⟩ := HCE.out _ B7.out)) | (go_at_call 13; go_loud (refine (lone_any _ _ _ _).mono ?_; rintro e w6 ⟨rfl, hb6⟩; have B6 := Lib.hid (bthen B5.out (bel1 hb6)))) | (go_at_call 12; go_loud (refine (HCK1.out _ _ hb4).mono ?_; rintro e w5 ⟨rfl, hb5⟩; have B5 := Lib.hid (bthen B4.out hb5); obtain ⟨a0, a1, a2, a3, a4, al, c0, c1, c2, c3, c4, cl⟩ := HCE.out _ B5.out)) | (go_at_call 13; go_loud (refine (lone_any _ _ _ _).mono ?_; rintro e w4 ⟨rfl, hb4⟩; have B4 := Lib.hid (bthen B3.out (bel1 hb4)))))
  go_upto_region 4 with (first | (go_at_call 12; go_loud (refine (HCK5.out _ _ hb11).mono ?_; rintro e w12 ⟨rfl, hb12⟩; have B12 := Lib.hid (bthen B11.out hb12); obtain ⟨a0, a1, a2, a3, a4, al, c0, c1, c2, c3, c4, cl⟩ := HCE.out _ B12.out)) | (go_at_call 13; go_loud (refine (lone_any _ _ _ _).mono ?_; rintro e w11 ⟨rfl, hb11⟩; have B11 := Lib.hid (bthen B10.out (bel1 hb11)))))
  go_upto_region 5 with ((go_at_call 13; go_loud (refine (lone_any _ _ _ _).mono ?_; rintro e w13 ⟨rfl, hb13⟩; have B13 := Lib.hid (bthen B12.out (bel1 hb13)))))
  obtain ⟨g5, hg5⟩ : ∃ g, w13.heap.size = g := ⟨_, rfl⟩
  obtain ⟨w14, hw14⟩ : ∃ W, w13.alloc (.cells #[.int .i64 1, .int .u8 1, .slice (some ⟨w12.heap.size, 0, none⟩) 2 2] 29) = W := ⟨_, rfl⟩
  have hb14 : Below w13.heap.size w13 w14 := by rw [← hw14]; exact nw _ (Below.refl _ _)
  have hB : Blk w14 g5 29 #[.int .i64 1, .int .u8 1, .slice (some ⟨w12.heap.size, 0, none⟩) 2 2] := by rw [← hw14, ← hg5]; exact Blk.new _ _ _
  have HCS : Hid (∀ W, Below w14.heap.size w14 W → W.cell? ⟨g5, 0, none⟩ = some (.int .i64 1) ∧ W.cell? ⟨g5, 1, none⟩ = some (.int .u8 1) ∧ W.cell? ⟨g5, 2, none⟩ = some (.slice (some ⟨w12.heap.size, 0, none⟩) 2 2) ∧ g5 < W.heap.size) := fun W hW => by
    have e1 := hB.below hW hB.lt
    exact ⟨by rw [e1.cell]; rfl, by rw [e1.cell]; rfl, by rw [e1.cell]; rfl, e1.lt⟩
  have HL6 : Hid (∀ W, Below w14.heap.size w14 W → Below (w12.alloc (.cells #[.int .i64 0, .int .i64 0, .string { data := #[97] }, .string { data := #[120] }, .int .i64 0, .int .i64 0, .int .i64 0, .string { data := #[97, 97] }, .string { data := #[121] }, .int .i64 0] 32)).heap.size (w12.alloc (.cells #[.int .i64 0, .int .i64 0, .string { data := #[97] }, .string { data := #[120] }, .int .i64 0, .int .i64 0, .int .i64 0, .string { data := #[97, 97] }, .string { data := #[121] }, .int .i64 0] 32)) W) := fun W hW => bthen hb13 (bthen hb14 hW)
  have B14 := Lib.hid (bthen B13.out hb14)
  have R14 : Hid (Below w14.heap.size w14 w14) := Below.refl _ _
  rw [hw14, hg5]
  clear hw14 hg5 hb14 hB
  obtain ⟨s0, s1, s2, sl⟩ := HCS.out _ R14.out
  go_wp2_with (first | (go_at_call 11; go_loud (refine (HP3.out _ _ (HL6.out _ R17.out)).mono ?_; rintro e w18 ⟨rfl, hb18⟩; have R18 := Lib.hid (bthen R17.out hb18); obtain ⟨s0, s1, s2, sl⟩ := HCS.out _ R18.out)) | (go_at_call 11; go_loud (refine (HP2.out _ _ (HL6.out _ R16.out)).mono ?_; rintro e w17 ⟨rfl, hb17⟩; have R17 := Lib.hid (bthen R16.out hb17); obtain ⟨s0, s1, s2, sl⟩ := HCS.out _ R17.out)) | (go_at_call 11; go_loud (refine (HP1.out _ _ (HL6.out _ R15.out)).mono ?_; rintro e w16 ⟨rfl, hb16⟩; have R16 := Lib.hid (bthen R15.out hb16); obtain ⟨s0, s1, s2, sl⟩ := HCS.out _ R16.out)) | (go_at_call 12; go_loud (refine (HCK6.out _ _ (HL6.out _ R14.out)).mono ?_; rintro e w15 ⟨rfl, hb15⟩; have R15 := Lib.hid (bthen R14.out hb15); obtain ⟨s0, s1, s2, sl⟩ := HCS.out _ R15.out)))
  go_ret
  exact ⟨rfl, bthen HB3.out (bthen B14.out R18.out)⟩
end Go.Proofs.Ytfpnhgahkjglgaa

/-
  The scheme with two branches: its outputs, and the first input with two of them: plain laws. No conditions.
-/
namespace Go.Proofs.Ytfpnhgahkjglgaa
open List

def powB (c : UInt8) (n : Nat) : ByteArray := ba (replicate n c)
theorem bl_pow (c : UInt8) (n : Nat) : bl (powB c n) = replicate n c := rfl
def longS (p q i j : Nat) : Sc := ⟨4, 8, [⟨0, 1, ByteArray.empty, ByteArray.empty, 0⟩, ⟨0, 2, ByteArray.empty, ByteArray.empty, 0⟩, ⟨1, 1, powB 97 p, powB 120 i, 0⟩, ⟨2, 2, powB 97 q, powB 120 j, 0⟩, ⟨1, 3, ba [99], ByteArray.empty, 0⟩, ⟨2, 3, ba [99], ByteArray.empty, 0⟩]⟩
section
variable {p q i j : Nat}
/-- Where routes of the scheme lead. -/
def LongR (p q i j : Nat) (m : Int) (t o : List UInt8) : Prop :=
  (m = 0 ∧ t = [] ∧ o = []) ∨ (m = 1 ∧ ∃ k, t = replicate (p * k) 97 ∧ o = replicate (i * k) 120) ∨ (m = 2 ∧ ∃ k, t = replicate (q * k) 97 ∧ o = replicate (j * k) 120) ∨
    (m = 3 ∧ ∃ k, t = replicate (p * k) 97 ++ [99] ∧ o = replicate (i * k) 120) ∨ (m = 3 ∧ ∃ k, t = replicate (q * k) 97 ++ [99] ∧ o = replicate (j * k) 120)
theorem long_rte {m : Int} {t o : ByteArray} {c : Int} (h : Rte (longS p q i j) m t o c) : LongR p q i j m (bl t) (bl o) ∧ c = 0 := by
  induction h with
  | nil => exact ⟨.inl ⟨rfl, rfl, rfl⟩, rfl⟩
  | @snoc m t o c r _ h2 h3 ih =>
    obtain ⟨ih, rfl⟩ := ih
    unfold longS at h2
    simp only [mem_cons, not_mem_nil, or_false] at h2
    unfold LongR at *
    rw [bl_app, bl_app]
    rcases h2 with rfl | rfl | rfl | rfl | rfl | rfl <;> simp only at h3 <;> subst h3 <;> refine ⟨?_, rfl⟩
    · rcases ih with ⟨_, h4, h5⟩ | ⟨h, _⟩ | ⟨h, _⟩ | ⟨h, _⟩ | ⟨h, _⟩ <;> first | omega | skip
      exact .inr (.inl ⟨rfl, 0, by rw [h4]; rfl, by rw [h5]; rfl⟩)
    · rcases ih with ⟨_, h4, h5⟩ | ⟨h, _⟩ | ⟨h, _⟩ | ⟨h, _⟩ | ⟨h, _⟩ <;> first | omega | skip
      exact .inr (.inr (.inl ⟨rfl, 0, by rw [h4]; rfl, by rw [h5]; rfl⟩))
    · rcases ih with ⟨h, _⟩ | ⟨_, k, h4, h5⟩ | ⟨h, _⟩ | ⟨h, _⟩ | ⟨h, _⟩ <;> first | omega | skip
      exact .inr (.inl ⟨rfl, k + 1, by rw [h4, bl_pow, replicate_append_replicate, Nat.mul_succ], by rw [h5, bl_pow, replicate_append_replicate, Nat.mul_succ]⟩)
    · rcases ih with ⟨h, _⟩ | ⟨h, _⟩ | ⟨_, k, h4, h5⟩ | ⟨h, _⟩ | ⟨h, _⟩ <;> first | omega | skip
      exact .inr (.inr (.inl ⟨rfl, k + 1, by rw [h4, bl_pow, replicate_append_replicate, Nat.mul_succ], by rw [h5, bl_pow, replicate_append_replicate, Nat.mul_succ]⟩))
    · rcases ih with ⟨h, _⟩ | ⟨_, k, h4, h5⟩ | ⟨h, _⟩ | ⟨h, _⟩ | ⟨h, _⟩ <;> first | omega | skip
      exact .inr (.inr (.inr (.inl ⟨rfl, k, by rw [h4]; rfl, by rw [h5]; exact append_nil _⟩)))
    · rcases ih with ⟨h, _⟩ | ⟨h, _⟩ | ⟨_, k, h4, h5⟩ | ⟨h, _⟩ | ⟨h, _⟩ <;> first | omega | skip
      exact .inr (.inr (.inr (.inr ⟨rfl, k, by rw [h4]; rfl, by rw [h5]; exact append_nil _⟩)))
theorem long_one : ∀ k, Rte (longS p q i j) 1 (powB 97 (p * k)) (powB 120 (i * k)) 0
  | 0 => by
    have := Rte.snoc (s := longS p q i j) .nil (r := ⟨0, 1, ByteArray.empty, ByteArray.empty, 0⟩) (by unfold longS; simp) rfl
    exact this
  | k + 1 => by
    have := Rte.snoc (long_one k) (r := ⟨1, 1, powB 97 p, powB 120 i, 0⟩) (by unfold longS; simp) rfl
    have e1 : powB 97 (p * k) ++ powB 97 p = powB 97 (p * (k + 1)) := bl_inj (by rw [bl_app, bl_pow, bl_pow, bl_pow, replicate_append_replicate, Nat.mul_succ])
    have e2 : powB 120 (i * k) ++ powB 120 i = powB 120 (i * (k + 1)) := bl_inj (by rw [bl_app, bl_pow, bl_pow, bl_pow, replicate_append_replicate, Nat.mul_succ])
    simp only [e1, e2] at this
    exact this
theorem long_two : ∀ k, Rte (longS p q i j) 2 (powB 97 (q * k)) (powB 120 (j * k)) 0
  | 0 => by
    have := Rte.snoc (s := longS p q i j) .nil (r := ⟨0, 2, ByteArray.empty, ByteArray.empty, 0⟩) (by unfold longS; simp) rfl
    exact this
  | k + 1 => by
    have := Rte.snoc (long_two k) (r := ⟨2, 2, powB 97 q, powB 120 j, 0⟩) (by unfold longS; simp) rfl
    have e1 : powB 97 (q * k) ++ powB 97 q = powB 97 (q * (k + 1)) := bl_inj (by rw [bl_app, bl_pow, bl_pow, bl_pow, replicate_append_replicate, Nat.mul_succ])
    have e2 : powB 120 (j * k) ++ powB 120 j = powB 120 (j * (k + 1)) := bl_inj (by rw [bl_app, bl_pow, bl_pow, bl_pow, replicate_append_replicate, Nat.mul_succ])
    simp only [e1, e2] at this
    exact this
def aNc (n : Nat) : ByteArray := powB 97 n ++ ba [99]
theorem bl_aNc (n : Nat) : bl (aNc n) = replicate n 97 ++ [99] := by unfold aNc; rw [bl_app]; rfl
theorem acc_long {m : Int} : accB (longS p q i j).acc m = true ↔ m = 3 := by
  show (decide (0 ≤ m) && (8 : Int).toNat.testBit m.toNat) = true ↔ _
  rw [Bool.and_eq_true, decide_eq_true_iff]
  constructor
  · rintro ⟨h1, h2⟩
    have h3 : (8 : Int).toNat = 2 ^ 3 := rfl
    rw [h3, Nat.testBit_two_pow] at h2
    have h2 : 3 = m.toNat := by simpa using h2
    omega
  · rintro rfl
    exact ⟨by decide, by decide⟩
/-- The outputs of the scheme. -/
theorem long_whole {t o : ByteArray} {c : Int} : Whole (longS p q i j) t o c ↔ c = 0 ∧ ∃ n, t = aNc n ∧ ((∃ k, n = p * k ∧ o = powB 120 (i * k)) ∨ ∃ k, n = q * k ∧ o = powB 120 (j * k)) := by
  constructor
  · rintro ⟨m, h1, h2⟩
    rw [acc_long] at h1
    obtain ⟨h3, h4⟩ := long_rte h2
    subst h1
    refine ⟨h4, ?_⟩
    unfold LongR at h3
    rcases h3 with ⟨h, _⟩ | ⟨h, _⟩ | ⟨h, _⟩ | ⟨_, k, h5, h6⟩ | ⟨_, k, h5, h6⟩ <;> first | omega | skip
    · exact ⟨p * k, bl_inj (by rw [h5, bl_aNc]), .inl ⟨k, rfl, bl_inj (by rw [h6, bl_pow])⟩⟩
    · exact ⟨q * k, bl_inj (by rw [h5, bl_aNc]), .inr ⟨k, rfl, bl_inj (by rw [h6, bl_pow])⟩⟩
  · rintro ⟨rfl, n, rfl, h | h⟩
    · obtain ⟨k, rfl, rfl⟩ := h
      have := Rte.snoc (long_one (p := p) (q := q) (i := i) (j := j) k) (r := ⟨1, 3, ba [99], ByteArray.empty, 0⟩) (by unfold longS; simp) rfl
      refine ⟨3, acc_long.2 rfl, ?_⟩
      have e : powB 120 (i * k) ++ ByteArray.empty = powB 120 (i * k) := bl_inj (by rw [bl_app, bl_empty, append_nil])
      simp only [e] at this
      exact this
    · obtain ⟨k, rfl, rfl⟩ := h
      have := Rte.snoc (long_two (p := p) (q := q) (i := i) (j := j) k) (r := ⟨2, 3, ba [99], ByteArray.empty, 0⟩) (by unfold longS; simp) rfl
      refine ⟨3, acc_long.2 rfl, ?_⟩
      have e : powB 120 (j * k) ++ ByteArray.empty = powB 120 (j * k) := bl_inj (by rw [bl_app, bl_empty, append_nil])
      simp only [e] at this
      exact this
theorem aNc_inj {n m : Nat} (h : aNc n = aNc m) : n = m := by
  have := congrArg (fun s => (bl s).length) h
  simp only [bl_aNc, length_append, length_replicate] at this
  omega
theorem powB_inj {c : UInt8} {n m : Nat} (h : powB c n = powB c m) : n = m := by
  have := congrArg (fun s => (bl s).length) h
  simpa only [bl_pow, length_replicate] using this
theorem mul_cross {n k l : Nat} (hp : 0 < p) (hq : 0 < q) (hk : n = p * k) (hl : n = q * l) (hn : 0 < n) : (i * k = j * l ↔ i * q = j * p) := by
  have hk0 : 0 < k := Nat.pos_of_ne_zero fun e => by rw [e, Nat.mul_zero] at hk; omega
  constructor
  · intro h
    have h1 : i * q * n = j * p * n := by
      calc i * q * n = i * q * (p * k) := by rw [hk]
        _ = (i * k) * (q * p) := by simp only [Nat.mul_left_comm, Nat.mul_comm]
        _ = (j * l) * (q * p) := by rw [h]
        _ = j * p * (q * l) := by simp only [Nat.mul_left_comm, Nat.mul_comm]
        _ = j * p * n := by rw [hl]
    exact Nat.eq_of_mul_eq_mul_right hn h1
  · intro h
    have h1 : i * k * (p * q) = j * l * (p * q) := by
      calc i * k * (p * q) = (i * q) * (p * k) := by simp only [Nat.mul_left_comm, Nat.mul_comm]
        _ = (j * p) * (q * l) := by rw [h, ← hk, hl]
        _ = j * l * (p * q) := by simp only [Nat.mul_left_comm, Nat.mul_comm]
    exact Nat.eq_of_mul_eq_mul_right (Nat.mul_pos hp hq) h1
/-- Which inputs have two outputs. -/
theorem long_twice (hp : 0 < p) (hq : 0 < q) {u : ByteArray} : Twice (schA (longS p q i j)) (bl u) ↔ i * q ≠ j * p ∧ ∃ n, 0 < n ∧ u = aNc n ∧ p ∣ n ∧ q ∣ n := by
  rw [twice_iff]
  constructor
  · rintro ⟨x, y, c, d, h1, h2, h3⟩
    obtain ⟨_, n, e1, h1⟩ := long_whole.1 h1
    obtain ⟨_, m, e2, h2⟩ := long_whole.1 h2
    obtain rfl := aNc_inj (e1.symm.trans e2)
    have key : ∀ (k l : Nat), n = p * k → n = q * l → powB 120 (i * k) ≠ powB 120 (j * l) → i * q ≠ j * p ∧ ∃ n, 0 < n ∧ u = aNc n ∧ p ∣ n ∧ q ∣ n := by
      intro k l hk hl hne
      have hn : 0 < n := Nat.pos_of_ne_zero fun e => by
        subst e
        have h4 : k = 0 := by
          rcases Nat.mul_eq_zero.1 hk.symm with h | h
          · omega
          · exact h
        have h5 : l = 0 := by
          rcases Nat.mul_eq_zero.1 hl.symm with h | h
          · omega
          · exact h
        exact hne (by rw [h4, h5, Nat.mul_zero, Nat.mul_zero])
      exact ⟨fun e => hne (by rw [(mul_cross hp hq hk hl hn).2 e]), n, hn, e1, ⟨k, hk⟩, ⟨l, hl⟩⟩
    rcases h1 with ⟨k, hk, rfl⟩ | ⟨k, hk, rfl⟩ <;> rcases h2 with ⟨l, hl, rfl⟩ | ⟨l, hl, rfl⟩
    · exact absurd (by rw [Nat.eq_of_mul_eq_mul_left hp (hk.symm.trans hl)]) h3
    · exact key k l hk hl h3
    · exact key l k hl hk (Ne.symm h3)
    · exact absurd (by rw [Nat.eq_of_mul_eq_mul_left hq (hk.symm.trans hl)]) h3
  · rintro ⟨h1, n, hn, rfl, ⟨k, hk⟩, ⟨l, hl⟩⟩
    exact ⟨powB 120 (i * k), powB 120 (j * l), 0, 0, long_whole.2 ⟨rfl, n, rfl, .inl ⟨k, hk, rfl⟩⟩, long_whole.2 ⟨rfl, n, rfl, .inr ⟨l, hl, rfl⟩⟩, fun e => h1 ((mul_cross hp hq hk hl hn).1 (powB_inj e))⟩
theorem long_first (hp : 0 < p) (hq : 0 < q) (hne : i * q ≠ j * p) {n : Nat} (hn : 0 < n) (h1 : p ∣ n) (h2 : q ∣ n) (hl : ∀ m, 0 < m → m < n → p ∣ m → ¬ q ∣ m) (h40 : n < 40) : FirstTo (longS p q i j) (some (bl (aNc n))) := by
  refine ⟨⟨(long_twice hp hq).2 ⟨hne, n, hn, rfl, h1, h2⟩, fun V hV ht => ?_⟩, by rw [bl_aNc]; simp; omega⟩
  have ht : Twice (schA (longS p q i j)) (bl (ba V)) := ht
  obtain ⟨_, m, hm, e, h3, h4⟩ := (long_twice hp hq).1 ht
  have e2 : V = bl (aNc m) := by rw [← e]; rfl
  rw [e2] at hV
  rcases Nat.lt_or_ge m n with h5 | h5
  · exact hl m hm h5 h3 h4
  · rcases Nat.lt_or_eq_of_le h5 with h6 | h6
    · have := code_len (u := bl (aNc n)) (v := bl (aNc m)) (by rw [bl_aNc, bl_aNc]; simp; omega)
      omega
    · rw [h6] at hV
      exact Nat.lt_irrefl _ hV
theorem long_none (hp : 0 < p) (hq : 0 < q) (he : i * q = j * p) : FirstTo (longS p q i j) none := fun U _ ht => by
  have ht : Twice (schA (longS p q i j)) (bl (ba U)) := ht
  exact ((long_twice hp hq).1 ht).1 he
theorem long_flat (hp : 0 < p) (hq : 0 < q) : ∀ r r', r ∈ (longS p q i j).rs → r' ∈ (longS p q i j).rs → r.mute = true → r'.mute = true → RM (longS p q i j) r.fr → r'.fr ≠ r.to := by
  have hm : ∀ r ∈ (longS p q i j).rs, r.mute = true → r.fr = 0 ∧ r.to ≠ 0 := by
    intro r hr h
    rw [mute_bl] at h
    unfold longS at hr
    simp only [mem_cons, not_mem_nil, or_false] at hr
    rcases hr with rfl | rfl | rfl | rfl | rfl | rfl <;> simp only [bl_pow, bl_ba, replicate_eq_nil_iff] at h <;> first | omega | (cases h; done) | exact ⟨rfl, by decide⟩
  intro r r' h1 h2 h3 h4 _ e
  have := (hm r h1 h3).2
  have := (hm r' h2 h4).1
  omega
end
end Go.Proofs.Ytfpnhgahkjglgaa

/-
  The scheme with two branches: it is sound, has few pairs, and its two outputs in order: plain laws. No conditions.
-/
namespace Go.Proofs.Ytfpnhgahkjglgaa
open Go List

theorem rep_less {c : UInt8} : ∀ {a b : Nat}, a < b → Op.bytesLess (replicate a c) (replicate b c) = true
  | 0, b + 1, _ => rfl
  | a + 1, b + 1, h => by
    show (decide (c < c) || (c == c && Op.bytesLess (replicate a c) (replicate b c))) = true
    rw [rep_less (by omega : a < b)]
    simp
theorem pow_less {c : UInt8} {a b : Nat} (h : a < b) : ltS (powB c a) (powB c b) = true := by
  unfold ltS
  rw [Lib.toList_data, Lib.toList_data]
  exact rep_less h
section
variable {p q i j : Nat}
theorem long_mute (hp : 0 < p) (hq : 0 < q) : ∀ r ∈ (longS p q i j).rs, r.mute = true → r.fr = 0 ∧ r.to ≠ 0 := by
  intro r hr h
  rw [mute_bl] at h
  unfold longS at hr
  simp only [mem_cons, not_mem_nil, or_false] at hr
  rcases hr with rfl | rfl | rfl | rfl | rfl | rfl <;> simp only [bl_pow, bl_ba, replicate_eq_nil_iff] at h <;> first | omega | (cases h; done) | exact ⟨rfl, by decide⟩
theorem long_mt (hp : 0 < p) (hq : 0 < q) {a b : Int} (h : Mt (longS p q i j) a b) : a = 0 ∧ b ≠ 0 := by
  induction h with
  | one h1 h2 h3 => obtain ⟨h4, h5⟩ := long_mute hp hq _ h1 h2; exact ⟨by rw [← h3, h4], h5⟩
  | more _ h1 h2 h3 ih => obtain ⟨h4, h5⟩ := long_mute hp hq _ h1 h2; exact absurd (by rw [← h3, h4]) ih.2
theorem long_sound (hp : 0 < p) (hq : 0 < q) : SoundP (longS p q i j) := by
  have h3 : LV (longS p q i j) 3 := .base (acc_long.2 rfl)
  have h1 : LV (longS p q i j) 1 := lv_step (r := ⟨1, 3, ba [99], ByteArray.empty, 0⟩) h3 (by unfold longS; simp)
  have h2 : LV (longS p q i j) 2 := lv_step (r := ⟨2, 3, ba [99], ByteArray.empty, 0⟩) h3 (by unfold longS; simp)
  have h0 : LV (longS p q i j) 0 := lv_step (r := ⟨0, 1, ByteArray.empty, ByteArray.empty, 0⟩) h1 (by unfold longS; simp)
  refine ⟨h0, fun m hm => ?_, fun m _ _ hc => ?_⟩
  · have key : m = 0 ∨ m = 1 ∨ m = 2 ∨ m = 3 := by
      unfold RM at hm
      induction hm with
      | base h => exact .inl h
      | step _ h2 _ =>
        obtain ⟨r, hr, rfl⟩ := mem_map.1 h2
        unfold longS at hr
        simp only [mem_cons, not_mem_nil, or_false] at hr
        rcases hr with rfl | rfl | rfl | rfl | rfl | rfl <;> simp
    rcases key with rfl | rfl | rfl | rfl
    · exact h0
    · exact h1
    · exact h2
    · exact h3
  · have := long_mt hp hq hc
    exact this.2 this.1
theorem long_flatS (hp : 0 < p) (hq : 0 < q) (inp : ByteArray) : FlatS (longS p q i j) inp :=
  flat_of (S := pairS (longS p q i j)) (s := longS p q i j) rfl (fun k r k' h => by obtain rfl := Option.some.inj h; rfl) rfl (long_flat hp hq)
theorem long_big (hp : 0 < p) (hq : 0 < q) (inp : ByteArray) : ¬ Big 2000 (longS p q i j) inp := by
  rintro ⟨n, _, l, h1, h2, h3⟩
  have h4 : l.length ≤ 5 := by
    obtain ⟨L, hL⟩ : ∃ L, ((bl inp).take n).length = L := ⟨_, rfl⟩
    refine nodup_le (m := [((0 : Int), ByteArray.empty), (1, powB 120 (i * (L / p))), (2, powB 120 (j * (L / q))), (3, powB 120 (i * ((L - 1) / p))), (3, powB 120 (j * ((L - 1) / q)))]) h1 fun k hk => ?_
    obtain ⟨c, hc⟩ := h3 k hk
    obtain ⟨t, ht, hr⟩ := pair_rte hc
    have h5 := (long_rte hr).1
    obtain ⟨m, o⟩ := k
    have hl : (bl t).length = L := by rw [ht, hL]
    unfold LongR at h5
    simp only [mem_cons, not_mem_nil, or_false, Prod.mk.injEq]
    rcases h5 with ⟨rfl, _, h⟩ | ⟨rfl, k, h6, h⟩ | ⟨rfl, k, h6, h⟩ | ⟨rfl, k, h6, h⟩ | ⟨rfl, k, h6, h⟩
    · exact .inl ⟨rfl, bl_inj h⟩
    · rw [h6, length_replicate] at hl
      exact .inr (.inl ⟨rfl, bl_inj (by rw [bl_pow, ← hl, Nat.mul_div_cancel_left _ hp]; exact h)⟩)
    · rw [h6, length_replicate] at hl
      exact .inr (.inr (.inl ⟨rfl, bl_inj (by rw [bl_pow, ← hl, Nat.mul_div_cancel_left _ hq]; exact h)⟩))
    · rw [h6, length_append, length_replicate, length_singleton] at hl
      exact .inr (.inr (.inr (.inl ⟨rfl, bl_inj (by rw [bl_pow, ← hl, Nat.add_sub_cancel, Nat.mul_div_cancel_left _ hp]; exact h)⟩)))
    · rw [h6, length_append, length_replicate, length_singleton] at hl
      exact .inr (.inr (.inr (.inr ⟨rfl, bl_inj (by rw [bl_pow, ← hl, Nat.add_sub_cancel, Nat.mul_div_cancel_left _ hq]; exact h)⟩)))
  omega
/-- The two results, in order. -/
theorem long_best (hp : 0 < p) (hq : 0 < q) {n k l : Nat} (hk : n = p * k) (hl : n = q * l) (hne : i * k ≠ j * l) : bestL (longS p q i j) (aNc n) = [⟨powB 120 (min (i * k) (j * l)), 0⟩, ⟨powB 120 (max (i * k) (j * l)), 0⟩] := by
  refine (best_is (long_flatS hp hq _)).unique ⟨?_, ?_, fun y hy => ?_, fun t c hc => ?_⟩
  · refine pairwise_cons.2 ⟨fun y hy => ?_, pairwise_singleton _ _⟩
    obtain rfl := mem_singleton.1 hy
    rw [befR_iff]
    exact .inr ⟨rfl, pow_less (by omega)⟩
  · refine pairwise_cons.2 ⟨fun y hy => ?_, pairwise_singleton _ _⟩
    obtain rfl := mem_singleton.1 hy
    exact fun e => by have := powB_inj e; omega
  · have key : ∀ m, m = i * k ∨ m = j * l → Whole (longS p q i j) (aNc n) (powB 120 m) 0 := by
      rintro m (rfl | rfl)
      · exact long_whole.2 ⟨rfl, n, rfl, .inl ⟨k, hk, rfl⟩⟩
      · exact long_whole.2 ⟨rfl, n, rfl, .inr ⟨l, hl, rfl⟩⟩
    simp only [mem_cons, not_mem_nil, or_false] at hy
    rcases hy with rfl | rfl
    · exact key _ (by omega)
    · exact key _ (by omega)
  · obtain ⟨rfl, m, e, h⟩ := long_whole.1 hc
    obtain rfl := aNc_inj e
    have key : t = powB 120 (i * k) ∨ t = powB 120 (j * l) := by
      rcases h with ⟨k', hk', rfl⟩ | ⟨l', hl', rfl⟩
      · left; rw [Nat.eq_of_mul_eq_mul_left hp (hk'.symm.trans hk)]
      · right; rw [Nat.eq_of_mul_eq_mul_left hq (hl'.symm.trans hl)]
    rcases Nat.lt_or_ge (i * k) (j * l) with h5 | h5
    · rw [Nat.min_eq_left (by omega), Nat.max_eq_right (by omega)]
      rcases key with rfl | rfl
      · exact ⟨_, mem_cons_self .., rfl, Int.le_refl _⟩
      · exact ⟨_, mem_cons_of_mem _ (mem_cons_self ..), rfl, Int.le_refl _⟩
    · rw [Nat.min_eq_right (by omega), Nat.max_eq_left (by omega)]
      rcases key with rfl | rfl
      · exact ⟨_, mem_cons_of_mem _ (mem_cons_self ..), rfl, Int.le_refl _⟩
      · exact ⟨_, mem_cons_self .., rfl, Int.le_refl _⟩
end
end Go.Proofs.Ytfpnhgahkjglgaa
