/-
  SiLawB, OuBaseP, joined. No conditions.
-/
import Derived.Test.YtfpnhgahkjglgaaGreatF39
import Derived.Test.YtfpnhgahkjglgaaGreatF19
import Derived.Test.YtfpnhgahkjglgaaGreatF22
set_option maxRecDepth 100000
namespace Go.Proofs.YtfpnhgahkjglgaaGreat
open Go Go.RowKit Go.Maps
theorem bel1 {W w' : World} {o : Obj} (h : Below (W.alloc o).heap.size (W.alloc o) w') : Below W.heap.size W w' := (nw o (Below.refl _ _)).trans (h.mono (by simp))
theorem lit_in {s : Sc} (hok : ∀ r ∈ s.rs, r.inp.size ≤ 4 ∧ r.out.size ≤ 4) (ha : 0 ≤ s.acc ∧ s.acc ≤ 255) (hl : s.rs.length ≤ 64) {W : World} {g : Nat} (h : Blk W g 61 (s.rs.flatMap encRu).toArray) : ScIn W s (some ⟨g, 0, none⟩) s.rs.length where
 sl := slr_blkR h (fun _ => rfl) (fun _ => rfl)
 len := Nat.le_trans hl (by decide)
 txt r hr := ⟨Nat.le_trans (hok r hr).1 (by decide), Nat.le_trans (hok r hr).2 (by decide)⟩
 acc := ha
 cap := ⟨Nat.le_refl _, Nat.le_trans hl (by decide)⟩
theorem lit_in1 {W W' : World} (hb : Below (W.alloc (.cells #[.int .i64 0, .int .i64 0, .string { data := #[97] }, .string { data := #[65] }, .int .i64 0, .int .i64 0, .int .i64 0, .string { data := #[98] }, .string { data := #[66] }, .int .i64 0] 61)).heap.size (W.alloc (.cells #[.int .i64 0, .int .i64 0, .string { data := #[97] }, .string { data := #[65] }, .int .i64 0, .int .i64 0, .int .i64 0, .string { data := #[98] }, .string { data := #[66] }, .int .i64 0] 61)) W') : ScIn W' eS1 (some ⟨W.heap.size, 0, none⟩) 2 :=
 (lit_in (s := eS1) (by decide) (by decide) (by decide) (show Blk (W.alloc (.cells #[.int .i64 0, .int .i64 0, .string { data := #[97] }, .string { data := #[65] }, .int .i64 0, .int .i64 0, .int .i64 0, .string { data := #[98] }, .string { data := #[66] }, .int .i64 0] 61)) W.heap.size 61 (eS1.rs.flatMap encRu).toArray from Blk.new _ _ _)).below hb
theorem lit_in2 {W W' : World} (hb : Below (W.alloc (.cells #[.int .i64 0, .int .i64 0, .string { data := #[97] }, .string { data := #[65] }, .int .i64 0, .int .i64 0, .int .i64 0, .string { data := #[97, 97] }, .string { data := #[65, 65] }, .int .i64 0] 61)).heap.size (W.alloc (.cells #[.int .i64 0, .int .i64 0, .string { data := #[97] }, .string { data := #[65] }, .int .i64 0, .int .i64 0, .int .i64 0, .string { data := #[97, 97] }, .string { data := #[65, 65] }, .int .i64 0] 61)) W') : ScIn W' eS2 (some ⟨W.heap.size, 0, none⟩) 2 :=
 (lit_in (s := eS2) (by decide) (by decide) (by decide) (show Blk (W.alloc (.cells #[.int .i64 0, .int .i64 0, .string { data := #[97] }, .string { data := #[65] }, .int .i64 0, .int .i64 0, .int .i64 0, .string { data := #[97, 97] }, .string { data := #[65, 65] }, .int .i64 0] 61)) W.heap.size 61 (eS2.rs.flatMap encRu).toArray from Blk.new _ _ _)).below hb
theorem lit_in5 {W W' : World} (hb : Below (W.alloc (.cells #[.int .i64 0, .int .i64 0, .string { data := #[97] }, .string { data := #[65] }, .int .i64 0, .int .i64 0, .int .i64 0, .string { data := #[97, 98] }, .string { data := #[66] }, .int .i64 0, .int .i64 0, .int .i64 0, .string { data := #[98] }, .string { data := #[] }, .int .i64 0] 61)).heap.size (W.alloc (.cells #[.int .i64 0, .int .i64 0, .string { data := #[97] }, .string { data := #[65] }, .int .i64 0, .int .i64 0, .int .i64 0, .string { data := #[97, 98] }, .string { data := #[66] }, .int .i64 0, .int .i64 0, .int .i64 0, .string { data := #[98] }, .string { data := #[] }, .int .i64 0] 61)) W') : ScIn W' eS5 (some ⟨W.heap.size, 0, none⟩) 3 :=
 (lit_in (s := eS5) (by decide) (by decide) (by decide) (show Blk (W.alloc (.cells #[.int .i64 0, .int .i64 0, .string { data := #[97] }, .string { data := #[65] }, .int .i64 0, .int .i64 0, .int .i64 0, .string { data := #[97, 98] }, .string { data := #[66] }, .int .i64 0, .int .i64 0, .int .i64 0, .string { data := #[98] }, .string { data := #[] }, .int .i64 0] 61)) W.heap.size 61 (eS5.rs.flatMap encRu).toArray from Blk.new _ _ _)).below hb
theorem lit_in6 {W W' : World} (hb : Below (W.alloc (.cells #[.int .i64 0, .int .i64 0, .string { data := #[97] }, .string { data := #[120] }, .int .i64 0, .int .i64 0, .int .i64 0, .string { data := #[97, 97] }, .string { data := #[121] }, .int .i64 0] 61)).heap.size (W.alloc (.cells #[.int .i64 0, .int .i64 0, .string { data := #[97] }, .string { data := #[120] }, .int .i64 0, .int .i64 0, .int .i64 0, .string { data := #[97, 97] }, .string { data := #[121] }, .int .i64 0] 61)) W') : ScIn W' eS6 (some ⟨W.heap.size, 0, none⟩) 2 :=
 (lit_in (s := eS6) (by decide) (by decide) (by decide) (show Blk (W.alloc (.cells #[.int .i64 0, .int .i64 0, .string { data := #[97] }, .string { data := #[120] }, .int .i64 0, .int .i64 0, .int .i64 0, .string { data := #[97, 97] }, .string { data := #[121] }, .int .i64 0] 61)) W.heap.size 61 (eS6.rs.flatMap encRu).toArray from Blk.new _ _ _)).below hb
theorem lchk1 (W W' : World) (hb : Below (W.alloc (.cells #[.int .i64 0, .int .i64 0, .string { data := #[97] }, .string { data := #[65] }, .int .i64 0, .int .i64 0, .int .i64 0, .string { data := #[98] }, .string { data := #[66] }, .int .i64 0] 61)).heap.size (W.alloc (.cells #[.int .i64 0, .int .i64 0, .string { data := #[97] }, .string { data := #[65] }, .int .i64 0, .int .i64 0, .int .i64 0, .string { data := #[98] }, .string { data := #[66] }, .int .i64 0] 61)) W') : Calls Tryz.prog 21 #[.agg #[.int .i64 1, .int .u8 1, .slice (some ⟨W.heap.size, 0, none⟩) 2 2], .agg #[.string { data := #[] }, .string { data := #[] }, .string { data := #[] }], .int .i64 0] W' fun e w' => e = .returned (.bool true) ∧ Below W'.heap.size W' w' :=
 lchecks_any eS1 (some ⟨W.heap.size, 0, none⟩) 2 { data := #[] } { data := #[] } { data := #[] } 0 W' (lit_in1 hb) (fun _ _ => eF1) (fun h => chk_none eE1 eN1 h)
theorem lchk2 (W W' : World) (hb : Below (W.alloc (.cells #[.int .i64 0, .int .i64 0, .string { data := #[97] }, .string { data := #[65] }, .int .i64 0, .int .i64 0, .int .i64 0, .string { data := #[97, 97] }, .string { data := #[65, 65] }, .int .i64 0] 61)).heap.size (W.alloc (.cells #[.int .i64 0, .int .i64 0, .string { data := #[97] }, .string { data := #[65] }, .int .i64 0, .int .i64 0, .int .i64 0, .string { data := #[97, 97] }, .string { data := #[65, 65] }, .int .i64 0] 61)) W') : Calls Tryz.prog 21 #[.agg #[.int .i64 1, .int .u8 1, .slice (some ⟨W.heap.size, 0, none⟩) 2 2], .agg #[.string { data := #[] }, .string { data := #[] }, .string { data := #[] }], .int .i64 0] W' fun e w' => e = .returned (.bool true) ∧ Below W'.heap.size W' w' :=
 lchecks_any eS2 (some ⟨W.heap.size, 0, none⟩) 2 { data := #[] } { data := #[] } { data := #[] } 0 W' (lit_in2 hb) (fun _ _ => eF2) (fun h => chk_none eE2 eN2 h)
theorem lchk5 (W W' : World) (hb : Below (W.alloc (.cells #[.int .i64 0, .int .i64 0, .string { data := #[97] }, .string { data := #[65] }, .int .i64 0, .int .i64 0, .int .i64 0, .string { data := #[97, 98] }, .string { data := #[66] }, .int .i64 0, .int .i64 0, .int .i64 0, .string { data := #[98] }, .string { data := #[] }, .int .i64 0] 61)).heap.size (W.alloc (.cells #[.int .i64 0, .int .i64 0, .string { data := #[97] }, .string { data := #[65] }, .int .i64 0, .int .i64 0, .int .i64 0, .string { data := #[97, 98] }, .string { data := #[66] }, .int .i64 0, .int .i64 0, .int .i64 0, .string { data := #[98] }, .string { data := #[] }, .int .i64 0] 61)) W') : Calls Tryz.prog 21 #[.agg #[.int .i64 1, .int .u8 1, .slice (some ⟨W.heap.size, 0, none⟩) 3 3], .agg #[.string { data := #[97, 98] }, .string { data := #[65] }, .string { data := #[66] }], .int .i64 80] W' fun e w' => e = .returned (.bool true) ∧ Below W'.heap.size W' w' :=
 lchecks_any eS5 (some ⟨W.heap.size, 0, none⟩) 3 { data := #[97, 98] } { data := #[65] } { data := #[66] } 80 W' (lit_in5 hb) (fun _ _ => eF5) (fun h => eC5 h)
theorem lchk6 (W W' : World) (hb : Below (W.alloc (.cells #[.int .i64 0, .int .i64 0, .string { data := #[97] }, .string { data := #[120] }, .int .i64 0, .int .i64 0, .int .i64 0, .string { data := #[97, 97] }, .string { data := #[121] }, .int .i64 0] 61)).heap.size (W.alloc (.cells #[.int .i64 0, .int .i64 0, .string { data := #[97] }, .string { data := #[120] }, .int .i64 0, .int .i64 0, .int .i64 0, .string { data := #[97, 97] }, .string { data := #[121] }, .int .i64 0] 61)) W') : Calls Tryz.prog 21 #[.agg #[.int .i64 1, .int .u8 1, .slice (some ⟨W.heap.size, 0, none⟩) 2 2], .agg #[.string { data := #[97, 97] }, .string { data := #[120, 120] }, .string { data := #[121] }], .int .i64 80] W' fun e w' => e = .returned (.bool true) ∧ Below W'.heap.size W' w' :=
 lchecks_any eS6 (some ⟨W.heap.size, 0, none⟩) 2 { data := #[97, 97] } { data := #[120, 120] } { data := #[121] } 80 W' (lit_in6 hb) (fun _ _ => eF6) (fun h => eC6 h)
theorem nil_in (s : Sc) (hn : s.rs = []) (ha : 0 ≤ s.acc ∧ s.acc ≤ 255) (W : World) : ScIn W s none 0 where
 sl := by rw [hn]; exact SlR.nil
 len := by rw [hn]; decide
 txt r hr := by rw [hn] at hr; cases hr
 acc := ha
 cap := by rw [hn]; exact ⟨Nat.le_refl _, Nat.zero_le _⟩
theorem lchk3 (W : World) : Calls Tryz.prog 21 #[.agg #[.int .i64 1, .int .u8 1, .slice none 0 0], .agg #[.string { data := #[] }, .string { data := #[] }, .string { data := #[] }], .int .i64 0] W fun e w' => e = .returned (.bool true) ∧ Below W.heap.size W w' :=
 lchecks_any eS3 none 0 _ _ _ 0 W (nil_in eS3 rfl (by decide) W) (fun _ _ => eF3) (fun h => chk_none eE3 eN3 h)
theorem lchk4 (W : World) : Calls Tryz.prog 21 #[.agg #[.int .i64 0, .int .u8 0, .slice none 0 0], .agg #[.string { data := #[] }, .string { data := #[] }, .string { data := #[] }], .int .i64 20] W fun e w' => e = .returned (.bool true) ∧ Below W.heap.size W w' :=
 lchecks_any eS4 none 0 _ _ _ 20 W (nil_in eS4 rfl (by decide) W) (fun _ _ => eF4) (fun h => chk_err eE4 h)
theorem bool_yes {b : Bool} {P : Prop} (h : b = true ↔ P) (hp : P) : b = true := h.2 hp
theorem bool_no {b : Bool} {P : Prop} (h : b = true ↔ P) (hp : ¬ P) : b = false := by
 cases b with
 | false => rfl
 | true => exact absurd (h.1 rfl) hp
set_option maxHeartbeats 8000000 in
theorem lsan_any (w : World) : Calls Tryz.prog 7 #[] w fun e w' => e = .returned (.bool true) ∧ Below w.heap.size w w' := by
 have HCK1 : Hid (∀ W W' : World, Below (W.alloc (.cells #[.int .i64 0, .int .i64 0, .string { data := #[97] }, .string { data := #[65] }, .int .i64 0, .int .i64 0, .int .i64 0, .string { data := #[98] }, .string { data := #[66] }, .int .i64 0] 61)).heap.size (W.alloc (.cells #[.int .i64 0, .int .i64 0, .string { data := #[97] }, .string { data := #[65] }, .int .i64 0, .int .i64 0, .int .i64 0, .string { data := #[98] }, .string { data := #[66] }, .int .i64 0] 61)) W' → Calls Tryz.prog 21 #[.agg #[.int .i64 1, .int .u8 1, .slice (some ⟨W.heap.size, 0, none⟩) 2 2], .agg #[.string { data := #[] }, .string { data := #[] }, .string { data := #[] }], .int .i64 0] W' fun e w' => e = .returned (.bool true) ∧ Below W'.heap.size W' w') := fun W W' h => lchk1 W W' h
 have HCK2 : Hid (∀ W W' : World, Below (W.alloc (.cells #[.int .i64 0, .int .i64 0, .string { data := #[97] }, .string { data := #[65] }, .int .i64 0, .int .i64 0, .int .i64 0, .string { data := #[97, 97] }, .string { data := #[65, 65] }, .int .i64 0] 61)).heap.size (W.alloc (.cells #[.int .i64 0, .int .i64 0, .string { data := #[97] }, .string { data := #[65] }, .int .i64 0, .int .i64 0, .int .i64 0, .string { data := #[97, 97] }, .string { data := #[65, 65] }, .int .i64 0] 61)) W' → Calls Tryz.prog 21 #[.agg #[.int .i64 1, .int .u8 1, .slice (some ⟨W.heap.size, 0, none⟩) 2 2], .agg #[.string { data := #[] }, .string { data := #[] }, .string { data := #[] }], .int .i64 0] W' fun e w' => e = .returned (.bool true) ∧ Below W'.heap.size W' w') := fun W W' h => lchk2 W W' h
 have HCK5 : Hid (∀ W W' : World, Below (W.alloc (.cells #[.int .i64 0, .int .i64 0, .string { data := #[97] }, .string { data := #[65] }, .int .i64 0, .int .i64 0, .int .i64 0, .string { data := #[97, 98] }, .string { data := #[66] }, .int .i64 0, .int .i64 0, .int .i64 0, .string { data := #[98] }, .string { data := #[] }, .int .i64 0] 61)).heap.size (W.alloc (.cells #[.int .i64 0, .int .i64 0, .string { data := #[97] }, .string { data := #[65] }, .int .i64 0, .int .i64 0, .int .i64 0, .string { data := #[97, 98] }, .string { data := #[66] }, .int .i64 0, .int .i64 0, .int .i64 0, .string { data := #[98] }, .string { data := #[] }, .int .i64 0] 61)) W' → Calls Tryz.prog 21 #[.agg #[.int .i64 1, .int .u8 1, .slice (some ⟨W.heap.size, 0, none⟩) 3 3], .agg #[.string { data := #[97, 98] }, .string { data := #[65] }, .string { data := #[66] }], .int .i64 80] W' fun e w' => e = .returned (.bool true) ∧ Below W'.heap.size W' w') := fun W W' h => lchk5 W W' h
 have HCK6 : Hid (∀ W W' : World, Below (W.alloc (.cells #[.int .i64 0, .int .i64 0, .string { data := #[97] }, .string { data := #[120] }, .int .i64 0, .int .i64 0, .int .i64 0, .string { data := #[97, 97] }, .string { data := #[121] }, .int .i64 0] 61)).heap.size (W.alloc (.cells #[.int .i64 0, .int .i64 0, .string { data := #[97] }, .string { data := #[120] }, .int .i64 0, .int .i64 0, .int .i64 0, .string { data := #[97, 97] }, .string { data := #[121] }, .int .i64 0] 61)) W' → Calls Tryz.prog 21 #[.agg #[.int .i64 1, .int .u8 1, .slice (some ⟨W.heap.size, 0, none⟩) 2 2], .agg #[.string { data := #[97, 97] }, .string { data := #[120, 120] }, .string { data := #[121] }], .int .i64 80] W' fun e w' => e = .returned (.bool true) ∧ Below W'.heap.size W' w') := fun W W' h => lchk6 W W' h
 have HCK3 : Hid (∀ W : World, Calls Tryz.prog 21 #[.agg #[.int .i64 1, .int .u8 1, .slice none 0 0], .agg #[.string { data := #[] }, .string { data := #[] }, .string { data := #[] }], .int .i64 0] W fun e w' => e = .returned (.bool true) ∧ Below W.heap.size W w') := lchk3
 have HCK4 : Hid (∀ W : World, Calls Tryz.prog 21 #[.agg #[.int .i64 0, .int .u8 0, .slice none 0 0], .agg #[.string { data := #[] }, .string { data := #[] }, .string { data := #[] }], .int .i64 20] W fun e w' => e = .returned (.bool true) ∧ Below W.heap.size W w') := lchk4
 have HP1 : Hid (∀ W W' : World, Below (W.alloc (.cells #[.int .i64 0, .int .i64 0, .string { data := #[97] }, .string { data := #[120] }, .int .i64 0, .int .i64 0, .int .i64 0, .string { data := #[97, 97] }, .string { data := #[121] }, .int .i64 0] 61)).heap.size (W.alloc (.cells #[.int .i64 0, .int .i64 0, .string { data := #[97] }, .string { data := #[120] }, .int .i64 0, .int .i64 0, .int .i64 0, .string { data := #[97, 97] }, .string { data := #[121] }, .int .i64 0] 61)) W' → Calls Tryz.prog 12 #[.agg #[.int .i64 1, .int .u8 1, .slice (some ⟨W.heap.size, 0, none⟩) 2 2], .agg #[.string { data := #[97, 97, 97] }, .string { data := #[120, 121] }, .string { data := #[121, 120] }]] W' fun e w' => e = .returned (.bool true) ∧ Below W'.heap.size W' w') := fun W W' h => (sproves_any eS6 (some ⟨W.heap.size, 0, none⟩) 2 { data := #[97, 97, 97] } { data := #[120, 121] } { data := #[121, 120] } W' (lit_in6 h) (fun _ _ => eF6) (by decide) (by decide) (by decide)).mono fun e w' ⟨b, h1, h2, h3⟩ => ⟨by rw [h1, bool_yes h2 eP1], h3⟩
 have HP2 : Hid (∀ W W' : World, Below (W.alloc (.cells #[.int .i64 0, .int .i64 0, .string { data := #[97] }, .string { data := #[120] }, .int .i64 0, .int .i64 0, .int .i64 0, .string { data := #[97, 97] }, .string { data := #[121] }, .int .i64 0] 61)).heap.size (W.alloc (.cells #[.int .i64 0, .int .i64 0, .string { data := #[97] }, .string { data := #[120] }, .int .i64 0, .int .i64 0, .int .i64 0, .string { data := #[97, 97] }, .string { data := #[121] }, .int .i64 0] 61)) W' → Calls Tryz.prog 12 #[.agg #[.int .i64 1, .int .u8 1, .slice (some ⟨W.heap.size, 0, none⟩) 2 2], .agg #[.string { data := #[97, 97] }, .string { data := #[121] }, .string { data := #[121] }]] W' fun e w' => e = .returned (.bool false) ∧ Below W'.heap.size W' w') := fun W W' h => (sproves_any eS6 (some ⟨W.heap.size, 0, none⟩) 2 { data := #[97, 97] } { data := #[121] } { data := #[121] } W' (lit_in6 h) (fun _ _ => eF6) (by decide) (by decide) (by decide)).mono fun e w' ⟨b, h1, h2, h3⟩ => ⟨by rw [h1, bool_no h2 eP2], h3⟩
 have HP3 : Hid (∀ W W' : World, Below (W.alloc (.cells #[.int .i64 0, .int .i64 0, .string { data := #[97] }, .string { data := #[120] }, .int .i64 0, .int .i64 0, .int .i64 0, .string { data := #[97, 97] }, .string { data := #[121] }, .int .i64 0] 61)).heap.size (W.alloc (.cells #[.int .i64 0, .int .i64 0, .string { data := #[97] }, .string { data := #[120] }, .int .i64 0, .int .i64 0, .int .i64 0, .string { data := #[97, 97] }, .string { data := #[121] }, .int .i64 0] 61)) W' → Calls Tryz.prog 12 #[.agg #[.int .i64 1, .int .u8 1, .slice (some ⟨W.heap.size, 0, none⟩) 2 2], .agg #[.string { data := #[97] }, .string { data := #[120] }, .string { data := #[121] }]] W' fun e w' => e = .returned (.bool false) ∧ Below W'.heap.size W' w') := fun W W' h => (sproves_any eS6 (some ⟨W.heap.size, 0, none⟩) 2 { data := #[97] } { data := #[120] } { data := #[121] } W' (lit_in6 h) (fun _ _ => eF6) (by decide) (by decide) (by decide)).mono fun e w' ⟨b, h1, h2, h3⟩ => ⟨by rw [h1, bool_no h2 eP3], h3⟩
 go_enter Tryz.func7, Tryz.ntmps7
 go_upto_region 2 with fail
 obtain ⟨g1, hg1⟩ : ∃ g, w.heap.size = g := ⟨_, rfl⟩
 obtain ⟨g2, hg2⟩ : ∃ g, g1 + 1 = g := ⟨_, rfl⟩
 obtain ⟨w3, hw3⟩ : ∃ W, (w.alloc (.cells #[.int .i64 0, .int .i64 0, .string { data := #[97] }, .string { data := #[65] }, .int .i64 0] 61)).alloc (.cells #[.int .i64 0, .int .i64 0, .string { data := #[98] }, .string { data := #[66] }, .int .i64 0] 61) = W := ⟨_, rfl⟩
 have hb3 : Below w.heap.size w w3 := by rw [← hw3]; exact nw _ (nw _ (Below.refl _ _))
 have hA : Blk w3 g1 61 #[.int .i64 0, .int .i64 0, .string { data := #[97] }, .string { data := #[65] }, .int .i64 0] := by rw [← hw3, ← hg1]; exact (Blk.new _ _ _).alloc _
 have hC : Blk w3 g2 61 #[.int .i64 0, .int .i64 0, .string { data := #[98] }, .string { data := #[66] }, .int .i64 0] := by rw [← hw3]; exact Blk.new_ (by simp; omega)
 have HCE : Hid (∀ W, Below w3.heap.size w3 W → W.cell? ⟨g1, 0, none⟩ = some (.int .i64 0) ∧ W.cell? ⟨g1, 1, none⟩ = some (.int .i64 0) ∧ W.cell? ⟨g1, 2, none⟩ = some (.string { data := #[97] }) ∧ W.cell? ⟨g1, 3, none⟩ = some (.string { data := #[65] }) ∧ W.cell? ⟨g1, 4, none⟩ = some (.int .i64 0) ∧ g1 < W.heap.size ∧
  W.cell? ⟨g2, 0, none⟩ = some (.int .i64 0) ∧ W.cell? ⟨g2, 1, none⟩ = some (.int .i64 0) ∧ W.cell? ⟨g2, 2, none⟩ = some (.string { data := #[98] }) ∧ W.cell? ⟨g2, 3, none⟩ = some (.string { data := #[66] }) ∧ W.cell? ⟨g2, 4, none⟩ = some (.int .i64 0) ∧ g2 < W.heap.size) := fun W hW => by
  have e1 := hA.below hW hA.lt
  have e2 := hC.below hW hC.lt
  exact ⟨by rw [e1.cell]; rfl, by rw [e1.cell]; rfl, by rw [e1.cell]; rfl, by rw [e1.cell]; rfl, by rw [e1.cell]; rfl, e1.lt, by rw [e2.cell]; rfl, by rw [e2.cell]; rfl, by rw [e2.cell]; rfl, by rw [e2.cell]; rfl, by rw [e2.cell]; rfl, e2.lt⟩
 have HB3 := Lib.hid hb3
 have B3 : Hid (Below w3.heap.size w3 w3) := Below.refl _ _
 obtain ⟨a0, a1, a2, a3, a4, al, c0, c1, c2, c3, c4, cl⟩ := HCE.out _ B3.out
 simp only [hg1, hg2]
 rw [hw3]
 clear hw3 hg1 hg2 hb3 hA hC
 go_upto_region 3 with (first | (go_at_call 21; go_loud (refine (HCK4.out w9).mono ?_; rintro e w10 ⟨rfl, hb10⟩; have B10 := Lib.hid (bthen B9.out hb10); obtain ⟨a0, a1, a2, a3, a4, al, c0, c1, c2, c3, c4, cl⟩ := HCE.out _ B10.out)) | (go_at_call 21; go_loud (refine (HCK3.out w8).mono ?_; rintro e w9 ⟨rfl, hb9⟩; have B9 := Lib.hid (bthen B8.out hb9); obtain ⟨a0, a1, a2, a3, a4, al, c0, c1, c2, c3, c4, cl⟩ := HCE.out _ B9.out)) | (go_at_call 22; go_loud (refine (lone_any _ _ _ _).mono ?_; rintro e w8 ⟨rfl, hb8⟩; have B8 := Lib.hid (bthen B7.out hb8))) | (go_at_call 21; go_loud (refine (HCK2.out _ _ hb6).mono ?_; rintro e w7 ⟨rfl, hb7⟩; have B7 := Lib.hid (bthen B6.out hb7); obtain ⟨a0, a1, a2, a3, a4, al, c0, c1, c2, c3, c4, cl⟩ := HCE.out _ B7.out)) | (go_at_call 22; go_loud (refine (lone_any _ _ _ _).mono ?_; rintro e w6 ⟨rfl, hb6⟩; have B6 := Lib.hid (bthen B5.out (bel1 hb6)))) | (go_at_call 21; go_loud (refine (HCK1.out _ _ hb4).mono ?_; rintro e w5 ⟨rfl, hb5⟩; have B5 := Lib.hid (bthen B4.out hb5); obtain ⟨a0, a1, a2, a3, a4, al, c0, c1, c2, c3, c4, cl⟩ := HCE.out _ B5.out)) | (go_at_call 22; go_loud (refine (lone_any _ _ _ _).mono ?_; rintro e w4 ⟨rfl, hb4⟩; have B4 := Lib.hid (bthen B3.out (bel1 hb4)))))
 go_upto_region 4 with (first | (go_at_call 21; go_loud (refine (HCK5.out _ _ hb11).mono ?_; rintro e w12 ⟨rfl, hb12⟩; have B12 := Lib.hid (bthen B11.out hb12); obtain ⟨a0, a1, a2, a3, a4, al, c0, c1, c2, c3, c4, cl⟩ := HCE.out _ B12.out)) | (go_at_call 22; go_loud (refine (lone_any _ _ _ _).mono ?_; rintro e w11 ⟨rfl, hb11⟩; have B11 := Lib.hid (bthen B10.out (bel1 hb11)))))
 go_upto_region 5 with ((go_at_call 22; go_loud (refine (lone_any _ _ _ _).mono ?_; rintro e w13 ⟨rfl, hb13⟩; have B13 := Lib.hid (bthen B12.out (bel1 hb13)))))
 obtain ⟨g5, hg5⟩ : ∃ g, w13.heap.size = g := ⟨_, rfl⟩
 obtain ⟨w14, hw14⟩ : ∃ W, w13.alloc (.cells #[.int .i64 1, .int .u8 1, .slice (some ⟨w12.heap.size, 0, none⟩) 2 2] 30) = W := ⟨_, rfl⟩
 have hb14 : Below w13.heap.size w13 w14 := by rw [← hw14]; exact nw _ (Below.refl _ _)
 have hB : Blk w14 g5 30 #[.int .i64 1, .int .u8 1, .slice (some ⟨w12.heap.size, 0, none⟩) 2 2] := by rw [← hw14, ← hg5]; exact Blk.new _ _ _
 have HCS : Hid (∀ W, Below w14.heap.size w14 W → W.cell? ⟨g5, 0, none⟩ = some (.int .i64 1) ∧ W.cell? ⟨g5, 1, none⟩ = some (.int .u8 1) ∧ W.cell? ⟨g5, 2, none⟩ = some (.slice (some ⟨w12.heap.size, 0, none⟩) 2 2) ∧ g5 < W.heap.size) := fun W hW => by
  have e1 := hB.below hW hB.lt
  exact ⟨by rw [e1.cell]; rfl, by rw [e1.cell]; rfl, by rw [e1.cell]; rfl, e1.lt⟩
 have HL6 : Hid (∀ W, Below w14.heap.size w14 W → Below (w12.alloc (.cells #[.int .i64 0, .int .i64 0, .string { data := #[97] }, .string { data := #[120] }, .int .i64 0, .int .i64 0, .int .i64 0, .string { data := #[97, 97] }, .string { data := #[121] }, .int .i64 0] 61)).heap.size (w12.alloc (.cells #[.int .i64 0, .int .i64 0, .string { data := #[97] }, .string { data := #[120] }, .int .i64 0, .int .i64 0, .int .i64 0, .string { data := #[97, 97] }, .string { data := #[121] }, .int .i64 0] 61)) W) := fun W hW => bthen hb13 (bthen hb14 hW)
 have B14 := Lib.hid (bthen B13.out hb14)
 have R14 : Hid (Below w14.heap.size w14 w14) := Below.refl _ _
 rw [hw14, hg5]
 clear hw14 hg5 hb14 hB
 obtain ⟨s0, s1, s2, sl⟩ := HCS.out _ R14.out
 go_wp2_with (first | (go_at_call 12; go_loud (refine (HP3.out _ _ (HL6.out _ R17.out)).mono ?_; rintro e w18 ⟨rfl, hb18⟩; have R18 := Lib.hid (bthen R17.out hb18); obtain ⟨s0, s1, s2, sl⟩ := HCS.out _ R18.out)) | (go_at_call 12; go_loud (refine (HP2.out _ _ (HL6.out _ R16.out)).mono ?_; rintro e w17 ⟨rfl, hb17⟩; have R17 := Lib.hid (bthen R16.out hb17); obtain ⟨s0, s1, s2, sl⟩ := HCS.out _ R17.out)) | (go_at_call 12; go_loud (refine (HP1.out _ _ (HL6.out _ R15.out)).mono ?_; rintro e w16 ⟨rfl, hb16⟩; have R16 := Lib.hid (bthen R15.out hb16); obtain ⟨s0, s1, s2, sl⟩ := HCS.out _ R16.out)) | (go_at_call 21; go_loud (refine (HCK6.out _ _ (HL6.out _ R14.out)).mono ?_; rintro e w15 ⟨rfl, hb15⟩; have R15 := Lib.hid (bthen R14.out hb15); obtain ⟨s0, s1, s2, sl⟩ := HCS.out _ R15.out)))
 go_ret
 exact ⟨rfl, bthen HB3.out (bthen B14.out R18.out)⟩
end Go.Proofs.YtfpnhgahkjglgaaGreat
namespace Go.Proofs.YtfpnhgahkjglgaaGreat
open Go Go.RowKit
def one5 (i o : ByteArray) : Ru := ⟨0, 0, i, o, (i.size : Int)⟩
def baseS : Nat → Sc
 | 0 => ⟨1, 1, [one5 ⟨#[97]⟩ ⟨#[97]⟩, one5 ⟨#[98]⟩ ⟨#[98]⟩, one5 ⟨#[99]⟩ ⟨#[99]⟩]⟩
 | 1 => ⟨1, 1, [one5 ⟨#[97]⟩ ⟨#[65]⟩, one5 ⟨#[98, 97]⟩ ⟨#[66]⟩, one5 ⟨#[99, 97]⟩ ⟨#[67]⟩, one5 ⟨#[98]⟩ ⟨#[98]⟩]⟩
 | 2 => ⟨2, 1, [⟨0, 1, ⟨#[99]⟩, ⟨#[]⟩, 1⟩, ⟨1, 0, ⟨#[97]⟩, ⟨#[65]⟩, 1⟩, ⟨1, 0, ⟨#[98]⟩, ⟨#[66]⟩, 1⟩, one5 ⟨#[97]⟩ ⟨#[97]⟩, one5 ⟨#[98]⟩ ⟨#[98]⟩]⟩
 | 3 => ⟨1, 1, [one5 ⟨#[97]⟩ ⟨#[97]⟩, one5 ⟨#[98]⟩ ⟨#[98]⟩, one5 ⟨#[97, 98]⟩ ⟨#[97, 98, 99, 49]⟩, one5 ⟨#[99]⟩ ⟨#[99]⟩]⟩
 | 4 => ⟨1, 1, [one5 ⟨#[97]⟩ ⟨#[97]⟩, ⟨0, 0, ⟨#[98]⟩, ⟨#[98]⟩, 0⟩, ⟨0, 0, ⟨#[99]⟩, ⟨#[98]⟩, 7⟩, ⟨0, 0, ⟨#[98]⟩, ⟨#[99]⟩, 9⟩]⟩
 | _ => ⟨1, 1, [one5 ⟨#[97]⟩ ⟨#[97]⟩, one5 ⟨#[97]⟩ ⟨#[65]⟩, one5 ⟨#[97, 97]⟩ ⟨#[66]⟩, one5 ⟨#[98]⟩ ⟨#[98]⟩, ⟨0, 0, ⟨#[98]⟩, ⟨#[]⟩, 20⟩]⟩
theorem base_ok (k : Nat) : ScOK (baseS k) ∧ (baseS k).n ≤ 2 ∧ 3 ≤ (baseS k).rs.length ∧ (baseS k).rs.length ≤ 5 := by
 unfold baseS
 split <;> decide
theorem scOK_drop {s : Sc} (h : ScOK s) (d : Nat) : ScOK ⟨s.n, s.acc, s.rs.drop d⟩ := by
 obtain ⟨h1, h2, h3, h4, h5⟩ := h
 refine ⟨h1, ?_, h3, fun r hr => h4 r (List.mem_of_mem_drop hr), h5.sublist (List.drop_sublist d s.rs)⟩
 show (s.rs.drop d).length ≤ 64
 rw [List.length_drop]
 omega
theorem scOK_snoc {s : Sc} (h : ScOK s) {r : Ru} (hr : RuOK s.n r) (hn : r ∉ s.rs) (hl : s.rs.length < 64) : ScOK ⟨s.n, s.acc, s.rs ++ [r]⟩ := by
 obtain ⟨h1, h2, h3, h4, h5⟩ := h
 refine ⟨h1, ?_, h3, fun x hx => ?_, ?_⟩
 ·show (s.rs ++ [r]).length ≤ 64
  simp
  omega
 ·rcases List.mem_append.1 hx with hx | hx
  ·exact h4 x hx
  ·rw [List.mem_singleton.1 hx]; exact hr
 ·show (s.rs ++ [r]).Nodup
  rw [List.nodup_append]
  exact ⟨h5, List.pairwise_singleton _ r, fun a ha b hb e => hn (by rw [← List.mem_singleton.1 hb, ← e]; exact ha)⟩
end Go.Proofs.YtfpnhgahkjglgaaGreat
