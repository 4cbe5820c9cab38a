/-
  The walks of layer 15: the order of the links of a node, and the sort by it.
-/
import Derived.Test.YtfjkmgjjifhdkaaGreatShelf
import Derived.Test.YtfjkmgjjifhdkaaGreatR06
import Derived.Test.YtfjkmgjjifhdkaaGreatR10
import Derived.Test.YtfjkmgjjifhdkaaGreatR11
namespace Go.Proofs.YtfjkmgjjifhdkaaGreat
open Go Go.RowKit Go.Shelf Go.Lib Go.Sort

/-- The world with draws and new blocks. -/
def Grown (w W : World) : Prop := ∃ q os, W = grow (w.drewN q) os
theorem Grown.start {w : World} : Grown w w.drew := ⟨1, #[], by rw [grow_empty]; rfl⟩
theorem Grown.below {w W : World} (h : Grown w W) : RowKit.Below w.heap.size w W := by
  obtain ⟨q, os, rfl⟩ := h
  exact ⟨rfl, rfl, rfl, by show w.heap.size ≤ (w.heap ++ os).size; simp, fun k hk => by show (w.heap ++ os)[k]? = _; rw [Array.getElem?_append_left hk]⟩
theorem Grown.trans {a b c : World} (h : Grown a b) (h2 : Grown b c) : Grown a c := by
  obtain ⟨q, os, rfl⟩ := h
  obtain ⟨q2, os2, rfl⟩ := h2
  exact ⟨q + q2, os ++ os2, by rw [← grow_grow, ← World.drewN_drewN]; rfl⟩
theorem Grown.drewN {w : World} (q : Nat) : Grown w (w.drewN q) := ⟨q, #[], by rw [grow_empty]⟩
theorem Grown.alloc {w W : World} (h : Grown w W) (o : Obj) : Grown w (W.alloc o) := h.trans ⟨0, #[o], by rw [alloc_eq_grow]; rfl⟩
theorem Grown.of_draw {w W : World} (h : ∃ q, W = w.drewN q) : Grown w W := by obtain ⟨q, rfl⟩ := h; exact Grown.drewN q
/-- The order of links: by the costs of the first ways that they begin, then by index. -/
def cmpVia (f : Int → Int) (i j : Int) : Int := orL [if f i < f j then -1 else if f j < f i then 1 else 0, if i < j then -1 else if j < i then 1 else 0]
theorem cmpVia_lt {f : Int → Int} {i j : Int} : cmpVia f i j < 0 ↔ (f i < f j ∨ (f i = f j ∧ i < j)) := by
  unfold cmpVia orL
  by_cases h1 : f i < f j
  · simp [h1]
  · by_cases h2 : f j < f i
    · simp [h1, h2]; omega
    · have : f i = f j := by omega
      simp [this, orL]
      by_cases h3 : i < j
      · simp [h3]
      · by_cases h4 : j < i
        · simp [h3, h4]
        · simp [h3, h4]
set_option maxRecDepth 100000 in
set_option maxHeartbeats 4000000 in
theorem clo_any (f : Int → Int) (bv bt : Nat) (i j : Int) (w : World) (hv : Blk w bv 89 #[.pointer (some ⟨bt, 0, none⟩)])
    (hby : ∀ W, RowKit.Below w.heap.size w W → ∀ x, x = i ∨ x = j → Calls Tryz.prog 72 #[.pointer (some ⟨bt, 0, none⟩), .int .i64 x] W fun e w' => e = .returned (.int .i64 (f x)) ∧ ∃ q, w' = W.drewN q) :
    Calls Tryz.prog 69 #[.int .i64 i, .int .i64 j, .pointer (some ⟨bv, 0, none⟩)] w fun e w' => e = .returned (.int .i64 (cmpVia f i j)) ∧ Grown w w' := by
  have HBY := Lib.hid hby
  have HV := Lib.hid hv
  have v0 := hv.cell 0
  have vl := hv.lt
  simp at v0
  clear hby hv
  have HOR : Hid (∀ (A : Option Addr) (x y : Int) (c : Nat) (w : World), SlR 1 RInt w A [x, y] → Calls Tryz.prog 70 #[.slice A 2 c] w fun e w' => e = .returned (.int .i64 (orL [x, y])) ∧ w = w') := fun A x y c w h => or_any A [x, y] c w h (by unfold maxLen; simp)
  have HR : Hid (cmpVia f i j = orL [if f i < f j then -1 else if f j < f i then 1 else 0, if i < j then -1 else if j < i then 1 else 0]) := rfl
  have h1 := fun W => cmpInt_any (f i) (f j) W
  have h2 := fun W => cmpInt_any i j W
  generalize (if f i < f j then (-1 : Int) else if f j < f i then 1 else 0) = c1 at *
  generalize (if i < j then (-1 : Int) else if j < i then 1 else 0) = c2 at *
  have HC1 := Lib.hid h1
  have HC2 := Lib.hid h2
  clear h1 h2
  go_enter Tryz.func69, Tryz.ntmps69
  go_wp2_with fail
  refine ordB_start (Grown w) (.quiet 0 (.quiet 1 (.quiet 3 (.quiet 4 (.quiet 7 (.quiet 8 (.only 2 (.only 5 (.only 6 (.only 9 (.only 10 (.only 11 (.quiet 12 .done))))))))))))) (by kernel_rfl) (by kernel_rfl) (by kernel_rfl) (fun _ _ _ _ _ h => h) Grown.start ?_
  have hV0 : Grown w w.drew := Grown.start
  obtain ⟨V0, qqV0⟩ : ∃ W, w.drew = W := ⟨_, rfl⟩
  rw [qqV0] at hV0 ⊢
  clear qqV0
  iterate 6 (first
    | (refine ordB_skip rfl rfl ?_; simp only [Act.put, List.setIfInBounds_toArray, List.set_cons_zero, List.set_cons_succ])
    | (refine ordB_take (v := ?_) rfl rfl ?_ ?_
       rotate_left 1
       focus (intro W hW; obtain ⟨hcW, hfW⟩ := bcell hW.below; (go_simp <;> with_reducible rfl))
       simp only [Act.put, List.setIfInBounds_toArray, List.set_cons_zero, List.set_cons_succ]))
  refine ordB_only (opB_call rfl rfl (fun K hK => ?_))
  go_simp
  go_at_call 72
  refine (HBY.out _ hV0.below i (.inl rfl)).mono ?_
  rintro e V0_1 ⟨rfl, hx2⟩
  refine hK.out _ _ (hV0.trans (Grown.of_draw hx2)) (fun hV0_1 => ?_)
  refine ordB_only (opB_call rfl rfl (fun K hK => ?_))
  go_simp
  go_at_call 72
  refine (HBY.out _ hV0_1.below j (.inr rfl)).mono ?_
  rintro e V0_1_2 ⟨rfl, hx5⟩
  refine hK.out _ _ (hV0_1.trans (Grown.of_draw hx5)) (fun hV0_1_2 => ?_)
  refine ordB_only (opB_call rfl rfl (fun K hK => ?_))
  go_simp
  go_at_call 71
  refine (HC1.out _).mono ?_
  rintro e w' ⟨rfl, rfl⟩
  refine hK.out _ _ hV0_1_2 (fun hV0_1_2_3 => ?_)
  refine ordB_only (opB_call rfl rfl (fun K hK => ?_))
  go_simp
  go_at_call 71
  refine (HC2.out _).mono ?_
  rintro e w' ⟨rfl, rfl⟩
  refine hK.out _ _ hV0_1_2_3 (fun hV0_1_2_3_4 => ?_)
  refine ordB_only (opB_call rfl rfl (fun K hK => ?_))
  go_simp
  refine hK.out _ _ (hV0_1_2_3_4.alloc _) (fun hV0_1_2_3_4_5 => ?_)
  have b10 := Blk.new V0_1_2 3 #[(.int .i64 c1), (.int .i64 c2)]
  have b10b := nw (.cells #[(.int .i64 c1), (.int .i64 c2)] 3) (Below.refl V0_1_2.heap.size V0_1_2)
  have b10g := hV0_1_2_3_4.below.size
  obtain ⟨V0_1_2_5, qqV0_1_2_5⟩ : ∃ W', V0_1_2.alloc (.cells #[(.int .i64 c1), (.int .i64 c2)] 3) = W' := ⟨_, rfl⟩
  rw [qqV0_1_2_5] at hV0_1_2_3_4_5 b10 b10b ⊢
  clear qqV0_1_2_5 b10b
  refine ordB_only (opB_call rfl rfl (fun K hK => ?_))
  go_simp
  go_at_call 70
  refine (HOR.out _ _ _ _ _ (slr_blk (enc := fun x => [Value.int .i64 x]) b10 (fun _ => rfl) (fun _ => rfl))).mono ?_
  rintro e w' ⟨rfl, rfl⟩
  refine hK.out _ _ hV0_1_2_3_4_5 (fun hV0_1_2_3_4_5_6 => ?_)
  iterate 1 (first
    | (refine ordB_skip rfl rfl ?_; simp only [Act.put, List.setIfInBounds_toArray, List.set_cons_zero, List.set_cons_succ])
    | (refine ordB_take (v := ?_) rfl rfl ?_ ?_
       rotate_left 1
       focus (intro W hW; obtain ⟨hcW, hfW⟩ := bcell hW.below; (go_simp <;> with_reducible rfl))
       simp only [Act.put, List.setIfInBounds_toArray, List.set_cons_zero, List.set_cons_succ]))
  refine ordB_nil ?_
  go_wp2_with fail
  go_ret
  exact ⟨by rw [HR.out]; rfl, hV0_1_2_3_4_5_6⟩
/-- The sort of an empty slice. -/
theorem ins_nil (c : Nat) (f : Value) (w : World) : Calls Tryz.prog 104 #[.slice none 0 c, .int .i64 0, .int .i64 0, f] w fun e w' => e = .returned (.tuple #[]) ∧ w = w' := by
  go_enter Tryz.func104, Tryz.ntmps104
  go_wp2_with fail
  go_loop [8] (fun i => i = .int .i64 1) (fun _ => 0)
  case atStart => exact rfl
  case round =>
    obtain rfl := hrel
    go_wp2_with fail
    go_end0
    exact ⟨rfl, rfl⟩
theorem pdq_nil (c : Nat) (f : Value) (l : Int) (w : World) : Calls Tryz.prog 95 #[.slice none 0 c, .int .i64 0, .int .i64 0, .int .i64 l, f] w fun e w' => e = .returned (.tuple #[]) ∧ w = w' := by
  have HI : Hid (∀ (c : Nat) (f : Value) (w : World), Calls Tryz.prog 104 #[.slice none 0 c, .int .i64 0, .int .i64 0, f] w fun e w' => e = .returned (.tuple #[]) ∧ w = w') := ins_nil
  go_enter Tryz.func95, Tryz.ntmps95
  go_wp2_with fail
  refine wp_loop_rounds 1 ?_
  rw [rounds_succ]
  go_wp2_with (go_at_call 104; refine (HI.out _ _ _).mono ?_; rintro e w' ⟨rfl, rfl⟩)
  refine bodyPost_ret (results_none rfl _ _ _) rfl ?_
  exact ⟨rfl, rfl⟩
theorem sort_nil (c : Nat) (f : Value) (w : World) : Calls Tryz.prog 68 #[.slice none 0 c, f] w fun e w' => e = .returned (.tuple #[]) ∧ w = w' := by
  have HP : Hid (∀ (c : Nat) (f : Value) (l : Int) (w : World), Calls Tryz.prog 95 #[.slice none 0 c, .int .i64 0, .int .i64 0, .int .i64 l, f] w fun e w' => e = .returned (.tuple #[]) ∧ w = w') := pdq_nil
  have HL : Hid (∀ w, Calls Tryz.prog 94 #[.int .u64 0] w fun e w' => e = .returned (.int .i64 0) ∧ w' = w) := fun w => Any.bits_Len (SlLaysF0.n15.bits (P := Tryz.prog) { Tryz.sortInts with }) 0 w (by omega) (by omega)
  go_enter Tryz.func68, Tryz.ntmps68
  go_wp2_with (first | (go_at_call 94; refine (HL.out _).mono ?_; rintro e w' ⟨rfl, rfl⟩) | (go_at_call 95; refine (HP.out _ _ _ _).mono ?_; rintro e w' ⟨rfl, rfl⟩))
  go_end0
  exact ⟨rfl, rfl⟩

/-- Sorted by the costs of first ways. -/
theorem swo_via (D : Int → Prop) (f : Int → Int) : SWO (ltOf (fun x y : { i : Int // D i } => cmpVia f x.1 y.1)) where
  irrefl x := by unfold ltOf; rw [decide_eq_false_iff_not, cmpVia_lt]; omega
  trans x y z h1 h2 := by unfold ltOf at *; rw [decide_eq_true_iff, cmpVia_lt] at *; omega
  ntrans x y z h1 h2 := by unfold ltOf at *; rw [decide_eq_false_iff_not, cmpVia_lt] at *; omega
set_option maxHeartbeats 2000000 in
theorem sortI_any (D : Int → Prop) (f : Int → Int) (bv blk cap : Nat) (xs : List Int) (w : World) (i0 : Int) (hi0 : D i0) (hD : ∀ x ∈ xs, D x)
    (hblk : blk < w.heap.size) (hcell : ∀ (k : Nat) (x : Int), xs[k]? = some x → w.cell? ⟨blk, k, none⟩ = some (.int .i64 x) ∧ w.frozen? ⟨blk, k, none⟩ = false) (hlen : xs.length ≤ 1000000)
    (hclo : ∀ W, ButB blk w W → ∀ i j, D i → D j → Calls Tryz.prog 69 #[.int .i64 i, .int .i64 j, .pointer (some ⟨bv, 0, none⟩)] W fun e w' => e = .returned (.int .i64 (cmpVia f i j)) ∧ Grown W w') :
    Calls Tryz.prog 68 #[.slice (some ⟨blk, 0, none⟩) xs.length cap, .func (.func 69) #[] #[.pointer (some ⟨bv, 0, none⟩)]] w fun e w' =>
      e = .returned (.tuple #[]) ∧ ∃ ys : List Int, ys.Perm xs ∧ ys.Pairwise (fun a b => ¬ (f b < f a ∨ (f b = f a ∧ b < a))) ∧ SlR 1 RInt w' (some ⟨blk, 0, none⟩) ys ∧ ButB blk w w' ∧ ∀ base, base ≤ blk → RowKit.Below base w w' := by
  letI : Inhabited { i : Int // D i } := ⟨⟨i0, hi0⟩⟩
  obtain ⟨d, hd⟩ : ∃ d : List { i : Int // D i }, d.map (·.1) = xs := ⟨xs.attachWith _ hD, by rw [List.attachWith_map_subtype_val]⟩
  have hdl : d.length = xs.length := by rw [← hd]; simp
  have hget : ∀ j, j < d.length → xs[j]? = some (d.toArray[j]!).1 := fun j hj => by
    rw [← hd, List.getElem?_map, List.getElem?_eq_getElem hj]
    simp [hj]
  have hH : Holds (fun s : { i : Int // D i } => Value.int .i64 s.1) w blk 0 d.toArray := fun j hj => by
    have hj' : j < d.length := by simpa using hj
    have := hcell j _ (hget j hj')
    rw [Nat.zero_add]
    exact this
  have eg : ∀ args w, (callFunc 69 args).run Tryz.prog w = .ok (.enter 69 args) w := enters_of Tryz.func69 (by kernel_rfl) rfl
  have hcmp : CmpLays1 Tryz.prog 69 #[.pointer (some ⟨bv, 0, none⟩)] (fun s : { i : Int // D i } => Value.int .i64 s.1) (fun x y => cmpVia f x.1 y.1) blk 0 d.toArray.size w := fun m os dk hdk x y =>
    hclo _ (sw1_but (enc := fun s : { i : Int // D i } => Value.int .i64 s.1) (w := w) (blk := blk) (off := 0) (n := m) (d := dk) (os := os)) x.1 y.1 x.2 y.2
  have hcon := Any.slices_SortFunc Tryz.sortInts (fun s : { i : Int // D i } => Value.int .i64 s.1) (fun _ => rfl) (fun x y => cmpVia f x.1 y.1) (swo_via D f) 69 #[.pointer (some ⟨bv, 0, none⟩)] blk 0 cap d.toArray w eg hcmp hH hblk (by simp; omega)
  change Calls Tryz.prog 68 _ _ _ at hcon
  rw [show d.toArray.size = xs.length by simp [hdl]] at hcon
  refine hcon.mono ?_
  rintro e w' ⟨rfl, d', n, os, ⟨hp0, _, hp⟩, hs, rfl⟩
  have hd's : d'.size = d.length := by simpa using hp0
  have hperm : d'.toList.Perm d := by
    have h1 : (d'.extract 0 xs.length) = d' := by rw [← hdl, ← hd's]; simp
    have h2 : (d.toArray.extract 0 xs.length) = d.toArray := by rw [← hdl]; simp
    rw [h1, h2] at hp
    simpa using hp
  refine ⟨rfl, d'.toList.map (·.1), ?_, ?_, ?_, sw1_but, fun base hb => sw1_below hb (by omega)⟩
  · rw [← hd]
    exact hperm.map _
  · rw [List.pairwise_map, List.pairwise_iff_getElem]
    intro i j hi hj hij
    have hj' : j < d'.size := by simpa using hj
    have := hs i j (Nat.zero_le _) hij (by omega)
    rw [getElem!_pos d' i (by omega), getElem!_pos d' j hj'] at this
    unfold ltOf at this
    rw [decide_eq_false_iff_not, cmpVia_lt] at this
    simpa using this
  · intro _
    refine ⟨blk, 0, rfl, Nat.lt_of_lt_of_le hblk sw1_but.size, fun k x hk => ?_⟩
    rw [List.getElem?_map] at hk
    cases hk2 : d'.toList[k]? with
    | none => rw [hk2] at hk; cases hk
    | some s =>
      rw [hk2] at hk
      obtain rfl := Option.some.inj hk
      obtain ⟨hk3, hk4⟩ := List.getElem?_eq_some_iff.1 hk2
      have hkd : k < d'.size := by simpa using hk3
      refine ⟨[Value.int .i64 s.1], rfl, rfl, fun j v hj => ?_⟩
      match j, hj with
      | 0, hj =>
        simp at hj
        subst hj
        have := sw1_holds (n := n) (os := os) (d := d') hH hblk (by simp [hd's]) hkd
        rw [getElem!_pos d' k hkd] at this
        have hk5 : d'[k] = s := by rw [← hk4]; simp
        rw [hk5] at this
        simpa using this
end Go.Proofs.YtfjkmgjjifhdkaaGreat
