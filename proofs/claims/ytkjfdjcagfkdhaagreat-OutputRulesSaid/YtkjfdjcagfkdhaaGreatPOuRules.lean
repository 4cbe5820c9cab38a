/-
  OutputRules: the walk.
-/
import Derived.Test.YtkjfdjcagfkdhaaGreatP36
import Derived.Test.YtkjfdjcagfkdhaaGreatP32
import Derived.Test.YtkjfdjcagfkdhaaGreatP23
import Derived.Test.YtkjfdjcagfkdhaaGreatP28
import Derived.Test.YtkjfdjcagfkdhaaGreatP05
namespace Go.Proofs.YtkjfdjcagfkdhaaGreat
open Go Go.RowKit

theorem ru_one (l : List Ru) : ∀ u ∈ l.flatMap encRu5, u.oneCell' = true := fun u hu => by
  obtain ⟨x, _, hx⟩ := List.mem_flatMap.1 hu
  simp [encRu5] at hx
  rcases hx with rfl | rfl | rfl | rfl | rfl <;> rfl
theorem IsGoes.parts {s : Sc} {inp : ByteArray} {w w' : World} {e : Ending} (h : IsGoes s inp w e w') : ((e = .returned (.bool true) ∧ GoesOf s inp true) ∨ (e = .returned (.bool false))) ∧ Below w.heap.size w w' := by
  obtain ⟨⟨b, h1, h2⟩, h3⟩ := h
  cases b with
  | true => exact ⟨.inl ⟨h1, h2⟩, h3⟩
  | false => exact ⟨.inr h1, h3⟩
set_option maxRecDepth 100000 in
set_option maxHeartbeats 16000000 in
theorem outputRules_any (A : Option Addr) (xs : List Rw) (c : Nat) (qb qd : Int) (x1 : Rw) (B : Option Addr) (l : List Int) (d : Nat) (w : World) (hx : SlR 5 RRw w A xs) (hl0 : xs.length ≤ maxLen) (hqb : 0 ≤ qb ∧ qb ≤ 255) (hqd : 0 ≤ qd ∧ qd ≤ 255)
    (hx1 : RwOK w x1) (hy : SlR 1 RU8 w B l) (hll : l.length ≤ maxLen) (hl8 : ∀ x ∈ l, 0 ≤ x ∧ x ≤ 255) :
    Calls Tryz.prog 5 #[.agg #[.int .u8 qb, .int .u8 qd, .slice A xs.length c], .agg #[.slice x1.A x1.a.length x1.c, .slice x1.B x1.b.length x1.d, .int .u8 x1.f, .int .u8 x1.t, .int .u8 x1.co], .slice B l.length d] w fun e w' => e = .returned (.bool true) ∧ Below w.heap.size w w' := by
  obtain ⟨i0, hinf, hz0, hz1, hz2⟩ := info_partsR rule_info
  obtain ⟨w1, hw1⟩ : ∃ w1, ((w.alloc (.cells #[.int .u8 qb, .int .u8 qd, .slice A xs.length c] 24)).alloc (.cells #[.slice x1.A x1.a.length x1.c, .slice x1.B x1.b.length x1.d, .int .u8 x1.f, .int .u8 x1.t, .int .u8 x1.co] 52)) = w1 := ⟨_, rfl⟩
  obtain ⟨g, hg⟩ : ∃ g, w.heap.size = g := ⟨_, rfl⟩
  have hb1 : Below w.heap.size w w1 := by rw [← hw1]; exact nw _ (nw _ (Below.refl _ _))
  have hX0 : Blk w1 g 24 #[.int .u8 qb, .int .u8 qd, .slice A xs.length c] := by rw [← hw1]; exact ((Blk.new_ hg.symm).alloc _)
  have hX1 : Blk w1 (g + 1) 52 #[.slice x1.A x1.a.length x1.c, .slice x1.B x1.b.length x1.d, .int .u8 x1.f, .int .u8 x1.t, .int .u8 x1.co] := by rw [← hw1]; exact (Blk.new_ (by simp; omega))
  have HW1 := Lib.hid hw1
  have HG := Lib.hid hg
  have HB1 := Lib.hid hb1
  have HKP : Hid (∀ W, Below w1.heap.size w1 W → (W.cell? ⟨g, 0, none⟩ = some (.int .u8 qb) ∧ W.cell? ⟨g, 1, none⟩ = some (.int .u8 qd) ∧ W.cell? ⟨g, 2, none⟩ = some (.slice A xs.length c) ∧ g < W.heap.size) ∧ (W.cell? ⟨g + 1, 0, none⟩ = some (.slice x1.A x1.a.length x1.c) ∧ W.cell? ⟨g + 1, 1, none⟩ = some (.slice x1.B x1.b.length x1.d) ∧ W.cell? ⟨g + 1, 2, none⟩ = some (.int .u8 x1.f) ∧ W.cell? ⟨g + 1, 3, none⟩ = some (.int .u8 x1.t) ∧ W.cell? ⟨g + 1, 4, none⟩ = some (.int .u8 x1.co) ∧ g + 1 < W.heap.size)) := fun W hW => ⟨⟨by rw [(hX0.below hW hX0.lt).cell]; rfl, by rw [(hX0.below hW hX0.lt).cell]; rfl, by rw [(hX0.below hW hX0.lt).cell]; rfl, (hX0.below hW hX0.lt).lt⟩, ⟨by rw [(hX1.below hW hX1.lt).cell]; rfl, by rw [(hX1.below hW hX1.lt).cell]; rfl, by rw [(hX1.below hW hX1.lt).cell]; rfl, by rw [(hX1.below hW hX1.lt).cell]; rfl, by rw [(hX1.below hW hX1.lt).cell]; rfl, (hX1.below hW hX1.lt).lt⟩⟩
  have HMA : Hid (∀ W, Below w1.heap.size w1 W → Calls Tryz.prog 7 #[.agg #[.int .u8 qb, .int .u8 qd, .slice A xs.length c]] W (IsMade W)) := fun W hW => made_any5 A xs c qb qd W (hx.below keeps_rw (hb1.trans (hW.mono hb1.size))) hl0 hqb hqd
  have HIN : Hid (∀ W, Below w1.heap.size w1 W → Calls Tryz.prog 14 #[.slice B l.length d, .int .i64 5] W fun e w' => e = .returned (.string (inpTo l 5)) ∧ Below W.heap.size W w') := fun W hW => input5_any B l d 5 W (hy.below keeps_u8 (hb1.trans (hW.mono hb1.size))) hll hl8 (by decide)
  have HSA : Hid (∀ W, Calls Tryz.prog 6 #[] W fun e w' => e = .returned (.bool true) ∧ Below W.heap.size W w') := sanity5_any
  have HX1 := Lib.hid hx1
  have hin := inpTo_let l 5 (by decide)
  obtain ⟨inp, hinp⟩ : ∃ x, inpTo l 5 = x := ⟨_, rfl⟩
  rw [hinp] at hin HIN
  have HLET := Lib.hid hin
  clear hw1 hg hb1 hX0 hX1 hx hy hx1 hinp hin hll hl8
  go_enter Tryz.func5, Tryz.ntmps5
  go_upto_region 1 with fail
  rw [HW1.out, HG.out]
  go_upto_region 3 with (first
    | (go_at_call 6; go_loud (refine (HSA.out _).mono ?_; rintro e w2 ⟨rfl, hb2⟩; obtain ⟨⟨x0, x1', x2, xl⟩, _⟩ := HKP.out _ hb2))
    | (go_at_call 7; go_loud (refine (HMA.out _ hb2).mono ?_; rintro e w3 ⟨m, rs, A3, c3, rfl, hm, hrs9, hok, hsc, hb3⟩; have hb13 := hb2.trans (hb3.mono hb2.size)))
    | (go_at_call 14; go_loud (refine (HIN.out _ hb13).mono ?_; rintro e w4 ⟨rfl, hb4⟩; have hb14 := hb13.trans (hb4.mono hb13.size); have hsc4 := hsc.below hb4)))
  obtain ⟨b8, hb8⟩ : ∃ x, w4.heap.size = x := ⟨_, rfl⟩
  generalize hw5 : w4.alloc (.cells _ 29) = w5
  have hB8 : Blk w5 b8 29 #[.int .i64 (m : Int), .int .u8 1, .slice A3 rs.length c3] := by rw [← hw5]; exact Blk.new_ hb8.symm
  have hb15 : Below w1.heap.size w1 w5 := by rw [← hw5]; exact hb14.alloc hb14.size _
  have hsc5 : ScIn w5 ⟨(m : Int), 1, rs⟩ A3 c3 := by rw [← hw5]; exact hsc4.below (nw _ (Below.refl _ _))
  rw [hb8]
  have HSCH : Hid (∀ W, Below w5.heap.size w5 W → W.cell? ⟨b8, 0, none⟩ = some (.int .i64 (m : Int)) ∧ W.cell? ⟨b8, 1, none⟩ = some (.int .u8 1) ∧ W.cell? ⟨b8, 2, none⟩ = some (.slice A3 rs.length c3) ∧ b8 < W.heap.size) := fun W hW => by
    have e1 := hB8.below hW hB8.lt
    exact ⟨by rw [e1.cell]; rfl, by rw [e1.cell]; rfl, by rw [e1.cell]; rfl, e1.lt⟩
  have HSND : Hid (∀ W, Below w5.heap.size w5 W → Calls Tryz.prog 8 #[.agg #[.int .i64 (m : Int), .int .u8 1, .slice A3 rs.length c3]] W fun e w' => IsSnd ⟨(m : Int), 1, rs⟩ e ∧ Below W.heap.size W w') := fun W hW => rsound5_any ⟨(m : Int), 1, rs⟩ A3 c3 W (hsc5.below hW)
  have HCOST : Hid (∀ (i t : ByteArray) (W : World), i.size ≤ 1000 → t.size ≤ 1000 → Below w5.heap.size w5 W → Calls Tryz.prog 10 #[.agg #[.int .i64 (m : Int), .int .u8 1, .slice A3 rs.length c3], .string i, .string t] W fun e w' => (∃ r, e = .returned (.int .i64 r) ∧ CostOf ⟨(m : Int), 1, rs⟩ i t r) ∧ Below W.heap.size W w') := fun i t W hi ht hW => cost05_any ⟨(m : Int), 1, rs⟩ A3 c3 i t W (hsc5.below hW) (made_flat hm.2) (Nat.le_trans hi (by decide)) ht
  have HWALK : Hid (∀ (B : Option Addr) (l : List Int) (d : Nat) (n : Int) (W : World), SlR 1 RU8 w B l → l.length ≤ maxLen → (∀ x ∈ l, 0 ≤ x ∧ x ≤ 255) → (0 ≤ n ∧ n ≤ 8) → Below w5.heap.size w5 W → Calls Tryz.prog 9 #[.agg #[.int .i64 (m : Int), .int .u8 1, .slice A3 rs.length c3], .slice B l.length d, .int .i64 n] W (IsWalk ⟨(m : Int), 1, rs⟩ W)) := fun B l d n W h1 h2 h3 h4 hW => walk5_any ⟨(m : Int), 1, rs⟩ A3 c3 B l d n W (hsc5.below hW) hok (h1.below keeps_u8 ((HB1.out.trans (hb15.mono HB1.out.size)).trans (hW.mono (by have := HB1.out.size; have := hb15.size; omega)))) h2 h3 h4
  have HBEST : Hid (∀ (i : ByteArray) (q : Int) (W : World), i.size ≤ 1000 → 0 ≤ q → q ≤ 1000 → Below w5.heap.size w5 W → Calls Tryz.prog 11 #[.agg #[.int .i64 (m : Int), .int .u8 1, .slice A3 rs.length c3], .string i, .int .i64 q] W (IsBestR ⟨(m : Int), 1, rs⟩ i q W)) := fun i q W hi h0 h1 hW => best05_any ⟨(m : Int), 1, rs⟩ A3 c3 i q W (hsc5.below hW) (made_flat hm.2) (Nat.le_trans hi (by decide)) h0 h1
  have HBW := Lib.hid (HB1.out.trans (hb15.mono HB1.out.size))
  have HB15 := Lib.hid hb15
  have HFL := Lib.hid (made_flat (rs := rs) hm.2)
  have HOK := Lib.hid hok
  have HSC5 := Lib.hid hsc5
  have HMM := Lib.hid hm
  have hisz : inp.size ≤ 1000 := Nat.le_trans HLET.out.2 (by decide)
  have HGOES : Hid (∀ W, Below w5.heap.size w5 W → Calls Tryz.prog 16 #[.agg #[.int .i64 (m : Int), .int .u8 1, .slice A3 rs.length c3], .string inp] W (IsGoes ⟨(m : Int), 1, rs⟩ inp W)) := fun W hW => goes05_any ⟨(m : Int), 1, rs⟩ A3 c3 inp W (hsc5.below hW) (made_flat hm.2) (Nat.le_trans hisz (by decide))
  clear hw5 hb8 hB8 hb15 hsc5 hsc4 hsc hb14 hb13 hb4 hb3 hb2 x0 x1' x2 xl HMA HSA HIN HB1 hok HG HW1
  obtain ⟨e0, e1, e2, el⟩ := HSCH.out _ (Below.refl _ _)
  have hm1 := hm.1
  have hm2 := hm.2
  clear hm
  go_upto_region 4 with fail
  obtain ⟨b10, hb10⟩ : ∃ x, w5.heap.size = x := ⟨_, rfl⟩
  obtain ⟨w7, hw7⟩ : ∃ W, w5.alloc (.cells #[.int .i64 (m : Int), .int .u8 1, .slice A3 rs.length c3] 29) = W := ⟨_, rfl⟩
  have hB10 : Blk w7 b10 29 #[.int .i64 (m : Int), .int .u8 1, .slice A3 rs.length c3] := by rw [← hw7]; exact Blk.new_ hb10.symm
  have hb57 : Below w5.heap.size w5 w7 := by rw [← hw7]; exact nw _ (Below.refl _ _)
  have hb5b : w5.heap.size ≤ b10 := by omega
  rw [hb10, hw7]
  have HB10 := Lib.hid hB10
  have HB57 := Lib.hid hb57
  have HBW7 := Lib.hid (HBW.out.trans (hb57.mono HBW.out.size))
  obtain ⟨e0, e1, e2, el⟩ := HSCH.out _ hb57
  have hb8ne : b8 ≠ b10 := by
    have h := (HSCH.out _ (Below.refl _ _)).2.2.2
    omega
  have hgne : ¬ g + 1 = b10 := by
    have h := (HKP.out _ HB15.out).2.2.2.2.2.2
    omega
  obtain ⟨_, y0, y1, y2, y3, y4, yl⟩ := HKP.out _ (HB15.out.trans (hb57.mono HB15.out.size))
  clear hw7 hb10 hB10 hb57
  go_cut [] (fun W => ∃ (r : Ru) (A9 : Option Addr) (c9 : Nat), Hid (RuOK (m : Int) r) ∧ (rs.length + 1 ≤ c9 ∧ c9 ≤ maxLen) ∧ Hid (SlR 5 RRu W A9 (rs ++ [r])) ∧ Blk W b10 29 #[.int .i64 (m : Int), .int .u8 1, .slice A9 (rs.length + 1) c9] ∧ Below b10 w7 W)
  case first =>
    refine ordV_start (fun _ => True) (ButB b10 w7) [11] [(1, none), (2, none), (4, none), (5, none), (6, none), (0, some true), (3, some true), (7, some true), (8, some true), (9, some true), (10, none), (11, some true)] (by kernel_rfl) (by kernel_rfl) (by kernel_rfl) (fun _ _ _ _ _ h => h) (ButB.of_below (Below.refl _ _).drew) ?_
    have HD : Below w7.heap.size w7 w7.drew := (Below.refl _ _).drew
    obtain ⟨Wd, hWd⟩ : ∃ Wd, w7.drew = Wd := ⟨_, rfl⟩
    rw [hWd] at HD ⊢
    clear hWd
    refine ordV_takeR (v := ?_) rfl rfl ?_ ?_; rotate_left 1; (focus (intro W hW; have hcW := hW.cell; (go_simp <;> with_reducible rfl))); (try simp only [Act.put, List.setIfInBounds_toArray, List.set_cons_zero, List.set_cons_succ])
    refine ordV_takeR (v := ?_) rfl rfl ?_ ?_; rotate_left 1; (focus (intro W hW; have hcW := hW.cell; (go_simp <;> with_reducible rfl))); (try simp only [Act.put, List.setIfInBounds_toArray, List.set_cons_zero, List.set_cons_succ])
    refine ordV_takeR (v := ?_) rfl rfl ?_ ?_; rotate_left 1; (focus (intro W hW; have hcW := hW.cell; (go_simp <;> with_reducible rfl))); (try simp only [Act.put, List.setIfInBounds_toArray, List.set_cons_zero, List.set_cons_succ])
    refine ordV_takeR (v := ?_) rfl rfl ?_ ?_; rotate_left 1; (focus (intro W hW; have hcW := hW.cell; (go_simp <;> with_reducible rfl))); (try simp only [Act.put, List.setIfInBounds_toArray, List.set_cons_zero, List.set_cons_succ])
    refine ordV_takeR (v := ?_) rfl rfl ?_ ?_; rotate_left 1; (focus (intro W hW; have hcW := hW.cell; (go_simp <;> with_reducible rfl))); (try simp only [Act.put, List.setIfInBounds_toArray, List.set_cons_zero, List.set_cons_succ])
    refine ordV_call rfl rfl (fun K hK => ?_)
    go_simp
    have HD1 := HD.alloc HD.size (.cells #[] 55)
    refine hK.out _ _ (ButB.of_below HD1) (fun _ _ => trivial) ?_
    clear hK K
    try simp only [Act.put, List.setIfInBounds_toArray, List.set_cons_zero, List.set_cons_succ]
    refine ordV_call rfl rfl (fun K hK => ?_)
    refine wp_appS (enc := encRu5) (R := RRu) _ _ 27 rfl w7.heap.size 55 i0 _ 5 56 Tryz.underlying27 hinf hz0 hz1 hz2 rfl (by decide) (.slice (some ⟨Wd.heap.size, 0, none⟩) 0 0) 0 [] rfl (own_empty Wd _ _ _ HD.size) A3 c3 rs rfl ((HSC5.out.below (HB57.out.trans (HD1.mono HB57.out.size))).sl) (fun _ _ _ h => h) (fun _ => rfl) (ru_one rs) (by omega) (by decide) (by have := HD1.size; exact this) ?_
    intro v4 w4' hown4 hb4 ha4
    have HD4 := HD1.trans hb4
    have HOW4 := Lib.hid hown4
    refine hK.out _ _ (ButB.of_below HD4) (fun _ _ => trivial) ?_
    clear hK K
    try simp only [Act.put, List.setIfInBounds_toArray, List.set_cons_zero, List.set_cons_succ]
    refine ordV_call rfl rfl (fun K hK => ?_)
    go_simp
    go_at_call 15
    refine (made1_any x1.A x1.B x1.a x1.b x1.c x1.d m x1.f x1.t x1.co w4' (HX1.out.below (HBW7.out.trans (HD4.mono HBW7.out.size))).sa (HX1.out.below (HBW7.out.trans (HD4.mono HBW7.out.size))).sb HX1.out.la HX1.out.lb HX1.out.ba HX1.out.bb HX1.out.f HX1.out.t HX1.out.co HMM.out).mono ?_
    rintro e W5 ⟨r, rfl, hr, hb5⟩
    have HD5 := HD4.trans (hb5.mono HD4.size)
    have HRR := Lib.hid hr
    have HOW5 := Lib.hid (own_below HOW4.out hb5)
    refine hK.out _ _ (ButB.of_below HD5) (fun _ _ => trivial) ?_
    clear hK K
    try simp only [Act.put, List.setIfInBounds_toArray, List.set_cons_zero, List.set_cons_succ]
    refine ordV_call rfl rfl (fun K hK => ?_)
    go_simp
    have HD6 := HD5.alloc HD5.size (.cells #[.int .i64 r.fr, .int .i64 r.to, .string r.inp, .string r.out, .int .i64 r.co] 55)
    refine hK.out _ _ (ButB.of_below HD6) (fun _ _ => trivial) ?_
    clear hK K
    try simp only [Act.put, List.setIfInBounds_toArray, List.set_cons_zero, List.set_cons_succ]
    refine ordV_call rfl rfl (fun K hK => ?_)
    refine wp_appS (enc := encRu5) (R := RRu) _ _ 27 rfl w7.heap.size 55 i0 _ 5 56 Tryz.underlying27 hinf hz0 hz1 hz2 rfl (by decide) v4 _ _ rfl (HOW5.out.alloc _) (some ⟨W5.heap.size, 0, none⟩) 1 [r] rfl (slr_blkR (enc := encRu5) (Blk.new_ rfl) (fun _ => rfl) (fun _ => rfl)) (fun _ _ _ h => h) (fun _ => rfl) (ru_one [r]) (by simp; omega) (by decide) (by have := HD6.size; exact this) ?_
    intro v8 w8' hown8 hb8 ha8
    have HD8 := HD6.trans hb8
    have h8 : w8'.ownsRow w7.heap.size 55 5 v8 (rs.length + 1) ((rs ++ [r]).flatMap encRu5) := by rw [List.flatMap_append]; simpa using hown8
    obtain ⟨A9, c9, rfl, hc9, hcm9, _⟩ := own_slr (R := RRu) h8 (fun _ => rfl) (fun _ => rfl) (by simp)
    refine hK.out _ _ (ButB.of_below HD8) (fun _ _ => trivial) ?_
    clear hK K
    try simp only [Act.put, List.setIfInBounds_toArray, List.set_cons_zero, List.set_cons_succ]
    refine ordV_takeR (v := ?_) rfl rfl ?_ ?_; rotate_left 1; (focus (intro W hW; have hcW := hW.cell; (go_simp <;> with_reducible rfl))); (try simp only [Act.put, List.setIfInBounds_toArray, List.set_cons_zero, List.set_cons_succ])
    have hB8' := HB10.out.below HD8 HB10.out.lt
    have d2 := hB8'.cell 2
    have df2 := hB8'.frozen 2
    have dl := hB8'.lt
    simp at d2
    refine ordV_call rfl rfl (fun K hK => ?_)
    go_simp
    refine hK.out _ _ ((ButB.of_below HD8).set_ 2 _) (fun _ _ => trivial) ?_
    clear hK K
    try simp only [Act.put, List.setIfInBounds_toArray, List.set_cons_zero, List.set_cons_succ]
    refine ordV_nil ?_
    have hBE := hB8'.set_ 2 (.slice A9 (rs.length + 1) c9)
    have hne9 : (Value.slice A9 (rs.length + 1) c9).ownBlock ≠ some b10 := fun e => by have := own_block_le h8 _ e; have := HB10.out.lt; omega
    have hOE := own_set h8 (a := ⟨b10, 2, none⟩) hne9 (.slice A9 (rs.length + 1) c9)
    have hbE := (HD8.mono (Nat.le_of_lt HB10.out.lt)).setCell (p := ⟨b10, 2, none⟩) (Nat.le_refl _) (.slice A9 (rs.length + 1) c9)
    go_wp2_with fail
    go_meet
    refine ⟨r, A9, c9, HRR.out, ⟨hc9, hcm9⟩, ?_, by simpa using hBE, hbE⟩
    obtain ⟨A8, c8, he8, _, _, hsl9⟩ := own_slr (R := RRu) hOE (fun _ => rfl) (fun _ => rfl) (by simp)
    obtain ⟨rfl, rfl⟩ : A9 = A8 ∧ c9 = c8 := by injection he8 with h1 h2 h3; exact ⟨h1, h3⟩
    exact hsl9
  case rest =>
    obtain ⟨w8, rfl⟩ : ∃ W, W = wc := ⟨wc, rfl⟩
    obtain ⟨r, A9, c9, HRR, hc9, HSL9, hB10, hb8⟩ := hcut
    have HB58 : Hid (Below w5.heap.size w5 w8) := HB57.out.trans (hb8.mono hb5b)
    have hlen1 : (rs ++ [r]).length = rs.length + 1 := by simp
    have hsc8 : ScIn w8 ⟨(m : Int), 1, rs ++ [r]⟩ A9 c9 := ⟨HSL9.out, by show (rs ++ [r]).length ≤ 65536; omega, fun x hx => by
      rcases List.mem_append.1 hx with hx | hx
      · exact ⟨Nat.le_trans (HOK.out.2.2.2.1 x hx).2.1.1 (by decide), Nat.le_trans (HOK.out.2.2.2.1 x hx).2.2.1.1 (by decide)⟩
      · rw [List.mem_singleton.1 hx]; exact ⟨Nat.le_trans HRR.out.2.1.1 (by decide), Nat.le_trans HRR.out.2.2.1.1 (by decide)⟩, ⟨by show (0 : Int) ≤ 1; decide, by show (1 : Int) ≤ 255; decide⟩, ⟨by show (rs ++ [r]).length ≤ c9; omega, hc9.2⟩⟩
    have HSC2 : Hid (∀ W, Below w8.heap.size w8 W → W.cell? ⟨b10, 0, none⟩ = some (.int .i64 (m : Int)) ∧ W.cell? ⟨b10, 1, none⟩ = some (.int .u8 1) ∧ W.cell? ⟨b10, 2, none⟩ = some (.slice A9 (rs.length + 1) c9) ∧ b10 < W.heap.size) := fun W hW => by
      have e1 := hB10.below hW hB10.lt
      exact ⟨by rw [e1.cell]; rfl, by rw [e1.cell]; rfl, by rw [e1.cell]; rfl, e1.lt⟩
    have HSND2 : Hid (∀ W, Below w8.heap.size w8 W → Calls Tryz.prog 8 #[.agg #[.int .i64 (m : Int), .int .u8 1, .slice A9 (rs.length + 1) c9]] W fun e w' => IsSnd ⟨(m : Int), 1, rs ++ [r]⟩ e ∧ Below W.heap.size W w') := fun W hW => by
      have h := rsound5_any ⟨(m : Int), 1, rs ++ [r]⟩ A9 c9 W (hsc8.below hW)
      rw [hlen1] at h
      exact h
    have HCOST2 : Hid (∀ (t : ByteArray) (W : World), t.size ≤ 1000 → Below w8.heap.size w8 W → Calls Tryz.prog 10 #[.agg #[.int .i64 (m : Int), .int .u8 1, .slice A9 (rs.length + 1) c9], .string inp, .string t] W fun e w' => (∃ r', e = .returned (.int .i64 r') ∧ CostOf ⟨(m : Int), 1, rs ++ [r]⟩ inp t r') ∧ Below W.heap.size W w') := fun t W ht hW => by
      have h := cost05_any ⟨(m : Int), 1, rs ++ [r]⟩ A9 c9 inp t W (hsc8.below hW) (made_flat hm2) (Nat.le_trans hisz (by decide)) ht
      rw [hlen1] at h
      exact h
    have HBEST2 : Hid (∀ (W : World), Below w8.heap.size w8 W → Calls Tryz.prog 11 #[.agg #[.int .i64 (m : Int), .int .u8 1, .slice A9 (rs.length + 1) c9], .string inp, .int .i64 6] W (IsBestR ⟨(m : Int), 1, rs ++ [r]⟩ inp 6 W)) := fun W hW => by
      have h := best05_any ⟨(m : Int), 1, rs ++ [r]⟩ A9 c9 inp 6 W (hsc8.below hW) (made_flat hm2) (Nat.le_trans hisz (by decide)) (by decide) (by decide)
      rw [hlen1] at h
      exact h
    have HGOES2 : Hid (∀ W, Below w8.heap.size w8 W → Calls Tryz.prog 16 #[.agg #[.int .i64 (m : Int), .int .u8 1, .slice A9 (rs.length + 1) c9], .string inp] W (IsGoes ⟨(m : Int), 1, rs ++ [r]⟩ inp W)) := fun W hW => by
      have h := goes05_any ⟨(m : Int), 1, rs ++ [r]⟩ A9 c9 inp W (hsc8.below hW) (made_flat hm2) (Nat.le_trans hisz (by decide))
      rw [hlen1] at h
      exact h
    have HFL2 := Lib.hid (made_flat (rs := rs ++ [r]) hm2)
    have HSUB : Hid (∀ x ∈ rs, x ∈ rs ++ [r]) := fun x hx => List.mem_append_left _ hx
    clear hsc8 hB10 hb8 hlen1 e0 e1 e2 el y0 y1 y2 y3 y4 yl
    obtain ⟨e0, e1, e2, el⟩ := HSCH.out _ HB58.out
    obtain ⟨f0, f1, f2, fl⟩ := HSC2.out _ (Below.refl _ _)
    go_upto_region 5 with fail
    go_cut [41] (fun s41 W => IsKeep (soundE ⟨(m : Int), 1, rs⟩ = 0 ∧ soundE ⟨(m : Int), 1, rs ++ [r]⟩ = 0) s41 ∧ Below w8.heap.size w8 W)
    case first =>
      go_wp2_with (first
        | (go_at_call 8; with_reducible (refine (HSND2.out _ hb9).mono ?_); rintro e w10 ⟨hsn2, hb10⟩; rcases hsn2.parts with ⟨rfl, hse2⟩ | ⟨rfl, hse2⟩ <;> (have HSE2 := Lib.hid hse2; clear hse2))
        | (go_at_call 8; with_reducible (refine (HSND.out _ HB58.out).mono ?_); rintro e w9 ⟨hsn, hb9⟩; rcases hsn.parts with ⟨rfl, hse⟩ | ⟨rfl, hse⟩ <;> (have HSE := Lib.hid hse; clear hse; obtain ⟨f0, f1, f2, fl⟩ := HSC2.out _ hb9)))
      all_goals go_meet
      all_goals first
        | exact ⟨.mk (fun _ => ⟨HSE.out, HSE2.out⟩), hb9.trans (hb10.mono hb9.size)⟩
        | exact ⟨.mk (fun h => by cases h), hb9.trans (hb10.mono hb9.size)⟩
        | exact ⟨.mk (fun h => by cases h), hb9⟩
    case rest =>
      obtain ⟨w9, rfl⟩ : ∃ W, W = wc := ⟨wc, rfl⟩
      obtain ⟨⟨bb, rfl, hbb⟩, hb9⟩ := hcut
      have HBB := Lib.hid hbb
      have HB89 := Lib.hid hb9
      have HB59 := Lib.hid (HB58.out.trans (hb9.mono HB58.out.size))
      clear hbb hb9 e0 e1 e2 el f0 f1 f2 fl
      cases hbv : bb with
      | true =>
        go_wp2_with fail
        go_ret
        exact ⟨rfl, HBW.out.trans (HB59.out.mono HBW.out.size)⟩
      | false =>
        have HEE := Lib.hid (HBB.out hbv)
        obtain ⟨e0, e1, e2, el⟩ := HSCH.out _ HB59.out
        go_upto_region 8 with (go_at_call 11; go_loud (refine (HBEST.out inp 6 _ hisz (by decide) (by decide) HB59.out).mono ?_; rintro e w10 ⟨a, ea, Aa, ca, rfl, ha, hca, hsa, hb10⟩))
        have hRC := rules_cost HEE.out.1 HEE.out.2 HFL.out HSUB.out rfl HLET.out.1 ha
        have HRC := Lib.hid hRC
        have HSA10 := Lib.hid hsa
        have HB510 := Lib.hid (HB59.out.trans (hb10.mono HB59.out.size))
        have HB810 := Lib.hid (HB89.out.trans (hb10.mono HB89.out.size))
        have hal : a.length ≤ 9223372036854775807 := by have h1 := hca.1; have h2 := hca.2; unfold maxLen at h2; omega
        clear ha hRC hsa hb10 e0 e1 e2 el
        go_wp2_with fail
        go_loopw [13] (fun i wr => ∃ q : Nat, q ≤ a.length ∧ i = .int .i64 (q : Int) ∧ Below w10.heap.size w10 wr) (fun i _ => a.length - (intOf i).toNat)
        case atStart => exact ⟨0, Nat.zero_le _, rfl, Below.refl _ _⟩
        case round =>
          obtain ⟨wR, rfl⟩ : ∃ W, W = wr := ⟨wr, rfl⟩
          obtain ⟨q, hq, rfl, hbR⟩ := hrel
          have HBR := Lib.hid hbR
          have HB8R := Lib.hid (HB810.out.trans (hbR.mono HB810.out.size))
          have HB5R := Lib.hid (HB510.out.trans (hbR.mono HB510.out.size))
          clear hbR
          by_cases hlt : q < a.length
          · have hqi : (q : Int) < (a.length : Int) := by omega
            have hq0 : (0 : Int) ≤ (q : Int) := by omega
            obtain ⟨bk, off, y, rfl, hbb2, hyy, d0, d1⟩ := (HSA10.out.below keeps_rs HBR.out).rs hlt
            have hmem := List.mem_of_getElem? hyy
            have HYC := Lib.hid (HRC.out.1 y hmem)
            have HCY : Hid (∀ W, Below wR.heap.size wR W → Calls Tryz.prog 10 #[.agg #[.int .i64 (m : Int), .int .u8 1, .slice A9 (rs.length + 1) c9], .string inp, .string y.tx] W fun e w' => (∃ r', e = .returned (.int .i64 r') ∧ CostOf ⟨(m : Int), 1, rs ++ [r]⟩ inp y.tx r') ∧ Below W.heap.size W w') := fun W hW => HCOST2.out y.tx W HYC.out.1 (HB8R.out.trans (hW.mono HB8R.out.size))
            obtain ⟨f0, f1, f2, fl⟩ := HSC2.out _ HB8R.out
            clear hmem hyy
            go_upto_region 11 with fail
            go_cut [14] (fun s14 W => ∃ r0 : Int, s14 = .int .i64 r0 ∧ Hid (CostOf ⟨(m : Int), 1, rs ++ [r]⟩ inp y.tx r0) ∧ Below wR.heap.size wR W)
            case first =>
              refine ordB_below (.quiet 0 (.quiet 1 (.quiet 2 (.quiet 3 (.quiet 4 (.quiet 5 (.quiet 6 (.only 7 (.quiet 8 .done))))))))) (by kernel_rfl) (by kernel_rfl) (by kernel_rfl) (fun _ _ _ _ _ h => h) ?_
              intro V0 hV0
              iterate 7 (first
                | (refine ordB_skip rfl rfl ?_; simp only [Act.put, List.setIfInBounds_toArray, List.set_cons_zero, List.set_cons_succ])
                | (refine ordB_take (v := ?_) rfl rfl ?_ ?_
                   rotate_left 1
                   focus (intro W hW; obtain ⟨hcW, hfW⟩ := bcell hW; (go_simp <;> with_reducible rfl))
                   simp only [Act.put, List.setIfInBounds_toArray, List.set_cons_zero, List.set_cons_succ]))
              refine ordB_only (opB_call rfl rfl (fun K hK => ?_))
              go_simp
              go_at_call 10
              refine (HCY.out V0 hV0).mono ?_
              rintro e V0_1 ⟨⟨r0, rfl, hr0⟩, hq1⟩
              refine hK.out _ _ (hV0.trans (hq1.mono hV0.size)) (fun hV0_1 => ?_)
              iterate 1 (first
                | (refine ordB_skip rfl rfl ?_; simp only [Act.put, List.setIfInBounds_toArray, List.set_cons_zero, List.set_cons_succ])
                | (refine ordB_take (v := ?_) rfl rfl ?_ ?_
                   rotate_left 1
                   focus (intro W hW; obtain ⟨hcW, hfW⟩ := bcell hW; (go_simp <;> with_reducible rfl))
                   simp only [Act.put, List.setIfInBounds_toArray, List.set_cons_zero, List.set_cons_succ]))
              refine ordB_nil ?_
              have HR0 := Lib.hid hr0
              clear hr0
              go_wp2_with fail
              go_meet
              exact ⟨r0, rfl, HR0.out, hV0_1⟩
            case rest =>
              obtain ⟨wC, rfl⟩ : ∃ W, W = wc := ⟨wc, rfl⟩
              obtain ⟨r0, rfl, HR0, hbC⟩ := hcut
              obtain ⟨hr1, hr2⟩ := HYC.out.2 r0 HR0.out
              have hr3 : ¬ r0 < 0 := by omega
              have hr4 : ¬ y.co < r0 := by omega
              have d1 := (hbC.cell (p := ⟨bk, _, none⟩) hbb2).trans d1
              have hbb2 := Nat.lt_of_lt_of_le hbb2 hbC.size
              have HBC := Lib.hid hbC
              clear hbC d0 f0 f1 f2 fl
              go_wp2_with fail
              go_roundw
              case rel => exact ⟨q + 1, by omega, by go_num, HBR.out.trans (HBC.out.mono HBR.out.size)⟩
              case measure => simp [intOf]; omega
          · obtain rfl : q = a.length := by omega
            have hqi : ¬ ((a.length : Nat) : Int) < (a.length : Int) := by omega
            obtain ⟨f0, f1, f2, fl⟩ := HSC2.out _ HB8R.out
            go_upto_region 15 with (go_at_call 11; go_loud (refine (HBEST2.out _ HB8R.out).mono ?_; rintro e w11 ⟨b, eb, Ab, cb, rfl, hb, hcb, hsb, hb11⟩))
            have HFE : Hid (ea = 0 → eb = 0 ∨ eb = 2) := fun h => rules_err HEE.out.1 HEE.out.2 HFL.out HFL2.out HSUB.out rfl HLET.out.1 (by decide) (HRC.out.2 h) hb
            have HB811 := Lib.hid (HB8R.out.trans (hb11.mono HB8R.out.size))
            have HB511 := Lib.hid (HB5R.out.trans (hb11.mono HB5R.out.size))
            clear hb hsb hb11 f0 f1 f2 fl
            have hcase : (¬ ea = 0) ∨ (ea = 0 ∧ eb = 0) ∨ (ea = 0 ∧ eb = 2) := by
              by_cases h : ea = 0
              · rcases HFE.out h with h2 | h2
                · exact .inr (.inl ⟨h, h2⟩)
                · exact .inr (.inr ⟨h, h2⟩)
              · exact .inl h
            obtain ⟨e0, e1, e2, el⟩ := HSCH.out _ HB511.out
            have HG2 : Hid (∀ W, Below w8.heap.size w8 W → GoesOf ⟨(m : Int), 1, rs⟩ inp true → Calls Tryz.prog 16 #[.agg #[.int .i64 (m : Int), .int .u8 1, .slice A9 (rs.length + 1) c9], .string inp] W fun e w' => e = .returned (.bool true) ∧ Below W.heap.size W w') := fun W hW hg => (HGOES2.out W hW).mono fun e w' ⟨⟨b2, h1, h2⟩, h3⟩ => ⟨by rw [h1, rules_goes HEE.out.2 HSUB.out hg h2 rfl], h3⟩
            rcases hcase with h1 | ⟨rfl, rfl⟩ | ⟨rfl, rfl⟩
            all_goals
              go_wp2_with (first
                | (go_at_call 16; go_loud (with_reducible (refine (HG2.out _ (HB811.out.trans (hb12.mono HB811.out.size)) HGO.out).mono ?_); rintro e w13 ⟨rfl, hb13⟩))
                | (go_at_call 16; go_loud (with_reducible (refine (HGOES.out _ HB511.out).mono ?_); rintro e w12 hgo; obtain ⟨hgp, hb12⟩ := hgo.parts; clear hgo; rcases hgp with ⟨rfl, hgq⟩ | rfl <;> ((try have HGO := Lib.hid hgq); (try clear hgq); obtain ⟨f0, f1, f2, fl⟩ := HSC2.out _ (HB811.out.trans (hb12.mono HB811.out.size))))))
            all_goals go_ret
            all_goals first
              | exact ⟨rfl, HBW.out.trans ((HB511.out.trans ((hb12.trans (hb13.mono hb12.size)).mono HB511.out.size)).mono HBW.out.size)⟩
              | exact ⟨rfl, HBW.out.trans ((HB511.out.trans (hb12.mono HB511.out.size)).mono HBW.out.size)⟩
end Go.Proofs.YtkjfdjcagfkdhaaGreat
