/-
  OutputJoins: the walk.
-/
import Derived.Test.YtkjfdjcagfkdhaaGreatP32
import Derived.Test.YtkjfdjcagfkdhaaGreatP23
import Derived.Test.YtkjfdjcagfkdhaaGreatP28
import Derived.Test.YtkjfdjcagfkdhaaGreatP36
import Derived.Test.YtkjfdjcagfkdhaaGreatP05
namespace Go.Proofs.YtkjfdjcagfkdhaaGreat
open Go Go.RowKit

theorem joins_plain {rs : List Ru} (hE : soundE ⟨1, 1, rs⟩ = 0) {ma mb ca cb r1 r2 r3 : Int} {ia oa ib ob : ByteArray} (ha : Rte ⟨1, 1, rs⟩ ma ia oa ca) (hb : Rte ⟨1, 1, rs⟩ mb ib ob cb) (hia : ia.size ≤ 6) (hib : ib.size ≤ 6)
    (h1 : CostOf ⟨1, 1, rs⟩ ia oa r1) (h2 : CostOf ⟨1, 1, rs⟩ ib ob r2) (h3 : CostOf ⟨1, 1, rs⟩ (ia ++ ib) (oa ++ ob) r3) : (0 ≤ r1 ∧ r1 ≤ ca) ∧ (0 ≤ r2 ∧ r2 ≤ cb) ∧ 0 ≤ r3 ∧ r3 ≤ r1 + r2 := by
  obtain ⟨hok, hsp⟩ := soundE_iff.1 hE
  have m1 := rte_mode hok ha
  have m2 := rte_mode hok hb
  obtain rfl : ma = 0 := by have h : ma < 1 := m1.2; omega
  obtain rfl : mb = 0 := by have h : mb < 1 := m2.2; omega
  have hacc : accB (⟨1, 1, rs⟩ : Sc).acc 0 = true := by show accB 1 0 = true; decide
  have hla := rte_let hok ha (by omega)
  have hlb := rte_let hok hb (by omega)
  have w1 : Whole ⟨1, 1, rs⟩ ia oa ca := ⟨0, hacc, ha⟩
  have w2 : Whole ⟨1, 1, rs⟩ ib ob cb := ⟨0, hacc, hb⟩
  obtain ⟨a1, a2, a3⟩ := cost_whole hE hla w1 h1
  obtain ⟨b1, b2, b3⟩ := cost_whole hE hlb w2 h2
  have hto : ∀ r ∈ (⟨1, 1, rs⟩ : Sc).rs, r.to = 0 := fun r hr => by have h := (hok.2.2.2.1 r hr).1.2; have h2 : r.to < 1 := h.2; omega
  have hlj : letB (ia ++ ib) = true := letB_iff.2 ⟨by rw [ByteArray.size_append]; omega, by rw [smallS_app, rte_small hok ha, rte_small hok hb]; rfl⟩
  obtain ⟨c1, c2, _⟩ := cost_whole hE hlj (whole_join hto a3 b3) h3
  exact ⟨⟨a1, a2⟩, ⟨b1, b2⟩, c1, c2⟩
set_option maxRecDepth 100000 in
set_option maxHeartbeats 16000000 in
theorem outputJoins_any (A : Option Addr) (xs : List Rw) (c : Nat) (qb qd : Int) (B : Option Addr) (l : List Int) (d : Nat) (B2 : Option Addr) (l2 : List Int) (d2 : Nat) (w : World) (hx : SlR 5 RRw w A xs) (hl0 : xs.length ≤ maxLen) (hqb : 0 ≤ qb ∧ qb ≤ 255) (hqd : 0 ≤ qd ∧ qd ≤ 255)
    (hy : SlR 1 RU8 w B l) (hll : l.length ≤ maxLen) (hl8 : ∀ x ∈ l, 0 ≤ x ∧ x ≤ 255) (hy2 : SlR 1 RU8 w B2 l2) (hll2 : l2.length ≤ maxLen) (hl82 : ∀ x ∈ l2, 0 ≤ x ∧ x ≤ 255) :
    Calls Tryz.prog 4 #[.agg #[.int .u8 qb, .int .u8 qd, .slice A xs.length c], .slice B l.length d, .slice B2 l2.length d2] w fun e w' => e = .returned (.bool true) ∧ Below w.heap.size w w' := by
  obtain ⟨w1, hw1⟩ : ∃ w1, (w.alloc (.cells #[.int .u8 qb, .int .u8 qd, .slice A xs.length c] 24)) = w1 := ⟨_, rfl⟩
  obtain ⟨g, hg⟩ : ∃ g, w.heap.size = g := ⟨_, rfl⟩
  have hb1 : Below w.heap.size w w1 := by rw [← hw1]; exact nw _ (Below.refl _ _)
  have hX0 : Blk w1 g 24 #[.int .u8 qb, .int .u8 qd, .slice A xs.length c] := by rw [← hw1]; exact (Blk.new_ hg.symm)
  have HW1 := Lib.hid hw1
  have HG := Lib.hid hg
  have HB1 := Lib.hid hb1
  have HKP : Hid (∀ W, Below w1.heap.size w1 W → (W.cell? ⟨g, 0, none⟩ = some (.int .u8 qb) ∧ W.cell? ⟨g, 1, none⟩ = some (.int .u8 qd) ∧ W.cell? ⟨g, 2, none⟩ = some (.slice A xs.length c) ∧ g < W.heap.size)) := fun W hW => ⟨by rw [(hX0.below hW hX0.lt).cell]; rfl, by rw [(hX0.below hW hX0.lt).cell]; rfl, by rw [(hX0.below hW hX0.lt).cell]; rfl, (hX0.below hW hX0.lt).lt⟩
  have HMA : Hid (∀ W, Below w1.heap.size w1 W → Calls Tryz.prog 7 #[.agg #[.int .u8 qb, .int .u8 qd, .slice A xs.length c]] W (IsMade W)) := fun W hW => made_any5 A xs c qb qd W (hx.below keeps_rw (hb1.trans (hW.mono hb1.size))) hl0 hqb hqd
  have HSA : Hid (∀ W, Calls Tryz.prog 6 #[] W fun e w' => e = .returned (.bool true) ∧ Below W.heap.size W w') := sanity5_any
  have HY := Lib.hid (And.intro hy (And.intro hll hl8))
  have HY2 := Lib.hid (And.intro hy2 (And.intro hll2 hl82))
  clear hw1 hg hb1 hX0 hx hy hy2 hll hll2 hl8 hl82
  go_enter Tryz.func4, Tryz.ntmps4
  go_upto_region 1 with fail
  rw [HW1.out, HG.out]
  go_upto_region 3 with (first
    | (go_at_call 6; go_loud (refine (HSA.out _).mono ?_; rintro e w2 ⟨rfl, hb2⟩; obtain ⟨x0, x1, x2, xl⟩ := HKP.out _ hb2))
    | (go_at_call 7; go_loud (refine (HMA.out _ hb2).mono ?_; rintro e w3 ⟨m, rs, A3, c3, rfl, hm, hrs9, hok, hsc, hb3⟩; have hb13 := hb2.trans (hb3.mono hb2.size))))
  obtain ⟨b8, hb8⟩ : ∃ x, w3.heap.size = x := ⟨_, rfl⟩
  generalize hw5 : w3.alloc (.cells _ 29) = w5
  have hB8 : Blk w5 b8 29 #[.int .i64 (m : Int), .int .u8 1, .slice A3 rs.length c3] := by rw [← hw5]; exact Blk.new_ hb8.symm
  have hb15 : Below w1.heap.size w1 w5 := by rw [← hw5]; exact hb13.alloc hb13.size _
  have hsc5 : ScIn w5 ⟨(m : Int), 1, rs⟩ A3 c3 := by rw [← hw5]; exact hsc.below (nw _ (Below.refl _ _))
  rw [hb8]
  have HSCH : Hid (∀ W, Below w5.heap.size w5 W → W.cell? ⟨b8, 0, none⟩ = some (.int .i64 (m : Int)) ∧ W.cell? ⟨b8, 1, none⟩ = some (.int .u8 1) ∧ W.cell? ⟨b8, 2, none⟩ = some (.slice A3 rs.length c3) ∧ b8 < W.heap.size) := fun W hW => by
    have e1 := hB8.below hW hB8.lt
    exact ⟨by rw [e1.cell]; rfl, by rw [e1.cell]; rfl, by rw [e1.cell]; rfl, e1.lt⟩
  have HSND : Hid (∀ W, Below w5.heap.size w5 W → Calls Tryz.prog 8 #[.agg #[.int .i64 (m : Int), .int .u8 1, .slice A3 rs.length c3]] W fun e w' => IsSnd ⟨(m : Int), 1, rs⟩ e ∧ Below W.heap.size W w') := fun W hW => rsound5_any ⟨(m : Int), 1, rs⟩ A3 c3 W (hsc5.below hW)
  have HCOST : Hid (∀ (i t : ByteArray) (W : World), i.size ≤ 1000 → t.size ≤ 1000 → Below w5.heap.size w5 W → Calls Tryz.prog 10 #[.agg #[.int .i64 (m : Int), .int .u8 1, .slice A3 rs.length c3], .string i, .string t] W fun e w' => (∃ r, e = .returned (.int .i64 r) ∧ CostOf ⟨(m : Int), 1, rs⟩ i t r) ∧ Below W.heap.size W w') := fun i t W hi ht hW => cost05_any ⟨(m : Int), 1, rs⟩ A3 c3 i t W (hsc5.below hW) (made_flat hm.2) (Nat.le_trans hi (by decide)) ht
  have HWALK : Hid (∀ (B : Option Addr) (l : List Int) (d : Nat) (n : Int) (W : World), SlR 1 RU8 w B l → l.length ≤ maxLen → (∀ x ∈ l, 0 ≤ x ∧ x ≤ 255) → (0 ≤ n ∧ n ≤ 8) → Below w5.heap.size w5 W → Calls Tryz.prog 9 #[.agg #[.int .i64 (m : Int), .int .u8 1, .slice A3 rs.length c3], .slice B l.length d, .int .i64 n] W (IsWalk ⟨(m : Int), 1, rs⟩ W)) := fun B l d n W h1 h2 h3 h4 hW => walk5_any ⟨(m : Int), 1, rs⟩ A3 c3 B l d n W (hsc5.below hW) hok (h1.below keeps_u8 ((HB1.out.trans (hb15.mono HB1.out.size)).trans (hW.mono (by have := HB1.out.size; have := hb15.size; omega)))) h2 h3 h4
  have HBEST : Hid (∀ (i : ByteArray) (q : Int) (W : World), i.size ≤ 1000 → 0 ≤ q → q ≤ 1000 → Below w5.heap.size w5 W → Calls Tryz.prog 11 #[.agg #[.int .i64 (m : Int), .int .u8 1, .slice A3 rs.length c3], .string i, .int .i64 q] W (IsBestR ⟨(m : Int), 1, rs⟩ i q W)) := fun i q W hi h0 h1 hW => best05_any ⟨(m : Int), 1, rs⟩ A3 c3 i q W (hsc5.below hW) (made_flat hm.2) (Nat.le_trans hi (by decide)) h0 h1
  have HBW := Lib.hid (HB1.out.trans (hb15.mono HB1.out.size))
  have HB15 := Lib.hid hb15
  have HFL := Lib.hid (made_flat (rs := rs) hm.2)
  have HOK := Lib.hid hok
  have HSC5 := Lib.hid hsc5
  have HMM := Lib.hid hm
  clear hw5 hb8 hB8 hb15 hsc5 hsc hb13 hb3 hb2 x0 x1 x2 xl HMA HSA HKP HB1 hok hrs9 HG HW1
  obtain ⟨e0, e1, e2, el⟩ := HSCH.out _ (Below.refl _ _)
  have hm1 := hm.1
  have hm2 := hm.2
  clear hm
  go_cut [26] (fun s26 W => IsKeep (soundE ⟨(m : Int), 1, rs⟩ = 0 ∧ m = 1) s26 ∧ Below w5.heap.size w5 W)
  case first =>
    by_cases hmm : m = 1
    · have hmi2 : ((m : Int) == 1) = true := by rw [hmm]; rfl
      have HM1 := Lib.hid hmm
      clear hmm
      go_wp2_with (go_at_call 8; go_loud (refine (HSND.out _ (Below.refl _ _)).mono ?_; rintro e w6 ⟨hsn, hb6⟩; rcases hsn.parts with ⟨rfl, hse⟩ | ⟨rfl, hse⟩ <;> (have HSE := Lib.hid hse; clear hse; obtain ⟨e0, e1, e2, el⟩ := HSCH.out _ hb6)))
      · go_meet
        exact ⟨.mk (fun _ => ⟨HSE.out, HM1.out⟩), hb6⟩
      · go_meet
        exact ⟨.mk (fun h => by cases h), hb6⟩
    · have hmi2 : ((m : Int) == 1) = false := by rw [beq_eq_false_iff_ne]; omega
      clear hmm
      go_wp2_with (go_at_call 8; go_loud (refine (HSND.out _ (Below.refl _ _)).mono ?_; rintro e w6 ⟨hsn, hb6⟩; rcases hsn.parts with ⟨rfl, hse⟩ | ⟨rfl, hse⟩ <;> (have HSE := Lib.hid hse; clear hse; obtain ⟨e0, e1, e2, el⟩ := HSCH.out _ hb6)))
      · go_meet
        exact ⟨.mk (fun h => by rw [bne, hmi2] at h; cases h), hb6⟩
      · go_meet
        exact ⟨.mk (fun h => by cases h), hb6⟩
  case rest =>
    obtain ⟨w6, rfl⟩ : ∃ W, W = wc := ⟨wc, rfl⟩
    obtain ⟨⟨bb, rfl, hbb⟩, hb6⟩ := hcut
    have HBB := Lib.hid hbb
    clear hbb e0 e1 e2 el
    cases hbv : bb with
    | true =>
      go_wp2_with fail
      go_ret
      exact ⟨rfl, HBW.out.trans (hb6.mono HBW.out.size)⟩
    | false =>
      obtain ⟨hE, rfl⟩ := HBB.out hbv
      have HE : Hid (soundE ⟨1, 1, rs⟩ = 0) := hE
      clear hE
      obtain ⟨e0, e1, e2, el⟩ := HSCH.out _ hb6
      go_upto_region 6 with (go_at_call 9; go_loud (refine (HWALK.out B l d 8 _ HY.out.1 HY.out.2.1 HY.out.2.2 (by omega) hb6).mono ?_; rintro e w7 ⟨⟨ia, oa, ca, ma, rfl, hra, hia, hoa, hca0, hca⟩, hb7⟩))
      obtain ⟨b9, hb9⟩ : ∃ x, w7.heap.size = x := ⟨_, rfl⟩
      obtain ⟨w8, hw8⟩ : ∃ W, w7.alloc (.cells #[.string ia, .string oa, .int .i64 ca] 33) = W := ⟨_, rfl⟩
      have hB9 : Blk w8 b9 33 #[.string ia, .string oa, .int .i64 ca] := by rw [← hw8]; exact Blk.new_ hb9.symm
      have hb58 : Below w5.heap.size w5 w8 := by rw [← hw8]; exact (hb6.trans (hb7.mono hb6.size)).alloc (by have := hb6.size; have := hb7.size; omega) _
      rw [hb9, hw8]
      have HRA := Lib.hid hra
      clear hw8 hb9 hra hb7 hb6 e0 e1 e2 el
      obtain ⟨e0, e1, e2, el⟩ := HSCH.out _ hb58
      go_upto_region 7 with (go_at_call 9; go_loud (refine (HWALK.out B2 l2 d2 8 _ HY2.out.1 HY2.out.2.1 HY2.out.2.2 (by omega) hb58).mono ?_; rintro e w9 ⟨⟨ib, ob, cb, mb, rfl, hrb, hib, hob, hcb0, hcb⟩, hb9⟩))
      obtain ⟨b11, hb11⟩ : ∃ x, w9.heap.size = x := ⟨_, rfl⟩
      obtain ⟨w10, hw10⟩ : ∃ W, w9.alloc (.cells #[.string ib, .string ob, .int .i64 cb] 33) = W := ⟨_, rfl⟩
      have hB11 : Blk w10 b11 33 #[.string ib, .string ob, .int .i64 cb] := by rw [← hw10]; exact Blk.new_ hb11.symm
      have hB9' : Blk w10 b9 33 #[.string ia, .string oa, .int .i64 ca] := by rw [← hw10]; exact (hB9.below hb9 hB9.lt).alloc _
      have hb510 : Below w5.heap.size w5 w10 := by rw [← hw10]; exact (hb58.trans (hb9.mono hb58.size)).alloc (by have := hb58.size; have := hb9.size; omega) _
      rw [hb11, hw10]
      have HRB := Lib.hid hrb
      have HB510 := Lib.hid hb510
      have HBOX : Hid (∀ W, Below w10.heap.size w10 W → (W.cell? ⟨b9, 0, none⟩ = some (.string ia) ∧ W.cell? ⟨b9, 1, none⟩ = some (.string oa) ∧ b9 < W.heap.size) ∧ (W.cell? ⟨b11, 0, none⟩ = some (.string ib) ∧ W.cell? ⟨b11, 1, none⟩ = some (.string ob) ∧ b11 < W.heap.size)) := fun W hW => by
        have e1 := hB9'.below hW hB9'.lt
        have e2 := hB11.below hW hB11.lt
        exact ⟨⟨by rw [e1.cell]; rfl, by rw [e1.cell]; rfl, e1.lt⟩, ⟨by rw [e2.cell]; rfl, by rw [e2.cell]; rfl, e2.lt⟩⟩
      clear hw10 hb11 hrb hb9 hb58 hb510 hB9 hB9' hB11 e0 e1 e2 el
      obtain ⟨e0, e1, e2, el⟩ := HSCH.out _ HB510.out
      obtain ⟨⟨p0, p1, pl⟩, q0, q1, ql⟩ := HBOX.out _ (Below.refl _ _)
      go_cut [13, 14] (fun s13 s14 W => ∃ r1 r2 : Int, s13 = .int .i64 r1 ∧ s14 = .int .i64 r2 ∧ Hid (CostOf ⟨1, 1, rs⟩ ia oa r1) ∧ Hid (CostOf ⟨1, 1, rs⟩ ib ob r2) ∧ Below w10.heap.size w10 W)
      case first =>
        refine ordB_below (.quiet 0 (.quiet 1 (.quiet 2 (.quiet 3 (.quiet 4 (.quiet 6 (.quiet 7 (.quiet 8 (.quiet 9 (.quiet 10 (.only 5 (.only 11 (.quiet 12 (.quiet 13 .done)))))))))))))) (by kernel_rfl) (by kernel_rfl) (by kernel_rfl) (fun _ _ _ _ _ h => h) ?_
        intro V0 hV0
        iterate 10 (first
          | (refine ordB_skip rfl rfl ?_; simp only [Act.put, List.setIfInBounds_toArray, List.set_cons_zero, List.set_cons_succ])
          | (refine ordB_take (v := ?_) rfl rfl ?_ ?_
             rotate_left 1
             focus (intro W hW; obtain ⟨hcW, hfW⟩ := bcell hW; (go_simp <;> with_reducible rfl))
             simp only [Act.put, List.setIfInBounds_toArray, List.set_cons_zero, List.set_cons_succ]))
        refine ordB_only (opB_call rfl rfl (fun K hK => ?_))
        go_simp
        go_at_call 10
        refine (HCOST.out ia oa V0 (by omega) (by omega) (HB510.out.trans (hV0.mono HB510.out.size))).mono ?_
        rintro e V0_1 ⟨⟨r1, rfl, hr1⟩, hq1⟩
        refine hK.out _ _ (hV0.trans (hq1.mono hV0.size)) (fun hV0_1 => ?_)
        refine ordB_only (opB_call rfl rfl (fun K hK => ?_))
        go_simp
        go_at_call 10
        refine (HCOST.out ib ob V0_1 (by omega) (by omega) (HB510.out.trans (hV0_1.mono HB510.out.size))).mono ?_
        rintro e V0_1_2 ⟨⟨r2, rfl, hr2⟩, hq2⟩
        refine hK.out _ _ (hV0_1.trans (hq2.mono hV0_1.size)) (fun hV0_1_2 => ?_)
        iterate 2 (first
          | (refine ordB_skip rfl rfl ?_; simp only [Act.put, List.setIfInBounds_toArray, List.set_cons_zero, List.set_cons_succ])
          | (refine ordB_take (v := ?_) rfl rfl ?_ ?_
             rotate_left 1
             focus (intro W hW; obtain ⟨hcW, hfW⟩ := bcell hW; (go_simp <;> with_reducible rfl))
             simp only [Act.put, List.setIfInBounds_toArray, List.set_cons_zero, List.set_cons_succ]))
        refine ordB_nil ?_
        have HR1 := Lib.hid hr1
        have HR2 := Lib.hid hr2
        clear hr1 hr2
        go_wp2_with fail
        go_meet
        exact ⟨r1, r2, rfl, rfl, HR1.out, HR2.out, hV0_1_2⟩
      case rest =>
        obtain ⟨w11, rfl⟩ : ∃ W, W = wc := ⟨wc, rfl⟩
        obtain ⟨r1, r2, rfl, rfl, HR1, HR2, hb11⟩ := hcut
        have hb511 := HB510.out.trans (hb11.mono HB510.out.size)
        obtain ⟨⟨p0, p1, pl⟩, q0, q1, ql⟩ := HBOX.out _ hb11
        obtain ⟨e0, e1, e2, el⟩ := HSCH.out _ hb511
        have hz1 : ¬ 9223372036854775807 < ia.size + ib.size := by omega
        have hz2 : ¬ 9223372036854775807 < oa.size + ob.size := by omega
        have hz3 : (ia ++ ib).size ≤ 1000 := by rw [ByteArray.size_append]; omega
        have hz4 : (oa ++ ob).size ≤ 1000 := by rw [ByteArray.size_append]; omega
        go_upto_region 9 with (go_at_call 10; go_loud (refine (HCOST.out (ia ++ ib) (oa ++ ob) _ hz3 hz4 hb511).mono ?_; rintro e w12 ⟨⟨r3, rfl, hr3⟩, hb12⟩))
        obtain ⟨⟨h1, h1'⟩, ⟨h2, h2'⟩, h3, h4⟩ := joins_plain HE.out HRA.out HRB.out hia hib HR1.out HR2.out hr3
        have hwr : IntKind.i64.wrap (r1 + r2) = r1 + r2 := IntWalk.i64_in _ (by omega)
        clear hr3
        go_wp2_with fail
        go_ret
        exact ⟨rfl, HBW.out.trans ((hb511.trans (hb12.mono hb511.size)).mono HBW.out.size)⟩
end Go.Proofs.YtkjfdjcagfkdhaaGreat
