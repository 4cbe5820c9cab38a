/-
  OutputRoutes: the walk.
-/
import Derived.Test.YtkjfdjcagfkdhaaGreatPOuGo
import Derived.Test.YtkjfdjcagfkdhaaGreatP32
import Derived.Test.YtkjfdjcagfkdhaaGreatP23
import Derived.Test.YtkjfdjcagfkdhaaGreatP28
import Derived.Test.YtkjfdjcagfkdhaaGreatP05
namespace Go.Proofs.YtkjfdjcagfkdhaaGreat
open Go Go.RowKit

def FdB (p : Prop) (v : Value) : Prop := ∃ bb : Bool, v = .bool bb ∧ (bb = true ↔ p)
theorem FdB.mk {p : Prop} {bb : Bool} (h : bb = true ↔ p) : FdB p (.bool bb) := ⟨bb, rfl, h⟩
set_option maxRecDepth 100000 in
set_option maxHeartbeats 16000000 in
theorem outputRoutes_any (A : Option Addr) (xs : List Rw) (c : Nat) (qb qd : Int) (B : Option Addr) (l : List Int) (d : Nat) (pn : Int) (w : World) (hx : SlR 5 RRw w A xs) (hl0 : xs.length ≤ maxLen) (hqb : 0 ≤ qb ∧ qb ≤ 255) (hqd : 0 ≤ qd ∧ qd ≤ 255)
    (hy : SlR 1 RU8 w B l) (hll : l.length ≤ maxLen) (hl8 : ∀ x ∈ l, 0 ≤ x ∧ x ≤ 255) (hpn : 0 ≤ pn ∧ pn ≤ 255) :
    Calls Tryz.prog 3 #[.agg #[.int .u8 qb, .int .u8 qd, .slice A xs.length c], .slice B l.length d, .int .u8 pn] w fun e w' => e = .returned (.bool true) ∧ Below w.heap.size w w' := by
  obtain ⟨w1, hw1⟩ : ∃ w1, (w.alloc (.cells #[.int .u8 qb, .int .u8 qd, .slice A xs.length c] 24)) = w1 := ⟨_, rfl⟩
  obtain ⟨g, hg⟩ : ∃ g, w.heap.size = g := ⟨_, rfl⟩
  have hb1 : Below w.heap.size w w1 := by rw [← hw1]; exact nw _ (Below.refl _ _)
  have hX0 : Blk w1 g 24 #[.int .u8 qb, .int .u8 qd, .slice A xs.length c] := by rw [← hw1]; exact (Blk.new_ hg.symm)
  have HW1 := Lib.hid hw1
  have HG := Lib.hid hg
  have HB1 := Lib.hid hb1
  have HKP : Hid (∀ W, Below w1.heap.size w1 W → (W.cell? ⟨g, 0, none⟩ = some (.int .u8 qb) ∧ W.cell? ⟨g, 1, none⟩ = some (.int .u8 qd) ∧ W.cell? ⟨g, 2, none⟩ = some (.slice A xs.length c) ∧ g < W.heap.size)) := fun W hW => ⟨by rw [(hX0.below hW hX0.lt).cell]; rfl, by rw [(hX0.below hW hX0.lt).cell]; rfl, by rw [(hX0.below hW hX0.lt).cell]; rfl, (hX0.below hW hX0.lt).lt⟩
  have HMA : Hid (∀ W, Below w1.heap.size w1 W → Calls Tryz.prog 7 #[.agg #[.int .u8 qb, .int .u8 qd, .slice A xs.length c]] W (IsMade W)) := fun W hW => made_any5 A xs c qb qd W (hx.below keeps_rw (hb1.trans (hW.mono hb1.size))) hl0 hqb hqd
  have HSA : Hid (∀ W, Calls Tryz.prog 6 #[] W fun e w' => e = .returned (.bool true) ∧ Below W.heap.size W w') := sanity5_any
  have HY := Lib.hid (And.intro hy (And.intro hll hl8))
  have htm : pn.tmod 8 = pn % 8 := Int.tmod_eq_emod_of_nonneg hpn.1
  have hq8 : 0 ≤ pn % 8 ∧ pn % 8 ≤ 7 := by omega
  obtain ⟨nn, hnn⟩ : ∃ z, pn % 8 = z := ⟨_, rfl⟩
  rw [hnn] at htm hq8
  have hwn : IntKind.i64.wrap nn = nn := IntWalk.i64_in _ (by omega)
  clear hw1 hg hb1 hX0 hx hy hll hl8 hnn
  go_enter Tryz.func3, Tryz.ntmps3
  go_upto_region 1 with fail
  rw [HW1.out, HG.out]
  go_upto_region 3 with (first
    | (go_at_call 6; go_loud (refine (HSA.out _).mono ?_; rintro e w2 ⟨rfl, hb2⟩; obtain ⟨x0, x1, x2, xl⟩ := HKP.out _ hb2))
    | (go_at_call 7; go_loud (refine (HMA.out _ hb2).mono ?_; rintro e w3 ⟨m, rs, A3, c3, rfl, hm, hrs9, hok, hsc, hb3⟩; have hb13 := hb2.trans (hb3.mono hb2.size))))
  obtain ⟨b8, hb8⟩ : ∃ x, w3.heap.size = x := ⟨_, rfl⟩
  generalize hw5 : w3.alloc (.cells _ 29) = w5
  have hB8 : Blk w5 b8 29 #[.int .i64 (m : Int), .int .u8 1, .slice A3 rs.length c3] := by rw [← hw5]; exact Blk.new_ hb8.symm
  have hb15 : Below w1.heap.size w1 w5 := by rw [← hw5]; exact hb13.alloc hb13.size _
  have hsc5 : ScIn w5 ⟨(m : Int), 1, rs⟩ A3 c3 := by rw [← hw5]; exact hsc.below (nw _ (Below.refl _ _))
  rw [hb8]
  have HSCH : Hid (∀ W, Below w5.heap.size w5 W → W.cell? ⟨b8, 0, none⟩ = some (.int .i64 (m : Int)) ∧ W.cell? ⟨b8, 1, none⟩ = some (.int .u8 1) ∧ W.cell? ⟨b8, 2, none⟩ = some (.slice A3 rs.length c3) ∧ b8 < W.heap.size) := fun W hW => by
    have e1 := hB8.below hW hB8.lt
    exact ⟨by rw [e1.cell]; rfl, by rw [e1.cell]; rfl, by rw [e1.cell]; rfl, e1.lt⟩
  have HSND : Hid (∀ W, Below w5.heap.size w5 W → Calls Tryz.prog 8 #[.agg #[.int .i64 (m : Int), .int .u8 1, .slice A3 rs.length c3]] W fun e w' => IsSnd ⟨(m : Int), 1, rs⟩ e ∧ Below W.heap.size W w') := fun W hW => rsound5_any ⟨(m : Int), 1, rs⟩ A3 c3 W (hsc5.below hW)
  have HCOST : Hid (∀ (i t : ByteArray) (W : World), i.size ≤ 1000 → t.size ≤ 1000 → Below w5.heap.size w5 W → Calls Tryz.prog 10 #[.agg #[.int .i64 (m : Int), .int .u8 1, .slice A3 rs.length c3], .string i, .string t] W fun e w' => (∃ r, e = .returned (.int .i64 r) ∧ CostOf ⟨(m : Int), 1, rs⟩ i t r) ∧ Below W.heap.size W w') := fun i t W hi ht hW => cost05_any ⟨(m : Int), 1, rs⟩ A3 c3 i t W (hsc5.below hW) (made_flat hm.2) (Nat.le_trans hi (by decide)) ht
  have HWALK : Hid (∀ (B : Option Addr) (l : List Int) (d : Nat) (n : Int) (W : World), SlR 1 RU8 w B l → l.length ≤ maxLen → (∀ x ∈ l, 0 ≤ x ∧ x ≤ 255) → (0 ≤ n ∧ n ≤ 8) → Below w5.heap.size w5 W → Calls Tryz.prog 9 #[.agg #[.int .i64 (m : Int), .int .u8 1, .slice A3 rs.length c3], .slice B l.length d, .int .i64 n] W (IsWalk ⟨(m : Int), 1, rs⟩ W)) := fun B l d n W h1 h2 h3 h4 hW => walk5_any ⟨(m : Int), 1, rs⟩ A3 c3 B l d n W (hsc5.below hW) hok (h1.below keeps_u8 ((HB1.out.trans (hb15.mono HB1.out.size)).trans (hW.mono (by have := HB1.out.size; have := hb15.size; omega)))) h2 h3 h4
  have HBEST : Hid (∀ (i : ByteArray) (q : Int) (W : World), i.size ≤ 1000 → 0 ≤ q → q ≤ 1000 → Below w5.heap.size w5 W → Calls Tryz.prog 11 #[.agg #[.int .i64 (m : Int), .int .u8 1, .slice A3 rs.length c3], .string i, .int .i64 q] W (IsBestR ⟨(m : Int), 1, rs⟩ i q W)) := fun i q W hi h0 h1 hW => best05_any ⟨(m : Int), 1, rs⟩ A3 c3 i q W (hsc5.below hW) (made_flat hm.2) (Nat.le_trans hi (by decide)) h0 h1
  have HBW := Lib.hid (HB1.out.trans (hb15.mono HB1.out.size))
  have HB15 := Lib.hid hb15
  have HFL := Lib.hid (made_flat (rs := rs) hm.2)
  have HOK := Lib.hid hok
  have HSC5 := Lib.hid hsc5
  have HMM := Lib.hid hm
  have HGO : Hid (∀ (i : ByteArray) (W : World), soundE ⟨(m : Int), 1, rs⟩ = 0 → i.size ≤ 40 → Below w5.heap.size w5 W → Calls Tryz.prog 12 #[.agg #[.int .i64 (m : Int), .int .u8 1, .slice A3 rs.length c3], .string i] W (IsGoR ⟨(m : Int), 1, rs⟩ i W)) := fun i W hE hi hW => rgo_any ⟨(m : Int), 1, rs⟩ A3 c3 i W (hsc5.below hW) hok (pair_flat ((made_flat hm.2) hok (soundE_iff.1 hE).2) (bl i)) hi
  clear hw5 hb8 hB8 hb15 hsc5 hsc hb13 hb3 hb2 x0 x1 x2 xl HMA HSA HKP HB1 hok hrs9 HG HW1
  obtain ⟨e0, e1, e2, el⟩ := HSCH.out _ (Below.refl _ _)
  go_cut [22] (fun s22 W => IsKeep (soundE ⟨(m : Int), 1, rs⟩ = 0) s22 ∧ Below w5.heap.size w5 W)
  case first =>
    go_wp2_with (go_at_call 8; go_loud (refine (HSND.out _ (Below.refl _ _)).mono ?_; rintro e w6 ⟨hsn, hb6⟩; rcases hsn.parts with ⟨rfl, hse⟩ | ⟨rfl, hse⟩ <;> (have HSE := Lib.hid hse; clear hse)))
    · go_meet
      exact ⟨.mk (fun _ => HSE.out), hb6⟩
    · go_meet
      exact ⟨.mk (fun h => by cases h), hb6⟩
  case rest =>
    obtain ⟨w6, rfl⟩ : ∃ W, W = wc := ⟨wc, rfl⟩
    obtain ⟨⟨bs, rfl, hbs⟩, hb6⟩ := hcut
    have HBS := Lib.hid hbs
    clear hbs e0 e1 e2 el
    cases hbsv : bs with
    | true =>
      go_wp2_with fail
      go_ret
      exact ⟨rfl, HBW.out.trans (hb6.mono HBW.out.size)⟩
    | false =>
      have HSE := Lib.hid (HBS.out hbsv)
      obtain ⟨e0, e1, e2, el⟩ := HSCH.out _ hb6
      go_upto_region 6 with (go_at_call 9; go_loud (refine (HWALK.out B l d nn _ HY.out.1 HY.out.2.1 HY.out.2.2 (by omega) hb6).mono ?_; rintro e w7 ⟨⟨ia, oa, ca, ma, rfl, hra, hia, hoa, hca0, hca⟩, hb7⟩))
      obtain ⟨b9, hb9⟩ : ∃ x, w7.heap.size = x := ⟨_, rfl⟩
      obtain ⟨w8, hw8⟩ : ∃ W, w7.alloc (.cells #[.string ia, .string oa, .int .i64 ca] 33) = W := ⟨_, rfl⟩
      have hB9 : Blk w8 b9 33 #[.string ia, .string oa, .int .i64 ca] := by rw [← hw8]; exact Blk.new_ hb9.symm
      have hb58 : Below w5.heap.size w5 w8 := by rw [← hw8]; exact (hb6.trans (hb7.mono hb6.size)).alloc (by have := hb6.size; have := hb7.size; omega) _
      rw [hb9, hw8]
      have HRA := Lib.hid hra
      have HB58 := Lib.hid hb58
      have HBOX : Hid (∀ W, Below w8.heap.size w8 W → W.cell? ⟨b9, 0, none⟩ = some (.string ia) ∧ W.cell? ⟨b9, 1, none⟩ = some (.string oa) ∧ W.cell? ⟨b9, 2, none⟩ = some (.int .i64 ca) ∧ b9 < W.heap.size) := fun W hW => by
        have e1 := hB9.below hW hB9.lt
        exact ⟨by rw [e1.cell]; rfl, by rw [e1.cell]; rfl, by rw [e1.cell]; rfl, e1.lt⟩
      clear hw8 hb9 hra hb7 hb6 e0 e1 e2 el hB9
      obtain ⟨acc, hacc⟩ : ∃ z, accB 1 ma = z := ⟨_, rfl⟩
      rw [hacc]
      have HACC := Lib.hid hacc
      clear hacc
      cases hav : acc with
      | false =>
        go_wp2_with fail
        go_ret
        exact ⟨rfl, HBW.out.trans (hb58.mono HBW.out.size)⟩
      | true =>
        have HWH : Hid (Whole ⟨(m : Int), 1, rs⟩ ia oa ca) := ⟨ma, HACC.out.trans hav, HRA.out⟩
        have HLA : Hid (letB ia = true) := rte_let HOK.out HRA.out (by omega)
        obtain ⟨e0, e1, e2, el⟩ := HSCH.out _ HB58.out
        obtain ⟨p0, p1, p2, pl⟩ := HBOX.out _ (Below.refl _ _)
        have hi1 : ia.size ≤ 1000 := by omega
        have ho1 : oa.size ≤ 1000 := by omega
        clear hb58
        go_upto_region 9 with (go_at_call 10; go_loud (refine (HCOST.out ia oa _ hi1 ho1 HB58.out).mono ?_; rintro e w9 ⟨⟨r, rfl, hr⟩, hb9⟩))
        have HR := Lib.hid hr
        have hcw := cost_whole HSE.out HLA.out HWH.out hr
        have hr0 : ¬ r < 0 := by omega
        have hr1 : ¬ ca < r := by omega
        have HB89 := Lib.hid hb9
        have HB59 := Lib.hid (HB58.out.trans (hb9.mono HB58.out.size))
        clear hr hcw hb9 e0 e1 e2 el p0 p1 p2 pl
        obtain ⟨e0, e1, e2, el⟩ := HSCH.out _ HB59.out
        obtain ⟨p0, p1, p2, pl⟩ := HBOX.out _ HB89.out
        go_upto_region 12 with (go_at_call 11; go_loud (refine (HBEST.out ia 50 _ hi1 (by decide) (by decide) HB59.out).mono ?_; rintro e w10 ⟨b, eb, Ab, cb, rfl, hb, hcb, hsb, hb10⟩))
        obtain ⟨_, hcase⟩ := routes_plain HSE.out HFL.out HLA.out HWH.out HR.out hb
        have HB510 := Lib.hid (HB59.out.trans (hb10.mono HB59.out.size))
        have HB810 := Lib.hid (HB89.out.trans (hb10.mono HB89.out.size))
        have HSB := Lib.hid hsb
        clear hb hsb hb10 e0 e1 e2 el p0 p1 p2 pl
        obtain ⟨e0, e1, e2, el⟩ := HSCH.out _ HB510.out
        obtain ⟨p0, p1, p2, pl⟩ := HBOX.out _ HB810.out
        rcases hcase with ⟨rfl, hbig⟩ | ⟨rfl, hfound⟩
        · have HBIG := Lib.hid hbig
          clear hbig
          go_wp2_with (go_at_call 12; go_loud (refine (HGO.out ia _ HSE.out (by omega) HB510.out).mono ?_; rintro e w11 ⟨⟨gp, big, rfl, hgc, hgl, hgb⟩, hb11⟩; obtain rfl : big = true := hgb HBIG.out; clear hgb))
          go_ret
          exact ⟨rfl, HBW.out.trans ((HB510.out.trans (hb11.mono HB510.out.size)).mono HBW.out.size)⟩
        · have HFO := Lib.hid hfound
          clear hfound
          go_upto_region 15 with fail
          obtain ⟨b14, hb14⟩ : ∃ x, w10.heap.size = x := ⟨_, rfl⟩
          obtain ⟨w11, hw11⟩ : ∃ W, w10.alloc (.cells #[.string oa, .int .i64 r] 47) = W := ⟨_, rfl⟩
          have hB14 : Blk w11 b14 47 #[.string oa, .int .i64 r] := by rw [← hw11]; exact Blk.new_ hb14.symm
          have hb1011 : Below w10.heap.size w10 w11 := by rw [← hw11]; exact nw _ (Below.refl _ _)
          rw [hb14, hw11]
          have HB511 := Lib.hid (HB510.out.trans (hb1011.mono HB510.out.size))
          have HSB11 := Lib.hid (HSB.out.below keeps_rs hb1011)
          have HB14 := Lib.hid hB14
          have hb50 : b.length ≤ 9223372036854775807 := by have h1 := hcb.1; have h2 := hcb.2; unfold maxLen at h2; omega
          clear hw11 hb14 hB14 hb1011 e0 e1 e2 el p0 p1 p2 pl
          go_wp2_with fail
          go_loopw [15, 16] (fun fv iv wr => ∃ q : Nat, q ≤ b.length ∧ iv = .int .i64 (q : Int) ∧ FdB ((⟨oa, r⟩ : Rs) ∈ b.take q) fv ∧ Below w11.heap.size w11 wr) (fun _ iv _ => b.length - (intOf iv).toNat)
          case atStart => exact ⟨0, Nat.zero_le _, rfl, .mk ⟨fun h => (by cases h), fun h => (by cases h)⟩, Below.refl _ _⟩
          case round =>
            obtain ⟨wR, rfl⟩ : ∃ W, W = wr := ⟨wr, rfl⟩
            obtain ⟨q, hq, rfl, ⟨bb, rfl, hbb⟩, hbR⟩ := hrel
            have HBB := Lib.hid hbb
            have HBR := Lib.hid hbR
            have hB14 := HB14.out.below hbR HB14.out.lt
            have t0 := hB14.cell 0
            have t1 := hB14.cell 1
            have tl := hB14.lt
            simp at t0 t1
            clear hbb hbR hB14
            by_cases hlt : q < b.length
            · have hqi : (q : Int) < (b.length : Int) := by omega
              have hq0 : (0 : Int) ≤ (q : Int) := by omega
              obtain ⟨bk, off, y, rfl, hbb2, hyy, d0, d1⟩ := (HSB11.out.below keeps_rs HBR.out).rs hlt
              have HYY := Lib.hid hyy
              clear hyy
              go_upto_region 19 with fail
              cases hbv : bb with
              | true =>
                have HIN : Hid (true = true ↔ (⟨oa, r⟩ : Rs) ∈ b.take (q + 1)) := ⟨fun _ => by rw [take_succ_of HYY.out]; exact List.mem_append_left _ (HBB.out.1 hbv), fun _ => rfl⟩
                refine ordB_below (.quiet 0 (.quiet 1 (.quiet 2 (.quiet 3 (.quiet 4 (.quiet 5 (.quiet 6 (.quiet 7 (.quiet 8 (.quiet 9 .done)))))))))) (by kernel_rfl) (by kernel_rfl) (by kernel_rfl) (fun _ _ _ _ _ h => h) ?_
                intro V0 hV0
                iterate 10 (first
                  | (refine ordB_skip rfl rfl ?_; simp only [Act.put, List.setIfInBounds_toArray, List.set_cons_zero, List.set_cons_succ])
                  | (refine ordB_take (v := ?_) rfl rfl ?_ ?_
                     rotate_left 1
                     focus (intro W hW; obtain ⟨hcW, hfW⟩ := bcell hW; (go_simp <;> with_reducible rfl))
                     simp only [Act.put, List.setIfInBounds_toArray, List.set_cons_zero, List.set_cons_succ]))
                refine ordB_nil ?_
                have HBC := Lib.hid hV0
                go_wp2_with fail
                go_roundw
                case rel => exact ⟨q + 1, by omega, by go_num, .mk HIN.out, HBR.out.trans (HBC.out.mono HBR.out.size)⟩
                case measure => simp [intOf]; omega
              | false =>
                have HNI : Hid (¬ (⟨oa, r⟩ : Rs) ∈ b.take q) := fun h => by have := HBB.out.2 h; rw [hbv] at this; cases this
                by_cases hye : y = ⟨oa, r⟩
                · have hyd : decide (y = (⟨oa, r⟩ : Rs)) = true := decide_eq_true hye
                  have HIN : Hid (true = true ↔ (⟨oa, r⟩ : Rs) ∈ b.take (q + 1)) := ⟨fun _ => by rw [take_succ_of HYY.out, ← hye]; exact List.mem_append_right _ (List.mem_singleton.2 rfl), fun _ => rfl⟩
                  have heq := fun W => run_eqRs y ⟨oa, r⟩ W; simp only [hyd] at heq
                  clear hye hyd
                  refine ordB_below (.quiet 0 (.quiet 1 (.quiet 2 (.quiet 3 (.quiet 4 (.quiet 5 (.quiet 6 (.quiet 7 (.quiet 8 (.quiet 9 .done)))))))))) (by kernel_rfl) (by kernel_rfl) (by kernel_rfl) (fun _ _ _ _ _ h => h) ?_
                  intro V0 hV0
                  iterate 10 (first
                    | (refine ordB_skip rfl rfl ?_; simp only [Act.put, List.setIfInBounds_toArray, List.set_cons_zero, List.set_cons_succ])
                    | (refine ordB_take (v := ?_) rfl rfl ?_ ?_
                       rotate_left 1
                       focus (intro W hW; obtain ⟨hcW, hfW⟩ := bcell hW; (go_simp <;> with_reducible rfl))
                       simp only [Act.put, List.setIfInBounds_toArray, List.set_cons_zero, List.set_cons_succ]))
                  refine ordB_nil ?_
                  have HBC := Lib.hid hV0
                  go_wp2_with fail
                  go_roundw
                  case rel => exact ⟨q + 1, by omega, by go_num, .mk HIN.out, HBR.out.trans (HBC.out.mono HBR.out.size)⟩
                  case measure => simp [intOf]; omega
                · have hyd : decide (y = (⟨oa, r⟩ : Rs)) = false := decide_eq_false hye
                  have HIN : Hid (false = true ↔ (⟨oa, r⟩ : Rs) ∈ b.take (q + 1)) := ⟨fun h => (by cases h), fun h => by
                    rw [take_succ_of HYY.out] at h
                    rcases List.mem_append.1 h with h | h
                    · exact absurd h HNI.out
                    · exact absurd (List.mem_singleton.1 h).symm hye⟩
                  have heq := fun W => run_eqRs y ⟨oa, r⟩ W; simp only [hyd] at heq
                  clear hye hyd
                  refine ordB_below (.quiet 0 (.quiet 1 (.quiet 2 (.quiet 3 (.quiet 4 (.quiet 5 (.quiet 6 (.quiet 7 (.quiet 8 (.quiet 9 .done)))))))))) (by kernel_rfl) (by kernel_rfl) (by kernel_rfl) (fun _ _ _ _ _ h => h) ?_
                  intro V0 hV0
                  iterate 10 (first
                    | (refine ordB_skip rfl rfl ?_; simp only [Act.put, List.setIfInBounds_toArray, List.set_cons_zero, List.set_cons_succ])
                    | (refine ordB_take (v := ?_) rfl rfl ?_ ?_
                       rotate_left 1
                       focus (intro W hW; obtain ⟨hcW, hfW⟩ := bcell hW; (go_simp <;> with_reducible rfl))
                       simp only [Act.put, List.setIfInBounds_toArray, List.set_cons_zero, List.set_cons_succ]))
                  refine ordB_nil ?_
                  have HBC := Lib.hid hV0
                  go_wp2_with fail
                  go_roundw
                  case rel => exact ⟨q + 1, by omega, by go_num, .mk HIN.out, HBR.out.trans (HBC.out.mono HBR.out.size)⟩
                  case measure => simp [intOf]; omega
            · obtain rfl : q = b.length := by omega
              have hqi : ¬ ((b.length : Nat) : Int) < (b.length : Int) := by omega
              have HBWJ : Hid (Below w.heap.size w wR) := HBW.out.trans ((HB511.out.trans (HBR.out.mono HB511.out.size)).mono HBW.out.size)
              have HMB : Hid (bb = true ↔ (⟨oa, r⟩ : Rs) ∈ b) := by have := HBB.out; rw [List.take_length] at this; exact this
              cases hbv : bb with
              | true =>
                go_upto_region 20 with fail
                refine ordB_below (.quiet 0 (.quiet 1 (.quiet 2 (.quiet 3 (.quiet 4 (.quiet 5 (.quiet 6 (.quiet 7 (.quiet 8 (.quiet 9 (.quiet 10 (.quiet 11 (.quiet 12 (.only 13 (.quiet 14 (.quiet 15 (.quiet 16 (.quiet 17 (.quiet 18 (.quiet 19 (.quiet 20 .done))))))))))))))))))))) (by kernel_rfl) (by kernel_rfl) (by kernel_rfl) (fun _ _ _ _ _ h => h) ?_
                intro V0 hV0
                iterate 13 (first
                  | (refine ordB_skip rfl rfl ?_; simp only [Act.put, List.setIfInBounds_toArray, List.set_cons_zero, List.set_cons_succ])
                  | (refine ordB_take (v := ?_) rfl rfl ?_ ?_
                     rotate_left 1
                     focus (intro W hW; obtain ⟨hcW, hfW⟩ := bcell hW; (go_simp <;> with_reducible rfl))
                     simp only [Act.put, List.setIfInBounds_toArray, List.set_cons_zero, List.set_cons_succ]))
                refine ordB_only (opB_cskip rfl rfl hV0 ?_)
                simp only [Act.put, List.setIfInBounds_toArray, List.set_cons_zero, List.set_cons_succ]
                iterate 7 (first
                  | (refine ordB_skip rfl rfl ?_; simp only [Act.put, List.setIfInBounds_toArray, List.set_cons_zero, List.set_cons_succ])
                  | (refine ordB_take (v := ?_) rfl rfl ?_ ?_
                     rotate_left 1
                     focus (intro W hW; obtain ⟨hcW, hfW⟩ := bcell hW; (go_simp <;> with_reducible rfl))
                     simp only [Act.put, List.setIfInBounds_toArray, List.set_cons_zero, List.set_cons_succ]))
                refine ordB_nil ?_
                go_wp2_with fail
                go_ret
                exact ⟨rfl, HBWJ.out.trans (hV0.mono HBWJ.out.size)⟩
              | false =>
                have hno : ¬ (⟨oa, r⟩ : Rs) ∈ b := fun h => by have := HMB.out.2 h; rw [hbv] at this; cases this
                obtain ⟨h50, hall⟩ := HFO.out.resolve_left hno
                have h50i : (b.length : Int) = 50 := by omega
                have h49 : (49 : Int) < (b.length : Int) := by omega
                obtain ⟨bk, off, y, rfl, hbb2, hyy, d0, d1⟩ := (HSB11.out.below keeps_rs HBR.out).rs (k := 49) (by omega)
                have hbf := hall y (List.mem_of_getElem? hyy)
                have HBEF : Hid (∀ W, Calls Tryz.prog 13 #[.agg #[.string y.tx, .int .i64 y.co], .agg #[.string oa, .int .i64 r]] W fun e w' => e = .returned (.bool true) ∧ Below W.heap.size W w') := fun W => by
                  have h := before5_any y ⟨oa, r⟩ W
                  rw [hbf] at h
                  exact h
                clear hno hall hyy hbf
                go_upto_region 20 with fail
                refine ordB_below (.quiet 0 (.quiet 1 (.quiet 2 (.quiet 3 (.quiet 4 (.quiet 5 (.quiet 6 (.quiet 7 (.quiet 8 (.quiet 9 (.quiet 10 (.quiet 11 (.quiet 12 (.only 13 (.quiet 14 (.quiet 15 (.quiet 16 (.quiet 17 (.quiet 18 (.quiet 19 (.quiet 20 .done))))))))))))))))))))) (by kernel_rfl) (by kernel_rfl) (by kernel_rfl) (fun _ _ _ _ _ h => h) ?_
                intro V0 hV0
                iterate 13 (first
                  | (refine ordB_skip rfl rfl ?_; simp only [Act.put, List.setIfInBounds_toArray, List.set_cons_zero, List.set_cons_succ])
                  | (refine ordB_take (v := ?_) rfl rfl ?_ ?_
                     rotate_left 1
                     focus (intro W hW; obtain ⟨hcW, hfW⟩ := bcell hW; (go_simp <;> with_reducible rfl))
                     simp only [Act.put, List.setIfInBounds_toArray, List.set_cons_zero, List.set_cons_succ]))
                refine ordB_only (opB_call rfl rfl (fun K hK => ?_))
                go_simp
                go_at_call 13
                refine (HBEF.out V0).mono ?_
                rintro e V0_1 ⟨rfl, hq1⟩
                refine hK.out _ _ (hV0.trans (hq1.mono hV0.size)) (fun hV0_1 => ?_)
                iterate 7 (first
                  | (refine ordB_skip rfl rfl ?_; simp only [Act.put, List.setIfInBounds_toArray, List.set_cons_zero, List.set_cons_succ])
                  | (refine ordB_take (v := ?_) rfl rfl ?_ ?_
                     rotate_left 1
                     focus (intro W hW; obtain ⟨hcW, hfW⟩ := bcell hW; (go_simp <;> with_reducible rfl))
                     simp only [Act.put, List.setIfInBounds_toArray, List.set_cons_zero, List.set_cons_succ]))
                refine ordB_nil ?_
                go_wp2_with fail
                go_ret
                exact ⟨rfl, HBWJ.out.trans (hV0_1.mono HBWJ.out.size)⟩
end Go.Proofs.YtkjfdjcagfkdhaaGreat
