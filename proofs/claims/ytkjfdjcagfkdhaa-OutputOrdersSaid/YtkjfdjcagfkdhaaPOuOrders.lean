/-
  OutputOrders: the walk.
-/
import Derived.Test.YtkjfdjcagfkdhaaP30
import Derived.Test.YtkjfdjcagfkdhaaP21
import Derived.Test.YtkjfdjcagfkdhaaP26
import Derived.Test.YtkjfdjcagfkdhaaP05
namespace Go.Proofs.Ytkjfdjcagfkdhaa
open Go Go.RowKit

set_option maxRecDepth 100000 in
set_option maxHeartbeats 16000000 in
theorem outputOrders_any (A : Option Addr) (xs : List Rw) (c : Nat) (qb qd : Int) (B : Option Addr) (l : List Int) (d : Nat) (pa pb : Int) (w : World) (hx : SlR 5 RRw w A xs) (hl0 : xs.length ≤ maxLen) (hqb : 0 ≤ qb ∧ qb ≤ 255) (hqd : 0 ≤ qd ∧ qd ≤ 255)
    (hy : SlR 1 RU8 w B l) (hll : l.length ≤ maxLen) (hl8 : ∀ x ∈ l, 0 ≤ x ∧ x ≤ 255) (ha : 0 ≤ pa ∧ pa ≤ 255) (hb : 0 ≤ pb ∧ pb ≤ 255) :
    Calls Try.prog 3 #[.agg #[.int .u8 qb, .int .u8 qd, .slice A xs.length c], .slice B l.length d, .agg #[.int .u8 pa, .int .u8 pb]] w fun e w' => e = .returned (.bool true) ∧ Below w.heap.size w w' := by
  have hll2 := hll
  unfold maxLen at hll
  obtain ⟨w1, hw1⟩ : ∃ w1, (w.alloc (.cells #[.int .u8 qb, .int .u8 qd, .slice A xs.length c] 24)).alloc (.cells #[.int .u8 pa, .int .u8 pb] 26) = w1 := ⟨_, rfl⟩
  obtain ⟨g, hg⟩ : ∃ g, w.heap.size = g := ⟨_, rfl⟩
  have hb1 : Below w.heap.size w w1 := by rw [← hw1]; exact nw _ (nw _ (Below.refl _ _))
  have hB1 : Blk w1 g 24 #[.int .u8 qb, .int .u8 qd, .slice A xs.length c] := by rw [← hw1, ← hg]; exact (Blk.new _ _ _).alloc _
  have hB2 : Blk w1 (g + 1) 26 #[.int .u8 pa, .int .u8 pb] := by rw [← hw1]; exact Blk.new_ (by simp; omega)
  have HW1 := Lib.hid hw1
  have HG := Lib.hid hg
  have HKP : Hid (∀ W, Below w1.heap.size w1 W → (W.cell? ⟨g, 0, none⟩ = some (.int .u8 qb) ∧ W.cell? ⟨g, 1, none⟩ = some (.int .u8 qd) ∧ W.cell? ⟨g, 2, none⟩ = some (.slice A xs.length c) ∧ g < W.heap.size) ∧ (W.cell? ⟨g + 1, 0, none⟩ = some (.int .u8 pa) ∧ W.cell? ⟨g + 1, 1, none⟩ = some (.int .u8 pb) ∧ g + 1 < W.heap.size)) := fun W hW => by
    have e1 := hB1.below hW hB1.lt
    have e2 := hB2.below hW hB2.lt
    exact ⟨⟨by rw [e1.cell]; rfl, by rw [e1.cell]; rfl, by rw [e1.cell]; rfl, e1.lt⟩, ⟨by rw [e2.cell]; rfl, by rw [e2.cell]; rfl, e2.lt⟩⟩
  have HB1 := Lib.hid hb1
  have HMA : Hid (∀ W, Below w1.heap.size w1 W → Calls Try.prog 6 #[.agg #[.int .u8 qb, .int .u8 qd, .slice A xs.length c]] W (IsMade W)) := fun W hW => made_any5 A xs c qb qd W (hx.below keeps_rw (hb1.trans (hW.mono hb1.size))) hl0 hqb hqd
  have HIN : Hid (∀ W, Below w1.heap.size w1 W → Calls Try.prog 7 #[.slice B l.length d, .int .i64 6] W fun e w' => e = .returned (.string (inpTo l 6)) ∧ Below W.heap.size W w') := fun W hW => input5_any B l d 6 W (hy.below keeps_u8 (hb1.trans (hW.mono hb1.size))) hll2 hl8 (by decide)
  have HSA : Hid (∀ W, Calls Try.prog 5 #[] W fun e w' => e = .returned (.bool true) ∧ Below W.heap.size W w') := sanity5_any
  have hin := inpTo_let l 6 (by decide)
  obtain ⟨inp, hinp⟩ : ∃ x, inpTo l 6 = x := ⟨_, rfl⟩
  rw [hinp] at hin HIN
  have HLET := Lib.hid hin
  clear hw1 hg hb1 hB1 hB2 hx hy hinp hin
  have hk0 : 0 ≤ pa % 50 ∧ pa % 50 ≤ 49 := by omega
  have hk1 : 0 ≤ pb % 20 ∧ pb % 20 ≤ 19 := by omega
  have htk : pa.tmod 50 = pa % 50 := Int.tmod_eq_emod_of_nonneg ha.1
  have htn : pb.tmod 20 = pb % 20 := Int.tmod_eq_emod_of_nonneg hb.1
  obtain ⟨r1, hr1⟩ : ∃ x, pa % 50 = x := ⟨_, rfl⟩
  obtain ⟨r2, hr2⟩ : ∃ x, pb % 20 = x := ⟨_, rfl⟩
  rw [hr1] at hk0 htk
  rw [hr2] at hk1 htn
  clear hr1 hr2
  have hwr1 : IntKind.i64.wrap r1 = r1 := IntWalk.i64_in _ (by omega)
  have hwr2 : IntKind.i64.wrap r2 = r2 := IntWalk.i64_in _ (by omega)
  obtain ⟨k, hk⟩ : ∃ x, 1 + r1 = x := ⟨_, rfl⟩
  have hwk : IntKind.i64.wrap (1 + r1) = k := by rw [hk]; exact IntWalk.i64_in _ (by omega)
  have hkk : 1 ≤ k ∧ k ≤ 50 := by omega
  obtain ⟨kn, hkn⟩ : ∃ x, k + r2 = x := ⟨_, rfl⟩
  have hwn : IntKind.i64.wrap (k + r2) = kn := by rw [hkn]; exact IntWalk.i64_in _ (by omega)
  obtain ⟨n, hn⟩ : ∃ x, min kn 50 = x := ⟨_, rfl⟩
  have hnn : k ≤ n ∧ n ≤ 50 := by omega
  have hmin : (if kn ≤ 50 then kn else 50) = n := by rw [← hn]; split <;> omega
  have HN := Lib.hid hn
  clear hk hkn hk0 hk1
  go_enter Try.func3, Try.ntmps3
  go_upto_region 1 with fail
  rw [HW1.out, HG.out]
  go_upto_region 3 with (first
    | (go_at_call 5; go_loud (refine (HSA.out _).mono ?_; rintro e w2 ⟨rfl, hb2⟩; obtain ⟨⟨x0, x1, x2, xl⟩, _⟩ := HKP.out _ hb2))
    | (go_at_call 6; go_loud (refine (HMA.out _ hb2).mono ?_; rintro e w3 ⟨m, rs, A3, c3, rfl, hm, hrs9, hok, hsc, hb3⟩; have hb13 := hb2.trans (hb3.mono hb2.size)))
    | (go_at_call 7; go_loud (refine (HIN.out _ hb13).mono ?_; rintro e w4 ⟨rfl, hb4⟩; have hb14 := hb13.trans (hb4.mono hb13.size); have hsc4 := hsc.below hb4)))
  obtain ⟨b8, hb8⟩ : ∃ x, w4.heap.size = x := ⟨_, rfl⟩
  generalize hw5 : w4.alloc (.cells _ 30) = w5
  have hB8 : Blk w5 b8 30 #[.int .i64 (m : Int), .int .u8 1, .slice A3 rs.length c3] := by rw [← hw5]; exact Blk.new_ hb8.symm
  have hb15 : Below w1.heap.size w1 w5 := by rw [← hw5]; exact hb14.alloc hb14.size _
  have hsc5 : ScIn w5 ⟨(m : Int), 1, rs⟩ A3 c3 := by rw [← hw5]; exact hsc4.below (nw _ (Below.refl _ _))
  rw [hb8]
  have HSCH : Hid (∀ W, Below w5.heap.size w5 W → W.cell? ⟨b8, 0, none⟩ = some (.int .i64 (m : Int)) ∧ W.cell? ⟨b8, 1, none⟩ = some (.int .u8 1) ∧ W.cell? ⟨b8, 2, none⟩ = some (.slice A3 rs.length c3) ∧ b8 < W.heap.size) := fun W hW => by
    have e1 := hB8.below hW hB8.lt
    exact ⟨by rw [e1.cell]; rfl, by rw [e1.cell]; rfl, by rw [e1.cell]; rfl, e1.lt⟩
  have hisz : inp.size ≤ maxLen := Nat.le_trans HLET.out.2 (by decide)
  have HBEST : Hid (∀ (q : Int) (W : World), 0 ≤ q → q ≤ 1000 → Below w5.heap.size w5 W → Calls Try.prog 8 #[.agg #[.int .i64 (m : Int), .int .u8 1, .slice A3 rs.length c3], .string inp, .int .i64 q] W (IsBestR ⟨(m : Int), 1, rs⟩ inp q W)) := fun q W h0 h1 hW => best05_any ⟨(m : Int), 1, rs⟩ A3 c3 inp q W (hsc5.below hW) (made_flat hm.2) hisz h0 h1
  have HCOST : Hid (∀ (t : ByteArray) (W : World), t.size ≤ 1000 → Below w5.heap.size w5 W → Calls Try.prog 11 #[.agg #[.int .i64 (m : Int), .int .u8 1, .slice A3 rs.length c3], .string inp, .string t] W fun e w' => (∃ r, e = .returned (.int .i64 r) ∧ CostOf ⟨(m : Int), 1, rs⟩ inp t r) ∧ Below W.heap.size W w') := fun t W ht hW => cost05_any ⟨(m : Int), 1, rs⟩ A3 c3 inp t W (hsc5.below hW) (made_flat hm.2) hisz ht
  have HBW := Lib.hid (HB1.out.trans (hb15.mono HB1.out.size))
  have HFL := Lib.hid (made_flat (rs := rs) hm.2)
  obtain ⟨_, y0, y1, yl⟩ := HKP.out _ hb15
  clear hw5 hb8 hB8 hb15 hsc5 hsc4 hsc hb14 hb13 hb4 hb3 hb2 x0 x1 x2 xl HMA HIN HSA HKP HB1 hm hok hrs9 HG HW1 HN
  obtain ⟨e0, e1, e2, el⟩ := HSCH.out _ (Below.refl _ _)
  have hk0 : 0 ≤ k := by omega
  have hk9 : k ≤ 1000 := by omega
  have hn0 : 0 ≤ n := by omega
  have hn9 : n ≤ 1000 := by omega
  go_upto_region 6 with (go_at_call 8; go_loud (refine (HBEST.out k _ hk0 hk9 (Below.refl _ _)).mono ?_; rintro e w6 ⟨a, ea, Aa, ca, rfl, ha, hca, hsa, hb6⟩; obtain ⟨e0, e1, e2, el⟩ := HSCH.out _ hb6))
  go_upto_region 7 with (go_at_call 8; go_loud (refine (HBEST.out n _ hn0 hn9 hb6).mono ?_; rintro e w7 ⟨b, eb, Ab, cb, rfl, hb, hcb, hsb, hb7⟩))
  have hO := best_orders HFL.out hkk.1 hnn.1 hnn.2 ha hb
  obtain rfl : ea = eb := hO.err
  have hsa7 : SlR 2 RRs w7 Aa a := hsa.below keeps_rs hb7
  have hsba : SlR 2 RRs w7 Ab a := by have := slr_pre5 hsb a.length; rw [← hO.pre] at this; exact this
  have hal : a.length ≤ 65536 := by have := hO.le; have := hO.len; omega
  have HSAME : Hid (Calls Try.prog 9 #[.slice Aa a.length ca, .slice Ab a.length cb] w7 fun e w' => e = .returned (.bool true) ∧ Below w7.heap.size w7 w') := by
    have := same5_any Aa Ab a a ca cb w7 hsa7 hsba hal hal
    rw [decide_eq_true rfl] at this
    exact this
  have HO := Lib.hid hO
  have HSB := Lib.hid hsb
  have hb57 : Below w5.heap.size w5 w7 := hb6.trans (hb7.mono hb6.size)
  have HB57 := Lib.hid hb57
  have hbl := hO.len
  have g1 : ¬ k < (a.length : Int) := by have := hO.most; omega
  have g2 : ¬ (b.length : Int) < (a.length : Int) := by have := hO.le; omega
  have g3 : (a.length : Int) ≤ (cb : Int) := by have := hO.le; omega
  have g4 : (a.length : Int) < k → (b.length : Int) = (a.length : Int) := fun h => by have := hO.all h; omega
  have G4 := Lib.hid g4
  clear ha hb hO hsa hsa7 hsba hsb hb57 hb6 hb7 e0 e1 e2 el HBEST y0 y1 yl g4
  go_cut [86] (fun s86 W => s86 = .bool false ∧ Below w7.heap.size w7 W)
  case first =>
    by_cases hc : (a.length : Int) < k
    · have g5 := G4.out hc
      go_wp2_with (go_at_call 9; go_loud (refine HSAME.out.mono ?_; rintro e w8 ⟨rfl, hb8⟩))
      go_meet
      exact ⟨rfl, hb8⟩
    · go_wp2_with (go_at_call 9; go_loud (refine HSAME.out.mono ?_; rintro e w8 ⟨rfl, hb8⟩))
      go_meet
      exact ⟨rfl, hb8⟩
  case rest =>
    obtain ⟨w8, rfl⟩ : ∃ W, W = wc := ⟨wc, rfl⟩
    obtain ⟨rfl, hb8⟩ := hcut
    have HB58 := Lib.hid (HB57.out.trans (hb8.mono HB57.out.size))
    have HSB8 := Lib.hid (HSB.out.below keeps_rs hb8)
    clear hb8 HSAME G4 g1 g2 g3 HSB HB57
    go_wp2_with fail
    go_loopw [16] (fun i wr => ∃ q : Nat, q ≤ b.length ∧ i = .int .i64 (q : Int) ∧ Below w8.heap.size w8 wr) (fun i _ => b.length - (intOf i).toNat)
    case atStart => exact ⟨0, Nat.zero_le _, rfl, Below.refl _ _⟩
    case round =>
      obtain ⟨wR, rfl⟩ : ∃ W, W = wr := ⟨wr, rfl⟩
      obtain ⟨q, hq, rfl, hbR⟩ := hrel
      have HBR := Lib.hid hbR
      have hb5R : Below w5.heap.size w5 wR := HB58.out.trans (hbR.mono HB58.out.size)
      obtain ⟨e0, e1, e2, el⟩ := HSCH.out _ hb5R
      by_cases hlt : q < b.length
      · have hqi : (q : Int) < (b.length : Int) := by omega
        have hsR := HSB8.out.below keeps_rs hbR
        obtain ⟨bk, off, y, rfl, hbb, hyy, d0, d1⟩ := hsR.rs hlt
        have HY := Lib.hid hyy
        have hmem := List.mem_of_getElem? hyy
        have HCY : Hid (∀ W, Below wR.heap.size wR W → Calls Try.prog 11 #[.agg #[.int .i64 (m : Int), .int .u8 1, .slice A3 rs.length c3], .string inp, .string y.tx] W fun e w' => e = .returned (.int .i64 y.co) ∧ Below W.heap.size W w') := fun W hW =>
          (HCOST.out y.tx W (HO.out.size y hmem) (hb5R.trans (hW.mono hb5R.size))).mono fun e w' ⟨⟨r, h1, h2⟩, h3⟩ => ⟨by rw [h1, HO.out.cost y hmem r h2], h3⟩
        have HSR := Lib.hid hsR
        clear hmem hyy hb5R hbR
        go_upto_region 12 with fail
        go_cut [127] (fun s127 W => s127 = .bool false ∧ Below wR.heap.size wR W)
        case first =>
          rcases Nat.eq_zero_or_pos q with hq0 | hq0
          · subst hq0
            simp only [Nat.zero_mul, Nat.add_zero] at d0 d1
            refine ordB_below (.quiet 0 (.quiet 1 (.quiet 2 (.quiet 3 (.quiet 4 (.quiet 5 (.quiet 6 (.quiet 7 (.quiet 8 (.quiet 9 (.quiet 10 (.quiet 11 (.only 12 (.quiet 13 (.quiet 14 (.quiet 15 (.quiet 16 (.quiet 17 (.quiet 18 (.quiet 19 (.quiet 20 (.quiet 21 (.quiet 22 (.quiet 23 (.quiet 24 (.quiet 25 (.quiet 27 (.quiet 28 (.quiet 29 (.quiet 30 (.quiet 31 (.only 26 (.quiet 32 (.quiet 33 (.quiet 34 .done))))))))))))))))))))))))))))))))))) (by kernel_rfl) (by kernel_rfl) (by kernel_rfl) (fun _ _ _ _ _ h => h) ?_
            intro V0 hV0
            iterate 12 (first
              | (refine ordB_skip rfl rfl ?_; simp only [Act.put, List.setIfInBounds_toArray, List.set_cons_zero, List.set_cons_succ])
              | (refine ordB_take (v := ?_) rfl rfl ?_ ?_
                 rotate_left 1
                 focus (intro W hW; obtain ⟨hcW, hfW⟩ := bcell hW; (go_simp <;> with_reducible rfl))
                 simp only [Act.put, List.setIfInBounds_toArray, List.set_cons_zero, List.set_cons_succ]))
            refine ordB_only (opB_cskip rfl rfl hV0 ?_)
            simp only [Act.put, List.setIfInBounds_toArray, List.set_cons_zero, List.set_cons_succ]
            iterate 18 (first
              | (refine ordB_skip rfl rfl ?_; simp only [Act.put, List.setIfInBounds_toArray, List.set_cons_zero, List.set_cons_succ])
              | (refine ordB_take (v := ?_) rfl rfl ?_ ?_
                 rotate_left 1
                 focus (intro W hW; obtain ⟨hcW, hfW⟩ := bcell hW; (go_simp <;> with_reducible rfl))
                 simp only [Act.put, List.setIfInBounds_toArray, List.set_cons_zero, List.set_cons_succ]))
            refine ordB_only (opB_call rfl rfl (fun K hK => ?_))
            go_simp
            go_at_call 11
            refine (HCY.out V0 hV0).mono ?_
            rintro e V0_1 ⟨rfl, hq2⟩
            refine hK.out _ _ (hV0.trans (hq2.mono hV0.size)) (fun hV0_1 => ?_)
            iterate 3 (first
              | (refine ordB_skip rfl rfl ?_; simp only [Act.put, List.setIfInBounds_toArray, List.set_cons_zero, List.set_cons_succ])
              | (refine ordB_take (v := ?_) rfl rfl ?_ ?_
                 rotate_left 1
                 focus (intro W hW; obtain ⟨hcW, hfW⟩ := bcell hW; (go_simp <;> with_reducible rfl))
                 simp only [Act.put, List.setIfInBounds_toArray, List.set_cons_zero, List.set_cons_succ]))
            refine ordB_nil ?_
            go_wp2_with fail
            go_meet
            exact ⟨rfl, hV0_1⟩
          · obtain ⟨j, rfl⟩ : ∃ j, q = j + 1 := ⟨q - 1, by omega⟩
            obtain ⟨bk', off', x, hA', hbb', hxx, d2, d3⟩ := HSR.out.rs (k := j) (by omega)
            injection hA' with hA'
            injection hA' with hA1 hA2
            subst hA1 hA2
            have hbf := pair_at HO.out.sorted (Nat.lt_succ_self j) hxx HY.out
            have HBEF : Hid (∀ W, Calls Try.prog 10 #[.agg #[.string x.tx, .int .i64 x.co], .agg #[.string y.tx, .int .i64 y.co]] W fun e w' => e = .returned (.bool true) ∧ Below W.heap.size W w') := fun W => by
              have h := before5_any x y W
              rw [hbf] at h
              exact h
            have hj0 : (0 : Int) < (j : Int) + 1 := by omega
            have hj1 : IntKind.i64.wrap ((j : Int) + 1 - 1) = (j : Int) := by rw [show (j : Int) + 1 - 1 = (j : Int) by omega]; exact IntWalk.i64_in _ (by omega)
            have hj2 : IntKind.i64.wrap (j : Int) = (j : Int) := IntWalk.i64_in _ (by omega)
            have hj3 : (j : Int) < (b.length : Int) := by omega
            have hj4 : (0 : Int) ≤ (j : Int) := by omega
            have hj5 : (0 : Int) ≤ (j : Int) + 1 := by omega
            have hj6 : ((j : Int) + 1).toNat = j + 1 := by omega
            have hj7 : (j : Int) + 1 < (b.length : Int) := by omega
            clear hxx hbf
            by_cases h8 : j + 1 < 8
            · have h8i : (j : Int) + 1 < 8 := by omega
              refine ordB_below (.quiet 0 (.quiet 1 (.quiet 2 (.quiet 3 (.quiet 4 (.quiet 5 (.quiet 6 (.quiet 7 (.quiet 8 (.quiet 9 (.quiet 10 (.quiet 11 (.only 12 (.quiet 13 (.quiet 14 (.quiet 15 (.quiet 16 (.quiet 17 (.quiet 18 (.quiet 19 (.quiet 20 (.quiet 21 (.quiet 22 (.quiet 23 (.quiet 24 (.quiet 25 (.quiet 27 (.quiet 28 (.quiet 29 (.quiet 30 (.quiet 31 (.only 26 (.quiet 32 (.quiet 33 (.quiet 34 .done))))))))))))))))))))))))))))))))))) (by kernel_rfl) (by kernel_rfl) (by kernel_rfl) (fun _ _ _ _ _ h => h) ?_
              intro V0 hV0
              iterate 12 (first
                | (refine ordB_skip rfl rfl ?_; simp only [Act.put, List.setIfInBounds_toArray, List.set_cons_zero, List.set_cons_succ])
                | (refine ordB_take (v := ?_) rfl rfl ?_ ?_
                   rotate_left 1
                   focus (intro W hW; obtain ⟨hcW, hfW⟩ := bcell hW; (go_simp <;> with_reducible rfl))
                   simp only [Act.put, List.setIfInBounds_toArray, List.set_cons_zero, List.set_cons_succ]))
              refine ordB_only (opB_call rfl rfl (fun K hK => ?_))
              go_simp
              go_at_call 10
              refine (HBEF.out V0).mono ?_
              rintro e V0_1 ⟨rfl, hq1⟩
              refine hK.out _ _ (hV0.trans (hq1.mono hV0.size)) (fun hV0_1 => ?_)
              iterate 18 (first
                | (refine ordB_skip rfl rfl ?_; simp only [Act.put, List.setIfInBounds_toArray, List.set_cons_zero, List.set_cons_succ])
                | (refine ordB_take (v := ?_) rfl rfl ?_ ?_
                   rotate_left 1
                   focus (intro W hW; obtain ⟨hcW, hfW⟩ := bcell hW; (go_simp <;> with_reducible rfl))
                   simp only [Act.put, List.setIfInBounds_toArray, List.set_cons_zero, List.set_cons_succ]))
              refine ordB_only (opB_call rfl rfl (fun K hK => ?_))
              go_simp
              go_at_call 11
              refine (HCY.out V0_1 hV0_1).mono ?_
              rintro e V0_1_2 ⟨rfl, hq2⟩
              refine hK.out _ _ (hV0_1.trans (hq2.mono hV0_1.size)) (fun hV0_1_2 => ?_)
              iterate 3 (first
                | (refine ordB_skip rfl rfl ?_; simp only [Act.put, List.setIfInBounds_toArray, List.set_cons_zero, List.set_cons_succ])
                | (refine ordB_take (v := ?_) rfl rfl ?_ ?_
                   rotate_left 1
                   focus (intro W hW; obtain ⟨hcW, hfW⟩ := bcell hW; (go_simp <;> with_reducible rfl))
                   simp only [Act.put, List.setIfInBounds_toArray, List.set_cons_zero, List.set_cons_succ]))
              refine ordB_nil ?_
              go_wp2_with fail
              go_meet
              exact ⟨rfl, hV0_1_2⟩
            · have h8i : ¬ (j : Int) + 1 < 8 := by omega
              refine ordB_below (.quiet 0 (.quiet 1 (.quiet 2 (.quiet 3 (.quiet 4 (.quiet 5 (.quiet 6 (.quiet 7 (.quiet 8 (.quiet 9 (.quiet 10 (.quiet 11 (.only 12 (.quiet 13 (.quiet 14 (.quiet 15 (.quiet 16 (.quiet 17 (.quiet 18 (.quiet 19 (.quiet 20 (.quiet 21 (.quiet 22 (.quiet 23 (.quiet 24 (.quiet 25 (.quiet 27 (.quiet 28 (.quiet 29 (.quiet 30 (.quiet 31 (.only 26 (.quiet 32 (.quiet 33 (.quiet 34 .done))))))))))))))))))))))))))))))))))) (by kernel_rfl) (by kernel_rfl) (by kernel_rfl) (fun _ _ _ _ _ h => h) ?_
              intro V0 hV0
              iterate 12 (first
                | (refine ordB_skip rfl rfl ?_; simp only [Act.put, List.setIfInBounds_toArray, List.set_cons_zero, List.set_cons_succ])
                | (refine ordB_take (v := ?_) rfl rfl ?_ ?_
                   rotate_left 1
                   focus (intro W hW; obtain ⟨hcW, hfW⟩ := bcell hW; (go_simp <;> with_reducible rfl))
                   simp only [Act.put, List.setIfInBounds_toArray, List.set_cons_zero, List.set_cons_succ]))
              refine ordB_only (opB_call rfl rfl (fun K hK => ?_))
              go_simp
              go_at_call 10
              refine (HBEF.out V0).mono ?_
              rintro e V0_1 ⟨rfl, hq1⟩
              refine hK.out _ _ (hV0.trans (hq1.mono hV0.size)) (fun hV0_1 => ?_)
              iterate 18 (first
                | (refine ordB_skip rfl rfl ?_; simp only [Act.put, List.setIfInBounds_toArray, List.set_cons_zero, List.set_cons_succ])
                | (refine ordB_take (v := ?_) rfl rfl ?_ ?_
                   rotate_left 1
                   focus (intro W hW; obtain ⟨hcW, hfW⟩ := bcell hW; (go_simp <;> with_reducible rfl))
                   simp only [Act.put, List.setIfInBounds_toArray, List.set_cons_zero, List.set_cons_succ]))
              refine ordB_only (opB_cskip rfl rfl hV0_1 ?_)
              simp only [Act.put, List.setIfInBounds_toArray, List.set_cons_zero, List.set_cons_succ]
              iterate 3 (first
                | (refine ordB_skip rfl rfl ?_; simp only [Act.put, List.setIfInBounds_toArray, List.set_cons_zero, List.set_cons_succ])
                | (refine ordB_take (v := ?_) rfl rfl ?_ ?_
                   rotate_left 1
                   focus (intro W hW; obtain ⟨hcW, hfW⟩ := bcell hW; (go_simp <;> with_reducible rfl))
                   simp only [Act.put, List.setIfInBounds_toArray, List.set_cons_zero, List.set_cons_succ]))
              refine ordB_nil ?_
              go_wp2_with fail
              go_meet
              exact ⟨rfl, hV0_1⟩
        case rest =>
          obtain ⟨wC, rfl⟩ : ∃ W, W = wc := ⟨wc, rfl⟩
          obtain ⟨rfl, hbC⟩ := hcut
          have HBC := Lib.hid hbC
          clear hbC e0 e1 e2 el d0 d1 hbb
          go_wp2_with fail
          go_loopw [17] (fun i wr => ∃ r : Nat, r ≤ q ∧ i = .int .i64 (r : Int) ∧ Below wC.heap.size wC wr) (fun i _ => q - (intOf i).toNat)
          case atStart => exact ⟨0, Nat.zero_le _, rfl, Below.refl _ _⟩
          case round =>
            obtain ⟨wJ, rfl⟩ : ∃ W, W = wr := ⟨wr, rfl⟩
            obtain ⟨r, hr, rfl, hbJ⟩ := hrel
            have hbRJ : Below wR.heap.size wR wJ := HBC.out.trans (hbJ.mono HBC.out.size)
            by_cases hrq : r < q
            · have hri : (r : Int) < (q : Int) := by omega
              have hrl : (r : Int) < (b.length : Int) := by omega
              have hr0 : (0 : Int) ≤ (r : Int) := by omega
              have hq0 : (0 : Int) ≤ (q : Int) := by omega
              obtain ⟨b4, o4, x, hA4, hb4, hx4, g0, g1⟩ := (HSR.out.below keeps_rs hbRJ).rs (k := r) (by omega)
              obtain ⟨b5, o5, y5, hA5, hb5, hx5, g2, g3⟩ := (HSR.out.below keeps_rs hbRJ).rs hlt
              injection hA4 with hA4
              injection hA4 with hA41 hA42
              subst hA41 hA42
              injection hA5 with hA5
              injection hA5 with hA51 hA52
              subst hA51 hA52
              obtain rfl : y5 = y := Option.some.inj (hx5.symm.trans HY.out)
              have hne : ¬ x.tx = y5.tx := pair_at HO.out.texts hrq hx4 hx5
              have hne2 : (x.tx.toList == y5.tx.toList) = false := by rw [beq_eq_false_iff_ne]; exact fun e => hne (toL_inj e)
              have HBJ := Lib.hid hbJ
              clear hx4 hx5 hbJ hbRJ g1 g3
              go_wp2_with fail
              go_quiet (fail)
              go_wp2_with fail
              go_roundw
              case rel => exact ⟨r + 1, by omega, by go_num, below_drewN HBJ.out _⟩
              case measure => simp [intOf]; omega
            · obtain rfl : r = q := by omega
              have hri : ¬ ((r : Nat) : Int) < (r : Int) := by omega
              have HBJ := Lib.hid hbRJ
              clear hbRJ hbJ
              go_wp2_with fail
              go_roundw
              case rel => exact ⟨r + 1, by omega, by go_num, HBR.out.trans (HBJ.out.mono HBR.out.size)⟩
              case measure => simp [intOf]; omega
      · obtain rfl : q = b.length := by omega
        have hqi : ¬ ((b.length : Nat) : Int) < (b.length : Int) := by omega
        by_cases hea : ea = 0
        · have hpos : (0 : Int) < (a.length : Int) := by rcases HO.out.some_ with h | h; exact absurd hea h; omega
          subst hea
          go_wp2_with fail
          go_ret
          exact ⟨rfl, HBW.out.trans (hb5R.mono HBW.out.size)⟩
        · go_wp2_with fail
          go_ret
          exact ⟨rfl, HBW.out.trans (hb5R.mono HBW.out.size)⟩
end Go.Proofs.Ytkjfdjcagfkdhaa
