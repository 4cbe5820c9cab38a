/-
  The walk of layer 08's law SingleLong.
-/
import Derived.Test.YtfpnhgahkjglgaaP29
namespace Go.Proofs.Ytfpnhgahkjglgaa
open Go Go.RowKit Go.Maps

set_option maxRecDepth 100000 in
set_option maxHeartbeats 4000000 in
theorem power_any (c : UInt8) (n : Nat) (w : World) (hn : n ≤ 1000) : Calls Try.prog 10 #[.string { data := #[c] }, .int .i64 (n : Int)] w fun e w' => e = .returned (.string (powB c n)) ∧ w = w' := by
  go_enter Try.func10, Try.ntmps10
  go_wp2_with fail
  go_loopw [5, 6] (fun sv iv wr => ∃ k : Nat, k ≤ n ∧ sv = .string (powB c k) ∧ iv = .int .i64 (k : Int) ∧ w = wr) (fun _ iv _ => n - (intOf iv).toNat)
  case atStart => exact ⟨0, Nat.zero_le _, rfl, rfl, rfl⟩
  case round =>
    obtain ⟨k, hk, rfl, rfl, rfl⟩ := hrel
    by_cases hlt : k < n
    · have hki : (k : Int) < (n : Int) := by omega
      have hz : ¬ 9223372036854775807 < (powB c k).size + ({ data := #[c] } : ByteArray).size := by
        have h1 : (powB c k).size = k := by show (ba (List.replicate k c)).size = k; rw [ba_size, List.length_replicate]
        have h2 : ({ data := #[c] } : ByteArray).size = 1 := rfl
        omega
      have he : powB c k ++ { data := #[c] } = powB c (k + 1) := by
        show ba (List.replicate k c) ++ ba [c] = ba (List.replicate (k + 1) c)
        rw [ba_app, List.replicate_succ']
      go_wp2_with fail
      go_roundw
      case rel => exact ⟨k + 1, by omega, rfl, by go_num, by first | rfl | trivial⟩
      case measure => simp [intOf]; omega
    · obtain rfl : k = n := by omega
      have hki : ¬ (k : Int) < (k : Int) := by omega
      go_wp2_with fail
      go_ret
      exact ⟨rfl, rfl⟩
theorem lcm_of {p q : Nat} (hp : 0 < p ∧ p ≤ 4) (hq : 0 < q ∧ q ≤ 4) : ∃ n, 0 < n ∧ p ∣ n ∧ q ∣ n ∧ (∀ m, 0 < m → m < n → p ∣ m → ¬ q ∣ m) ∧ n ≤ 16 :=
  ⟨Nat.lcm p q, Nat.lcm_pos hp.1 hq.1, Nat.dvd_lcm_left p q, Nat.dvd_lcm_right p q, fun m h0 h1 h2 h3 => absurd (Nat.le_of_dvd h0 (Nat.lcm_dvd h2 h3)) (by omega), by
    have h1 := Nat.le_of_dvd (Nat.mul_pos hp.1 hq.1) (Nat.lcm_dvd (Nat.dvd_mul_right p q) (Nat.dvd_mul_left q p))
    have h2 := Nat.mul_le_mul hp.2 hq.2
    omega⟩
theorem long_ok {p q i j : Nat} (hp : 0 < p ∧ p ≤ 4) (hq : 0 < q ∧ q ≤ 4) (hi : i ≤ 4) (hj : j ≤ 4) : ScOK (longS p q i j) := by
  have hs : ∀ (c : UInt8) (n : Nat), (powB c n).size = n := fun c n => by show (ba (List.replicate n c)).size = n; rw [ba_size, List.length_replicate]
  have ha : ∀ n, smallS (powB 97 n) = true := fun n => List.all_eq_true.2 fun a h => by
    have h2 : a = 97 := (List.mem_replicate.1 (show a ∈ List.replicate n 97 from h)).2
    rw [h2]; rfl
  have hx : ∀ n, knownS (powB 120 n) = true := fun n => List.all_eq_true.2 fun a h => by
    have h2 : a = 120 := (List.mem_replicate.1 (show a ∈ List.replicate n 120 from h)).2
    rw [h2]; rfl
  refine ⟨by show (1 : Int) ≤ 4 ∧ (4 : Int) ≤ 8; omega, by show 6 ≤ 64; omega, by show (1 : Int) ≤ 8 ∧ (8 : Int) < 2 ^ (4 : Int).toNat; decide, fun r hr => ?_, ?_⟩
  · unfold longS at hr
    simp only [List.mem_cons, List.not_mem_nil, or_false] at hr
    rcases hr with rfl | rfl | rfl | rfl | rfl | rfl
    · show RuOK 4 _; decide
    · show RuOK 4 _; decide
    · exact ⟨show (0 ≤ (1 : Int) ∧ (1 : Int) < 4) ∧ 0 ≤ (1 : Int) ∧ (1 : Int) < 4 by decide, ⟨by rw [hs]; exact hp.2, ha p⟩, ⟨by rw [hs]; exact hi, hx i⟩, show 0 ≤ (0 : Int) ∧ (0 : Int) ≤ 1000 by decide⟩
    · exact ⟨show (0 ≤ (2 : Int) ∧ (2 : Int) < 4) ∧ 0 ≤ (2 : Int) ∧ (2 : Int) < 4 by decide, ⟨by rw [hs]; exact hq.2, ha q⟩, ⟨by rw [hs]; exact hj, hx j⟩, show 0 ≤ (0 : Int) ∧ (0 : Int) ≤ 1000 by decide⟩
    · show RuOK 4 _; decide
    · show RuOK 4 _; decide
  · unfold longS List.Nodup
    simp
theorem long_E {p q i j : Nat} (hp : 0 < p ∧ p ≤ 4) (hq : 0 < q ∧ q ≤ 4) (hi : i ≤ 4) (hj : j ≤ 4) : soundE (longS p q i j) = 0 := soundE_iff.2 ⟨long_ok hp hq hi hj, long_sound hp.1 hq.1⟩
theorem long_in {p q i j : Nat} (hp : 0 < p ∧ p ≤ 4) (hq : 0 < q ∧ q ≤ 4) (hi : i ≤ 4) (hj : j ≤ 4) {W : World} {g : Nat} (h : Blk W g 32 #[.int .i64 0, .int .i64 1, .string { data := #[] }, .string { data := #[] }, .int .i64 0, .int .i64 0, .int .i64 2, .string { data := #[] }, .string { data := #[] }, .int .i64 0, .int .i64 1, .int .i64 1, .string (powB 97 p), .string (powB 120 i), .int .i64 0, .int .i64 2, .int .i64 2, .string (powB 97 q), .string (powB 120 j), .int .i64 0, .int .i64 1, .int .i64 3, .string { data := #[99] }, .string { data := #[] }, .int .i64 0, .int .i64 2, .int .i64 3, .string { data := #[99] }, .string { data := #[] }, .int .i64 0]) : ScIn W (longS p q i j) (some ⟨g, 0, none⟩) 6 :=
  lit_in (s := longS p q i j) (fun r hr => ⟨((long_ok hp hq hi hj).2.2.2.1 r hr).2.1.1, ((long_ok hp hq hi hj).2.2.2.1 r hr).2.2.1.1⟩) (by show (0 : Int) ≤ 8 ∧ (8 : Int) ≤ 255; omega) (by show 6 ≤ 64; omega) h
set_option maxRecDepth 100000 in
set_option maxHeartbeats 16000000 in
theorem singleLong_any (pa pb pc pd : Int) (w : World) (ha : 0 ≤ pa ∧ pa ≤ 255) (hb : 0 ≤ pb ∧ pb ≤ 255) (hc : 0 ≤ pc ∧ pc ≤ 255) (hd : 0 ≤ pd ∧ pd ≤ 255) :
    Calls Try.prog 4 #[.agg #[.int .u8 pa, .int .u8 pb, .int .u8 pc, .int .u8 pd]] w fun e w' => e = .returned (.bool true) ∧ Below w.heap.size w w' := by
  have HSA : Hid (∀ W, Calls Try.prog 5 #[] W fun e w' => e = .returned (.bool true) ∧ Below W.heap.size W w') := lsan_any
  have HPW : Hid (∀ (c : UInt8) (n : Nat) (W : World), n ≤ 1000 → Calls Try.prog 10 #[.string { data := #[c] }, .int .i64 (n : Int)] W fun e w' => e = .returned (.string (powB c n)) ∧ W = w') := fun c n W h => power_any c n W h
  obtain ⟨p, hp⟩ : ∃ p : Nat, 1 + pa % 4 = (p : Int) := ⟨(1 + pa % 4).toNat, by omega⟩
  obtain ⟨q, hq⟩ : ∃ p : Nat, 1 + pb % 4 = (p : Int) := ⟨(1 + pb % 4).toNat, by omega⟩
  obtain ⟨i, hi⟩ : ∃ p : Nat, pc % 5 = (p : Int) := ⟨(pc % 5).toNat, by omega⟩
  obtain ⟨j, hj⟩ : ∃ p : Nat, pd % 5 = (p : Int) := ⟨(pd % 5).toNat, by omega⟩
  have hp4 : 0 < p ∧ p ≤ 4 := by omega
  have hq4 : 0 < q ∧ q ≤ 4 := by omega
  have hi4 : i ≤ 4 := by omega
  have hj4 : j ≤ 4 := by omega
  have HP4 := Lib.hid hp4
  have HQ4 := Lib.hid hq4
  have ht1 : pa.tmod 4 = pa % 4 := Int.tmod_eq_emod_of_nonneg ha.1
  have ht2 : pb.tmod 4 = pb % 4 := Int.tmod_eq_emod_of_nonneg hb.1
  have ht3 : pc.tmod 5 = (i : Int) := by rw [Int.tmod_eq_emod_of_nonneg hc.1, hi]
  have ht4 : pd.tmod 5 = (j : Int) := by rw [Int.tmod_eq_emod_of_nonneg hd.1, hj]
  have hw1 : IntKind.i64.wrap (1 + IntKind.i64.wrap (pa % 4)) = (p : Int) := by rw [IntWalk.i64_in (pa % 4) (by omega), IntWalk.i64_in _ (by omega), hp]
  have hw2 : IntKind.i64.wrap (1 + IntKind.i64.wrap (pb % 4)) = (q : Int) := by rw [IntWalk.i64_in (pb % 4) (by omega), IntWalk.i64_in _ (by omega), hq]
  have hw3 : IntKind.i64.wrap (i : Int) = (i : Int) := IntWalk.i64_in _ (by omega)
  have hw4 : IntKind.i64.wrap (j : Int) = (j : Int) := IntWalk.i64_in _ (by omega)
  obtain ⟨w1, hw1'⟩ : ∃ w1, w.alloc (.cells #[.int .u8 pa, .int .u8 pb, .int .u8 pc, .int .u8 pd] 40) = w1 := ⟨_, rfl⟩
  obtain ⟨g1, hg1⟩ : ∃ g, w.heap.size = g := ⟨_, rfl⟩
  have hb1 : Below w.heap.size w w1 := by rw [← hw1']; exact nw _ (Below.refl _ _)
  have hB : Blk w1 g1 40 #[.int .u8 pa, .int .u8 pb, .int .u8 pc, .int .u8 pd] := by rw [← hw1', ← hg1]; exact Blk.new _ _ _
  have HW1 := Lib.hid hw1'
  have HB1 := Lib.hid hb1
  have HG1 := Lib.hid hg1
  have HBB := Lib.hid hB
  clear hw1' hb1 hB hg1 hp hq hi hj hp4 hq4
  go_enter Try.func4, Try.ntmps4
  go_upto_region 1 with fail
  rw [HW1.out, HG1.out]
  go_upto_region 2 with (go_at_call 5; go_loud (refine (HSA.out _).mono ?_; rintro e w2 ⟨rfl, hb2⟩))
  have a0 := (HBB.out.below hb2 HBB.out.lt).cell 0
  have a1 := (HBB.out.below hb2 HBB.out.lt).cell 1
  have a2 := (HBB.out.below hb2 HBB.out.lt).cell 2
  have a3 := (HBB.out.below hb2 HBB.out.lt).cell 3
  have al := (HBB.out.below hb2 HBB.out.lt).lt
  simp at a0 a1 a2 a3
  refine ordB_below (.quiet 0 (.quiet 1 (.quiet 2 (.quiet 3 (.quiet 4 (.quiet 5 (.quiet 6 (.quiet 7 (.quiet 8 (.quiet 9 (.quiet 10 (.quiet 11 (.quiet 12 (.quiet 13 (.quiet 14 (.quiet 15 (.quiet 16 (.quiet 17 (.quiet 18 (.quiet 19 (.quiet 20 (.quiet 21 .done)))))))))))))))))))))) (by kernel_rfl) (by kernel_rfl) (by kernel_rfl) (fun _ _ _ _ _ h => h) ?_
  intro V0 hV0
  iterate 22 (first
    | (refine ordB_skip rfl rfl ?_; simp only [Act.put, List.setIfInBounds_toArray, List.set_cons_zero, List.set_cons_succ])
    | (refine ordB_take (v := ?_) rfl rfl ?_ ?_
       rotate_left 1
       focus (intro W hW; obtain ⟨hcW, hfW⟩ := bcell hW; (go_simp <;> with_reducible rfl))
       simp only [Act.put, List.setIfInBounds_toArray, List.set_cons_zero, List.set_cons_succ]))
  refine ordB_nil ?_
  have HB2 := Lib.hid ((HB1.out.trans (hb2.mono HB1.out.size)).trans (hV0.mono (by have := HB1.out.size; have := hb2.size; omega)))
  obtain ⟨W3, hW3⟩ : ∃ W, V0 = W := ⟨_, rfl⟩
  rw [hW3] at HB2 ⊢
  clear hW3 hV0
  clear a0 a1 a2 a3 al hb2 ht1 ht2 ht3 ht4 hw1 hw2 hw3 hw4 ha hb hc hd
  have hpn : p ≤ 1000 := by have := HP4.out; omega
  have hqn : q ≤ 1000 := by have := HQ4.out; omega
  have hin : i ≤ 1000 := by omega
  have hjn : j ≤ 1000 := by omega
  go_upto_region 4 with (go_at_call 10; go_loud (refine (HPW.out _ _ _ (by assumption)).mono ?_; rintro e w' ⟨rfl, rfl⟩))
  obtain ⟨gR, hgR⟩ : ∃ g, W3.heap.size = g := ⟨_, rfl⟩
  obtain ⟨gS, hgS⟩ : ∃ g, gR + 1 = g := ⟨_, rfl⟩
  obtain ⟨W4, hW4⟩ : ∃ W, (W3.alloc (.cells #[.int .i64 0, .int .i64 1, .string { data := #[] }, .string { data := #[] }, .int .i64 0, .int .i64 0, .int .i64 2, .string { data := #[] }, .string { data := #[] }, .int .i64 0, .int .i64 1, .int .i64 1, .string (powB 97 p), .string (powB 120 i), .int .i64 0, .int .i64 2, .int .i64 2, .string (powB 97 q), .string (powB 120 j), .int .i64 0, .int .i64 1, .int .i64 3, .string { data := #[99] }, .string { data := #[] }, .int .i64 0, .int .i64 2, .int .i64 3, .string { data := #[99] }, .string { data := #[] }, .int .i64 0] 32)).alloc (.cells #[.int .i64 4, .int .u8 8, .slice (some ⟨gR, 0, none⟩) 6 6] 29) = W := ⟨_, rfl⟩
  have hb4 : Below W3.heap.size W3 W4 := by rw [← hW4]; exact nw _ (nw _ (Below.refl _ _))
  have hR : Blk W4 gR 32 #[.int .i64 0, .int .i64 1, .string { data := #[] }, .string { data := #[] }, .int .i64 0, .int .i64 0, .int .i64 2, .string { data := #[] }, .string { data := #[] }, .int .i64 0, .int .i64 1, .int .i64 1, .string (powB 97 p), .string (powB 120 i), .int .i64 0, .int .i64 2, .int .i64 2, .string (powB 97 q), .string (powB 120 j), .int .i64 0, .int .i64 1, .int .i64 3, .string { data := #[99] }, .string { data := #[] }, .int .i64 0, .int .i64 2, .int .i64 3, .string { data := #[99] }, .string { data := #[] }, .int .i64 0] := by rw [← hW4, ← hgR]; exact (Blk.new _ _ _).alloc _
  have hS : Blk W4 gS 29 #[.int .i64 4, .int .u8 8, .slice (some ⟨gR, 0, none⟩) 6 6] := by rw [← hW4]; exact Blk.new_ (by simp; omega)
  have HSC := Lib.hid (long_in HP4.out HQ4.out hi4 hj4 hR)
  have HCE : Hid (∀ W, Below W4.heap.size W4 W → W.cell? ⟨gS, 0, none⟩ = some (.int .i64 4) ∧ W.cell? ⟨gS, 1, none⟩ = some (.int .u8 8) ∧ W.cell? ⟨gS, 2, none⟩ = some (.slice (some ⟨gR, 0, none⟩) 6 6) ∧ gS < W.heap.size) := fun W hW => by
    have e1 := hS.below hW hS.lt
    exact ⟨by rw [e1.cell]; rfl, by rw [e1.cell]; rfl, by rw [e1.cell]; rfl, e1.lt⟩
  have HE := Lib.hid (long_E HP4.out HQ4.out hi4 hj4)
  have HFL : Hid (FlatR (longS p q i j)) := long_flat HP4.out.1 HQ4.out.1
  have HB4 := Lib.hid (HB2.out.trans (hb4.mono HB2.out.size))
  have HCK : Hid (Calls Try.prog 8 #[.agg #[.int .i64 4, .int .u8 8, .slice (some ⟨gR, 0, none⟩) 6 6]] W4 (IsChkR (longS p q i j) W4)) := scheck_any (longS p q i j) (some ⟨gR, 0, none⟩) 6 W4 HSC.out (fun _ _ => HFL.out)
  have HIS : Hid (∀ W, Below W4.heap.size W4 W → Calls Try.prog 9 #[.agg #[.int .i64 4, .int .u8 8, .slice (some ⟨gR, 0, none⟩) 6 6]] W (IsIsR (longS p q i j) W)) := fun W hW => sis_any (longS p q i j) (some ⟨gR, 0, none⟩) 6 W (HSC.out.below hW) (fun _ _ => HFL.out)
  simp only [hgR, hgS]
  rw [hW4]
  clear hW4 hgR hgS hb4 hR hS
  obtain ⟨s0, s1, s2, sl⟩ := HCE.out _ (Below.refl _ _)
  have hm1 : IntKind.i64.wrap ((i : Int) * (q : Int)) = ((i * q : Nat) : Int) := by
    rw [← Int.natCast_mul]
    have := HQ4.out
    have h := Nat.mul_le_mul hi4 this.2
    exact IntWalk.i64_in _ (by omega)
  have hm2 : IntKind.i64.wrap ((j : Int) * (p : Int)) = ((j * p : Nat) : Int) := by
    rw [← Int.natCast_mul]
    have := HP4.out
    have h := Nat.mul_le_mul hj4 this.2
    exact IntWalk.i64_in _ (by omega)
  by_cases heq : i * q = j * p
  · have HN : Hid (FirstTo (longS p q i j) none) := long_none HP4.out.1 HQ4.out.1 heq
    have hme : (((i * q : Nat) : Int) == ((j * p : Nat) : Int)) = true := by rw [heq]; simp
    have HEE : ∀ W, (Op.equalIn 10000 35 (.agg #[.string { data := #[] }, .string { data := #[] }, .string { data := #[] }]) (.agg #[.string { data := #[] }, .string { data := #[] }, .string { data := #[] }])).run Try.prog W = .ok true W := fun W => by rw [run_eqTw, decide_eq_true ⟨rfl, rfl, rfl⟩]
    clear heq
    go_upto_region 5 with (go_at_call 8; go_loud (refine HCK.out.mono ?_; rintro e W5 ⟨ti, ta, tb, er, rfl, hck, hb5⟩; obtain ⟨rfl, rfl, rfl, rfl⟩ := chk_none HE.out HN.out hck; have HB5 := Lib.hid hb5; clear hck hb5))
    obtain ⟨g9, hg9⟩ : ∃ g, W5.heap.size = g := ⟨_, rfl⟩
    obtain ⟨W6, hW6⟩ : ∃ W, W5.alloc (.cells #[.string ByteArray.empty, .string ByteArray.empty, .string ByteArray.empty] 35) = W := ⟨_, rfl⟩
    have hb6 : Below W4.heap.size W4 W6 := by rw [← hW6]; exact HB5.out.alloc HB5.out.size _
    have hT : Blk W6 g9 35 #[.string { data := #[] }, .string { data := #[] }, .string { data := #[] }] := by rw [← hW6, ← hg9]; exact Blk.new _ _ _
    have HB6 := Lib.hid hb6
    have t0 := hT.cell 0
    have t1 := hT.cell 1
    have t2 := hT.cell 2
    have tl := hT.lt
    simp at t0 t1 t2
    rw [hW6, hg9]
    clear hW6 hg9 hb6 hT s0 s1 s2 sl
    obtain ⟨s0, s1, s2, sl⟩ := HCE.out _ HB6.out
    go_wp2_with (go_at_call 9; go_loud (refine (HIS.out _ HB6.out).mono ?_; rintro e W7 ⟨b, rfl, hb, hb7⟩; obtain rfl := hb.2 ⟨HE.out, HN.out⟩; have HB7 := Lib.hid hb7; clear hb hb7))
    go_ret
    exact ⟨rfl, HB4.out.trans ((bthen HB6.out HB7.out).mono HB4.out.size)⟩
  · have hme : (((i * q : Nat) : Int) == ((j * p : Nat) : Int)) = false := by rw [beq_eq_false_iff_ne]; exact fun h => heq (by omega)
    have HNE := Lib.hid heq
    clear heq
    obtain ⟨N, hN0, hN1, hN2, hN3, hN4⟩ := lcm_of HP4.out HQ4.out
    have HF : Hid (FirstTo (longS p q i j) (some (bl (aNc N)))) := long_first HP4.out.1 HQ4.out.1 HNE.out hN0 hN1 hN2 hN3 (by omega)
    obtain ⟨k, hk⟩ := hN1
    obtain ⟨l, hl⟩ := hN2
    have hne : i * k ≠ j * l := fun e => HNE.out ((mul_cross HP4.out.1 HQ4.out.1 hk hl hN0).1 e)
    have hbst := long_best (i := i) (j := j) HP4.out.1 HQ4.out.1 hk hl hne
    have hk16 : k ≤ 16 := by have := Nat.le_mul_of_pos_left k HP4.out.1; omega
    have hl16 : l ≤ 16 := by have := Nat.le_mul_of_pos_left l HQ4.out.1; omega
    have hik1 : i * k ≤ 64 := Nat.mul_le_mul hi4 hk16
    have hjl1 : j * l ≤ 64 := Nat.mul_le_mul hj4 hl16
    have hq1 : IntKind.i64.wrap ((k : Int) * (i : Int)) = ((i * k : Nat) : Int) := by rw [Int.mul_comm, ← Int.natCast_mul]; exact IntWalk.i64_in _ (by omega)
    have hq2 : IntKind.i64.wrap ((l : Int) * (j : Int)) = ((j * l : Nat) : Int) := by rw [Int.mul_comm, ← Int.natCast_mul]; exact IntWalk.i64_in _ (by omega)
    have hd1 : (N : Int).tdiv (p : Int) = (k : Int) := by rw [hk, Int.natCast_mul]; exact Int.mul_tdiv_cancel_left _ (by have := HP4.out; omega)
    have hd2 : (N : Int).tdiv (q : Int) = (l : Int) := by rw [hl, Int.natCast_mul]; exact Int.mul_tdiv_cancel_left _ (by have := HQ4.out; omega)
    have hwk : IntKind.i64.wrap (k : Int) = (k : Int) := IntWalk.i64_in _ (by omega)
    have hwl : IntKind.i64.wrap (l : Int) = (l : Int) := IntWalk.i64_in _ (by omega)
    have hp0 : ¬ (p : Int) = 0 := by have := HP4.out; omega
    have hq0 : ¬ (q : Int) = 0 := by have := HQ4.out; omega
    have hp0n : ¬ p = 0 := by have := HP4.out; omega
    have hq0n : ¬ q = 0 := by have := HQ4.out; omega
    obtain ⟨mn, hmn⟩ : ∃ x, min (i * k) (j * l) = x := ⟨_, rfl⟩
    obtain ⟨mx, hmx⟩ : ∃ x, max (i * k) (j * l) = x := ⟨_, rfl⟩
    rw [hmn, hmx] at hbst
    have hmnx : mn ≠ mx := by omega
    have hmn1 : mn ≤ 64 := by omega
    have hmx1 : mx ≤ 64 := by omega
    have hmin : min ((i * k : Nat) : Int) ((j * l : Nat) : Int) = (mn : Int) := by omega
    have hmax : max ((i * k : Nat) : Int) ((j * l : Nat) : Int) = (mx : Int) := by omega
    obtain ⟨ik, hik⟩ : ∃ x, i * k = x := ⟨_, rfl⟩
    obtain ⟨jl, hjl⟩ : ∃ x, j * l = x := ⟨_, rfl⟩
    rw [hik, hjl] at hmin hmax
    rw [hik] at hq1
    rw [hjl] at hq2
    have HBST := Lib.hid hbst
    have HMNX := Lib.hid hmnx
    have hsz : ∀ n, (powB 120 n).size = n := fun n => by show (ba (List.replicate n 120)).size = n; rw [ba_size, List.length_replicate]
    have HPR : Hid (∀ W, Below W4.heap.size W4 W → Calls Try.prog 11 #[.agg #[.int .i64 4, .int .u8 8, .slice (some ⟨gR, 0, none⟩) 6 6], .agg #[.string (aNc N), .string (powB 120 mn), .string (powB 120 mx)]] W fun e w' => e = .returned (.bool true) ∧ Below W.heap.size W w') := fun W hW => by
      have hI := best_is (long_flatS (i := i) (j := j) HP4.out.1 HQ4.out.1 (aNc N))
      have hlet : letB (aNc N) = true := by have := first_let (long_ok HP4.out HQ4.out hi4 hj4) HF.out; rwa [ba_bl] at this
      have hP : PrvP (longS p q i j) (aNc N) (powB 120 mn) (powB 120 mx) := ⟨HE.out, fun e => HMNX.out (powB_inj e), hlet, ⟨0, (hI.mem.1 (show (⟨powB 120 mn, 0⟩ : Rs) ∈ _ by rw [HBST.out]; simp)).1⟩, ⟨0, (hI.mem.1 (show (⟨powB 120 mx, 0⟩ : Rs) ∈ _ by rw [HBST.out]; simp)).1⟩⟩
      refine (sproves_any (longS p q i j) (some ⟨gR, 0, none⟩) 6 (aNc N) (powB 120 mn) (powB 120 mx) W (HSC.out.below hW) (fun _ _ => HFL.out) (Nat.le_trans (letB_iff.1 hlet).1 (by decide)) (by rw [hsz]; omega) (by rw [hsz]; omega)).mono ?_
      rintro e w' ⟨b, rfl, hb, hbw⟩
      exact ⟨by rw [hb.2 hP], hbw⟩
    have HNI : Hid (∀ b : Bool, (b = true ↔ soundE (longS p q i j) = 0 ∧ FirstTo (longS p q i j) none) → b = false) := fun b hb => by
      cases b with
      | false => rfl
      | true => have := firstTo_unique (hb.1 rfl).2 HF.out; cases this
    have HCT : Hid (∀ {ti ta tb : ByteArray} {er : Int}, ChkP (longS p q i j) ti ta tb er → ti = aNc N ∧ ta = powB 120 mn ∧ tb = powB 120 mx ∧ er = 80) := fun {ti ta tb er} h => by
      have := chk_two HE.out HF.out (by rw [ba_bl]; exact long_big HP4.out.1 HQ4.out.1 _) (by rw [ba_bl]; exact HBST.out) h
      rwa [ba_bl] at this
    have HST : Hid (∀ n, 0 < n → p ∣ n → n ≤ N → ¬ q ∣ n → n + p ≤ N) := fun n h0 h1 h2 h3 => by
      have hlt : n < N := Nat.lt_of_le_of_ne h2 fun e => h3 (by rw [e]; exact ⟨l, hl⟩)
      have hd : p ∣ N - n := Nat.dvd_sub ⟨k, hk⟩ h1
      have := Nat.le_of_dvd (by omega) hd
      omega
    have HEN : Hid (∀ n, 0 < n → p ∣ n → n ≤ N → q ∣ n → n = N) := fun n h0 h1 h2 h3 => by
      rcases Nat.lt_or_ge n N with h | h
      · exact absurd h3 (hN3 n h0 h h1)
      · omega
    have hEE : ∀ W, (Op.equalIn 10000 35 (.agg #[.string (aNc N), .string (powB 120 mn), .string (powB 120 mx)]) (.agg #[.string (aNc N), .string (powB 120 mn), .string (powB 120 mx)])).run Try.prog W = .ok true W := fun W => by rw [run_eqTw, decide_eq_true ⟨rfl, rfl, rfl⟩]
    have HPN : Hid (p ≤ N) := Nat.le_of_dvd hN0 ⟨k, hk⟩
    clear hk hl hne hbst hmn hmx hmnx hik hjl hN3 hik1 hjl1 hk16 hl16
    go_upto_region 5 with (go_at_call 8; go_loud (refine HCK.out.mono ?_; rintro e W5 ⟨ti, ta, tb, er, rfl, hck, hb5⟩; obtain ⟨rfl, rfl, rfl, rfl⟩ := HCT.out hck; have HB5 := Lib.hid hb5; clear hck hb5))
    obtain ⟨g9, hg9⟩ : ∃ g, W5.heap.size = g := ⟨_, rfl⟩
    obtain ⟨W6, hW6⟩ : ∃ W, W5.alloc (.cells #[.string (aNc N), .string (powB 120 mn), .string (powB 120 mx)] 35) = W := ⟨_, rfl⟩
    have hb6 : Below W4.heap.size W4 W6 := by rw [← hW6]; exact HB5.out.alloc HB5.out.size _
    have hT : Blk W6 g9 35 #[.string (aNc N), .string (powB 120 mn), .string (powB 120 mx)] := by rw [← hW6, ← hg9]; exact Blk.new _ _ _
    have HB6 := Lib.hid hb6
    have HT := Lib.hid hT
    rw [hW6, hg9]
    clear hW6 hg9 hb6 hT s0 s1 s2 sl
    go_wp2_with fail
    go_loopw [11] (fun nv wr => ∃ n : Nat, 0 < n ∧ n ≤ N ∧ Hid (p ∣ n) ∧ nv = .int .i64 (n : Int) ∧ W6 = wr) (fun nv _ => N - (intOf nv).toNat)
    case atStart => exact ⟨p, HP4.out.1, HPN.out, Nat.dvd_refl p, rfl, rfl⟩
    case round =>
      obtain ⟨n, hn0, hnN, HD, rfl, rfl⟩ := hrel
      have htm : (n : Int).tmod (q : Int) = ((n % q : Nat) : Int) := by rw [Int.tmod_eq_emod_of_nonneg (by omega)]; rfl
      by_cases hdv : n % q = 0
      · have hz : (((n % q : Nat) : Int) != 0) = false := by rw [hdv]; rfl
        have hnN2 : n = N := HEN.out n hn0 HD.out hnN (Nat.dvd_of_mod_eq_zero hdv)
        rw [hnN2] at htm hz ⊢
        have HIN := Lib.hid hnN2
        clear hdv hnN2 hnN
        have hN1000 : N ≤ 1000 := by omega
        have hmn1000 : mn ≤ 1000 := by omega
        have hmx1000 : mx ≤ 1000 := by omega
        have hjn : ¬ 9223372036854775807 < (powB 97 N).size + ({ data := #[99] } : ByteArray).size := by
          have h1 : (powB 97 N).size = N := by show (ba (List.replicate N 97)).size = N; rw [ba_size, List.length_replicate]
          have h2 : ({ data := #[99] } : ByteArray).size = 1 := rfl
          omega
        have han : powB 97 N ++ { data := #[99] } = aNc N := rfl
        go_upto_region 10 with fail
        refine ordB_below (.quiet 0 (.quiet 1 (.quiet 2 (.quiet 3 (.quiet 4 (.quiet 5 (.quiet 6 (.quiet 7 (.quiet 8 (.quiet 9 (.quiet 10 (.quiet 11 .done)))))))))))) (by kernel_rfl) (by kernel_rfl) (by kernel_rfl) (fun _ _ _ _ _ h => h) ?_
        intro V0 hV0
        iterate 12 (first
          | (refine ordB_skip rfl rfl ?_; simp only [Act.put, List.setIfInBounds_toArray, List.set_cons_zero, List.set_cons_succ])
          | (refine ordB_take (v := ?_) rfl rfl ?_ ?_
             rotate_left 1
             focus (intro W hW; obtain ⟨hcW, hfW⟩ := bcell hW; (go_simp <;> with_reducible rfl))
             simp only [Act.put, List.setIfInBounds_toArray, List.set_cons_zero, List.set_cons_succ]))
        refine ordB_nil ?_
        have HB8 := Lib.hid (HB6.out.trans (hV0.mono HB6.out.size))
        have HT8 := Lib.hid (HT.out.below hV0 HT.out.lt)
        obtain ⟨W8, hW8⟩ : ∃ W, V0 = W := ⟨_, rfl⟩
        rw [hW8] at HB8 HT8 ⊢
        clear hW8 hV0
        go_upto_region 12 with (go_at_call 10; go_loud (refine (HPW.out _ _ _ (by assumption)).mono ?_; rintro e w' ⟨rfl, rfl⟩))
        obtain ⟨g14, hg14⟩ : ∃ g, W8.heap.size = g := ⟨_, rfl⟩
        obtain ⟨W9, hW9⟩ : ∃ W, W8.alloc (.cells #[.string (aNc N), .string (powB 120 mn), .string (powB 120 mx)] 35) = W := ⟨_, rfl⟩
        have hb9 : Below W8.heap.size W8 W9 := by rw [← hW9]; exact nw _ (Below.refl _ _)
        have hT9 := HT8.out.below hb9 HT8.out.lt
        have hU9 : Blk W9 g14 35 #[.string (aNc N), .string (powB 120 mn), .string (powB 120 mx)] := by rw [← hW9, ← hg14]; exact Blk.new _ _ _
        have HB9 := Lib.hid (bthen HB8.out hb9)
        have HTU : Hid (∀ W, Below W9.heap.size W9 W → W.cell? ⟨g9, 0, none⟩ = some (.string (aNc N)) ∧ W.cell? ⟨g9, 1, none⟩ = some (.string (powB 120 mn)) ∧ W.cell? ⟨g9, 2, none⟩ = some (.string (powB 120 mx)) ∧ g9 < W.heap.size) := fun W hW => by
          have e1 := hT9.below hW hT9.lt
          exact ⟨by rw [e1.cell]; rfl, by rw [e1.cell]; rfl, by rw [e1.cell]; rfl, e1.lt⟩
        obtain ⟨t0, t1, t2, tl⟩ := HTU.out _ (Below.refl _ _)
        have u0 := hU9.cell 0
        have u1 := hU9.cell 1
        have u2 := hU9.cell 2
        have ul := hU9.lt
        simp at u0 u1 u2
        rw [hW9, hg14]
        clear hW9 hg14 hb9 hT9 hU9
        obtain ⟨s0, s1, s2, sl⟩ := HCE.out _ HB9.out
        go_wp2_with (first | (go_at_call 9; go_loud (refine (HIS.out _ (bthen HB9.out hb10)).mono ?_; rintro e W11 ⟨b, rfl, hb, hb11⟩; obtain rfl := HNI.out b hb; clear hb)) | (go_at_call 11; go_loud (refine (HPR.out _ HB9.out).mono ?_; rintro e W10 ⟨rfl, hb10⟩; obtain ⟨s0, s1, s2, sl⟩ := HCE.out _ (bthen HB9.out hb10))))
        go_ret
        exact ⟨rfl, HB4.out.trans ((bthen HB9.out (bthen hb10 hb11)).mono HB4.out.size)⟩
      · have hz : (((n % q : Nat) : Int) != 0) = true := by rw [bne_iff_ne]; omega
        have HSP := Lib.hid (HST.out n hn0 HD.out hnN fun h => hdv (Nat.mod_eq_zero_of_dvd h))
        have hsp := HSP.out
        clear hdv
        go_wp2_with fail
        go_roundw
        case rel => exact ⟨n + p, by omega, hsp, (Nat.dvd_add HD.out (Nat.dvd_refl p)), by go_num, by first | rfl | trivial⟩
        case measure => simp [intOf]; omega
end Go.Proofs.Ytfpnhgahkjglgaa
