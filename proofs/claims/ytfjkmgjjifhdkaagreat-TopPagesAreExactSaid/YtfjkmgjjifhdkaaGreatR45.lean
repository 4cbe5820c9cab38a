/-
  The walks of layer 20: the lattices that the laws draw.
-/
import Derived.Test.YtfjkmgjjifhdkaaGreatR44
import Derived.Test.YtfjkmgjjifhdkaaGreatR41
namespace Go.Proofs.YtfjkmgjjifhdkaaGreat
open Go Go.RowKit

def RR4 (_ : World) (r : R4) (vs : List Value) : Prop := vs = [.int .u8 r.a, .int .u8 r.b, .int .u8 r.c, .int .u8 r.d]
theorem keeps_r4 : Keeps RR4 := fun _ _ _ _ _ h => h
theorem SlR.r4 {w : World} {A : Option Addr} {k : Nat} {xs : List R4} (h : SlR 4 RR4 w A xs) (hk : k < xs.length) : ∃ b off x, A = some ⟨b, off, none⟩ ∧ b < w.heap.size ∧ xs[k]? = some x ∧
    w.cell? ⟨b, off + k * 4, none⟩ = some (.int .u8 x.a) ∧ w.cell? ⟨b, off + k * 4 + 1, none⟩ = some (.int .u8 x.b) ∧ w.cell? ⟨b, off + k * 4 + 2, none⟩ = some (.int .u8 x.c) ∧
    w.cell? ⟨b, off + k * 4 + 3, none⟩ = some (.int .u8 x.d) := by
  obtain ⟨b, off, x, vs, hA, hlt, hx, hr, _, hv⟩ := h.at_ hk
  exact ⟨b, off, x, hA, hlt, hx, hv 0 _ (by rw [hr]; rfl), hv 1 _ (by rw [hr]; rfl), hv 2 _ (by rw [hr]; rfl), hv 3 _ (by rw [hr]; rfl)⟩
def GivesLa (x : La) (w : World) (r : Ending) (w' : World) : Prop := ∃ (B : Option Addr) (c : Nat), r = .returned (.agg #[.int .i64 x.n, .slice B x.es.length c]) ∧ SlR 4 REd w' B x.es ∧ (x.es.length ≤ c ∧ c ≤ maxLen) ∧ Below w.heap.size w w' ∧ w'.ownsRow w.heap.size 44 4 (.slice B x.es.length c) x.es.length (x.es.flatMap encEd)
set_option maxRecDepth 100000 in
set_option maxHeartbeats 16000000 in
theorem lat_any (A : Option Addr) (l : List R4) (c : Nat) (pl n : Int) (w : World) (hs : SlR 4 RR4 w A l) (hl : l.length ≤ maxLen) (hok : ∀ r ∈ l, R4OK r) (hpl : 0 ≤ pl ∧ pl ≤ 255) (hn : 1 ≤ n ∧ n ≤ 200) :
    Calls Tryz.prog 7 #[.slice A l.length c, .int .u8 pl, .int .i64 n] w (GivesLa (latM l pl n) w) := by
  obtain ⟨i0, hi, hz0, hz1, hz2⟩ := info_parts edge_info
  unfold maxLen at hl
  obtain ⟨N, hN⟩ : ∃ N : Nat, pl % 6 = (N : Int) := ⟨(pl % 6).toNat, by have := Int.emod_nonneg pl (show (6 : Int) ≠ 0 by omega); omega⟩
  have hN5 : N ≤ 5 := by have := Int.emod_lt_of_pos pl (show (0 : Int) < 6 by omega); omega
  have HLM : Hid (latM l pl n = ⟨(N : Int), if N = 0 then [] else latTo N n l (min l.length 8)⟩) := by
    show _ = _
    unfold latM
    rw [hN, Int.toNat_natCast]
    by_cases h : N = 0
    · simp [h]
    · have : ¬ (N : Int) = 0 := by omega
      simp [h]
  have hpt : pl.tmod 6 = (N : Int) := by rw [Int.tmod_eq_emod_of_nonneg hpl.1]; exact hN
  have hw1' : IntKind.u8.wrap (N : Int) = (N : Int) := IntWalk.u8_in _ (by omega)
  have hw2' : IntKind.i64.wrap (N : Int) = (N : Int) := IntWalk.i64_in _ (by omega)
  obtain ⟨w2, hw2⟩ : ∃ w2, w.alloc (.cells #[.int .i64 0, .slice none 0 0] 27) = w2 := ⟨_, rfl⟩
  have hb2 : Below w.heap.size w w2 := by rw [← hw2]; exact nw _ (Below.refl _ _)
  have hRB : Blk w2 w.heap.size 27 #[.int .i64 0, .slice none 0 0] := by rw [← hw2]; exact Blk.new _ _ _
  have HW2 := Lib.hid hw2
  obtain ⟨w3, hw3⟩ : ∃ W, w2.alloc (.cells #[.int .i64 (N : Int), .slice none 0 0] 27) = W := ⟨_, rfl⟩
  have hb3 : Below w2.heap.size w2 w3 := by rw [← hw3]; exact nw _ (Below.refl _ _)
  have hXB : Blk w3 w2.heap.size 27 #[.int .i64 (N : Int), .slice none 0 0] := by rw [← hw3]; exact Blk.new _ _ _
  have hs3 : w3.heap.size = w2.heap.size + 1 := by rw [← hw3]; simp
  have HW3 := Lib.hid hw3
  have hR3 := hRB.below hb3 hRB.lt
  have hRX := hRB.lt
  obtain ⟨bX, hbX⟩ : ∃ b, w2.heap.size = b := ⟨_, rfl⟩
  rw [hbX] at hXB hs3 hRX
  have HBX := Lib.hid hbX
  have HSX := Lib.hid hs3
  have HXB := Lib.hid hXB
  have HBW := Lib.hid (bthen hb2 hb3)
  have HR : Hid (∀ W, Below bX w3 W → Blk W w.heap.size 27 #[.int .i64 0, .slice none 0 0]) := fun W hW => hR3.below hW hRX
  have HL : Hid (∀ W, Below bX w3 W → SlR 4 RR4 W A l) := fun W hW => hs.below keeps_r4 (HBW.out.trans (hW.mono (Nat.le_of_lt hRX)))
  have HOK := Lib.hid hok
  have hn0 : ¬ n = 0 := by omega
  clear hw2 hw3 hbX hs3 hXB hR3 hRB hb2 hb3 hs hok hN
  go_enter Tryz.func7, Tryz.ntmps7
  go_upto_region 1 with fail
  rw [HW2.out]
  go_upto_region 2 with fail
  rw [HW3.out, HBX.out]
  go_wp2_with fail
  go_loopw [8] (fun i wr => ∃ (k : Nat) (V : Value), k ≤ N ∧ i = .int .i64 k ∧ Hid (Blk wr bX 27 #[.int .i64 (N : Int), V]) ∧ Hid (wr.ownsRow (bX + 1) 44 4 V k ((baseE n k).flatMap encEd)) ∧ Below bX w3 wr) (fun i _ => N - (intOf i).toNat)
  case atStart => exact ⟨0, .slice none 0 0, by omega, rfl, HXB, own_nil _ _ _ _, Below.refl _ _⟩
  case round =>
    obtain ⟨W0, rfl⟩ : ∃ V, V = wr := ⟨wr, rfl⟩
    obtain ⟨k, V, hk, rfl, HB, HO, hbr⟩ := hrel
    have HBr := Lib.hid hbr
    have hG0 : bX ≤ W0.heap.size := by have := HB.out.lt; omega
    have x0 := HB.out.cell 0
    have x1 := HB.out.cell 1
    have xl := HB.out.lt
    simp at x0 x1
    by_cases hlt : k < N
    · obtain ⟨km, hkm⟩ : ∃ q, (k : Int) % n = q := ⟨_, rfl⟩
      have hkt : (k : Int).tmod n = km := by rw [Int.tmod_eq_emod_of_nonneg (by omega)]; exact hkm
      have hkb : 0 ≤ km ∧ km < n := ⟨by rw [← hkm]; exact Int.emod_nonneg _ hn0, by rw [← hkm]; exact Int.emod_lt_of_pos _ (by omega)⟩
      have hkw : IntKind.i64.wrap km = km := IntWalk.i64_in _ (by omega)
      have hk1w : IntKind.i64.wrap ((k : Int) + 1) = (k : Int) + 1 := IntWalk.i64_in _ (by omega)
      have HBS : Hid (baseE n (k + 1) = baseE n k ++ [(Ed.mk (k : Int) ((k : Int) + 1) km 3)]) := by show _ = _; rw [baseE_succ, hkm]
      have hneB : V.ownBlock ≠ some bX := fun e => by have := own_block_le HO.out _ e; omega
      clear hkm hbr
      go_upto_region 5 with fail
      refine ordV_start (ButOwn V W0) (fun _ => True) [12] [(0, some false), (1, some false), (2, some false), (3, some false), (4, some false), (5, some false), (6, some false), (7, some false), (8, some false), (9, some true), (10, some true), (11, none), (12, some true)] (by kernel_rfl) (by kernel_rfl) (by kernel_rfl) (fun _ _ _ _ _ h => h) trivial ?_
      have HD : Below W0.heap.size W0 W0.drew := (Below.refl _ _).drew
      obtain ⟨Wd, hWd⟩ : ∃ Wd, W0.drew = Wd := ⟨_, rfl⟩
      rw [hWd] at HD ⊢
      clear hWd
      have HS0 := ButOwn.of_below (v := V) HD
      iterate 9 (refine ordV_takeS (v := ?_) rfl rfl HS0 ?_ ?_; rotate_left 1; (focus (intro W hW; have hcW := hW.cell; (go_simp <;> (try with_reducible rfl)))); simp only [Act.put, List.setIfInBounds_toArray, List.set_cons_zero, List.set_cons_succ])
      refine ordV_call rfl rfl (fun K hK => ?_)
      go_simp
      have HDc := HD.alloc HD.size (.cells #[.int .i64 (k : Int), .int .i64 ((k : Int) + 1), .int .i64 km, .int .i64 3] 44)
      have HSc := ButOwn.of_below (v := V) HDc
      refine hK.out _ _ trivial (fun _ _ => HSc) ?_
      clear hK K
      try simp only [Act.put, List.setIfInBounds_toArray, List.set_cons_zero, List.set_cons_succ]
      refine ordV_call rfl rfl (fun K hK => ?_)
      refine wp_appS (enc := encEd) (R := REd) _ _ 25 rfl (bX + 1) 44 i0 _ 4 32 Tryz.underlying25 hi hz0 hz1 hz2 rfl (by decide) V _ _ rfl ((own_below HO.out HD).alloc _) (some ⟨Wd.heap.size, 0, none⟩) 1 [(Ed.mk (k : Int) ((k : Int) + 1) km 3)] rfl (slr_blk (enc := encEd) (Blk.new_ rfl) (fun _ => rfl) (fun _ => rfl)) (fun _ _ _ h => h) (fun _ => rfl) (fun u hu => by simp [encEd] at hu; rcases hu with rfl | rfl | rfl | rfl <;> rfl) (by simp; omega) (by decide) (by have := HDc.size; omega) ?_
      intro v4 w4 hown4 hb4 ha4
      have HSd := HSc.apps hb4.size ha4
      refine hK.out _ _ trivial (fun _ _ => HSd) ?_
      clear hK K
      have hown5 : w4.ownsRow (bX + 1) 44 4 v4 (k + 1) ((baseE n k ++ [(Ed.mk (k : Int) ((k : Int) + 1) km 3)]).flatMap encEd) := by rw [flat_snocE]; simpa using hown4
      obtain ⟨A9, c9, hv4, hc9, hcm9, _⟩ := own_slr (R := REd) hown5 (fun _ => rfl) (fun _ => rfl) (by rw [List.length_append]; simp [baseE])
      subst hv4
      have hB4 := ((HB.out.below HD HB.out.lt).alloc (.cells #[.int .i64 (k : Int), .int .i64 ((k : Int) + 1), .int .i64 km, .int .i64 3] 44)).apps ha4 hneB
      have s1 := hB4.cell 1
      have sf1 := hB4.frozen 1
      have sl := hB4.lt
      simp at s1
      try simp only [Act.put, List.setIfInBounds_toArray, List.set_cons_zero, List.set_cons_succ]
      iterate 1 (refine ordV_takeR (v := ?_) rfl rfl ?_ ?_; rotate_left 1; (focus (intro W hW; (go_simp <;> (try with_reducible rfl)))); simp only [Act.put, List.setIfInBounds_toArray, List.set_cons_zero, List.set_cons_succ])
      refine ordV_call rfl rfl (fun K hK => ?_)
      go_simp
      refine hK.out _ _ trivial (fun _ h => by cases h) ?_
      clear hK K
      refine ordV_nil ?_
      have HB6 := Lib.hid (hB4.set_ 1 (.slice A9 (k + 1) c9))
      have HO6 := Lib.hid (own_set hown5 (a := ⟨bX, 1, none⟩) (own_blk_ne hown5 hB4 (by decide)) (.slice A9 (k + 1) c9))
      have HW6 := Lib.hid (((HBr.out.trans (HDc.mono hG0)).trans (hb4.mono (Nat.le_succ bX))).setCell (p := ⟨bX, 1, none⟩) (Nat.le_refl _) (.slice A9 (k + 1) c9))
      clear hown5 hown4 hB4 hb4 ha4 HD HDc HS0 HSc HSd s1 sf1 sl x0 x1 xl hkt hkw hk1w
      go_wp2_with fail
      go_roundw
      case rel => exact ⟨k + 1, .slice A9 (k + 1) c9, by omega, by go_num, (by show Blk _ _ _ _; simpa using HB6.out), (by rw [HBS.out]; exact HO6), HW6.out⟩
      case measure => simp [intOf]; omega
    · obtain rfl : N = k := by omega
      clear hbr
      go_wp2_with fail
      go_loopw [9] (fun i wr => ∃ (k : Nat) (V : Value), k ≤ l.length ∧ k ≤ 8 ∧ (N = 0 → k = 0) ∧ i = .int .i64 k ∧ Hid (Blk wr bX 27 #[.int .i64 (N : Int), V]) ∧ Hid (wr.ownsRow (bX + 1) 44 4 V (latTo N n l k).length ((latTo N n l k).flatMap encEd)) ∧ Below bX w3 wr) (fun i _ => 8 - (intOf i).toNat)
      case atStart => exact ⟨0, V, by omega, by omega, fun _ => rfl, rfl, HB, (by show W0.ownsRow _ _ _ _ (baseE n N).length ((baseE n N).flatMap encEd); rw [show (baseE n N).length = N by simp [baseE]]; exact HO.out), HBr.out⟩
      case round =>
        obtain ⟨W0, rfl⟩ : ∃ V, V = wr := ⟨wr, rfl⟩
        clear HB HO HBr hG0 x0 x1 xl
        obtain ⟨k, V, hkl, hk8, hkN, rfl, HB, HO, hbr⟩ := hrel
        have HBr := Lib.hid hbr
        have hG0 : bX ≤ W0.heap.size := by have := HB.out.lt; omega
        have x0 := HB.out.cell 0
        have xl := HB.out.lt
        simp at x0
        have hlen := latTo_len N n l k
        by_cases hgo : k < l.length ∧ k < 8 ∧ 0 < N
        · obtain ⟨hlk, hk8', hN0⟩ := hgo
          have hk8I : (k : Int) < 8 := by omega
          have hkI : (k : Int) < (l.length : Int) := by omega
          have hk0 : (0 : Int) ≤ (k : Int) := by omega
          have hN0I : (0 : Int) < (N : Int) := by omega
          have hNn : ¬ (N : Int) = 0 := by omega
          have hNn' : ¬ N = 0 := by omega
          obtain ⟨b, off, r, hA, hbb, hrr, d0, d1, d2, d3⟩ := (HL.out _ hbr).r4 hlk
          subst hA
          have HRR := Lib.hid hrr
          obtain ⟨⟨ha0, ha1⟩, ⟨hb0, hb1'⟩, ⟨hc0, hc1⟩, hd0, hd1⟩ := HOK.out r (List.mem_of_getElem? hrr)
          have HLS := Lib.hid (latTo_succ (N := N) (n := n) hrr)
          obtain ⟨fr, hfr⟩ : ∃ q, r.a % (N : Int) = q := ⟨_, rfl⟩
          obtain ⟨wd, hwd⟩ : ∃ q, r.c % n = q := ⟨_, rfl⟩
          obtain ⟨co, hco⟩ : ∃ q, r.d % 32 = q := ⟨_, rfl⟩
          obtain ⟨tq, htq⟩ : ∃ q, r.b % ((N : Int) - fr) = q := ⟨_, rfl⟩
          obtain ⟨tt, hto⟩ : ∃ q, fr + 1 + tq = q := ⟨_, rfl⟩
          have HEQ : Hid (Ed.mk (r.a % (N : Int)) (r.a % (N : Int) + 1 + r.b % ((N : Int) - r.a % (N : Int))) (r.c % n) (r.d % 32) = ⟨fr, tt, wd, co⟩) := by show _ = _; rw [hfr, hwd, hco, htq, hto]
          have hfrb : 0 ≤ fr ∧ fr < (N : Int) := ⟨by rw [← hfr]; exact Int.emod_nonneg _ hNn, by rw [← hfr]; exact Int.emod_lt_of_pos _ hN0I⟩
          have hwdb : 0 ≤ wd ∧ wd < n := ⟨by rw [← hwd]; exact Int.emod_nonneg _ hn0, by rw [← hwd]; exact Int.emod_lt_of_pos _ (by omega)⟩
          have hcob : 0 ≤ co ∧ co < 32 := ⟨by rw [← hco]; exact Int.emod_nonneg _ (by omega), by rw [← hco]; exact Int.emod_lt_of_pos _ (by omega)⟩
          have hNf : ¬ (N : Int) - fr = 0 := by omega
          have htqb : 0 ≤ tq ∧ tq < (N : Int) - fr := ⟨by rw [← htq]; exact Int.emod_nonneg _ hNf, by rw [← htq]; exact Int.emod_lt_of_pos _ (by omega)⟩
          have t1 : r.a.tmod (N : Int) = fr := by rw [Int.tmod_eq_emod_of_nonneg ha0]; exact hfr
          have t2 : r.c.tmod n = wd := by rw [Int.tmod_eq_emod_of_nonneg hc0]; exact hwd
          have t3 : r.d.tmod 32 = co := by rw [Int.tmod_eq_emod_of_nonneg hd0]; exact hco
          have t4 : r.b.tmod ((N : Int) - fr) = tq := by rw [Int.tmod_eq_emod_of_nonneg hb0]; exact htq
          have v1 : IntKind.i64.wrap r.a = r.a := IntWalk.i64_in _ (by omega)
          have v2 : IntKind.i64.wrap r.b = r.b := IntWalk.i64_in _ (by omega)
          have v3 : IntKind.i64.wrap r.c = r.c := IntWalk.i64_in _ (by omega)
          have v4' : IntKind.i64.wrap fr = fr := IntWalk.i64_in _ (by omega)
          have v5 : IntKind.i64.wrap wd = wd := IntWalk.i64_in _ (by omega)
          have v6 : IntKind.i64.wrap co = co := IntWalk.i64_in _ (by omega)
          have v7 : IntKind.u8.wrap co = co := IntWalk.u8_in _ (by omega)
          have v8 : IntKind.i64.wrap (fr + 1) = fr + 1 := IntWalk.i64_in _ (by omega)
          have v9 : IntKind.i64.wrap ((N : Int) - fr) = (N : Int) - fr := IntWalk.i64_in _ (by omega)
          have v10 : IntKind.i64.wrap tq = tq := IntWalk.i64_in _ (by omega)
          have v11 : IntKind.i64.wrap tt = tt := IntWalk.i64_in _ (by omega)
          have hneB : V.ownBlock ≠ some bX := fun e => by have := own_block_le HO.out _ e; omega
          clear hrr hbr hfr hwd hco htq
          go_upto_region 9 with fail
          refine ordB_below (.quiet 0 (.quiet 1 (.quiet 2 (.quiet 3 (.quiet 4 (.quiet 5 (.quiet 6 (.quiet 7 (.quiet 8 (.quiet 9 (.quiet 10 (.quiet 11 (.quiet 12 (.quiet 13 (.quiet 14 (.quiet 15 (.quiet 16 (.quiet 17 (.quiet 18 (.quiet 19 (.quiet 20 (.quiet 21 (.quiet 22 (.quiet 23 (.quiet 24 (.only 25 (.only 26 .done))))))))))))))))))))))))))) (by kernel_rfl) (by kernel_rfl) (by kernel_rfl) (fun _ _ _ _ _ h => h) ?_
          intro V0 hV0
          iterate 25 (first
            | (refine ordB_skip rfl rfl ?_; simp only [Act.put, List.setIfInBounds_toArray, List.set_cons_zero, List.set_cons_succ])
            | (refine ordB_take (v := ?_) rfl rfl ?_ ?_
               rotate_left 1
               focus (intro W hW; obtain ⟨hcW, hfW⟩ := bcell hW; (go_simp <;> with_reducible rfl))
               simp only [Act.put, List.setIfInBounds_toArray, List.set_cons_zero, List.set_cons_succ]))
          refine ordB_only (opB_call rfl rfl (fun K hK => ?_))
          go_simp
          refine hK.out _ _ (hV0.alloc hV0.size _) (fun hV0_1 => ?_)
          have bE := Blk.new V0 44 #[.int .i64 0, .int .i64 0, .int .i64 0, .int .i64 0]
          have bEb := nw (.cells #[.int .i64 0, .int .i64 0, .int .i64 0, .int .i64 0] 44) (Below.refl V0.heap.size V0)
          have bEg := hV0.size
          obtain ⟨V0_1, qqV0_1⟩ : ∃ W', V0.alloc (.cells #[.int .i64 0, .int .i64 0, .int .i64 0, .int .i64 0] 44) = W' := ⟨_, rfl⟩
          rw [qqV0_1] at hV0_1 bE bEb ⊢
          clear qqV0_1 bEb
          refine ordB_only (opB_call rfl rfl (fun K hK => ?_))
          have bEc0 := bE.cell 0
          have bEf0 := bE.frozen 0
          have bEc1 := bE.cell 1
          have bEf1 := bE.frozen 1
          have bEc2 := bE.cell 2
          have bEf2 := bE.frozen 2
          have bEc3 := bE.cell 3
          have bEf3 := bE.frozen 3
          simp at bEc0 bEc1 bEc2 bEc3
          go_simp
          refine hK.out _ _ ((((hV0_1.setCell (p := ⟨V0.heap.size, 0, none⟩) bEg _).setCell (p := ⟨V0.heap.size, 1, none⟩) bEg _).setCell (p := ⟨V0.heap.size, 2, none⟩) bEg _).setCell (p := ⟨V0.heap.size, 3, none⟩) bEg _) (fun hV0_1_2 => ?_)
          have bE := ((((bE.set_ 0 (.int .i64 fr)).set_ 1 (.int .i64 0)).set_ 2 (.int .i64 wd)).set_ 3 (.int .i64 co))
          obtain ⟨V0_1_2, qqV0_1_2⟩ : ∃ W', ((((V0_1.setCell ⟨V0.heap.size, 0, none⟩ (.int .i64 fr)).setCell ⟨V0.heap.size, 1, none⟩ (.int .i64 0)).setCell ⟨V0.heap.size, 2, none⟩ (.int .i64 wd)).setCell ⟨V0.heap.size, 3, none⟩ (.int .i64 co)) = W' := ⟨_, rfl⟩
          rw [qqV0_1_2] at hV0_1_2 bE  ⊢
          clear qqV0_1_2 bEc0 bEf0 bEc1 bEf1 bEc2 bEf2 bEc3 bEf3
          refine ordB_nil ?_
          have HW5 := Lib.hid (HBr.out.trans (hV0_1_2.mono hG0))
          have HB5 := Lib.hid (HB.out.below hV0_1_2 HB.out.lt)
          have HO5 := Lib.hid (own_below HO.out hV0_1_2)
          have bE := (show Blk V0_1_2 _ 44 #[.int .i64 fr, .int .i64 0, .int .i64 wd, .int .i64 co] by simpa using bE)
          obtain ⟨tE, htE⟩ : ∃ b, V0.heap.size = b := ⟨_, rfl⟩
          have htX : bX < tE := by have := hV0.size; omega
          have hneE := own_lt HO.out (k := tE) (by rw [← htE]; exact hV0.size)
          rw [htE] at bE ⊢
          obtain ⟨W5, hW5⟩ : ∃ V, V0_1_2 = V := ⟨_, rfl⟩
          rw [hW5] at HW5 HB5 HO5 bE ⊢
          have HEB := Lib.hid bE
          clear bE hW5 d0 d1 d2 d3 hbb x0 xl
          have e0 := HEB.out.cell 0
          have e1 := HEB.out.cell 1
          have ef1 := HEB.out.frozen 1
          have el := HEB.out.lt
          have x0 := HB5.out.cell 0
          have xl := HB5.out.lt
          simp at e0 e1 x0
          obtain ⟨bR, oR, r', hAR, hbR, hrr', d0, d1, d2, d3⟩ := (HL.out _ HW5.out).r4 hlk
          rw [HRR.out] at hrr'
          obtain rfl := Option.some.inj hrr'
          obtain ⟨rfl, rfl⟩ : b = bR ∧ off = oR := by simpa using hAR
          go_upto_region 10 with fail
          refine ordV_start (Below W5.heap.size W5) (fun _ => True) [17] [(0, some false), (1, some false), (2, some false), (3, some false), (4, some false), (5, some false), (6, some false), (7, some false), (8, some false), (9, some false), (10, some false), (11, some false), (12, some false), (13, some false), (14, some false), (15, some false), (16, some false), (17, some true)] (by kernel_rfl) (by kernel_rfl) (by kernel_rfl) (fun _ _ _ _ _ h => h) trivial ?_
          have hS0 : Below W5.heap.size W5 W5.drew := (Below.refl _ _).drew
          obtain ⟨W6, hWd⟩ : ∃ W0, W5.drew = W0 := ⟨_, rfl⟩
          rw [hWd] at hS0 ⊢
          clear hWd
          iterate 17 (refine ordV_takeS (v := ?_) rfl rfl hS0 ?_ ?_; rotate_left 1; (focus (intro W hW; obtain ⟨hcW, hfW⟩ := bcell hW; (go_simp <;> (try with_reducible rfl)))); simp only [Act.put, List.setIfInBounds_toArray, List.set_cons_zero, List.set_cons_succ])
          refine ordV_call rfl rfl (fun K hK => ?_)
          obtain ⟨hcS, hfS⟩ := bcell hS0
          go_simp
          refine hK.out _ _ trivial (fun _ h => by cases h) ?_
          clear hK K
          refine ordV_nil ?_
          have hE7 := (HEB.out.below hS0 HEB.out.lt).set_ 1 (.int .i64 tt)
          have hE7 := (show Blk (W6.setCell ⟨tE, 1, none⟩ (.int .i64 tt)) tE 44 #[.int .i64 fr, .int .i64 tt, .int .i64 wd, .int .i64 co] by simpa using hE7)
          have hB7 := (HB5.out.below hS0 HB5.out.lt).far (p := ⟨tE, 1, none⟩) (by show bX ≠ tE; omega) (.int .i64 tt)
          have hO7 := own_set (own_below HO5.out hS0) (a := ⟨tE, 1, none⟩) hneE (.int .i64 tt)
          have hW7 := (HW5.out.trans (hS0.mono (show bX ≤ W5.heap.size by omega))).setCell (p := ⟨tE, 1, none⟩) (Nat.le_of_lt htX) (.int .i64 tt)
          obtain ⟨W7, hW7e⟩ : ∃ V, W6.setCell ⟨tE, 1, none⟩ (.int .i64 tt) = V := ⟨_, rfl⟩
          rw [hW7e] at hE7 hB7 hO7 hW7 ⊢
          have HO7 := Lib.hid hO7
          have HW7 := Lib.hid hW7
          have HB7 := Lib.hid hB7
          obtain ⟨A7, c7, hV7, hc7, hcm7, hs7⟩ := own_slr (R := REd) hO7 (fun _ => rfl) (fun _ => rfl) rfl
          subst hV7
          have HFD := Lib.hid (lfind_any ⟨(N : Int), latTo N n l k⟩ A7 c7 ⟨fr, tt, wd, co⟩ W7 hs7 (by show (latTo N n l k).length ≤ maxLen; unfold maxLen; omega))
          have HIN : Hid (∀ W, Below W7.heap.size W7 W → Calls Tryz.prog 27 #[.slice A7 (latTo N n l k).length c7, vEd ⟨fr, tt, wd, co⟩] W (GivesE (insE ⟨fr, tt, wd, co⟩ (latTo N n l k)) W)) := fun W hW => linsert_any A7 _ c7 _ W (hs7.below keeps_ed hW) (by omega)
          have HAD := Lib.hid (show addE (N : Int) n (latTo N n l k) r = if findE (latTo N n l k) ⟨fr, tt, wd, co⟩ < 0 then insE ⟨fr, tt, wd, co⟩ (latTo N n l k) else latTo N n l k by unfold addE edR; rw [HEQ.out])
          have HCL : Hid (∀ W, Below W7.heap.size W7 W → (W.cell? ⟨bX, 0, none⟩ = some (.int .i64 (N : Int)) ∧ W.cell? ⟨bX, 1, none⟩ = some (.slice A7 (latTo N n l k).length c7) ∧ W.frozen? ⟨bX, 1, none⟩ = false ∧ bX < W.heap.size) ∧ (W.cell? ⟨tE, 0, none⟩ = some (.int .i64 fr) ∧ W.cell? ⟨tE, 1, none⟩ = some (.int .i64 tt) ∧ W.cell? ⟨tE, 2, none⟩ = some (.int .i64 wd) ∧ W.cell? ⟨tE, 3, none⟩ = some (.int .i64 co)) ∧ tE < W.heap.size) := fun W hW => by
            have q1 := HB7.out.below hW HB7.out.lt
            have q2 := hE7.below hW hE7.lt
            exact ⟨⟨by rw [q1.cell]; rfl, by rw [q1.cell]; rfl, q1.frozen 1, q1.lt⟩, ⟨by rw [q2.cell]; rfl, by rw [q2.cell]; rfl, by rw [q2.cell]; rfl, by rw [q2.cell]; rfl⟩, q2.lt⟩
          obtain ⟨⟨y0, y1, yf1, yl⟩, ⟨g0, g1, g2, g3⟩, gl⟩ := HCL.out _ (Below.refl _ _)
          have hXW7 : bX + 1 ≤ W7.heap.size := yl
          clear hE7 hB7 hO7 hW7 hW7e hs7 hcS hfS hS0 e0 e1 ef1 el x0 xl d0 d1 d2 d3 hbR hAR HO5 HB5 HW5 HEB hneE HO HB HBr hneB
          obtain ⟨fv, hfv⟩ : ∃ v, findE (latTo N n l k) ⟨fr, tt, wd, co⟩ = v := ⟨_, rfl⟩
          simp only at HFD
          rw [hfv] at HFD HAD
          clear hfv
          by_cases hfn : fv < 0
          · have z1 : decide (fv < 0) = true := decide_eq_true hfn
            rw [if_pos hfn] at HAD
            clear hfn
            generalize insE ⟨fr, tt, wd, co⟩ (latTo N n l k) = NL at *
            go_wp2_with (first | (go_at_call 26; go_loud (refine HFD.out.mono ?_; rintro e w8 ⟨rfl, hb8⟩; clear y0 y1 yf1 yl g0 g1 g2 g3 gl; obtain ⟨⟨y0, y1, yf1, yl⟩, ⟨g0, g1, g2, g3⟩, gl⟩ := HCL.out _ hb8)) | (go_at_call 27; go_loud (refine (HIN.out _ hb8).mono ?_; rintro e w9 ⟨B9, c9, rfl, hO9, hb9⟩; clear y0 y1 yf1 yl g0 g1 g2 g3 gl; obtain ⟨⟨y0, y1, yf1, yl⟩, ⟨g0, g1, g2, g3⟩, gl⟩ := HCL.out _ (bthen hb8 hb9))))
            have hB9 := HB7.out.below (bthen hb8 hb9) HB7.out.lt
            have hne9 := own_blk_ne hO9 hB9 (by decide)
            have HO10 := Lib.hid (own_base (own_set hO9 (a := ⟨bX, 1, none⟩) hne9 (.slice B9 NL.length c9)) (show bX + 1 ≤ w8.heap.size by have := hb8.size; omega))
            have HB10 := Lib.hid (hB9.set_ 1 (.slice B9 NL.length c9))
            have HW10 := Lib.hid ((HW7.out.trans ((bthen hb8 hb9).mono (show bX ≤ W7.heap.size by omega))).setCell (p := ⟨bX, 1, none⟩) (Nat.le_refl _) (.slice B9 NL.length c9))
            go_roundw
            case rel => exact ⟨k + 1, .slice B9 NL.length c9, by omega, by omega, fun h => absurd h hNn', by go_num, (by show Blk _ _ _ _; simpa using HB10.out), (by rw [HLS.out, HAD.out]; exact HO10), HW10.out⟩
            case measure => simp [intOf]; omega
          · have z1 : decide (fv < 0) = false := decide_eq_false hfn
            rw [if_neg hfn] at HAD
            clear hfn
            go_wp2_with (go_at_call 26; go_loud (refine HFD.out.mono ?_; rintro e w8 ⟨rfl, hb8⟩; clear y0 y1 yf1 yl g0 g1 g2 g3 gl; obtain ⟨⟨y0, y1, yf1, yl⟩, ⟨g0, g1, g2, g3⟩, gl⟩ := HCL.out _ hb8))
            have HB10 := Lib.hid (HB7.out.below hb8 HB7.out.lt)
            have HO10 := Lib.hid (own_below HO7.out hb8)
            have HW10 := Lib.hid (HW7.out.trans (hb8.mono (show bX ≤ W7.heap.size by omega)))
            go_roundw
            case rel => exact ⟨k + 1, _, by omega, by omega, fun h => absurd h hNn', by go_num, HB10, (by rw [HLS.out, HAD.out]; exact HO10), HW10.out⟩
            case measure => simp [intOf]; omega
        · have HW9 := Lib.hid hbr
          have hR9 := HR.out _ hbr
          have x1 := HB.out.cell 1
          have r0 := hR9.cell 0
          have r1 := hR9.cell 1
          have rf0 := hR9.frozen 0
          have rf1 := hR9.frozen 1
          have rl := hR9.lt
          simp at x1 r0 r1
          obtain ⟨A5, c5, hV5, hc5, hcm5, hs55⟩ := own_slr (R := REd) HO.out (fun _ => rfl) (fun _ => rfl) rfl
          clear hs55
          subst hV5
          have hneR : (Value.slice A5 (latTo N n l k).length c5).ownBlock ≠ some w.heap.size := fun e => by have := own_block_le HO.out _ e; omega
          have HES : Hid ((latM l pl n).es = latTo N n l k ∧ (latM l pl n).n = (N : Int)) := by
            show _ ∧ _
            rw [HLM.out]
            refine ⟨?_, rfl⟩
            show (if N = 0 then [] else latTo N n l (min l.length 8)) = _
            by_cases h0 : N = 0
            · rw [if_pos h0, hkN h0]
              subst h0
              rfl
            · rw [if_neg h0, show min l.length 8 = k by omega]
          obtain ⟨ES, hES⟩ : ∃ L, latTo N n l k = L := ⟨_, rfl⟩
          rw [hES] at HES HO hneR x1 hc5
          have HFIN : Hid (∀ W, (W0.setCell ⟨w.heap.size, 0, none⟩ (.int .i64 (N : Int))).setCell ⟨w.heap.size, 1, none⟩ (.slice A5 ES.length c5) = W → SlR 4 REd W A5 ES ∧ Blk W w.heap.size 27 #[.int .i64 (N : Int), .slice A5 ES.length c5] ∧ Below w.heap.size w W ∧ W.ownsRow w.heap.size 44 4 (.slice A5 ES.length c5) ES.length (ES.flatMap encEd)) := fun W hW => by
            subst hW
            have h1 := own_set (own_set HO.out (a := ⟨w.heap.size, 0, none⟩) hneR (.int .i64 (N : Int))) (a := ⟨w.heap.size, 1, none⟩) hneR (.slice A5 ES.length c5)
            obtain ⟨A9, c9, e1, _, _, s1⟩ := own_slr (R := REd) h1 (fun _ => rfl) (fun _ => rfl) rfl
            injection e1 with e1 _ _
            subst e1
            have hh := (hR9.set_ 0 (.int .i64 (N : Int))).set_ 1 (.slice A5 ES.length c5)
            exact ⟨s1, by simpa using hh, ((HBW.out.trans (HW9.out.mono (Nat.le_of_lt hRX))).setCell (p := ⟨w.heap.size, 0, none⟩) (Nat.le_refl _) _).setCell (p := ⟨w.heap.size, 1, none⟩) (Nat.le_refl _) _, own_base h1 (by omega)⟩
          have HCC := Lib.hid (And.intro hc5 hcm5)
          have hgo' : ¬ (k : Int) < (l.length : Int) ∨ ((k : Int) < (l.length : Int) ∧ ¬ (k : Int) < 8) ∨ ((k : Int) < (l.length : Int) ∧ (k : Int) < 8 ∧ N = 0) := by omega
          clear hR9 hbr hES HO hneR hc5 hcm5 hgo hlen hG0 hkN
          rcases hgo' with q1 | ⟨q1, q2⟩ | ⟨q1, q2, q3⟩
          · go_wp2_with fail
            obtain ⟨h1, h2, h3, h4⟩ := HFIN.out _ rfl
            refine ret_cell h2 rfl rfl Tryz.underlying27 rfl (by kernel_rfl) rfl ?_
            refine ⟨A5, c5, by rw [HES.out.1, HES.out.2], by rw [HES.out.1]; exact h1, by rw [HES.out.1]; exact HCC.out, h3, by rw [HES.out.1]; exact h4⟩
          · go_wp2_with fail
            obtain ⟨h1, h2, h3, h4⟩ := HFIN.out _ rfl
            refine ret_cell h2 rfl rfl Tryz.underlying27 rfl (by kernel_rfl) rfl ?_
            refine ⟨A5, c5, by rw [HES.out.1, HES.out.2], by rw [HES.out.1]; exact h1, by rw [HES.out.1]; exact HCC.out, h3, by rw [HES.out.1]; exact h4⟩
          · have q4 : ¬ (0 : Int) < (N : Int) := by omega
            have q5 : ¬ 0 < N := by omega
            clear q3
            go_wp2_with fail
            obtain ⟨h1, h2, h3, h4⟩ := HFIN.out _ rfl
            refine ret_cell h2 rfl rfl Tryz.underlying27 rfl (by kernel_rfl) rfl ?_
            refine ⟨A5, c5, by rw [HES.out.1, HES.out.2], by rw [HES.out.1]; exact h1, by rw [HES.out.1]; exact HCC.out, h3, by rw [HES.out.1]; exact h4⟩
end Go.Proofs.YtfjkmgjjifhdkaaGreat
