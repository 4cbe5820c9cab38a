/-
  The walks of layer 15: the reference's way that numbers choose.
-/
import Derived.Test.YtbikjmafddndpaaBsWalkD
import Derived.BigQuiet
namespace Go.Proofs.Ytbikjmafddndpaa
open Go Go.RowKit

/-- A way that was chosen, if there is one. -/
def IsChosen (g : Gr) (w : World) (e : Ending) (w' : World) : Prop := ∃ (ls : List Int) (b : Bool) (A : Option Addr) (c : Nat), e = .returned (.tuple #[.slice A ls.length c, .bool b]) ∧ SlR 1 RInt w' A ls ∧ (b = true → wayB g 0 ls = true) ∧ ls.length ≤ 10 ∧ ls.length ≤ c ∧ c ≤ maxLen ∧ Below w.heap.size w w'
set_option maxRecDepth 100000 in
set_option maxHeartbeats 16000000 in
theorem chosen_any (A : Option Addr) (c : Nat) (g : Gr) (N : Nat) (C : Option Addr) (cs : List Int) (d : Nat) (w : World) (hx : SlR 4 RLk w A g.ls) (hl : g.ls.length ≤ maxLen) (hg : GrOK g) (hN : g.n = (N : Int)) (hy : SlR 1 RU8 w C cs) (hl2 : cs.length ≤ maxLen) (hok8 : ∀ x ∈ cs, 0 ≤ x ∧ x ≤ 255) :
    Calls Try.prog 25 #[.agg #[.int .i64 (N : Int), .slice A g.ls.length c], .slice C cs.length d] w (IsChosen g w) := by
  unfold maxLen at hl hl2
  obtain ⟨i0, hi, hz0, hz1, hz2⟩ := info_parts bint_inf
  have hgn := hg.n
  rw [hN] at hgn
  obtain ⟨hn1, hn2⟩ := hgn
  obtain ⟨w1, hw1⟩ : ∃ w1, w.alloc (.cells #[.int .i64 (N : Int), .slice A g.ls.length c] 30) = w1 := ⟨_, rfl⟩
  have hb1 : Below w.heap.size w w1 := by rw [← hw1]; exact nw _ (Below.refl _ _)
  have hB1 : Blk w1 w.heap.size 30 #[.int .i64 (N : Int), .slice A g.ls.length c] := by rw [← hw1]; exact Blk.new _ _ _
  have HW1 := Lib.hid hw1
  have hB0' := hB1.lt
  obtain ⟨B, hBe⟩ : ∃ b, w1.heap.size = b := ⟨_, rfl⟩
  rw [hBe] at hB0'
  have hB0 : w.heap.size < B := hB0'
  have hBle : B ≤ w1.heap.size := Nat.le_of_eq hBe.symm
  have hBge : w1.heap.size ≤ B := Nat.le_of_eq hBe
  have hx1 := hx.below keeps_lk hb1
  have hy1 := hy.below keeps_u8 hb1
  have HX : Hid (∀ W, Below B w1 W → SlR 4 RLk W A g.ls) := fun W hW => hx1.below keeps_lk (hW.mono hBge)
  have HY : Hid (∀ W, Below B w1 W → SlR 1 RU8 W C cs) := fun W hW => hy1.below keeps_u8 (hW.mono hBge)
  have HG := Lib.hid hg
  have HN := Lib.hid hN
  have HO0 : Hid ((w1.alloc (.cells #[] 3)).ownsRow B 3 1 (.slice (some ⟨w1.heap.size, 0, none⟩) 0 0) 0 []) := own_empty w1 3 1 B hBle
  have HB0 : Hid (Below B w1 (w1.alloc (.cells #[] 3))) := (Below.refl _ _).alloc hBle _
  have h0N : (0 : Nat) < N := by omega
  clear hw1 hg hN hx1 hy1 hx hy hB0' hBe
  go_enter Try.func25, Try.ntmps25
  go_upto_region 1 with fail
  rw [HW1.out]
  go_wp2_with fail
  go_loopw [6, 7, 8] (fun av ov iv wr => ∃ (v k : Nat) (dn : List Int), av = .int .i64 (v : Int) ∧ iv = .int .i64 (k : Int) ∧ Hid (wr.ownsRow B 3 1 ov dn.length (dn.map (Value.int .i64))) ∧ dn.length ≤ k ∧ k ≤ dn.length ∧ k ≤ 10 ∧ v < N ∧ Hid (pathB g 0 dn = true ∧ endP g 0 dn = (v : Int)) ∧ Below B w1 wr) (fun _ _ iv _ => 10 - (intOf iv).toNat)
  case atStart => exact ⟨0, 0, [], rfl, rfl, HO0.out, Nat.le_refl _, Nat.le_refl _, by omega, h0N, ⟨rfl, rfl⟩, HB0.out⟩
  case round =>
    obtain ⟨v, k, dn, rfl, rfl, HO, hdk, hkd, hk10, hvN, HPA, hb⟩ := hrel
    have hB2 := hB1.below hb hB0
    have g0 := hB2.cell 0
    have g1 := hB2.cell 1
    have gl := hB2.lt
    simp at g0 g1
    have hBr : B ≤ wr.heap.size := Nat.le_trans hBle hb.size
    have hwN : IntKind.i64.wrap ((N : Int) - 1) = (N : Int) - 1 := IntWalk.i64_in _ (by omega)
    have hvN' : (v : Int) < (N : Int) := by omega
    by_cases hc : k < 10 ∧ v + 1 < N
    · obtain ⟨hk, hv⟩ := hc
      have hne : ((v : Int) != (N : Int) - 1) = true := by simp; omega
      have hk9 : (k : Int) < 10 := by omega
      obtain ⟨wo, rfl⟩ : ∃ W, W = wr := ⟨wr, rfl⟩
      have HNO : Hid ((wo.alloc (.cells #[] 3)).ownsRow wo.heap.size 3 1 (.slice (some ⟨wo.heap.size, 0, none⟩) 0 0) 0 []) := own_empty wo 3 1 wo.heap.size (Nat.le_refl _)
      have HNB : Hid (Below wo.heap.size wo (wo.alloc (.cells #[] 3))) := nw _ (Below.refl _ _)
      go_wp2_with fail
      go_loopw [9, 10] (fun nv jv wv => ∃ j : Nat, j ≤ g.ls.length ∧ jv = .int .i64 (j : Int) ∧ Hid (wv.ownsRow wo.heap.size 3 1 nv (lvTo g.ls (v : Int) j).length ((lvTo g.ls (v : Int) j).map (Value.int .i64))) ∧ Below wo.heap.size wo wv) (fun _ jv _ => g.ls.length - (intOf jv).toNat)
      case atStart => exact ⟨0, by omega, rfl, HNO, HNB.out⟩
      case round =>
        obtain ⟨j, hj, rfl, HNv, hbv⟩ := hrel
        have hbv1 : Below B w1 wr := hb.trans (hbv.mono hBr)
        have hBv := hB1.below hbv1 hB0
        have g0 := hBv.cell 0
        have g1 := hBv.cell 1
        have gl := hBv.lt
        simp at g0 g1
        by_cases hlt : j < g.ls.length
        · obtain ⟨b, off, l, rfl, hbb, hll, d0, d1, d2, d3⟩ := (HX.out _ hbv1).lk hlt
          have hLT := lvTo_succ (v := (v : Int)) hll
          have hlen1 : (lvTo g.ls (v : Int) j).length ≤ 20000 := by
            have h1 := lvTo_len g.ls (v : Int) j (by omega)
            have h2 := List.countP_le_length (p := fun l : Lk => decide (l.fr = (v : Int))) (l := g.ls.take j)
            have h3 := List.length_take_le j g.ls
            have := HG.out.len
            omega
          clear hll d1 d2 d3
          by_cases hf : l.fr = (v : Int)
          · rw [if_pos hf] at hLT
            have HLT := Lib.hid hLT
            rw [hf] at d0
            clear hLT hf
            go_wp2_with (at_builtin; go_loud (refine wpList_app1 rfl _ _ 36 rfl wo.heap.size 3 i0 _ 1 8 Try.underlying36 hi hz0 hz1 hz2 rfl (by decide) u9 _ _ rfl _ [.int .i64 (j : Int)] rfl HNv.out _ rfl (by simp) rfl (by simp [Value.oneCell']) (by omega) (by decide) (by have := hbv.size; omega) ?_; intro v4 w4 hown4 hb4 ha4; have HO4 : Hid (w4.ownsRow wo.heap.size 3 1 v4 (lvTo g.ls (v : Int) (j + 1)).length ((lvTo g.ls (v : Int) (j + 1)).map (Value.int .i64))) := (by show World.ownsRow _ _ _ _ _ _ _; rw [HLT.out, List.length_append, List.map_append]; exact hown4); clear hown4))
            go_roundw
            case rel => exact ⟨j + 1, by omega, by go_num, HO4, hbv.trans hb4⟩
            case measure => simp [intOf]; omega
          · rw [if_neg hf] at hLT
            have z1 : (l.fr == (v : Int)) = false := by simpa using hf
            have HO4 : Hid (wr.ownsRow wo.heap.size 3 1 u9 (lvTo g.ls (v : Int) (j + 1)).length ((lvTo g.ls (v : Int) (j + 1)).map (Value.int .i64))) := by show World.ownsRow _ _ _ _ _ _ _; rw [hLT]; exact HNv.out
            clear hLT hf
            go_wp2_with fail
            go_roundw
            case rel => exact ⟨j + 1, by omega, by go_num, HO4, hbv⟩
            case measure => simp [intOf]; omega
        · obtain rfl : j = g.ls.length := by omega
          obtain ⟨L, hL⟩ : ∃ L, lvs g (v : Int) = L := ⟨_, rfl⟩
          have HLV := Lib.hid hL
          have hNv : wr.ownsRow wo.heap.size 3 1 u9 L.length (L.map (Value.int .i64)) := by rw [← hL]; exact HNv.out
          obtain ⟨An, cn, he9, hcn1, hcn2, hns⟩ := own_ints hNv rfl
          have hLl : L.length ≤ 20000 := by rw [← hL]; exact lvs_len HG.out _
          subst he9
          have HNS := Lib.hid hns
          have HOv : Hid (wr.ownsRow B 3 1 u7 dn.length (dn.map (Value.int .i64))) := own_below HO.out hbv
          clear hL hNv hns HNv
          by_cases hle : L.length = 0
          · have hLz : ((L.length : Int) == 0) = true := by simp [hle]
            clear hle
            go_wp2_with fail
            go_ret2
            exact ⟨[], false, none, 0, rfl, SlR.nil, (fun h => by cases h), by simp, Nat.le_refl _, Nat.zero_le _, bthen hb1 (hbv1.mono hBge)⟩
          · have hLp : 0 < L.length := by omega
            have hLn : ((L.length : Int) == 0) = false := by rw [beq_eq_false_iff_ne]; omega
            have hLnil : L ≠ [] := by rintro rfl; simp at hLp
            clear hle
            by_cases hkc : k < cs.length
            · obtain ⟨b8, o8, x8, rfl, hb8, hx8, hc8⟩ := (HY.out _ hbv1).u8 hkc
              have hx8b := hok8 x8 (List.mem_of_getElem? hx8)
              have hw8 : IntKind.i64.wrap x8 = x8 := IntWalk.i64_in _ (by omega)
              have hkcI : (k : Int) < (cs.length : Int) := by omega
              clear hx8
              have hcv : 0 ≤ x8 ∧ x8 ≤ 255 := hx8b
              obtain ⟨q, hq⟩ : ∃ q : Nat, x8 % (L.length : Int) = (q : Int) := ⟨(x8 % (L.length : Int)).toNat, by have := Int.emod_nonneg x8 (show (L.length : Int) ≠ 0 by omega); omega⟩
              have hqL : q < L.length := by have := Int.emod_lt_of_pos x8 (show (0 : Int) < (L.length : Int) by omega); omega
              have htq : (x8).tmod (L.length : Int) = (q : Int) := by rw [Int.tmod_eq_emod_of_nonneg hcv.1]; exact hq
              have hwq : IntKind.i64.wrap (q : Int) = (q : Int) := IntWalk.i64_in _ (by omega)
              have hqI : (q : Int) < (L.length : Int) := by omega
              have hq0 : (0 : Int) ≤ (q : Int) := by omega
              obtain ⟨bn, on, xi, rfl, hbn, hxi, hcn⟩ := HNS.out.int hqL
              have hxm : xi ∈ lvs g (v : Int) := by rw [HLV.out]; exact List.mem_of_getElem? hxi
              obtain ⟨x0, x1, x2⟩ := lvs_iff.1 hxm
              have hok := lkAt_ok HG.out ⟨x0, x1⟩
              have hto := hok.to
              have hlt2 := hok.lt
              obtain ⟨xn, rfl⟩ : ∃ xn : Nat, xi = (xn : Int) := ⟨xi.toNat, by omega⟩
              obtain ⟨tn, htn⟩ : ∃ tn : Nat, (lkAt g (xn : Int)).to = (tn : Int) := ⟨(lkAt g (xn : Int)).to.toNat, by omega⟩
              have htN : tn < N := by have := HN.out; omega
              have hlm := lkAt_mem (g := g) (i := (xn : Int)) ⟨x0, x1⟩
              rw [Int.toNat_natCast] at hlm
              have HLM := Lib.hid hlm
              have HTN := Lib.hid htn
              have HPA2 : Hid (pathB g 0 (dn ++ [(xn : Int)]) = true ∧ endP g 0 (dn ++ [(xn : Int)]) = (tn : Int)) := by
                refine ⟨?_, ?_⟩
                · rw [path_app, HPA.out.1, Bool.true_and, HPA.out.2]
                  exact path_cons.2 ⟨hxm, rfl⟩
                · rw [endP_app]; exact htn
              have hxnl : xn < g.ls.length := by omega
              have hxnI : (xn : Int) < (g.ls.length : Int) := by omega
              have hxn0 : (0 : Int) ≤ (xn : Int) := by omega
              clear hq hxm x0 x1 x2 hto hlt2 htn hlm hxi hok
              go_upto_region 17 with (at_builtin; go_loud (refine wpList_app1 rfl _ _ 36 rfl B 3 i0 _ 1 8 Try.underlying36 hi hz0 hz1 hz2 rfl (by decide) u7 _ _ rfl _ [.int .i64 (xn : Int)] rfl HOv.out _ rfl (by simp) rfl (by simp [Value.oneCell']) (by omega) (by decide) (by have := hbv.size; omega) ?_; intro v4 w4 hown4 hb4 ha4))
              have hO4 : w4.ownsRow B 3 1 v4 (dn ++ [(xn : Int)]).length ((dn ++ [(xn : Int)]).map (Value.int .i64)) := by rw [List.length_append, List.map_append]; exact hown4
              have HO4 := Lib.hid hO4
              obtain ⟨A4, c4, rfl, hc4, hcm4, hs4⟩ := own_ints hO4 rfl
              obtain ⟨b4, o4, x4, rfl, hb4l, hx4, hc4x⟩ := hs4.int (k := k) (by simp; omega)
              have hx4e : x4 = (xn : Int) := by rw [List.getElem?_append_right (by omega)] at hx4; have e : k - dn.length = 0 := by omega
                                                rw [e] at hx4; simpa using hx4.symm
              rw [hx4e] at hc4x
              have hl4 : (dn ++ [(xn : Int)]).length = dn.length + 1 := by simp
              have hbb4 : Below B w1 w4 := (hb.trans (hbv.mono hBr)).trans hb4
              have hB4 := hB1.below hbb4 hB0
              have g1 := hB4.cell 1
              have gl := hB4.lt
              simp at g1
              obtain ⟨b, off, l, rfl, hbb, hll, d0, d1, d2, d3⟩ := (HX.out w4 hbb4).lk hxnl
              have e1 : l = lkAt g (xn : Int) := by rw [HLM.out] at hll; exact (Option.some.inj hll).symm
              rw [e1, HTN.out] at d1
              rw [hl4]
              have hkl : (k : Int) < ((dn.length + 1 : Nat) : Int) := by omega
              have hkl2 : (k : Int) < (dn.length : Int) + 1 := by omega
              clear hs4 hx4 hx4e hll e1 d0 d2 d3 hown4 hO4 ha4
              go_wp2_with fail
              go_quiet (fail)
              go_wp2_with fail
              go_roundw
              case rel => exact ⟨tn, k + 1, dn ++ [(xn : Int)], rfl, by go_num, by have h := HO4.out; rw [hl4] at h ⊢; exact own_below h (below_drewN (Below.refl _ _) _), by omega, by omega, by omega, htN, HPA2, below_drewN hbb4 _⟩
              case measure => simp [intOf]; omega
            · have hkcI : (cs.length : Int) ≤ (k : Int) := by omega
              have hcv : 0 ≤ (0 : Int) ∧ (0 : Int) ≤ 255 := by omega
              obtain ⟨q, hq⟩ : ∃ q : Nat, (0 : Int) % (L.length : Int) = (q : Int) := ⟨((0 : Int) % (L.length : Int)).toNat, by have := Int.emod_nonneg (0 : Int) (show (L.length : Int) ≠ 0 by omega); omega⟩
              have hqL : q < L.length := by have := Int.emod_lt_of_pos (0 : Int) (show (0 : Int) < (L.length : Int) by omega); omega
              have htq : ((0 : Int)).tmod (L.length : Int) = (q : Int) := by rw [Int.tmod_eq_emod_of_nonneg hcv.1]; exact hq
              have hwq : IntKind.i64.wrap (q : Int) = (q : Int) := IntWalk.i64_in _ (by omega)
              have hqI : (q : Int) < (L.length : Int) := by omega
              have hq0 : (0 : Int) ≤ (q : Int) := by omega
              obtain ⟨bn, on, xi, rfl, hbn, hxi, hcn⟩ := HNS.out.int hqL
              have hxm : xi ∈ lvs g (v : Int) := by rw [HLV.out]; exact List.mem_of_getElem? hxi
              obtain ⟨x0, x1, x2⟩ := lvs_iff.1 hxm
              have hok := lkAt_ok HG.out ⟨x0, x1⟩
              have hto := hok.to
              have hlt2 := hok.lt
              obtain ⟨xn, rfl⟩ : ∃ xn : Nat, xi = (xn : Int) := ⟨xi.toNat, by omega⟩
              obtain ⟨tn, htn⟩ : ∃ tn : Nat, (lkAt g (xn : Int)).to = (tn : Int) := ⟨(lkAt g (xn : Int)).to.toNat, by omega⟩
              have htN : tn < N := by have := HN.out; omega
              have hlm := lkAt_mem (g := g) (i := (xn : Int)) ⟨x0, x1⟩
              rw [Int.toNat_natCast] at hlm
              have HLM := Lib.hid hlm
              have HTN := Lib.hid htn
              have HPA2 : Hid (pathB g 0 (dn ++ [(xn : Int)]) = true ∧ endP g 0 (dn ++ [(xn : Int)]) = (tn : Int)) := by
                refine ⟨?_, ?_⟩
                · rw [path_app, HPA.out.1, Bool.true_and, HPA.out.2]
                  exact path_cons.2 ⟨hxm, rfl⟩
                · rw [endP_app]; exact htn
              have hxnl : xn < g.ls.length := by omega
              have hxnI : (xn : Int) < (g.ls.length : Int) := by omega
              have hxn0 : (0 : Int) ≤ (xn : Int) := by omega
              clear hq hxm x0 x1 x2 hto hlt2 htn hlm hxi hok
              go_upto_region 17 with (at_builtin; go_loud (refine wpList_app1 rfl _ _ 36 rfl B 3 i0 _ 1 8 Try.underlying36 hi hz0 hz1 hz2 rfl (by decide) u7 _ _ rfl _ [.int .i64 (xn : Int)] rfl HOv.out _ rfl (by simp) rfl (by simp [Value.oneCell']) (by omega) (by decide) (by have := hbv.size; omega) ?_; intro v4 w4 hown4 hb4 ha4))
              have hO4 : w4.ownsRow B 3 1 v4 (dn ++ [(xn : Int)]).length ((dn ++ [(xn : Int)]).map (Value.int .i64)) := by rw [List.length_append, List.map_append]; exact hown4
              have HO4 := Lib.hid hO4
              obtain ⟨A4, c4, rfl, hc4, hcm4, hs4⟩ := own_ints hO4 rfl
              obtain ⟨b4, o4, x4, rfl, hb4l, hx4, hc4x⟩ := hs4.int (k := k) (by simp; omega)
              have hx4e : x4 = (xn : Int) := by rw [List.getElem?_append_right (by omega)] at hx4; have e : k - dn.length = 0 := by omega
                                                rw [e] at hx4; simpa using hx4.symm
              rw [hx4e] at hc4x
              have hl4 : (dn ++ [(xn : Int)]).length = dn.length + 1 := by simp
              have hbb4 : Below B w1 w4 := (hb.trans (hbv.mono hBr)).trans hb4
              have hB4 := hB1.below hbb4 hB0
              have g1 := hB4.cell 1
              have gl := hB4.lt
              simp at g1
              obtain ⟨b, off, l, rfl, hbb, hll, d0, d1, d2, d3⟩ := (HX.out w4 hbb4).lk hxnl
              have e1 : l = lkAt g (xn : Int) := by rw [HLM.out] at hll; exact (Option.some.inj hll).symm
              rw [e1, HTN.out] at d1
              rw [hl4]
              have hkl : (k : Int) < ((dn.length + 1 : Nat) : Int) := by omega
              have hkl2 : (k : Int) < (dn.length : Int) + 1 := by omega
              clear hs4 hx4 hx4e hll e1 d0 d2 d3 hown4 hO4 ha4
              go_wp2_with fail
              go_quiet (fail)
              go_wp2_with fail
              go_roundw
              case rel => exact ⟨tn, k + 1, dn ++ [(xn : Int)], rfl, by go_num, by have h := HO4.out; rw [hl4] at h ⊢; exact own_below h (below_drewN (Below.refl _ _) _), by omega, by omega, by omega, htN, HPA2, below_drewN hbb4 _⟩
              case measure => simp [intOf]; omega
    · rcases (by omega : ¬ k < 10 ∨ (k < 10 ∧ v + 1 = N)) with hk | ⟨hk, hv⟩
      · have hk9 : ¬ (k : Int) < 10 := by omega
        have hk9' : (10 : Int) ≤ (k : Int) := by omega
        obtain ⟨Ao, co, rfl, hco, hcom, hso⟩ := own_ints HO.out rfl
        have HSO := Lib.hid hso
        have HWB : Hid (decide ((v : Int) = (N : Int) - 1) = true → wayB g 0 dn = true) := fun h => by
          have := way_app g dn [] 0
          rw [List.append_nil, HPA.out.1, HPA.out.2] at this
          rw [this]
          show (true && decide ((v : Int) = g.n - 1)) = true
          rw [HN.out]; exact h
        clear hc hk hso
        go_wp2_with fail
        go_quiet (fail)
        go_wp2_with fail
        go_ret2
        exact ⟨dn, decide ((v : Int) = (N : Int) - 1), Ao, co, by rw [show ((v : Int) == (N : Int) - 1) = decide ((v : Int) = (N : Int) - 1) from rfl]; rfl, HSO.out.below keeps_int (below_drewN (Below.refl _ _) _), HWB.out, by omega, hco, hcom, below_drewN (bthen hb1 (hb.mono hBge)) _⟩
      · have hk9 : (k : Int) < 10 := by omega
        have hne : ((v : Int) != (N : Int) - 1) = false := by simp; omega
        obtain ⟨Ao, co, rfl, hco, hcom, hso⟩ := own_ints HO.out rfl
        have HSO := Lib.hid hso
        have HWB : Hid (decide ((v : Int) = (N : Int) - 1) = true → wayB g 0 dn = true) := fun h => by
          have := way_app g dn [] 0
          rw [List.append_nil, HPA.out.1, HPA.out.2] at this
          rw [this]
          show (true && decide ((v : Int) = g.n - 1)) = true
          rw [HN.out]; exact h
        clear hc hk hso hv
        go_wp2_with fail
        go_quiet (fail)
        go_wp2_with fail
        go_ret2
        exact ⟨dn, decide ((v : Int) = (N : Int) - 1), Ao, co, by rw [show ((v : Int) == (N : Int) - 1) = decide ((v : Int) = (N : Int) - 1) from rfl]; rfl, HSO.out.below keeps_int (below_drewN (Below.refl _ _) _), HWB.out, by omega, hco, hcom, below_drewN (bthen hb1 (hb.mono hBge)) _⟩
end Go.Proofs.Ytbikjmafddndpaa
