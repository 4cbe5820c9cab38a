/-
  GrWalkG, GrWalkH, joined. No conditions.
-/
import Derived.Test.YtfjkmgjjifhdkaaGreatR04
import Derived.Test.YtfjkmgjjifhdkaaGreatR07
import Derived.Test.YtfjkmgjjifhdkaaGreatR11
import Derived.Test.YtfjkmgjjifhdkaaGreatR02
import Derived.Test.YtfjkmgjjifhdkaaGreatR05
/-
  The walks of layer 16: the links that leave each node.
-/
namespace Go.Proofs.YtfjkmgjjifhdkaaGreat
open Go Go.RowKit

theorem int_inf : (Tryz.prog.info? 3).map (fun i => (i.zero, i.size, i.bytes)) = some (some (.int .i64 0), 1, 8) := by kernel_rfl
theorem ints_info : (Tryz.prog.info? 40).map (fun i => (i.zero, i.size, i.bytes)) = some (some (.slice none 0 0), 1, 24) := by kernel_rfl
set_option maxRecDepth 100000 in
set_option maxHeartbeats 8000000 in
theorem leaving_any (A : Option Addr) (c : Nat) (g : Gr) (N : Nat) (w : World) (hx : SlR 4 RLk w A g.ls) (hl : g.ls.length ≤ maxLen) (hg : GrOK g) (hN : g.n = (N : Int)) :
    Calls Tryz.prog 87 #[.agg #[.int .i64 (N : Int), .slice A g.ls.length c]] w fun e w' => ∃ gf, e = .returned (.slice (some ⟨gf, 0, none⟩) N N) ∧ SlR 1 RSl w' (some ⟨gf, 0, none⟩) (leavL g N) ∧ Below w.heap.size w w' := by
  have hl0 := hl
  unfold maxLen at hl
  obtain ⟨i0, hi, hz0, hz1, hz2⟩ := info_parts int_inf
  obtain ⟨i1, hi1, hy0, hy1, hy2⟩ := info_parts ints_info
  have hgl := hg.len
  have HG := Lib.hid hg
  have HN := Lib.hid hN
  have hn2 : 1 ≤ N ∧ N ≤ 2000 := by have := hg.n; omega
  obtain ⟨hn1, hn2⟩ := hn2
  clear hg hN
  obtain ⟨w1, hw1⟩ : ∃ w1, w.alloc (.cells #[.int .i64 (N : Int), .slice A g.ls.length c] 38) = w1 := ⟨_, rfl⟩
  have hb1 : Below w.heap.size w w1 := by rw [← hw1]; exact nw _ (Below.refl _ _)
  have hB1 : Blk w1 w.heap.size 38 #[.int .i64 (N : Int), .slice A g.ls.length c] := by rw [← hw1]; exact Blk.new _ _ _
  have HW1 := Lib.hid hw1
  have c0 := hB1.cell 0
  have c1 := hB1.cell 1
  have lb := hB1.lt
  simp at c0 c1
  clear hw1
  go_enter Tryz.func87, Tryz.ntmps87
  go_upto_region 1 with fail
  rw [HW1.out]
  go_upto_region 2 with (at_make; go_loud (refine wpList_mk _ rfl _ _ 40 rfl 3 i0 (.int .i64 0) (.int .i64 0) Tryz.underlying40 hi hz0 hz1 (by omega) rfl N rfl rfl (by omega) ?_))
  obtain ⟨W2, hW2⟩ : ∃ W, w1.alloc (.cells (Array.replicate N (Value.int .i64 0)) 3) = W := ⟨_, rfl⟩
  have hb2 : Below w1.heap.size w1 W2 := by rw [← hW2]; exact nw _ (Below.refl _ _)
  have hR2 : Row W2 w1.heap.size (List.replicate N 0) := by rw [← hW2, ← List.toArray_replicate]; exact Row.zeros _ _
  rw [hW2]
  clear hW2
  obtain ⟨ge, hge⟩ : ∃ b, w1.heap.size = b := ⟨_, rfl⟩
  rw [hge] at hR2 lb ⊢
  have hB2 := hB1.below hb2 (by rw [hge]; exact lb)
  have hbw2 := bthen hb1 hb2
  rw [← endsA_zero g N] at hR2
  clear hb2 hB1 c0 c1 hge
  have j0 := hB2.cell 0
  have j1 := hB2.cell 1
  have jl := hB2.lt
  simp at j0 j1
  go_wp2_with fail
  go_loopw [22] (fun i wr => ∃ j : Nat, j ≤ g.ls.length ∧ i = .int .i64 j ∧ Row wr ge (endsA g N j) ∧ Below ge W2 wr) (fun i _ => g.ls.length - (intOf i).toNat)
  case atStart => exact ⟨0, by omega, rfl, hR2, Below.refl _ _⟩
  case round =>
    obtain ⟨j, hj, rfl, hR, hbv⟩ := hrel
    have hBv := hB2.below hbv lb
    have b0 := hBv.cell 0
    have b1 := hBv.cell 1
    have bl := hBv.lt
    simp at b0 b1
    have hRl := hR.lt
    have hbwv : Below w.heap.size w wr := hbw2.trans (hbv.mono (by omega))
    by_cases hltj : j < g.ls.length
    · have hb0 := hbwv
      obtain ⟨b, off, l, rfl, hbb, hll, d0, d1, d2, d3⟩ := (hx.below keeps_lk hbwv).lk hltj
      have hok := HG.out.ls l (List.mem_of_getElem? hll)
      obtain ⟨o1, o2, o3, o4, o5⟩ := hok
      obtain ⟨f, hf⟩ : ∃ f : Nat, l.fr = (f : Int) := ⟨l.fr.toNat, by omega⟩
      have hfN : f < N := by have := HN.out; omega
      have hf0 : (0 : Int) ≤ (f : Int) := by omega
      have hfN' : (f : Int) < (N : Int) := by omega
      have HF := Lib.hid hf
      have HLL := Lib.hid hll
      have hcl := cntN_le g f (k := j) hj
      have hll2 : (lvs g (f : Int)).length ≤ 20000 := by have := stN_le g (f + 1); rw [stN_succ] at this; omega
      have HR1 := Lib.hid ((hR.alloc (.cells #[.int .i64 l.fr, .int .i64 l.to, .int .i64 l.lb, .int .i64 l.cost] 105)))
      have HBV := Lib.hid (hbv.trans ((nw (.cells #[.int .i64 l.fr, .int .i64 l.to, .int .i64 l.lb, .int .i64 l.cost] 105) (Below.refl wr.heap.size wr)).mono (Nat.le_of_lt hRl)))
      have hat := endsA_at g (k := j) hfN
      have HST := Lib.hid (endsA_step hll hf hfN)
      clear hll hR hf
      go_upto_region 5 with fail
      obtain ⟨W3, hW3⟩ : ∃ W, wr.alloc (.cells #[.int .i64 l.fr, .int .i64 l.to, .int .i64 l.lb, .int .i64 l.cost] 105) = W := ⟨_, rfl⟩
      have hLb : Blk W3 wr.heap.size 105 #[.int .i64 l.fr, .int .i64 l.to, .int .i64 l.lb, .int .i64 l.cost] := by rw [← hW3]; exact Blk.new _ _ _
      rw [hW3] at HR1 HBV ⊢
      obtain ⟨t8, ht8⟩ : ∃ b, wr.heap.size = b := ⟨_, rfl⟩
      rw [ht8] at hLb ⊢
      have hRl2 := HR1.out.lt
      have u0 := hLb.cell 0
      simp at u0
      rw [HF.out] at u0
      have hLl := hLb.lt
      have r0 := HR1.out.cell hat
      have rf := HR1.out.frozen f
      have hws : IntKind.i64.wrap ((cntN g f j : Int) + 1) = (cntN g f j : Int) + 1 := IntWalk.i64_in _ (by omega)
      clear hW3 ht8 hat d0 d1 d2 d3 b0 b1 bl hBv
      generalize cntN g f j = cn at *
      go_wp2_with fail
      go_roundw
      case rel => exact ⟨j + 1, by omega, by go_num, (by rw [HST.out]; exact HR1.out.set_ f _), HBV.out.setCell (Nat.le_refl _) _⟩
      case measure => simp [intOf]; omega
    · obtain rfl : j = g.ls.length := by omega
      rw [endsA_all] at hR
      have HBV := Lib.hid hbv
      clear hbv hBv
      go_wp2_with fail
      obtain ⟨W3, hW3⟩ : ∃ W, W = wr := ⟨_, rfl⟩
      rw [← hW3] at hR HBV hbwv hRl bl b0 b1 ⊢
      clear hW3
      have hbg := HBV.out
      go_loopw [6, 36] (fun sm i wr => ∃ k : Nat, k ≤ N ∧ i = .int .i64 k ∧ sm = .int .i64 (stN g k : Nat) ∧ Row wr ge (endsB g N k) ∧ Below ge W3 wr) (fun _ i _ => N - (intOf i).toNat)
      case atStart => exact ⟨0, by omega, rfl, rfl, hR, Below.refl _ _⟩
      case round =>
        obtain ⟨k, hk, rfl, rfl, hRr, hbr⟩ := hrel
        have hRrl := hRr.lt
        by_cases hltk : k < N
        · have hat := hRr.cell (endsB_at g hltk)
          have haf := hRr.frozen k
          have HST := Lib.hid (endsB_step g hltk)
          have HSS := Lib.hid (stN_succ g k)
          have hs1 := stN_le g (k + 1)
          rw [stN_succ] at hs1
          have hkN : (k : Int) < (N : Int) := by omega
          have hws : IntKind.i64.wrap ((stN g k : Int) + ((lvs g (k : Int)).length : Int)) = (stN g k : Int) + ((lvs g (k : Int)).length : Int) := IntWalk.i64_in _ (by omega)
          have HRr := Lib.hid hRr
          have HBr := Lib.hid hbr
          clear hRr hbr
          generalize (lvs g (k : Int)).length = ll at *
          generalize stN g k = sk at *
          go_wp2_with fail
          go_roundw
          case rel => exact ⟨k + 1, by omega, by go_num, (by rw [HSS.out]; go_num), (by rw [HST.out]; exact HRr.out.set_ k _), HBr.out.setCell (Nat.le_refl _) _⟩
          case measure => simp [intOf]; omega
        · obtain rfl : N = k := by omega
          rw [endsB_all] at hRr
          have hbW : Below ge W2 wr := HBV.out.trans hbr
          have hbw3 : Below w.heap.size w wr := hbwv.trans (hbr.mono (by omega))
          have hB3 := hB2.below hbW lb
          have v0 := hB3.cell 0
          have v1 := hB3.cell 1
          have vl := hB3.lt
          simp at v0 v1
          have HBW := Lib.hid hbW
          clear hbr b0 b1 bl hB3 hbW
          go_upto_region 14 with fail
          go_upto_region 15 with (at_make; go_loud (refine wpList_mk _ rfl _ _ 40 rfl 3 i0 (.int .i64 0) (.int .i64 0) Tryz.underlying40 hi hz0 hz1 (by omega) rfl g.ls.length rfl rfl (by omega) ?_))
          obtain ⟨W4, hW4⟩ : ∃ W, wr.alloc (.cells (Array.replicate g.ls.length (Value.int .i64 0)) 3) = W := ⟨_, rfl⟩
          have hb4 : Below wr.heap.size wr W4 := by rw [← hW4]; exact nw _ (Below.refl _ _)
          have hR4 : Row W4 wr.heap.size (List.replicate g.ls.length 0) := by rw [← hW4, ← List.toArray_replicate]; exact Row.zeros _ _
          rw [hW4]
          clear hW4
          obtain ⟨ga, hga⟩ : ∃ b, wr.heap.size = b := ⟨_, rfl⟩
          have hC4 := hRr.below hb4 hRrl
          have hb4' : Below w.heap.size w W4 := bthen hbw3 hb4
          have hBg4 : Below ge W2 W4 := HBW.out.trans (hb4.mono (Nat.le_of_lt hRrl))
          rw [hga] at hR4 hRrl hb4 ⊢
          have HB4 := Lib.hid hBg4
          have hB4 := hB2.below hBg4 lb
          have v0 := hB4.cell 0
          have v1 := hB4.cell 1
          have vl := hB4.lt
          simp at v0 v1
          have hneg : ge ≠ ga := by omega
          clear hb4 hga hRr hbw3 hBg4
          go_wp2_with fail
          go_loopw [56] (fun i wr => ∃ j : Nat, j ≤ g.ls.length ∧ i = .int .i64 j ∧ Row wr ge (endsC g N j) ∧ (∃ al, Row wr ga al ∧ AllTo g j al) ∧ Below ge W4 wr) (fun i _ => g.ls.length - (intOf i).toNat)
          case atStart => exact ⟨0, by omega, rfl, hC4, ⟨_, hR4, AllTo.zero g⟩, Below.refl _ _⟩
          case round =>
            obtain ⟨j, hj, rfl, hR, ⟨al, hA, HAL⟩, hbv⟩ := hrel
            have HAL := Lib.hid HAL
            have hBv := hB4.below hbv lb
            have b0 := hBv.cell 0
            have b1 := hBv.cell 1
            have bl := hBv.lt
            simp at b0 b1
            have hRl := hR.lt
            have hAl := hA.lt
            have hbwv : Below w.heap.size w wr := hb4'.trans (hbv.mono (by omega))
            by_cases hltj : j < g.ls.length
            · have hb0 := hbwv
              obtain ⟨b, off, l, rfl, hbb, hll, d0, d1, d2, d3⟩ := (hx.below keeps_lk hbwv).lk hltj
              have hok := HG.out.ls l (List.mem_of_getElem? hll)
              obtain ⟨o1, o2, o3, o4, o5⟩ := hok
              obtain ⟨f, hf⟩ : ∃ f : Nat, l.fr = (f : Int) := ⟨l.fr.toNat, by omega⟩
              have hfN : f < N := by have := HN.out; omega
              have hf0 : (0 : Int) ≤ (f : Int) := by omega
              have hfN' : (f : Int) < (N : Int) := by omega
              have HF := Lib.hid hf
              have HLL := Lib.hid hll
              have hcl := cntN_le g f (k := j) hj
              have hsl : stN g f + (lvs g (f : Int)).length ≤ 20000 := by have := stN_le g (f + 1); rw [stN_succ] at this; omega
              have HR1 := Lib.hid ((hR.alloc (.cells #[.int .i64 l.fr, .int .i64 l.to, .int .i64 l.lb, .int .i64 l.cost] 105)))
              have HA1 := Lib.hid ((hA.alloc (.cells #[.int .i64 l.fr, .int .i64 l.to, .int .i64 l.lb, .int .i64 l.cost] 105)))
              have HBV := Lib.hid (hbv.trans ((nw (.cells #[.int .i64 l.fr, .int .i64 l.to, .int .i64 l.lb, .int .i64 l.cost] 105) (Below.refl wr.heap.size wr)).mono (Nat.le_of_lt hRl)))
              have hat := endsC_at g (k := j) hfN
              have HST := Lib.hid (endsC_step hll hf hfN)
              have HAS := Lib.hid (HAL.out.step hll hf)
              have halt := HAL.out.lt hll hf
              have hall := HAL.out.1
              obtain ⟨xa, hxa⟩ : ∃ xa, al[stN g f + cntN g f j]? = some xa := ⟨_, List.getElem?_eq_getElem halt⟩
              clear hll hR hA hf HAL
              go_upto_region 18 with fail
              obtain ⟨W5, hW5⟩ : ∃ W, wr.alloc (.cells #[.int .i64 l.fr, .int .i64 l.to, .int .i64 l.lb, .int .i64 l.cost] 105) = W := ⟨_, rfl⟩
              have hLb : Blk W5 wr.heap.size 105 #[.int .i64 l.fr, .int .i64 l.to, .int .i64 l.lb, .int .i64 l.cost] := by rw [← hW5]; exact Blk.new _ _ _
              rw [hW5] at HR1 HA1 HBV ⊢
              obtain ⟨t8, ht8⟩ : ∃ b, wr.heap.size = b := ⟨_, rfl⟩
              rw [ht8] at hLb hAl hRl ⊢
              have hRl2 := HR1.out.lt
              have hAl2 := HA1.out.lt
              have u0 := hLb.cell 0
              simp at u0
              rw [HF.out] at u0
              have hLl := hLb.lt
              have r0 := HR1.out.cell hat
              have rf := HR1.out.frozen f
              have a0 := HA1.out.cell hxa
              have af := HA1.out.frozen (stN g f + cntN g f j)
              clear hW5 ht8 hat d0 d1 d2 d3 b0 b1 bl hBv hxa
              obtain ⟨sc, hsc⟩ : ∃ sc, stN g f + cntN g f j = sc := ⟨_, rfl⟩
              have HSC := Lib.hid hsc
              rw [hsc] at r0 a0 af halt
              have hsc2 : sc ≤ 20000 := by omega
              have hsal : (sc : Int) < (g.ls.length : Int) := by omega
              have hws : IntKind.i64.wrap ((sc : Int) + 1) = (sc : Int) + 1 := IntWalk.i64_in _ (by omega)
              clear hsc
              have hne1 : ge ≠ t8 := by omega
              have hne2 : ga ≠ t8 := by omega
              go_upto_region 19 with fail
              obtain ⟨W6, hW6⟩ : ∃ W, W5.setCell ⟨ga, sc, none⟩ (.int .i64 (j : Int)) = W := ⟨_, rfl⟩
              have HA2 := Lib.hid (HA1.out.set_ sc (j : Int))
              have HR2 := Lib.hid (HR1.out.far (p := ⟨ga, sc, none⟩) hneg (.int .i64 (j : Int)))
              have hL2 := hLb.far (p := ⟨ga, sc, none⟩) (fun e => hne2 e.symm) (.int .i64 (j : Int))
              have HB6 := Lib.hid (HBV.out.setCell (p := ⟨ga, sc, none⟩) (by show ge ≤ ga; omega) (.int .i64 (j : Int)))
              rw [hW6] at HA2 HR2 hL2 HB6 ⊢
              clear hW6 u0 r0 rf a0 af HA1 HR1 hLb HBV hRl2 hAl2
              have u0 := hL2.cell 0
              simp at u0
              rw [HF.out] at u0
              have r0 := HR2.out.cell (endsC_at g (k := j) hfN)
              have rf := HR2.out.frozen f
              have hRl3 := HR2.out.lt
              clear hcl hsl hall halt hsal
              have hE := endsC_at g (k := j) hfN
              have hstn : Hid (stN g f + cntN g f j = sc) := HSC
              rw [HSC.out] at r0
              go_wp2_with fail
              go_roundw
              case rel =>
                refine ⟨j + 1, by omega, by go_num, ?_, ⟨_, HA2.out.far (p := ⟨ge, f, none⟩) (fun e => hneg e.symm) _, HSC.out ▸ HAS.out⟩, HB6.out.setCell (Nat.le_refl _) _⟩
                rw [HST.out, HSC.out]
                exact HR2.out.set_ f _
              case measure => simp [intOf]; omega
            · obtain rfl : j = g.ls.length := by omega
              have HBv := Lib.hid hbv
              have HBW := Lib.hid (HB4.out.trans hbv)
              clear hbv
              go_upto_region 21 with fail
              go_upto_region 22 with (at_make; go_loud (refine wpList_mk _ rfl _ _ 91 rfl 40 i1 (.slice none 0 0) (.slice none 0 0) Tryz.underlying91 hi1 hy0 hy1 (by omega) rfl N rfl rfl (by omega) ?_))
              obtain ⟨W5, hW5⟩ : ∃ W, wr.alloc (.cells (Array.replicate N (Value.slice none 0 0)) 40) = W := ⟨_, rfl⟩
              have hb5 : Below wr.heap.size wr W5 := by rw [← hW5]; exact nw _ (Below.refl _ _)
              have hF5 : Blk W5 wr.heap.size 40 (fromC ga g N 0).toArray := by rw [← hW5, fromC_zero, List.toArray_replicate]; exact Blk.new _ _ _
              rw [hW5]
              clear hW5
              obtain ⟨gf, hgf⟩ : ∃ b, wr.heap.size = b := ⟨_, rfl⟩
              have hC5 := hR.below hb5 hRl
              have hA5 := hA.below hb5 hAl
              have hb5' : Below w.heap.size w W5 := bthen hbwv hb5
              rw [hgf] at hF5 hRl hAl hb5 ⊢
              have HAL := HAL
              have hall := HAL.out.1
              clear hgf hR hA hBv b0 b1 bl hb5
              go_wp2_with fail
              go_loopw [13, 82] (fun st i wr => ∃ k : Nat, k ≤ N ∧ i = .int .i64 k ∧ st = .int .i64 (stN g k : Nat) ∧ Blk wr gf 40 (fromC ga g N k).toArray ∧ Below gf W5 wr) (fun _ i _ => N - (intOf i).toNat)
              case atStart => exact ⟨0, by omega, rfl, rfl, hF5, Below.refl _ _⟩
              case round =>
                obtain ⟨k, hk, rfl, rfl, hF, hbr⟩ := hrel
                have hFl := hF.lt
                by_cases hltk : k < N
                · have hRr := hC5.below hbr hRl
                  have hat := hRr.cell (endsC_end g hltk)
                  have hF0 : wr.cell? ⟨gf, k, none⟩ = some (.slice none 0 0) := by rw [hF.cell]; unfold fromC; simp [hltk]
                  have hFf := hF.frozen k
                  have HST := Lib.hid (fromC_step ga g hltk)
                  have hs1 := stN_le g (k + 1)
                  have HSS := Lib.hid (stN_succ g k)
                  have hs2 : stN g k ≤ stN g (k + 1) := stN_mono g (by omega)
                  have hkN : (k : Int) < (N : Int) := by omega
                  have HF := Lib.hid hF
                  have HBr := Lib.hid hbr
                  have HSV : Hid (slV ga g k = .slice (if stN g (k + 1) = stN g k then some ⟨ga, 0, none⟩ else some ⟨ga, stN g k, none⟩) (stN g (k + 1) - stN g k) (stN g (k + 1) - stN g k)) := rfl
                  have HS1 : Hid (∃ x, stN g (k + 1) = x) := ⟨_, rfl⟩
                  clear hF hbr hRr
                  have HRV : Hid (stN g (k + 1) = stN g (k + 1)) := rfl
                  obtain ⟨s1, hs1e⟩ : ∃ s, stN g (k + 1) = s := ⟨_, rfl⟩
                  have HS1 := Lib.hid hs1e
                  rw [hs1e] at hat hs1 hs2 HSV
                  clear hs1e HRV HSS
                  generalize stN g k = s0 at *
                  go_wp2_with fail
                  go_roundw
                  case rel => exact ⟨k + 1, by omega, by go_num, by rw [HS1.out], (by rw [HST.out, HSV.out]; simpa using HF.out.set_ k _), HBr.out.setCell (Nat.le_refl _) _⟩
                  case measure => simp [intOf]; omega
                · obtain rfl : N = k := by omega
                  have HS : Hid (SlR 1 RSl wr (some ⟨gf, 0, none⟩) (leavL g N)) := from_slr hF HAL.out (hA5.below hbr hAl) hl0
                  have HE := Lib.hid (hb5'.trans (hbr.mono (by omega)))
                  clear hF hbr
                  go_wp2_with fail
                  go_ret
                  exact ⟨gf, rfl, HS.out, HE.out⟩
end Go.Proofs.YtfjkmgjjifhdkaaGreat

/-
  The walks of layer 16: Potentials.
-/
namespace Go.Proofs.YtfjkmgjjifhdkaaGreat
open Go Go.RowKit

theorem fold_snoc {f : Int → Int → Int} {L : List Int} {j : Nat} {i a : Int} (h : L[j]? = some i) : (L.take (j + 1)).foldl f a = f ((L.take j).foldl f a) i := by
  rw [take_succ_of h, List.foldl_append]
  rfl
set_option maxRecDepth 100000 in
set_option maxHeartbeats 8000000 in
theorem pot_anyT (A : Option Addr) (c : Nat) (g : Gr) (w : World) (hx : SlR 4 RLk w A g.ls) (hl : g.ls.length ≤ maxLen) :
    Calls Tryz.prog 51 #[.agg #[.int .i64 g.n, .slice A g.ls.length c]] w fun e w' => ∃ A' c', e = .returned (.tuple #[.slice A' (potsOf g).1.length c', .int .i64 (potsOf g).2]) ∧ SlR 1 RInt w' A' (potsOf g).1 ∧ Below w.heap.size w w' ∧ (potsOf g).1.length ≤ c' ∧ c' ≤ maxLen ∧ ((potsOf g).1 ≠ [] → ∃ b off cs, A' = some ⟨b, off, none⟩ ∧ Blk w' b 3 cs ∧ ∀ (k : Nat) (x : Int), (potsOf g).1[k]? = some x → cs[off + k]? = some (.int .i64 x)) := by
  have hl0 := hl
  unfold maxLen at hl
  obtain ⟨i0, hi, hz0, hz1, hz2⟩ := info_parts int_inf
  obtain ⟨w1, hw1⟩ : ∃ w1, w.alloc (.cells #[.int .i64 g.n, .slice A g.ls.length c] 38) = w1 := ⟨_, rfl⟩
  have hb1 : Below w.heap.size w w1 := by rw [← hw1]; exact nw _ (Below.refl _ _)
  have hB1 : Blk w1 w.heap.size 38 #[.int .i64 g.n, .slice A g.ls.length c] := by rw [← hw1]; exact Blk.new _ _ _
  have HW1 := Lib.hid hw1
  have c0 := hB1.cell 0
  have c1 := hB1.cell 1
  have lb := hB1.lt
  simp at c0 c1
  have HV : Hid (∀ W, Below w.heap.size w W → Calls Tryz.prog 33 #[.agg #[.int .i64 g.n, .slice A g.ls.length c]] W fun e w' => e = .returned (.bool (grB g)) ∧ Below W.heap.size W w') := fun W hW => valid_any A c g W (hx.below keeps_lk hW) hl0
  clear hw1
  cases hgr : grB g with
  | false =>
    have HP : Hid (potsOf g = ([], 150)) := by show potsOf g = _; unfold potsOf; rw [hgr]; rfl
    rw [hgr] at HV
    clear hgr
    go_enter Tryz.func51, Tryz.ntmps51
    go_wp2_with (go_at_call 33; go_loud (rw [HW1.out]; refine (HV.out _ hb1).mono ?_; rintro e w2 ⟨rfl, hb2⟩))
    go_ret2
    exact ⟨none, 0, by rw [HP.out]; rfl, by rw [HP.out]; exact SlR.nil, bthen hb1 hb2, by rw [HP.out]; exact Nat.le_refl _, Nat.zero_le _, fun h => by rw [HP.out] at h; exact absurd rfl h⟩
  | true =>
    have hg := grB_iff.1 hgr
    have HP : Hid (potsOf g = (potL g, 0)) := by show potsOf g = _; unfold potsOf; rw [hgr]; rfl
    rw [hgr] at HV
    obtain ⟨hn1, hn2⟩ := hg.n
    obtain ⟨N, hN⟩ : ∃ N : Nat, g.n = (N : Int) := ⟨g.n.toNat, by omega⟩
    have HG := Lib.hid hg
    have HN := Lib.hid hN
    have HLV : Hid (∀ W, Below w.heap.size w W → Calls Tryz.prog 87 #[.agg #[.int .i64 (N : Int), .slice A g.ls.length c]] W fun e w' => ∃ gf, e = .returned (.slice (some ⟨gf, 0, none⟩) N N) ∧ SlR 1 RSl w' (some ⟨gf, 0, none⟩) (leavL g N) ∧ Below W.heap.size W w') := fun W hW => leaving_any A c g N W (hx.below keeps_lk hW) hl0 hg hN
    rw [hN] at HV c0 hB1 hn1 hn2 ⊢
    clear hgr hg hN
    go_enter Tryz.func51, Tryz.ntmps51
    go_upto_region 3 with (go_at_call 33; go_loud (rw [← HN.out, HW1.out]; rw [HN.out]; refine (HV.out _ hb1).mono ?_; rintro e w2 ⟨rfl, hb2⟩))
    have hB2 := hB1.below hb2 lb
    have k0 := hB2.cell 0
    have k1 := hB2.cell 1
    have kl := hB2.lt
    simp at k0 k1
    have hbw2 := bthen hb1 hb2
    clear hb2 c0 c1
    go_upto_region 4 with (go_at_call 87; go_loud (refine (HLV.out _ hbw2).mono ?_; rintro e w3 ⟨gf, rfl, hfr, hb3⟩))
    have hfrl : gf < w3.heap.size := by obtain ⟨b, o, e, h, _⟩ := hfr (by intro e; have := leavL_len g N; rw [e] at this; simp at this; omega); injection e with e; injection e with e; omega
    have hB3 := hB2.below hb3 kl
    have k0 := hB3.cell 0
    have k1 := hB3.cell 1
    have kl := hB3.lt
    simp at k0 k1
    have hbw3 := bthen hbw2 hb3
    have hwN : IntKind.i64.wrap ((N : Int) - 2) = (N : Int) - 2 := IntWalk.i64_in _ (by omega)
    clear hb3
    go_upto_region 5 with (at_make; go_loud (refine wpList_mk _ rfl _ _ 40 rfl 3 i0 (.int .i64 0) (.int .i64 0) Tryz.underlying40 hi hz0 hz1 (by omega) rfl N rfl rfl (by omega) ?_))
    obtain ⟨W3, hW3⟩ : ∃ W, w3.alloc (.cells (Array.replicate N (Value.int .i64 0)) 3) = W := ⟨_, rfl⟩
    have hb3 : Below w3.heap.size w3 W3 := by rw [← hW3]; exact nw _ (Below.refl _ _)
    have hR3 : Row W3 w3.heap.size (List.replicate N 0) := by rw [← hW3, ← List.toArray_replicate]; exact Row.zeros _ _
    rw [hW3]
    clear hW3
    obtain ⟨gh, hgh⟩ : ∃ b, w3.heap.size = b := ⟨_, rfl⟩
    have HFR : Hid (∀ W, Below gh W3 W → SlR 1 RSl W (some ⟨gf, 0, none⟩) (leavL g N)) := fun W hW => hfr.below keeps_sl (hb3.trans (by rw [hgh]; exact hW))
    rw [hgh] at hR3 hfrl ⊢
    have hbgh : w.heap.size < gh := by omega
    have hghl := hR3.lt
    have hB4 := hB3.below hb3 kl
    have hbw4 := bthen hbw3 hb3
    clear hb3 k0 k1 kl hB2 hB3 hgh hfr hbw2 hbw3
    have j0 := hB4.cell 0
    have j1 := hB4.cell 1
    have jl := hB4.lt
    simp at j0 j1
    go_wp2_with fail
    go_loopw [6] (fun nd wr => ∃ k : Nat, 1 ≤ k ∧ k ≤ N ∧ nd = .int .i64 ((N : Int) - 1 - k) ∧ Row wr gh (List.replicate (N - k) 0 ++ potS g k) ∧ Below gh W3 wr) (fun nd _ => (intOf nd + 1).toNat)
    case atStart =>
      refine ⟨1, by omega, by omega, vint (by omega), ?_, Below.refl _ _⟩
      have : List.replicate (N - 1) 0 ++ potS g 1 = List.replicate N (0 : Int) := by
        show List.replicate (N - 1) 0 ++ [0] = _
        rw [← List.replicate_succ']
        congr 1
        omega
      rw [this]; exact hR3
    case round =>
      obtain ⟨k, hk1, hkN, rfl, hR, hbr⟩ := hrel
      have hRl := hR.lt
      have hPl := potS_len g k
      by_cases hlt : k < N
      · obtain ⟨m, hm⟩ : ∃ m, N - k = m + 1 := ⟨N - k - 1, by omega⟩
        rw [hm, potRow_start] at hR
        have hmv : (N : Int) - 1 - k = (m : Int) := by omega
        rw [hmv]
        have a0 := hR.cell (potRow_at m 0 _)
        have af := hR.frozen m
        have hm0 : (0 : Int) ≤ (m : Int) := by omega
        have hmN : (m : Int) < (N : Int) := by omega
        have hmN2 : m < N := by omega
        go_upto_region 9 with fail
        obtain ⟨W1, hW1⟩ : ∃ W, wr.setCell ⟨gh, m, none⟩ (.int .i64 (-1)) = W := ⟨_, rfl⟩
        have hR1 := hR.set_ m (-1)
        rw [potRow_set] at hR1
        have hb1' : Below gh W3 W1 := by rw [← hW1]; exact hbr.setCell (Nat.le_refl _) _
        rw [hW1] at hR1 ⊢
        clear hW1 hR a0 af hRl hbr
        obtain ⟨bf, of, xs, Ai, ci, he, _, hxs, hcf, _⟩ := (HFR.out _ hb1').sl (k := m) (by rw [leavL_len]; omega)
        rw [leavL_at g hmN2] at hxs
        obtain rfl := Option.some.inj hxs
        obtain ⟨rfl, rfl⟩ : gf = bf ∧ 0 = of := by injection he with he; injection he with h1 h2; exact ⟨h1, h2⟩
        rw [Nat.zero_add] at hcf
        have HSL : Hid (∀ W, Below gh W3 W → SlR 1 RInt W Ai (lvs g (m : Int))) := fun W hW => by
          obtain ⟨b2, o2, x2, A2, c2, he2, _, hx2, hc2, hs2, _⟩ := (HFR.out W hW).sl (k := m) (by rw [leavL_len]; omega)
          rw [leavL_at g hmN2] at hx2
          obtain rfl := Option.some.inj hx2
          obtain ⟨rfl, rfl⟩ : gf = b2 ∧ 0 = o2 := by injection he2 with he; injection he with h1 h2; exact ⟨h1, h2⟩
          rw [Nat.zero_add] at hc2
          have e1 := (hb1'.cell (p := ⟨gf, m, none⟩) hfrl).symm.trans hcf
          have e2 := (hW.cell (p := ⟨gf, m, none⟩) hfrl).symm.trans hc2
          rw [e1] at e2
          injection e2 with e2
          injection e2 with e2 _ _
          rw [e2]
          exact hs2
        have HB1 := Lib.hid hb1'
        clear hb1' hxs he
        have hvl : (lvs g (m : Int)).length ≤ 20000 := by have := stN_le g (m + 1); rw [stN_succ] at this; have := HG.out.len; omega
        have HFOLD : Hid (∀ (j : Nat) (i : Int), (lvs g (m : Int))[j]? = some i → ((lvs g (m : Int)).take (j + 1)).foldl (potStep g (m : Int) (potS g k)) (-1) = potStep g (m : Int) (potS g k) (((lvs g (m : Int)).take j).foldl (potStep g (m : Int) (potS g k)) (-1)) i) := fun j i h => fold_snoc h
        go_wp2_with fail
        go_loopw [33] (fun i wv => ∃ j : Nat, j ≤ (lvs g (m : Int)).length ∧ i = .int .i64 j ∧ Row wv gh (potRow m (((lvs g (m : Int)).take j).foldl (potStep g (m : Int) (potS g k)) (-1)) (potS g k)) ∧ Below gh W3 wv) (fun i _ => (lvs g (m : Int)).length - (intOf i).toNat)
        case atStart => exact ⟨0, by omega, rfl, hR1, HB1.out⟩
        case round =>
          obtain ⟨j, hj, rfl, hRw, hbv⟩ := hrel
          have hBv := hB4.below hbv hbgh
          have b0 := hBv.cell 0
          have b1 := hBv.cell 1
          have bl := hBv.lt
          simp at b0 b1
          have hRl := hRw.lt
          have hbwv : Below w.heap.size w wr := hbw4.trans (hbv.mono (by omega))
          by_cases hltj : j < (lvs g (m : Int)).length
          · obtain ⟨bi, oi, x, hAi, hbi, hxi, hci⟩ := (HSL.out _ hbv).int hltj
            subst hAi
            have hix := lvs_iff.1 (List.mem_of_getElem? hxi)
            obtain ⟨hx0, hx1, hx2⟩ := hix
            obtain ⟨xn, rfl⟩ : ∃ xn : Nat, x = (xn : Int) := ⟨x.toNat, by omega⟩
            have hxnl : xn < g.ls.length := by omega
            obtain ⟨b, off, l, rfl, hbb, hll, d0, d1, d2, d3⟩ := (hx.below keeps_lk hbwv).lk hxnl
            have hok := HG.out.ls l (List.mem_of_getElem? hll)
            have hbd := potS_bd HG.out k
            have HACC := Lib.hid (HFOLD.out j (xn : Int) hxi)
            have hLk := lkAt_nat hll
            have hfr : l.fr = (m : Int) := by rw [hLk] at hx2; exact hx2
            have hacc := step_bd HG.out (v := (m : Int)) (tail := potS g k) (B := 1000000 * (k : Int)) hbd (by omega) (L := (lvs g (m : Int)).take j) (fun i hi => by have := lvs_iff.1 (List.mem_of_mem_take hi); omega) (-1) (by omega)
            generalize ((lvs g (m : Int)).take j).foldl (potStep g (m : Int) (potS g k)) (-1) = acc at *
            have HBV := Lib.hid (hbv.trans ((nw (.cells #[.int .i64 l.fr, .int .i64 l.to, .int .i64 l.lb, .int .i64 l.cost] 105) (Below.refl wr.heap.size wr)).mono (Nat.le_of_lt hRl)))
            have hRw := hRw.alloc (.cells #[.int .i64 l.fr, .int .i64 l.to, .int .i64 l.lb, .int .i64 l.cost] 105)
            obtain ⟨o1, o2, o3, o4, o5⟩ := hok
            have hto1 : l.to < (N : Int) := by rw [← HN.out]; exact o3
            have o6 : (m : Int) < l.to := by omega
            have HLK := Lib.hid hLk
            clear hll hxi hx2 hfr hLk o2
            go_upto_region 13 with fail
            obtain ⟨W2, hW2⟩ : ∃ W, wr.alloc (.cells #[.int .i64 l.fr, .int .i64 l.to, .int .i64 l.lb, .int .i64 l.cost] 105) = W := ⟨_, rfl⟩
            have hb2' : Below wr.heap.size wr W2 := by rw [← hW2]; exact nw _ (Below.refl _ _)
            have hLb : Blk W2 wr.heap.size 105 #[.int .i64 l.fr, .int .i64 l.to, .int .i64 l.lb, .int .i64 l.cost] := by rw [← hW2]; exact Blk.new _ _ _
            rw [hW2] at hRw HBV ⊢
            obtain ⟨t8, ht8⟩ : ∃ b, wr.heap.size = b := ⟨_, rfl⟩
            rw [ht8] at hLb ⊢
            have hn8 : gh ≠ t8 := by omega
            have hRl := hRw.lt
            have hLl := hLb.lt
            clear hW2 ht8 b0 b1 bl d0 d1 d2 d3 hb2' hci hcf
            have u1 := hLb.cell 1
            have u3 := hLb.cell 3
            simp at u1 u3
            have r1 := hRw.cell (potRow_at m acc (potS g k))
            obtain ⟨tn, htn⟩ : ∃ tn : Nat, l.to = (tn : Int) := ⟨l.to.toNat, by omega⟩
            have htoAt := potRow_tail (m := m) (acc := acc) (tail := potS g k) (j := tn) (by omega) (by omega)
            have htb := getD_bd hbd (by omega) (tn - m - 1)
            have HT : Hid (potStep g (m : Int) (potS g k) acc (xn : Int) = if 0 ≤ (potS g k).getD (tn - m - 1) 0 ∧ (acc < 0 ∨ l.cost + (potS g k).getD (tn - m - 1) 0 < acc) then l.cost + (potS g k).getD (tn - m - 1) 0 else acc) := by
              show potStep g (m : Int) (potS g k) acc (xn : Int) = _
              unfold potStep
              dsimp only
              rw [HLK.out, htn, show ((tn : Int) - (m : Int) - 1).toNat = tn - m - 1 by omega]
            generalize (potS g k).getD (tn - m - 1) 0 = tt at *
            have r2 := hRw.cell htoAt
            have HTN := Lib.hid htn
            rw [htn] at u1 hto1
            have htnN : tn < N := by omega
            have htn0 : (0 : Int) ≤ (tn : Int) := by omega
            have hws : IntKind.i64.wrap (l.cost + tt) = l.cost + tt := IntWalk.i64_in _ (by omega)
            clear htn o3 o6 htb hbd hacc
            by_cases c1 : 0 ≤ tt
            · by_cases c2 : acc < 0
              · have HA2 := Lib.hid (HACC.out.trans (HT.out.trans (if_pos ⟨c1, .inl c2⟩)))
                have z1 : decide (0 ≤ tt) = true := decide_eq_true c1
                have z2 : decide (acc < 0) = true := decide_eq_true c2
                go_wp2_with fail
                refine ordB_below (.quiet 0 (.quiet 1 (.quiet 2 (.quiet 3 (.quiet 4 (.quiet 5 (.quiet 6 (.quiet 7 (.quiet 8 (.quiet 9 (.quiet 10 (.quiet 11 (.quiet 12 (.quiet 13 (.quiet 14 (.quiet 15 (.quiet 16 (.quiet 17 (.quiet 18 (.quiet 19 (.quiet 20 (.quiet 21 (.quiet 22 (.quiet 23 (.quiet 24 (.quiet 25 (.quiet 26 (.quiet 27 .done)))))))))))))))))))))))))))) (by kernel_rfl) (by kernel_rfl) (by kernel_rfl) (fun _ _ _ _ _ h => h) ?_
                intro V0 hV0
                iterate 28 (first
                  | (refine ordB_skip rfl rfl ?_; simp only [Act.put, List.setIfInBounds_toArray, List.set_cons_zero, List.set_cons_succ])
                  | (refine ordB_take (v := ?_) rfl rfl ?_ ?_
                     rotate_left 1
                     focus (intro W hW; obtain ⟨hcW, hfW⟩ := bcell hW; (go_simp <;> with_reducible rfl))
                     simp only [Act.put, List.setIfInBounds_toArray, List.set_cons_zero, List.set_cons_succ]))
                refine ordB_nil ?_
                have hRs := hRw.below hV0 hRl
                have hLs := hLb.below hV0 hLl
                have HBs := Lib.hid (HBV.out.trans (hV0.mono (Nat.le_of_lt hRl)))
                have hRsl := hRs.lt
                have hLsl := hLs.lt
                generalize V0 = V at *
                clear hV0
                have v1 := hLs.cell 1
                have v3 := hLs.cell 3
                simp at v1 v3
                rw [HTN.out] at v1
                have x1 := hRs.cell (potRow_at m acc (potS g k))
                have x2 := hRs.cell htoAt
                have xf := hRs.frozen m
                go_wp2_with fail
                refine ordT_below [11] [(0, false), (1, false), (2, false), (3, false), (4, false), (5, false), (6, false), (7, false), (8, false), (9, false), (10, false), (11, true)] (by kernel_rfl) (by kernel_rfl) (by kernel_rfl) (fun _ _ _ _ _ h => h) ?_
                intro W0 hS0
                repeat (first
                  | (refine ordT_skip rfl rfl (by assumption) ?_; simp only [Act.put, List.setIfInBounds_toArray, List.set_cons_zero, List.set_cons_succ])
                  | (refine ordT_cskip rfl rfl (by assumption) ?_; simp only [Act.put, List.setIfInBounds_toArray, List.set_cons_zero, List.set_cons_succ])
                  | (refine ordT_take (v := ?_) rfl rfl (by assumption) ?_ ?_
                     rotate_left 1
                     focus (intro W hW; obtain ⟨hcW, hfW⟩ := bcell hW; (go_simp <;> with_reducible rfl))
                     simp only [Act.put, List.setIfInBounds_toArray, List.set_cons_zero, List.set_cons_succ])
                  | (refine ordT_call rfl rfl (fun K hK => ?_)
                     obtain ⟨hcS, hfS⟩ := bcell hS0
                     go_simp
                     first
                       | (refine hK.out _ _ (fun h => by cases h) ?_)))
                refine ordT_nil ?_
                go_wp2_with fail
                go_roundw
                case rel => exact ⟨j + 1, by omega, by go_num, (by rw [HA2.out]; have := (hRs.below hS0 hRsl).set_ m (l.cost + tt); rw [potRow_set] at this; exact this), (HBs.out.trans (hS0.mono (Nat.le_of_lt hRsl))).setCell (Nat.le_refl _) _⟩
                case measure => simp [intOf]; omega
              · have z1 : decide (0 ≤ tt) = true := decide_eq_true c1
                have z2 : decide (acc < 0) = false := decide_eq_false c2
                by_cases c3 : l.cost + tt < acc
                · have HA2 := Lib.hid (HACC.out.trans (HT.out.trans (if_pos ⟨c1, .inr c3⟩)))
                  have z3 : decide (l.cost + tt < acc) = true := decide_eq_true c3
                  go_wp2_with fail
                  refine ordB_below (.quiet 0 (.quiet 1 (.quiet 2 (.quiet 3 (.quiet 4 (.quiet 5 (.quiet 6 (.quiet 7 (.quiet 8 (.quiet 9 (.quiet 10 (.quiet 11 (.quiet 12 (.quiet 13 (.quiet 14 (.quiet 15 (.quiet 16 (.quiet 17 (.quiet 18 (.quiet 19 (.quiet 20 (.quiet 21 (.quiet 22 (.quiet 23 (.quiet 24 (.quiet 25 (.quiet 26 (.quiet 27 .done)))))))))))))))))))))))))))) (by kernel_rfl) (by kernel_rfl) (by kernel_rfl) (fun _ _ _ _ _ h => h) ?_
                  intro V0 hV0
                  iterate 28 (first
                    | (refine ordB_skip rfl rfl ?_; simp only [Act.put, List.setIfInBounds_toArray, List.set_cons_zero, List.set_cons_succ])
                    | (refine ordB_take (v := ?_) rfl rfl ?_ ?_
                       rotate_left 1
                       focus (intro W hW; obtain ⟨hcW, hfW⟩ := bcell hW; (go_simp <;> with_reducible rfl))
                       simp only [Act.put, List.setIfInBounds_toArray, List.set_cons_zero, List.set_cons_succ]))
                  refine ordB_nil ?_
                  have hRs := hRw.below hV0 hRl
                  have hLs := hLb.below hV0 hLl
                  have HBs := Lib.hid (HBV.out.trans (hV0.mono (Nat.le_of_lt hRl)))
                  have hRsl := hRs.lt
                  have hLsl := hLs.lt
                  generalize V0 = V at *
                  clear hV0
                  have v1 := hLs.cell 1
                  have v3 := hLs.cell 3
                  simp at v1 v3
                  rw [HTN.out] at v1
                  have x1 := hRs.cell (potRow_at m acc (potS g k))
                  have x2 := hRs.cell htoAt
                  have xf := hRs.frozen m
                  go_wp2_with fail
                  refine ordT_below [11] [(0, false), (1, false), (2, false), (3, false), (4, false), (5, false), (6, false), (7, false), (8, false), (9, false), (10, false), (11, true)] (by kernel_rfl) (by kernel_rfl) (by kernel_rfl) (fun _ _ _ _ _ h => h) ?_
                  intro W0 hS0
                  repeat (first
                    | (refine ordT_skip rfl rfl (by assumption) ?_; simp only [Act.put, List.setIfInBounds_toArray, List.set_cons_zero, List.set_cons_succ])
                    | (refine ordT_cskip rfl rfl (by assumption) ?_; simp only [Act.put, List.setIfInBounds_toArray, List.set_cons_zero, List.set_cons_succ])
                    | (refine ordT_take (v := ?_) rfl rfl (by assumption) ?_ ?_
                       rotate_left 1
                       focus (intro W hW; obtain ⟨hcW, hfW⟩ := bcell hW; (go_simp <;> with_reducible rfl))
                       simp only [Act.put, List.setIfInBounds_toArray, List.set_cons_zero, List.set_cons_succ])
                    | (refine ordT_call rfl rfl (fun K hK => ?_)
                       obtain ⟨hcS, hfS⟩ := bcell hS0
                       go_simp
                       first
                         | (refine hK.out _ _ (fun h => by cases h) ?_)))
                  refine ordT_nil ?_
                  go_wp2_with fail
                  go_roundw
                  case rel => exact ⟨j + 1, by omega, by go_num, (by rw [HA2.out]; have := (hRs.below hS0 hRsl).set_ m (l.cost + tt); rw [potRow_set] at this; exact this), (HBs.out.trans (hS0.mono (Nat.le_of_lt hRsl))).setCell (Nat.le_refl _) _⟩
                  case measure => simp [intOf]; omega
                · have HA2 := Lib.hid (HACC.out.trans (HT.out.trans (if_neg (fun h => h.2.elim c2 c3))))
                  have z3 : decide (l.cost + tt < acc) = false := decide_eq_false c3
                  go_wp2_with fail
                  refine ordB_below (.quiet 0 (.quiet 1 (.quiet 2 (.quiet 3 (.quiet 4 (.quiet 5 (.quiet 6 (.quiet 7 (.quiet 8 (.quiet 9 (.quiet 10 (.quiet 11 (.quiet 12 (.quiet 13 (.quiet 14 (.quiet 15 (.quiet 16 (.quiet 17 (.quiet 18 (.quiet 19 (.quiet 20 (.quiet 21 (.quiet 22 (.quiet 23 (.quiet 24 (.quiet 25 (.quiet 26 (.quiet 27 .done)))))))))))))))))))))))))))) (by kernel_rfl) (by kernel_rfl) (by kernel_rfl) (fun _ _ _ _ _ h => h) ?_
                  intro V0 hV0
                  iterate 28 (first
                    | (refine ordB_skip rfl rfl ?_; simp only [Act.put, List.setIfInBounds_toArray, List.set_cons_zero, List.set_cons_succ])
                    | (refine ordB_take (v := ?_) rfl rfl ?_ ?_
                       rotate_left 1
                       focus (intro W hW; obtain ⟨hcW, hfW⟩ := bcell hW; (go_simp <;> with_reducible rfl))
                       simp only [Act.put, List.setIfInBounds_toArray, List.set_cons_zero, List.set_cons_succ]))
                  refine ordB_nil ?_
                  have hRs := hRw.below hV0 hRl
                  have hLs := hLb.below hV0 hLl
                  have HBs := Lib.hid (HBV.out.trans (hV0.mono (Nat.le_of_lt hRl)))
                  have hRsl := hRs.lt
                  have hLsl := hLs.lt
                  generalize V0 = V at *
                  clear hV0
                  go_wp2_with fail
                  go_roundw
                  case rel => exact ⟨j + 1, by omega, by go_num, (by rw [HA2.out]; exact hRs), HBs.out⟩
                  case measure => simp [intOf]; omega
            · have HA2 := Lib.hid (HACC.out.trans (HT.out.trans (if_neg (fun h => c1 h.1))))
              have z1 : decide (0 ≤ tt) = false := decide_eq_false c1
              go_wp2_with fail
              refine ordB_below (.quiet 0 (.quiet 1 (.quiet 2 (.quiet 3 (.quiet 4 (.quiet 5 (.quiet 6 (.quiet 7 (.quiet 8 (.quiet 9 (.quiet 10 (.quiet 11 (.quiet 12 (.quiet 13 (.quiet 14 (.quiet 15 (.quiet 16 (.quiet 17 (.quiet 18 (.quiet 19 (.quiet 20 (.quiet 21 (.quiet 22 (.quiet 23 (.quiet 24 (.quiet 25 (.quiet 26 (.quiet 27 .done)))))))))))))))))))))))))))) (by kernel_rfl) (by kernel_rfl) (by kernel_rfl) (fun _ _ _ _ _ h => h) ?_
              intro V0 hV0
              iterate 28 (first
                | (refine ordB_skip rfl rfl ?_; simp only [Act.put, List.setIfInBounds_toArray, List.set_cons_zero, List.set_cons_succ])
                | (refine ordB_take (v := ?_) rfl rfl ?_ ?_
                   rotate_left 1
                   focus (intro W hW; obtain ⟨hcW, hfW⟩ := bcell hW; (go_simp <;> with_reducible rfl))
                   simp only [Act.put, List.setIfInBounds_toArray, List.set_cons_zero, List.set_cons_succ]))
              refine ordB_nil ?_
              have hRs := hRw.below hV0 hRl
              have hLs := hLb.below hV0 hLl
              have HBs := Lib.hid (HBV.out.trans (hV0.mono (Nat.le_of_lt hRl)))
              have hRsl := hRs.lt
              have hLsl := hLs.lt
              generalize V0 = V at *
              clear hV0
              go_wp2_with fail
              go_roundw
              case rel => exact ⟨j + 1, by omega, by go_num, (by rw [HA2.out]; exact hRs), HBs.out⟩
              case measure => simp [intOf]; omega
          · obtain rfl : j = (lvs g (m : Int)).length := by omega
            have hnk : N - (k + 1) = m := by omega
            have hps := potS_succ g (k := k) hk1
            have hvm : g.n - ((k : Int) + 1) = (m : Int) := by rw [HN.out]; omega
            rw [hvm] at hps
            rw [List.take_length] at hRw
            have HROW : Hid (Row wr gh (List.replicate (N - (k + 1)) 0 ++ potS g (k + 1))) := by
              show Row _ _ _
              rw [hnk, hps]
              exact hRw
            have HBV := Lib.hid hbv
            clear hRw hps hvm hnk hbv
            go_wp2_with fail
            go_roundw
            case rel => exact ⟨k + 1, by omega, by omega, vint (by omega), HROW.out, HBV.out⟩
            case measure => first | (simp [intOf]; done) | (simp [intOf]; omega)
      · obtain rfl : N = k := by omega
        have HRF : Hid (Row wr gh (potL g)) := by
          show Row _ _ _
          unfold potL
          rw [HN.out, Int.toNat_natCast]
          have := hR
          rw [Nat.sub_self] at this
          exact this
        have HLEN : Hid ((potL g).length = N) := by show _ = _; unfold potL; rw [potS_len, HN.out, Int.toNat_natCast]
        have hneg : (N : Int) - 1 - (N : Int) < 0 := by omega
        have HBE := Lib.hid (hbw4.trans (hbr.mono (Nat.le_of_lt hbgh)))
        clear hR hbr
        go_wp2_with fail
        go_ret2
        exact ⟨some ⟨gh, 0, none⟩, N, by rw [HP.out]; show _ = Ending.returned (.tuple #[.slice _ (potL g).length N, .int .i64 0]); rw [HLEN.out]; rfl, by rw [HP.out]; exact HRF.out.slr, HBE.out, by rw [HP.out]; show (potL g).length ≤ N; rw [HLEN.out]; exact Nat.le_refl _, by unfold maxLen; omega, fun _ => ⟨gh, 0, _, rfl, HRF.out, fun k x hk => by rw [HP.out] at hk; simp [show (potL g)[k]? = some x from hk]⟩⟩
theorem pot_any (A : Option Addr) (c : Nat) (g : Gr) (w : World) (hx : SlR 4 RLk w A g.ls) (hl : g.ls.length ≤ maxLen) :
    Calls Tryz.prog 51 #[.agg #[.int .i64 g.n, .slice A g.ls.length c]] w fun e w' => ∃ A' c', e = .returned (.tuple #[.slice A' (potsOf g).1.length c', .int .i64 (potsOf g).2]) ∧ SlR 1 RInt w' A' (potsOf g).1 ∧ Below w.heap.size w w' ∧ (potsOf g).1.length ≤ c' ∧ c' ≤ maxLen :=
  (pot_anyT A c g w hx hl).mono fun _ _ ⟨A', c', h1, h2, h3, h4, h5, _⟩ => ⟨A', c', h1, h2, h3, h4, h5⟩
end Go.Proofs.YtfjkmgjjifhdkaaGreat
