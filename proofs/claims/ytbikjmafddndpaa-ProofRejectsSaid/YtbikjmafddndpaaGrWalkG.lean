/-
  The walks of layer 16: the links that leave each node.
-/
import Derived.Test.YtbikjmafddndpaaGrSl
import Derived.Test.YtbikjmafddndpaaBase
import Derived.Test.YtbikjmafddndpaaGrWalkC
namespace Go.Proofs.Ytbikjmafddndpaa
open Go Go.RowKit

theorem int_inf : (Try.prog.info? 3).map (fun i => (i.zero, i.size, i.bytes)) = some (some (.int .i64 0), 1, 8) := by kernel_rfl
theorem ints_info : (Try.prog.info? 36).map (fun i => (i.zero, i.size, i.bytes)) = some (some (.slice none 0 0), 1, 24) := by kernel_rfl
set_option maxRecDepth 100000 in
set_option maxHeartbeats 8000000 in
theorem leaving_any (A : Option Addr) (c : Nat) (g : Gr) (N : Nat) (w : World) (hx : SlR 4 RLk w A g.ls) (hl : g.ls.length ≤ maxLen) (hg : GrOK g) (hN : g.n = (N : Int)) :
    Calls Try.prog 55 #[.agg #[.int .i64 (N : Int), .slice A g.ls.length c]] w fun e w' => ∃ gf, e = .returned (.slice (some ⟨gf, 0, none⟩) N N) ∧ SlR 1 RSl w' (some ⟨gf, 0, none⟩) (leavL g N) ∧ Below w.heap.size w w' := by
  have hl0 := hl
  unfold maxLen at hl
  obtain ⟨i0, hi, hz0, hz1, hz2⟩ := info_parts int_inf
  obtain ⟨i1, hi1, hy0, hy1, hy2⟩ := info_parts ints_info
  have hgl := hg.len
  have HG := Lib.hid hg
  have HN := Lib.hid hN
  have hn2 : 1 ≤ N ∧ N ≤ 2000 := by have := hg.n; omega
  obtain ⟨hn1, hn2⟩ := hn2
  clear hg hN
  obtain ⟨w1, hw1⟩ : ∃ w1, w.alloc (.cells #[.int .i64 (N : Int), .slice A g.ls.length c] 30) = w1 := ⟨_, rfl⟩
  have hb1 : Below w.heap.size w w1 := by rw [← hw1]; exact nw _ (Below.refl _ _)
  have hB1 : Blk w1 w.heap.size 30 #[.int .i64 (N : Int), .slice A g.ls.length c] := by rw [← hw1]; exact Blk.new _ _ _
  have HW1 := Lib.hid hw1
  have c0 := hB1.cell 0
  have c1 := hB1.cell 1
  have lb := hB1.lt
  simp at c0 c1
  clear hw1
  go_enter Try.func55, Try.ntmps55
  go_upto_region 1 with fail
  rw [HW1.out]
  go_upto_region 2 with (at_make; go_loud (refine wpList_mk _ rfl _ _ 36 rfl 3 i0 (.int .i64 0) (.int .i64 0) Try.underlying36 hi hz0 hz1 (by omega) rfl N rfl rfl (by omega) ?_))
  obtain ⟨W2, hW2⟩ : ∃ W, w1.alloc (.cells (Array.replicate N (Value.int .i64 0)) 3) = W := ⟨_, rfl⟩
  have hb2 : Below w1.heap.size w1 W2 := by rw [← hW2]; exact nw _ (Below.refl _ _)
  have hR2 : Row W2 w1.heap.size (List.replicate N 0) := by rw [← hW2, ← List.toArray_replicate]; exact Row.zeros _ _
  rw [hW2]
  clear hW2
  obtain ⟨ge, hge⟩ : ∃ b, w1.heap.size = b := ⟨_, rfl⟩
  rw [hge] at hR2 lb ⊢
  have hB2 := hB1.below hb2 (by rw [hge]; exact lb)
  have hbw2 := bthen hb1 hb2
  rw [← endsA_zero g N] at hR2
  clear hb2 hB1 c0 c1 hge
  have j0 := hB2.cell 0
  have j1 := hB2.cell 1
  have jl := hB2.lt
  simp at j0 j1
  go_wp2_with fail
  go_loopw [22] (fun i wr => ∃ j : Nat, j ≤ g.ls.length ∧ i = .int .i64 j ∧ Row wr ge (endsA g N j) ∧ Below ge W2 wr) (fun i _ => g.ls.length - (intOf i).toNat)
  case atStart => exact ⟨0, by omega, rfl, hR2, Below.refl _ _⟩
  case round =>
    obtain ⟨j, hj, rfl, hR, hbv⟩ := hrel
    have hBv := hB2.below hbv lb
    have b0 := hBv.cell 0
    have b1 := hBv.cell 1
    have bl := hBv.lt
    simp at b0 b1
    have hRl := hR.lt
    have hbwv : Below w.heap.size w wr := hbw2.trans (hbv.mono (by omega))
    by_cases hltj : j < g.ls.length
    · have hb0 := hbwv
      obtain ⟨b, off, l, rfl, hbb, hll, d0, d1, d2, d3⟩ := (hx.below keeps_lk hbwv).lk hltj
      have hok := HG.out.ls l (List.mem_of_getElem? hll)
      obtain ⟨o1, o2, o3, o4, o5⟩ := hok
      obtain ⟨f, hf⟩ : ∃ f : Nat, l.fr = (f : Int) := ⟨l.fr.toNat, by omega⟩
      have hfN : f < N := by have := HN.out; omega
      have hf0 : (0 : Int) ≤ (f : Int) := by omega
      have hfN' : (f : Int) < (N : Int) := by omega
      have HF := Lib.hid hf
      have HLL := Lib.hid hll
      have hcl := cntN_le g f (k := j) hj
      have hll2 : (lvs g (f : Int)).length ≤ 20000 := by have := stN_le g (f + 1); rw [stN_succ] at this; omega
      have HR1 := Lib.hid ((hR.alloc (.cells #[.int .i64 l.fr, .int .i64 l.to, .int .i64 l.lb, .int .i64 l.cost] 54)))
      have HBV := Lib.hid (hbv.trans ((nw (.cells #[.int .i64 l.fr, .int .i64 l.to, .int .i64 l.lb, .int .i64 l.cost] 54) (Below.refl wr.heap.size wr)).mono (Nat.le_of_lt hRl)))
      have hat := endsA_at g (k := j) hfN
      have HST := Lib.hid (endsA_step hll hf hfN)
      clear hll hR hf
      go_upto_region 5 with fail
      obtain ⟨W3, hW3⟩ : ∃ W, wr.alloc (.cells #[.int .i64 l.fr, .int .i64 l.to, .int .i64 l.lb, .int .i64 l.cost] 54) = W := ⟨_, rfl⟩
      have hLb : Blk W3 wr.heap.size 54 #[.int .i64 l.fr, .int .i64 l.to, .int .i64 l.lb, .int .i64 l.cost] := by rw [← hW3]; exact Blk.new _ _ _
      rw [hW3] at HR1 HBV ⊢
      obtain ⟨t8, ht8⟩ : ∃ b, wr.heap.size = b := ⟨_, rfl⟩
      rw [ht8] at hLb ⊢
      have hRl2 := HR1.out.lt
      have u0 := hLb.cell 0
      simp at u0
      rw [HF.out] at u0
      have hLl := hLb.lt
      have r0 := HR1.out.cell hat
      have rf := HR1.out.frozen f
      have hws : IntKind.i64.wrap ((cntN g f j : Int) + 1) = (cntN g f j : Int) + 1 := IntWalk.i64_in _ (by omega)
      clear hW3 ht8 hat d0 d1 d2 d3 b0 b1 bl hBv
      generalize cntN g f j = cn at *
      go_wp2_with fail
      go_roundw
      case rel => exact ⟨j + 1, by omega, by go_num, (by rw [HST.out]; exact HR1.out.set_ f _), HBV.out.setCell (Nat.le_refl _) _⟩
      case measure => simp [intOf]; omega
    · obtain rfl : j = g.ls.length := by omega
      rw [endsA_all] at hR
      have HBV := Lib.hid hbv
      clear hbv hBv
      go_wp2_with fail
      obtain ⟨W3, hW3⟩ : ∃ W, W = wr := ⟨_, rfl⟩
      rw [← hW3] at hR HBV hbwv hRl bl b0 b1 ⊢
      clear hW3
      have hbg := HBV.out
      go_loopw [6, 36] (fun sm i wr => ∃ k : Nat, k ≤ N ∧ i = .int .i64 k ∧ sm = .int .i64 (stN g k : Nat) ∧ Row wr ge (endsB g N k) ∧ Below ge W3 wr) (fun _ i _ => N - (intOf i).toNat)
      case atStart => exact ⟨0, by omega, rfl, rfl, hR, Below.refl _ _⟩
      case round =>
        obtain ⟨k, hk, rfl, rfl, hRr, hbr⟩ := hrel
        have hRrl := hRr.lt
        by_cases hltk : k < N
        · have hat := hRr.cell (endsB_at g hltk)
          have haf := hRr.frozen k
          have HST := Lib.hid (endsB_step g hltk)
          have HSS := Lib.hid (stN_succ g k)
          have hs1 := stN_le g (k + 1)
          rw [stN_succ] at hs1
          have hkN : (k : Int) < (N : Int) := by omega
          have hws : IntKind.i64.wrap ((stN g k : Int) + ((lvs g (k : Int)).length : Int)) = (stN g k : Int) + ((lvs g (k : Int)).length : Int) := IntWalk.i64_in _ (by omega)
          have HRr := Lib.hid hRr
          have HBr := Lib.hid hbr
          clear hRr hbr
          generalize (lvs g (k : Int)).length = ll at *
          generalize stN g k = sk at *
          go_wp2_with fail
          go_roundw
          case rel => exact ⟨k + 1, by omega, by go_num, (by rw [HSS.out]; go_num), (by rw [HST.out]; exact HRr.out.set_ k _), HBr.out.setCell (Nat.le_refl _) _⟩
          case measure => simp [intOf]; omega
        · obtain rfl : N = k := by omega
          rw [endsB_all] at hRr
          have hbW : Below ge W2 wr := HBV.out.trans hbr
          have hbw3 : Below w.heap.size w wr := hbwv.trans (hbr.mono (by omega))
          have hB3 := hB2.below hbW lb
          have v0 := hB3.cell 0
          have v1 := hB3.cell 1
          have vl := hB3.lt
          simp at v0 v1
          have HBW := Lib.hid hbW
          clear hbr b0 b1 bl hB3 hbW
          go_upto_region 14 with fail
          go_upto_region 15 with (at_make; go_loud (refine wpList_mk _ rfl _ _ 36 rfl 3 i0 (.int .i64 0) (.int .i64 0) Try.underlying36 hi hz0 hz1 (by omega) rfl g.ls.length rfl rfl (by omega) ?_))
          obtain ⟨W4, hW4⟩ : ∃ W, wr.alloc (.cells (Array.replicate g.ls.length (Value.int .i64 0)) 3) = W := ⟨_, rfl⟩
          have hb4 : Below wr.heap.size wr W4 := by rw [← hW4]; exact nw _ (Below.refl _ _)
          have hR4 : Row W4 wr.heap.size (List.replicate g.ls.length 0) := by rw [← hW4, ← List.toArray_replicate]; exact Row.zeros _ _
          rw [hW4]
          clear hW4
          obtain ⟨ga, hga⟩ : ∃ b, wr.heap.size = b := ⟨_, rfl⟩
          have hC4 := hRr.below hb4 hRrl
          have hb4' : Below w.heap.size w W4 := bthen hbw3 hb4
          have hBg4 : Below ge W2 W4 := HBW.out.trans (hb4.mono (Nat.le_of_lt hRrl))
          rw [hga] at hR4 hRrl hb4 ⊢
          have HB4 := Lib.hid hBg4
          have hB4 := hB2.below hBg4 lb
          have v0 := hB4.cell 0
          have v1 := hB4.cell 1
          have vl := hB4.lt
          simp at v0 v1
          have hneg : ge ≠ ga := by omega
          clear hb4 hga hRr hbw3 hBg4
          go_wp2_with fail
          go_loopw [56] (fun i wr => ∃ j : Nat, j ≤ g.ls.length ∧ i = .int .i64 j ∧ Row wr ge (endsC g N j) ∧ (∃ al, Row wr ga al ∧ AllTo g j al) ∧ Below ge W4 wr) (fun i _ => g.ls.length - (intOf i).toNat)
          case atStart => exact ⟨0, by omega, rfl, hC4, ⟨_, hR4, AllTo.zero g⟩, Below.refl _ _⟩
          case round =>
            obtain ⟨j, hj, rfl, hR, ⟨al, hA, HAL⟩, hbv⟩ := hrel
            have HAL := Lib.hid HAL
            have hBv := hB4.below hbv lb
            have b0 := hBv.cell 0
            have b1 := hBv.cell 1
            have bl := hBv.lt
            simp at b0 b1
            have hRl := hR.lt
            have hAl := hA.lt
            have hbwv : Below w.heap.size w wr := hb4'.trans (hbv.mono (by omega))
            by_cases hltj : j < g.ls.length
            · have hb0 := hbwv
              obtain ⟨b, off, l, rfl, hbb, hll, d0, d1, d2, d3⟩ := (hx.below keeps_lk hbwv).lk hltj
              have hok := HG.out.ls l (List.mem_of_getElem? hll)
              obtain ⟨o1, o2, o3, o4, o5⟩ := hok
              obtain ⟨f, hf⟩ : ∃ f : Nat, l.fr = (f : Int) := ⟨l.fr.toNat, by omega⟩
              have hfN : f < N := by have := HN.out; omega
              have hf0 : (0 : Int) ≤ (f : Int) := by omega
              have hfN' : (f : Int) < (N : Int) := by omega
              have HF := Lib.hid hf
              have HLL := Lib.hid hll
              have hcl := cntN_le g f (k := j) hj
              have hsl : stN g f + (lvs g (f : Int)).length ≤ 20000 := by have := stN_le g (f + 1); rw [stN_succ] at this; omega
              have HR1 := Lib.hid ((hR.alloc (.cells #[.int .i64 l.fr, .int .i64 l.to, .int .i64 l.lb, .int .i64 l.cost] 54)))
              have HA1 := Lib.hid ((hA.alloc (.cells #[.int .i64 l.fr, .int .i64 l.to, .int .i64 l.lb, .int .i64 l.cost] 54)))
              have HBV := Lib.hid (hbv.trans ((nw (.cells #[.int .i64 l.fr, .int .i64 l.to, .int .i64 l.lb, .int .i64 l.cost] 54) (Below.refl wr.heap.size wr)).mono (Nat.le_of_lt hRl)))
              have hat := endsC_at g (k := j) hfN
              have HST := Lib.hid (endsC_step hll hf hfN)
              have HAS := Lib.hid (HAL.out.step hll hf)
              have halt := HAL.out.lt hll hf
              have hall := HAL.out.1
              obtain ⟨xa, hxa⟩ : ∃ xa, al[stN g f + cntN g f j]? = some xa := ⟨_, List.getElem?_eq_getElem halt⟩
              clear hll hR hA hf HAL
              go_upto_region 18 with fail
              obtain ⟨W5, hW5⟩ : ∃ W, wr.alloc (.cells #[.int .i64 l.fr, .int .i64 l.to, .int .i64 l.lb, .int .i64 l.cost] 54) = W := ⟨_, rfl⟩
              have hLb : Blk W5 wr.heap.size 54 #[.int .i64 l.fr, .int .i64 l.to, .int .i64 l.lb, .int .i64 l.cost] := by rw [← hW5]; exact Blk.new _ _ _
              rw [hW5] at HR1 HA1 HBV ⊢
              obtain ⟨t8, ht8⟩ : ∃ b, wr.heap.size = b := ⟨_, rfl⟩
              rw [ht8] at hLb hAl hRl ⊢
              have hRl2 := HR1.out.lt
              have hAl2 := HA1.out.lt
              have u0 := hLb.cell 0
              simp at u0
              rw [HF.out] at u0
              have hLl := hLb.lt
              have r0 := HR1.out.cell hat
              have rf := HR1.out.frozen f
              have a0 := HA1.out.cell hxa
              have af := HA1.out.frozen (stN g f + cntN g f j)
              clear hW5 ht8 hat d0 d1 d2 d3 b0 b1 bl hBv hxa
              obtain ⟨sc, hsc⟩ : ∃ sc, stN g f + cntN g f j = sc := ⟨_, rfl⟩
              have HSC := Lib.hid hsc
              rw [hsc] at r0 a0 af halt
              have hsc2 : sc ≤ 20000 := by omega
              have hsal : (sc : Int) < (g.ls.length : Int) := by omega
              have hws : IntKind.i64.wrap ((sc : Int) + 1) = (sc : Int) + 1 := IntWalk.i64_in _ (by omega)
              clear hsc
              have hne1 : ge ≠ t8 := by omega
              have hne2 : ga ≠ t8 := by omega
              go_upto_region 19 with fail
              obtain ⟨W6, hW6⟩ : ∃ W, W5.setCell ⟨ga, sc, none⟩ (.int .i64 (j : Int)) = W := ⟨_, rfl⟩
              have HA2 := Lib.hid (HA1.out.set_ sc (j : Int))
              have HR2 := Lib.hid (HR1.out.far (p := ⟨ga, sc, none⟩) hneg (.int .i64 (j : Int)))
              have hL2 := hLb.far (p := ⟨ga, sc, none⟩) (fun e => hne2 e.symm) (.int .i64 (j : Int))
              have HB6 := Lib.hid (HBV.out.setCell (p := ⟨ga, sc, none⟩) (by show ge ≤ ga; omega) (.int .i64 (j : Int)))
              rw [hW6] at HA2 HR2 hL2 HB6 ⊢
              clear hW6 u0 r0 rf a0 af HA1 HR1 hLb HBV hRl2 hAl2
              have u0 := hL2.cell 0
              simp at u0
              rw [HF.out] at u0
              have r0 := HR2.out.cell (endsC_at g (k := j) hfN)
              have rf := HR2.out.frozen f
              have hRl3 := HR2.out.lt
              clear hcl hsl hall halt hsal
              have hE := endsC_at g (k := j) hfN
              have hstn : Hid (stN g f + cntN g f j = sc) := HSC
              rw [HSC.out] at r0
              go_wp2_with fail
              go_roundw
              case rel =>
                refine ⟨j + 1, by omega, by go_num, ?_, ⟨_, HA2.out.far (p := ⟨ge, f, none⟩) (fun e => hneg e.symm) _, HSC.out ▸ HAS.out⟩, HB6.out.setCell (Nat.le_refl _) _⟩
                rw [HST.out, HSC.out]
                exact HR2.out.set_ f _
              case measure => simp [intOf]; omega
            · obtain rfl : j = g.ls.length := by omega
              have HBv := Lib.hid hbv
              have HBW := Lib.hid (HB4.out.trans hbv)
              clear hbv
              go_upto_region 21 with fail
              go_upto_region 22 with (at_make; go_loud (refine wpList_mk _ rfl _ _ 78 rfl 36 i1 (.slice none 0 0) (.slice none 0 0) Try.underlying78 hi1 hy0 hy1 (by omega) rfl N rfl rfl (by omega) ?_))
              obtain ⟨W5, hW5⟩ : ∃ W, wr.alloc (.cells (Array.replicate N (Value.slice none 0 0)) 36) = W := ⟨_, rfl⟩
              have hb5 : Below wr.heap.size wr W5 := by rw [← hW5]; exact nw _ (Below.refl _ _)
              have hF5 : Blk W5 wr.heap.size 36 (fromC ga g N 0).toArray := by rw [← hW5, fromC_zero, List.toArray_replicate]; exact Blk.new _ _ _
              rw [hW5]
              clear hW5
              obtain ⟨gf, hgf⟩ : ∃ b, wr.heap.size = b := ⟨_, rfl⟩
              have hC5 := hR.below hb5 hRl
              have hA5 := hA.below hb5 hAl
              have hb5' : Below w.heap.size w W5 := bthen hbwv hb5
              rw [hgf] at hF5 hRl hAl hb5 ⊢
              have HAL := HAL
              have hall := HAL.out.1
              clear hgf hR hA hBv b0 b1 bl hb5
              go_wp2_with fail
              go_loopw [13, 82] (fun st i wr => ∃ k : Nat, k ≤ N ∧ i = .int .i64 k ∧ st = .int .i64 (stN g k : Nat) ∧ Blk wr gf 36 (fromC ga g N k).toArray ∧ Below gf W5 wr) (fun _ i _ => N - (intOf i).toNat)
              case atStart => exact ⟨0, by omega, rfl, rfl, hF5, Below.refl _ _⟩
              case round =>
                obtain ⟨k, hk, rfl, rfl, hF, hbr⟩ := hrel
                have hFl := hF.lt
                by_cases hltk : k < N
                · have hRr := hC5.below hbr hRl
                  have hat := hRr.cell (endsC_end g hltk)
                  have hF0 : wr.cell? ⟨gf, k, none⟩ = some (.slice none 0 0) := by rw [hF.cell]; unfold fromC; simp [hltk]
                  have hFf := hF.frozen k
                  have HST := Lib.hid (fromC_step ga g hltk)
                  have hs1 := stN_le g (k + 1)
                  have HSS := Lib.hid (stN_succ g k)
                  have hs2 : stN g k ≤ stN g (k + 1) := stN_mono g (by omega)
                  have hkN : (k : Int) < (N : Int) := by omega
                  have HF := Lib.hid hF
                  have HBr := Lib.hid hbr
                  have HSV : Hid (slV ga g k = .slice (if stN g (k + 1) = stN g k then some ⟨ga, 0, none⟩ else some ⟨ga, stN g k, none⟩) (stN g (k + 1) - stN g k) (stN g (k + 1) - stN g k)) := rfl
                  have HS1 : Hid (∃ x, stN g (k + 1) = x) := ⟨_, rfl⟩
                  clear hF hbr hRr
                  have HRV : Hid (stN g (k + 1) = stN g (k + 1)) := rfl
                  obtain ⟨s1, hs1e⟩ : ∃ s, stN g (k + 1) = s := ⟨_, rfl⟩
                  have HS1 := Lib.hid hs1e
                  rw [hs1e] at hat hs1 hs2 HSV
                  clear hs1e HRV HSS
                  generalize stN g k = s0 at *
                  go_wp2_with fail
                  go_roundw
                  case rel => exact ⟨k + 1, by omega, by go_num, by rw [HS1.out], (by rw [HST.out, HSV.out]; simpa using HF.out.set_ k _), HBr.out.setCell (Nat.le_refl _) _⟩
                  case measure => simp [intOf]; omega
                · obtain rfl : N = k := by omega
                  have HS : Hid (SlR 1 RSl wr (some ⟨gf, 0, none⟩) (leavL g N)) := from_slr hF HAL.out (hA5.below hbr hAl) hl0
                  have HE := Lib.hid (hb5'.trans (hbr.mono (by omega)))
                  clear hF hbr
                  go_wp2_with fail
                  go_ret
                  exact ⟨gf, rfl, HS.out, HE.out⟩
end Go.Proofs.Ytbikjmafddndpaa
