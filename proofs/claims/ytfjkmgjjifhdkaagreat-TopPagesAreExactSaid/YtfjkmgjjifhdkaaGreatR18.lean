/-
  The walks of layer 15: whether the heap is empty; the least group taken out.
-/
import Derived.Test.YtfjkmgjjifhdkaaGreatR16
import Derived.Test.YtfjkmgjjifhdkaaGreatR11
import Derived.Deep.CutBlock
namespace Go.Proofs.YtfjkmgjjifhdkaaGreat
open Go Go.RowKit

theorem empty_any (bh B : Nat) (vH : Value) (H : List MG) (w : World) (hw : HeapW bh B w vH H) :
    Calls Tryz.prog 38 #[.pointer (some ⟨bh, 0, none⟩)] w fun e w' => e = .returned (.bool (decide (H.length = 0))) ∧ w = w' := by
  have h1 := hw.h.cell 1
  simp at h1
  obtain ⟨A, cap, rfl⟩ : ∃ A cap, vH = .slice A H.length cap := by
    rcases hw.own.2 with ⟨rfl, h0⟩ | ⟨g, cap, cur, rfl, _⟩
    · exact ⟨none, 0, by rw [h0]⟩
    · exact ⟨_, cap, rfl⟩
  clear hw
  go_enter Tryz.func38, Tryz.ntmps38
  go_wp2_with fail
  go_ret
  exact ⟨ret_bool (by rw [Bool.eq_iff_iff]; simp), rfl⟩
theorem flat_take {α : Type} {enc : α → List Value} (hl : ∀ x, (enc x).length = 4) : ∀ (l : List α) (n : Nat), (l.take n).flatMap enc = (l.flatMap enc).take (n * 4)
  | [], n => by simp
  | x :: l, 0 => by simp
  | x :: l, n + 1 => by
    have e : (n + 1) * 4 = (enc x).length + n * 4 := by rw [hl]; omega
    rw [List.take_succ_cons, List.flatMap_cons, List.flatMap_cons, flat_take hl l n, e, List.take_length_add_append]
def lsQ (L : List MG) (k : Nat) : Nat → Nat
  | 0 => k
  | 1 => lsA ltG L k
  | _ => lsM ltG L k
theorem lsQ_succ {L : List MG} {k q : Nat} (hq : q < 2) (h : 2 * k + 1 + q < L.length) : lsQ L k (q + 1) = if ltG (L.getD (2 * k + 1 + q) default) (L.getD (lsQ L k q) default) = true then 2 * k + 1 + q else lsQ L k q := by
  rcases (by omega : q = 0 ∨ q = 1) with rfl | rfl
  · show lsA ltG L k = _
    unfold lsA
    by_cases h1 : ltG (L.getD (2 * k + 1) default) (L.getD k default) = true
    · rw [if_pos ⟨h, h1⟩]; exact (if_pos h1).symm
    · rw [if_neg (fun h2 => h1 h2.2)]; exact (if_neg h1).symm
  · show lsM ltG L k = _
    unfold lsM
    by_cases h1 : ltG (L.getD (2 * k + 2) default) (L.getD (lsA ltG L k) default) = true
    · rw [if_pos ⟨h, h1⟩]; exact (if_pos h1).symm
    · rw [if_neg (fun h2 => h1 h2.2)]; exact (if_neg h1).symm
theorem lsQ_end {L : List MG} {k q : Nat} (hq : q ≤ 2) (h : ¬ (q < 2 ∧ 2 * k + 1 + q < L.length)) : lsQ L k q = lsM ltG L k := by
  rcases (by omega : q = 0 ∨ q = 1 ∨ q = 2) with rfl | rfl | rfl
  · show k = _
    unfold lsM lsA
    rw [if_neg (fun h1 => by omega), if_neg (fun h1 => by omega)]
  · show lsA ltG L k = _
    unfold lsM
    rw [if_neg (fun h1 => by omega)]
  · rfl
theorem lsQ_lt {L : List MG} {k : Nat} (hk : k < L.length) (q : Nat) : lsQ L k q < L.length := by
  match q with
  | 0 => exact hk
  | 1 => exact lsA_lt hk
  | _ + 2 => exact lsM_lt hk
set_option maxRecDepth 100000 in
set_option maxHeartbeats 16000000 in
theorem pop_any (bh B : Nat) (vH : Value) (H : List MG) (w : World) (hB : B ≤ w.heap.size) (hbh : bh < B) (hw : HeapW bh B w vH H) (hne : 0 < H.length) (hlen : H.length ≤ 900000) :
    Calls Tryz.prog 39 #[.pointer (some ⟨bh, 0, none⟩)] w fun e w' => e = .returned (aggMg (H.getD 0 default)) ∧ (∃ v', HeapW bh B w' v' (popM ltG H)) ∧ HFr bh B w w' := by
  obtain ⟨R, hRR⟩ : ∃ R, popM ltG H = R := ⟨_, rfl⟩
  rw [hRR]
  have HRR := Lib.hid hRR
  clear hRR
  obtain ⟨x0, hx0⟩ : ∃ x, H[0]? = some x := ⟨_, List.getElem?_eq_getElem hne⟩
  have g0 : H.getD 0 default = x0 := by rw [List.getD_eq_getElem?_getD, hx0]; rfl
  rw [g0]
  obtain ⟨xl, hxl⟩ : ∃ x, H[H.length - 1]? = some x := ⟨_, List.getElem?_eq_getElem (by omega)⟩
  have gl_ : H.getD (H.length - 1) default = xl := by rw [List.getD_eq_getElem?_getD, hxl]; rfl
  obtain ⟨n1, hn1⟩ : ∃ n, H.length - 1 = n := ⟨_, rfl⟩
  rw [hn1] at hxl gl_
  have HRS : Hid (dnM ltG H.length ((H.set 0 xl).take n1) 0 = R) := by
    show _ = _
    rw [← HRR.out]
    unfold popM
    rw [hn1, gl_]
  obtain ⟨gb, cap, cur, hvv, hgB, hgb, hnc, hcm, hcs, htk, hcells⟩ := ownG hw.own rfl hne
  subst hvv
  have hnc1 : n1 < cap := by omega
  obtain ⟨w1, hw1⟩ : ∃ w1, w.alloc (.cells #[.slice none 0 0, .int .i64 0, .int .i64 0, .int .i64 0] 100) = w1 := ⟨_, rfl⟩
  have hb1 : Below w.heap.size w w1 := by rw [← hw1]; exact nw _ (Below.refl _ _)
  have hR1 : Blk w1 w.heap.size 100 #[.slice none 0 0, .int .i64 0, .int .i64 0, .int .i64 0] := by rw [← hw1]; exact Blk.new _ _ _
  have hg1 := hgb.below hb1 hgb.lt
  have hH1 := hw.h.below hb1 hw.h.lt
  obtain ⟨a0, a1, a2, a3⟩ := hcells 0 x0 hx0
  rw [← hg1.cell] at a0 a1 a2 a3
  rw [Nat.zero_mul] at a0 a1 a2 a3
  rw [Nat.zero_add] at a1 a2 a3
  have h1 := hH1.cell 1
  have hl := hH1.lt
  simp at h1
  have HW1 := Lib.hid hw1
  have HL := Lib.hid hn1
  have HNI : Hid ((H.length : Int) - 1 = (n1 : Int)) := by show _ = _; omega
  have hlp : (0 : Int) < (H.length : Int) := by omega
  have hrl := hR1.lt
  have hgl := hg1.lt
  clear hw1 hx0 g0 gl_ hn1
  go_enter Tryz.func39, Tryz.ntmps39
  go_upto_region 1 with fail
  rw [HW1.out]
  go_upto_region 3 with fail
  rw [HNI.out]
  obtain ⟨w2, hw2⟩ : ∃ W, w1.alloc (.cells #[(Value.slice x0.A x0.G.head.length x0.G.head.length), .int .i64 (x0.G.rank : Int), .int .i64 x0.G.link, .int .i64 x0.G.cost] 100) = W := ⟨_, rfl⟩
  have hb2 : Below w1.heap.size w1 w2 := by rw [← hw2]; exact nw _ (Below.refl _ _)
  have hT2 : Blk w2 w1.heap.size 100 #[(Value.slice x0.A x0.G.head.length x0.G.head.length), .int .i64 (x0.G.rank : Int), .int .i64 x0.G.link, .int .i64 x0.G.cost] := by rw [← hw2]; exact Blk.new _ _ _
  rw [hw2]
  have hR2 := hR1.below hb2 hrl
  have hg2 := hg1.below hb2 hgl
  have hH2 := hH1.below hb2 hl
  have hgrb : gb < w.heap.size := hgb.lt
  obtain ⟨bt, hbt⟩ : ∃ b, w1.heap.size = b := ⟨_, rfl⟩
  rw [hbt] at hT2 ⊢
  obtain ⟨br, hbr⟩ : ∃ b, w.heap.size = b := ⟨_, rfl⟩
  have ngt : gb ≠ bt := by have := hb1.size; omega
  have ngr : gb ≠ br := by omega
  have ngh : bh ≠ gb := by omega
  have nht : bh ≠ bt := by have := hb1.size; omega
  have nhr : bh ≠ br := by omega
  have HB : Hid (B ≤ br) := by show B ≤ br; omega
  rw [hbr] at hR2 ⊢
  obtain ⟨b0, b1, b2, b3⟩ := hcells n1 xl hxl
  rw [← hg2.cell] at b0 b1 b2 b3
  have c0 := (bcell hb2).1 gb 0 hgl
  have c1 := (bcell hb2).1 gb 1 hgl
  have c2 := (bcell hb2).1 gb 2 hgl
  have c3 := (bcell hb2).1 gb 3 hgl
  rw [a0] at c0
  rw [a1] at c1
  rw [a2] at c2
  rw [a3] at c3
  have f0 := hg2.frozen 0
  have f1 := hg2.frozen 1
  have f2 := hg2.frozen 2
  have f3 := hg2.frozen 3
  have g1 := hg2.lt
  have h1 := hH2.cell 1
  have hl := hH2.lt
  simp at h1
  have hn1l : n1 < H.length := by have := HL.out; omega
  have hn1I : (n1 : Int) < (H.length : Int) := by omega
  have HF2 : Hid (HFr bh B w w2) := (HFr.of_below hB hb1).trans (HFr.of_below (Nat.le_trans hB hb1.size) hb2)
  have HOK := Lib.hid hw.ok
  have HTY := Lib.hid hw.typ
  have hB2 : B ≤ w2.heap.size := Nat.le_trans (Nat.le_trans hB hb1.size) hb2.size
  have HXL := Lib.hid hxl
  clear hw2 hb2 hbt hbr a0 a1 a2 a3 hR1 hg1 hH1 hgl hrl hb1 hxl hw hgb hcells HW1
  refine ordT_below [12] [(0, false), (1, false), (2, false), (3, false), (4, false), (5, false), (6, false), (7, false), (8, false), (9, false), (10, false), (11, false), (12, true)] (by kernel_rfl) (by kernel_rfl) (by kernel_rfl) (fun _ _ _ _ _ h => h) ?_
  intro W0 hS0
  repeat (first
    | (refine ordT_skip rfl rfl (by assumption) ?_; simp only [Act.put, List.setIfInBounds_toArray, List.set_cons_zero, List.set_cons_succ])
    | (refine ordT_cskip rfl rfl (by assumption) ?_; simp only [Act.put, List.setIfInBounds_toArray, List.set_cons_zero, List.set_cons_succ])
    | (refine ordT_take (v := ?_) rfl rfl (by assumption) ?_ ?_
       rotate_left 1
       focus (intro W hW; obtain ⟨hcW, hfW⟩ := bcell hW; (go_simp <;> with_reducible rfl))
       simp only [Act.put, List.setIfInBounds_toArray, List.set_cons_zero, List.set_cons_succ])
    | (refine ordT_call rfl rfl (fun K hK => ?_)
       obtain ⟨hcS, hfS⟩ := bcell hS0
       go_simp
       first
         | (refine hK.out _ _ (fun h => by cases h) ?_)))
  refine ordT_nil ?_
  have hg3 := (hg2.below hS0 g1).set4 0 xl
  have hs4 : HFr bh B W0 (setW4 W0 gb 0 xl) := HFr.setG4 hgB (hg2.below hS0 g1) 0 xl
  have hR3 : Blk (setW4 W0 gb 0 xl) br 100 _ := ((((hR2.below hS0 hR2.lt).far (p := ⟨gb, 0, none⟩) (Ne.symm ngr) _).far (p := ⟨gb, 0 + 1, none⟩) (Ne.symm ngr) _).far (p := ⟨gb, 0 + 2, none⟩) (Ne.symm ngr) _).far (p := ⟨gb, 0 + 3, none⟩) (Ne.symm ngr) _
  have hT3 : Blk (setW4 W0 gb 0 xl) bt 100 _ := ((((hT2.below hS0 hT2.lt).far (p := ⟨gb, 0, none⟩) (Ne.symm ngt) _).far (p := ⟨gb, 0 + 1, none⟩) (Ne.symm ngt) _).far (p := ⟨gb, 0 + 2, none⟩) (Ne.symm ngt) _).far (p := ⟨gb, 0 + 3, none⟩) (Ne.symm ngt) _
  have hH3 : Blk (setW4 W0 gb 0 xl) bh _ _ := ((((hH2.below hS0 hl).far (p := ⟨gb, 0, none⟩) ngh _).far (p := ⟨gb, 0 + 1, none⟩) ngh _).far (p := ⟨gb, 0 + 2, none⟩) ngh _).far (p := ⟨gb, 0 + 3, none⟩) ngh _
  obtain ⟨W3, hW3⟩ : ∃ W, setW4 W0 gb 0 xl = W := ⟨_, rfl⟩
  have hW3' : ((((W0.setCell ⟨gb, 0, none⟩ ((Value.slice xl.A xl.G.head.length xl.G.head.length))).setCell ⟨gb, 1, none⟩ (.int .i64 (xl.G.rank : Int))).setCell ⟨gb, 2, none⟩ (.int .i64 xl.G.link)).setCell ⟨gb, 3, none⟩ (.int .i64 xl.G.cost)) = W3 := hW3
  rw [hW3] at hg3 hs4 hR3 hT3 hH3
  rw [hW3']
  have hF3 : HFr bh B w W3 := (HF2.out.trans (HFr.of_below hB2 hS0)).trans hs4
  have h1 := hH3.cell 1
  have h1f := hH3.frozen 1
  have hl := hH3.lt
  simp at h1
  have hncI : (n1 : Int) ≤ (cap : Int) := by omega
  have hn10 : (0 : Int) ≤ (n1 : Int) := by omega
  have hH4 := hH3.set_ 1 (.slice (some ⟨gb, 0, none⟩) n1 cap)
  have hR4 := hR3.far (p := ⟨bh, 1, none⟩) (Ne.symm nhr) (.slice (some ⟨gb, 0, none⟩) n1 cap)
  have hT4 := hT3.far (p := ⟨bh, 1, none⟩) (Ne.symm nht) (.slice (some ⟨gb, 0, none⟩) n1 cap)
  have hg4 := hg3.far (p := ⟨bh, 1, none⟩) (Ne.symm ngh) (.slice (some ⟨gb, 0, none⟩) n1 cap)
  have hF4 := hF3.trans (HFr.setH (bh := bh) (B := B) (w := W3) 1 (.slice (some ⟨gb, 0, none⟩) n1 cap))
  have hL1 : ((H.set 0 xl).take n1).length = n1 := by rw [List.length_take, List.length_set]; omega
  have hown4 : (W3.setCell ⟨bh, 1, none⟩ (.slice (some ⟨gb, 0, none⟩) n1 cap)).ownsRow B 100 4 (.slice (some ⟨gb, 0, none⟩) n1 cap) n1 (((H.set 0 xl).take n1).flatMap encMg) := by
    refine ownG_mk hgB hg4 hL1.symm (Nat.le_of_lt hnc1) hcm (by rw [set4_size]; exact hcs) ?_
    rw [flat_take encMg_len, ← set4_take (L := H) (k := 0) rfl hne htk, List.take_take, Nat.zero_mul, Nat.min_eq_left (by omega)]
  have HW4 : Hid (HeapW bh B (W3.setCell ⟨bh, 1, none⟩ (.slice (some ⟨gb, 0, none⟩) n1 cap)) (.slice (some ⟨gb, 0, none⟩) n1 cap) ((H.set 0 xl).take n1)) := ⟨hH4, by rw [hL1]; exact hown4, fun x hx => by
    refine hF4.gm HTY.out ?_
    rcases List.mem_or_eq_of_mem_set (List.mem_of_mem_take hx) with hx | rfl
    · exact HOK.out x hx
    · exact HOK.out _ (List.mem_of_getElem? HXL.out)⟩
  have HF4 := Lib.hid hF4
  have HR4 := Lib.hid hR4
  have HT4 := Lib.hid hT4
  have HL1 := Lib.hid hL1
  obtain ⟨f0_, hf0⟩ : ∃ f, H.length = f + 1 := ⟨H.length - 1, by omega⟩
  rw [hf0] at HRS
  have hfn : n1 ≤ f0_ + 1 + 0 := by omega
  clear hf0 hH2 hR2 hT2 hg2 hS0 hW3 hW3' hg3 hs4 hR3 hT3 hF3 hH4 hR4 hT4 hg4 hF4 hL1 hown4 f0 f1 f2 f3 b0 b1 b2 b3 c0 c1 c2 c3 HF2 htk hcs hB2
  go_wp2_with fail
  go_loopw [5] (fun iv wr => ∃ (k f : Nat) (L : List MG), iv = .int .i64 (k : Int) ∧ Hid (HeapW bh B wr (.slice (some ⟨gb, 0, none⟩) n1 cap) L) ∧ Hid (L.length = n1) ∧ (k < n1 ∨ k = 0) ∧ n1 ≤ f + 1 + k ∧ Hid (dnM ltG (f + 1) L k = R) ∧ Hid (HFr bh B w wr) ∧
      Hid (Blk wr br 100 #[.slice none 0 0, .int .i64 0, .int .i64 0, .int .i64 0]) ∧ Hid (Blk wr bt 100 #[(Value.slice x0.A x0.G.head.length x0.G.head.length), .int .i64 (x0.G.rank : Int), .int .i64 x0.G.link, .int .i64 x0.G.cost])) (fun iv _ => n1 + 1 - (intOf iv).toNat)
  case atStart => exact ⟨0, f0_, _, rfl, HW4, HL1, .inr rfl, hfn, HRS, HF4, HR4, HT4⟩
  case round =>
    obtain ⟨k, f, L, rfl, HW, HLn, hk, hkf, HD, HF, HR, HT⟩ := hrel
    obtain ⟨wo, rfl⟩ : ∃ W, W = wr := ⟨wr, rfl⟩
    obtain ⟨c, hc⟩ : ∃ c, lsM ltG L k = c := ⟨_, rfl⟩
    have HC := Lib.hid hc
    have hkn : k ≤ 900000 := by omega
    have hk0 : (0 : Int) ≤ (k : Int) := by omega
    have hw2 : IntKind.i64.wrap (2 * (k : Int)) = 2 * (k : Int) := IntWalk.i64_in _ (by omega)
    have hw3 : IntKind.i64.wrap (2 * (k : Int) + 1) = 2 * (k : Int) + 1 := IntWalk.i64_in _ (by omega)
    have hw4 : IntKind.i64.wrap (2 * (k : Int) + 2) = 2 * (k : Int) + 2 := IntWalk.i64_in _ (by omega)
    clear hc
    go_upto_block 2 with fail
    go_cut [6] (fun s6 W => s6 = .int .i64 (c : Nat) ∧ Below wo.heap.size wo W)
    case first =>
      go_wp2_with fail
      go_loopw [6, 7] (fun ls ch wv => ∃ (q cn ln : Nat), q ≤ 2 ∧ Hid (cn = 2 * k + 1 + q) ∧ cn ≤ 2 * k + 1 + q ∧ 2 * k + 1 + q ≤ cn ∧ ch = .int .i64 (cn : Int) ∧ ls = .int .i64 (ln : Int) ∧ Hid (lsQ L k q = ln) ∧ Below wo.heap.size wo wv) (fun _ ch _ => (2 * k + 3 - (intOf ch).toNat))
      case atStart => exact ⟨0, 2 * k + 1, k, by omega, rfl, by omega, by omega, by go_num, rfl, rfl, Below.refl _ _⟩
      case round =>
        obtain ⟨q, cn, ln, hq, HCN, hcn1, hcn2, rfl, rfl, HLS, hbv⟩ := hrel
        by_cases hcc : q < 2 ∧ cn < n1
        · obtain ⟨hq2, hcn⟩ := hcc
          have hcl : cn < L.length := by have := HLn.out; omega
          have hkl : k < L.length := by omega
          have hll : ln < L.length := by rw [← HLS.out]; exact lsQ_lt hkl q
          obtain ⟨xc, hxc⟩ : ∃ x, L[cn]? = some x := ⟨_, List.getElem?_eq_getElem hcl⟩
          obtain ⟨xs, hxs⟩ : ∃ x, L[ln]? = some x := ⟨_, List.getElem?_eq_getElem hll⟩
          have gc : L.getD cn default = xc := by rw [List.getD_eq_getElem?_getD, hxc]; rfl
          have gs : L.getD ln default = xs := by rw [List.getD_eq_getElem?_getD, hxs]; rfl
          have HSU : Hid (lsQ L k (q + 1) = if ltG xc xs = true then cn else ln) := by
            show _ = _
            rw [lsQ_succ hq2 (by have := HLn.out; omega), HLS.out, ← HCN.out, gc, gs]
          have HW2 := HW.out.below hbv
          obtain ⟨gb2, cap2, cur2, hvv, _, hgb, _, _, _, _, hcells⟩ := ownG HW2.own rfl (by omega)
          obtain ⟨rfl, rfl⟩ : gb = gb2 ∧ cap = cap2 := by injection hvv with h1 h2 h3; injection h1 with h1; injection h1 with h1; exact ⟨h1, h3⟩
          obtain ⟨k0, k1, k2, k3⟩ := hcells cn xc hxc
          obtain ⟨p0, p1, p2, p3⟩ := hcells ln xs hxs
          rw [← hgb.cell] at k0 k1 k2 k3 p0 p1 p2 p3
          have gl := hgb.lt
          have h0 := HW2.h.cell 0
          have h1 := HW2.h.cell 1
          have hl := HW2.h.lt
          simp at h0 h1
          unfold earlV at h0
          have hmk := HW2.ok xc (List.mem_of_getElem? hxc)
          have hmp := HW2.ok xs (List.mem_of_getElem? hxs)
          have HE : Hid (∀ W, Below wr.heap.size wr W → Calls Tryz.prog 35 #[aggMg xc, aggMg xs] W fun e w' => e = .returned (.bool (ltG xc xs)) ∧ Below W.heap.size W w') := fun W hW => earlier_any xc xs W (hmk.below hW) (hmp.below hW)
          have z1 : (cn : Int) ≤ 2 * (k : Int) + 2 := by omega
          have z2 : (cn : Int) < (n1 : Int) := by omega
          have hlnI : (ln : Int) < (n1 : Int) := by have := HLn.out; omega
          have hln0 : (0 : Int) ≤ (ln : Int) := by omega
          have hcn0 : (0 : Int) ≤ (cn : Int) := by omega
          clear hvv hcells gc gs hxc hxs hmk hmp HW2
          go_upto_region 10 with fail
          cases hlt : ltG xc xs with
          | true =>
            rw [hlt] at HE
            have HS2 : Hid (lsQ L k (q + 1) = cn) := by show _ = _; rw [HSU.out, hlt]; rfl
            clear hlt
            refine ordB_below (.quiet 0 (.quiet 1 (.quiet 2 (.quiet 3 (.quiet 4 (.quiet 5 (.quiet 6 (.quiet 7 (.quiet 8 (.quiet 9 (.quiet 10 (.quiet 11 (.quiet 12 (.quiet 13 (.quiet 14 (.quiet 15 (.quiet 16 (.quiet 17 (.only 18 .done))))))))))))))))))) (by kernel_rfl) (by kernel_rfl) (by kernel_rfl) (fun _ _ _ _ _ h => h) ?_
            intro V0 hV0
            iterate 18 (first
              | (refine ordB_skip rfl rfl ?_; simp only [Act.put, List.setIfInBounds_toArray, List.set_cons_zero, List.set_cons_succ])
              | (refine ordB_take (v := ?_) rfl rfl ?_ ?_
                 rotate_left 1
                 focus (intro W hW; obtain ⟨hcW, hfW⟩ := bcell hW; (go_simp <;> with_reducible rfl))
                 simp only [Act.put, List.setIfInBounds_toArray, List.set_cons_zero, List.set_cons_succ]))
            refine ordB_only (opB_call rfl rfl (fun K hK => ?_))
            go_simp
            go_at_call 35
            refine (HE.out _ hV0).mono ?_
            rintro e V0_1 ⟨rfl, hx⟩
            refine hK.out _ _ (hV0.trans (hx.mono hV0.size)) (fun hV0_1 => ?_)
            refine ordB_nil ?_
            have hbv := bthen hbv hV0_1
            clear k0 k1 k2 k3 p0 p1 p2 p3 gl h0 h1 hl hV0_1 HE
            go_wp2_with fail
            go_roundw
            case rel => exact ⟨q + 1, cn + 1, cn, by omega, by show _ = _; rw [HCN.out]; omega, by omega, by omega, by go_num, rfl, HS2, hbv⟩
            case measure => simp [intOf]; omega
          | false =>
            rw [hlt] at HE
            have HS2 : Hid (lsQ L k (q + 1) = ln) := by show _ = _; rw [HSU.out, hlt]; rfl
            clear hlt
            refine ordB_below (.quiet 0 (.quiet 1 (.quiet 2 (.quiet 3 (.quiet 4 (.quiet 5 (.quiet 6 (.quiet 7 (.quiet 8 (.quiet 9 (.quiet 10 (.quiet 11 (.quiet 12 (.quiet 13 (.quiet 14 (.quiet 15 (.quiet 16 (.quiet 17 (.only 18 .done))))))))))))))))))) (by kernel_rfl) (by kernel_rfl) (by kernel_rfl) (fun _ _ _ _ _ h => h) ?_
            intro V0 hV0
            iterate 18 (first
              | (refine ordB_skip rfl rfl ?_; simp only [Act.put, List.setIfInBounds_toArray, List.set_cons_zero, List.set_cons_succ])
              | (refine ordB_take (v := ?_) rfl rfl ?_ ?_
                 rotate_left 1
                 focus (intro W hW; obtain ⟨hcW, hfW⟩ := bcell hW; (go_simp <;> with_reducible rfl))
                 simp only [Act.put, List.setIfInBounds_toArray, List.set_cons_zero, List.set_cons_succ]))
            refine ordB_only (opB_call rfl rfl (fun K hK => ?_))
            go_simp
            go_at_call 35
            refine (HE.out _ hV0).mono ?_
            rintro e V0_1 ⟨rfl, hx⟩
            refine hK.out _ _ (hV0.trans (hx.mono hV0.size)) (fun hV0_1 => ?_)
            refine ordB_nil ?_
            have hbv := bthen hbv hV0_1
            clear k0 k1 k2 k3 p0 p1 p2 p3 gl h0 h1 hl hV0_1 HE
            go_wp2_with fail
            go_roundw
            case rel => exact ⟨q + 1, cn + 1, ln, by omega, by show _ = _; rw [HCN.out]; omega, by omega, by omega, by go_num, rfl, HS2, hbv⟩
            case measure => simp [intOf]; omega
        · have HE : Hid (ln = c) := by
            show _ = _
            rw [← HLS.out, ← HC.out]
            exact lsQ_end hq (by have := HLn.out; have := HCN.out; omega)
          obtain rfl : ln = c := HE.out
          rcases (by omega : (2 * (k : Int) + 2 < (cn : Int)) ∨ ((cn : Int) ≤ 2 * (k : Int) + 2 ∧ (n1 : Int) ≤ (cn : Int))) with z1 | ⟨z1, z2⟩
          all_goals
            clear hcc
            go_wp2_with fail
            go_meet
            exact ⟨rfl, hbv⟩
    case rest =>
      obtain ⟨w6, rfl⟩ : ∃ W, W = wc := ⟨wc, rfl⟩
      obtain ⟨rfl, hb6⟩ := hcut
      have HW6 := Lib.hid (HW.out.below hb6)
      have HR6 := Lib.hid (HR.out.below hb6 HR.out.lt)
      have HT6 := Lib.hid (HT.out.below hb6 HT.out.lt)
      have hBo : B ≤ wo.heap.size := Nat.le_trans hB HF.out.size
      have HF6 := Lib.hid (HF.out.trans (HFr.of_below hBo hb6))
      have hB6 : B ≤ w6.heap.size := Nat.le_trans hBo hb6.size
      clear hb6 hBo
      by_cases hck : c = k
      · subst hck
        have HRL : Hid (L = R) := by show _ = _; rw [← HD.out]; unfold dnM; rw [if_pos HC.out]
        have z1 : ((c : Int) == (c : Int)) = true := by simp
        have t0 := HT6.out.cell 0
        have t1 := HT6.out.cell 1
        have t2 := HT6.out.cell 2
        have t3 := HT6.out.cell 3
        have tl := HT6.out.lt
        have r0 := HR6.out.cell 0
        have r1 := HR6.out.cell 1
        have r2 := HR6.out.cell 2
        have r3 := HR6.out.cell 3
        have rf0 := HR6.out.frozen 0
        have rf1 := HR6.out.frozen 1
        have rf2 := HR6.out.frozen 2
        have rf3 := HR6.out.frozen 3
        have rl := HR6.out.lt
        simp at t0 t1 t2 t3 r0 r1 r2 r3
        go_wp2_with fail
        have hE := HR6.out.set4 0 x0
        have hFE : HFr bh B w6 (setW4 w6 br 0 x0) := HFr.setG4 HB.out HR6.out 0 x0
        have hHE : Blk (setW4 w6 br 0 x0) bh _ _ := ((((HW6.out.h).far (p := ⟨br, 0, none⟩) nhr _).far (p := ⟨br, 0 + 1, none⟩) nhr _).far (p := ⟨br, 0 + 2, none⟩) nhr _).far (p := ⟨br, 0 + 3, none⟩) nhr _
        have hOE : (setW4 w6 br 0 x0).ownsRow B 100 4 (.slice (some ⟨gb, 0, none⟩) n1 cap) L.length (L.flatMap encMg) := by
          have ne : ∀ o, (Value.slice (some ⟨gb, 0, none⟩) n1 cap).ownBlock ≠ some (Addr.mk br o none).block := fun o e => ngr (by simpa [Value.ownBlock] using e)
          exact own_set (own_set (own_set (own_set HW6.out.own (ne 0) _) (ne (0 + 1)) _) (ne (0 + 2)) _) (ne (0 + 3)) _
        have hfin : HeapW bh B (setW4 w6 br 0 x0) (.slice (some ⟨gb, 0, none⟩) n1 cap) R := by
          rw [← HRL.out]
          exact ⟨hHE, hOE, fun x hx => hFE.gm HW6.out.typ (HW6.out.ok x hx)⟩
        have hfr : HFr bh B w (setW4 w6 br 0 x0) := HF6.out.trans hFE
        refine ret_cell (t := 100) (cs := #[(Value.slice x0.A x0.G.head.length x0.G.head.length), .int .i64 (x0.G.rank : Int), .int .i64 x0.G.link, .int .i64 x0.G.cost]) (by have := hE; unfold setW4 Go.Proofs.YtfjkmgjjifhdkaaGreat.set4 at this; simpa using this) rfl rfl Tryz.underlying100 rfl (by kernel_rfl) rfl ?_
        exact ⟨rfl, ⟨_, hfin⟩, hfr⟩
      · have hcc := lsM_cases ltG L k
        rw [HC.out] at hcc
        have hkc : k < c := by omega
        have hcL : c < L.length := by
          rcases Nat.lt_or_ge k L.length with h | h
          · rw [← HC.out]; exact lsM_lt h
          · exfalso
            have h2 := HC.out
            unfold lsM lsA at h2
            rw [if_neg (fun h1 => by omega), if_neg (fun h1 => by omega)] at h2
            exact hck h2.symm
        have hkx : k < L.length := by omega
        have hpx : c < L.length := hcL
        obtain ⟨xk, hxk⟩ : ∃ x, L[k]? = some x := ⟨_, List.getElem?_eq_getElem hkx⟩
        obtain ⟨xp, hxp⟩ : ∃ x, L[c]? = some x := ⟨_, List.getElem?_eq_getElem hpx⟩
        have gk : L.getD k default = xk := by rw [List.getD_eq_getElem?_getD, hxk]; rfl
        have gp : L.getD c default = xp := by rw [List.getD_eq_getElem?_getD, hxp]; rfl
        have HSW : Hid (swp L k c = (L.set k xp).set c xk) := by show _ = _; unfold swp; rw [gk, gp]
        have HRL : Hid (dnM ltG f ((L.set k xp).set c xk) c = R) := by
          show _ = _
          rw [← HD.out, ← HSW.out]
          conv => rhs; unfold dnM
          rw [HC.out, if_neg hck]
        have hcn1 : c < n1 := by have := HLn.out; omega
        have hcnI : (c : Int) < (n1 : Int) := by omega
        have hknI : (k : Int) < (n1 : Int) := by omega
        have hc0 : (0 : Int) ≤ (c : Int) := by omega
        have z1 : ((c : Int) == (k : Int)) = false := by simp; omega
        obtain ⟨gb2, cap2, cur, hvv, hgB2, hgb, hnc2, hcm2, hcs, htk, hcells⟩ := ownG HW6.out.own rfl (by omega)
        obtain ⟨rfl, rfl⟩ : gb = gb2 ∧ cap = cap2 := by injection hvv with h1 h2 h3; injection h1 with h1; injection h1 with h1; exact ⟨h1, h3⟩
        obtain ⟨k0, k1, k2, k3⟩ := hcells k xk hxk
        obtain ⟨p0, p1, p2, p3⟩ := hcells c xp hxp
        rw [← hgb.cell] at k0 k1 k2 k3 p0 p1 p2 p3
        have kf0 := hgb.frozen (k * 4)
        have kf1 := hgb.frozen (k * 4 + 1)
        have kf2 := hgb.frozen (k * 4 + 2)
        have kf3 := hgb.frozen (k * 4 + 3)
        have gl := hgb.lt
        have h1 := HW6.out.h.cell 1
        have hl := HW6.out.h.lt
        simp at h1
        have HXK := Lib.hid hxk
        have HXP := Lib.hid hxp
        have HLEN := HLn.out
        obtain ⟨f', rfl⟩ : ∃ f', f = f' + 1 := ⟨f - 1, by omega⟩
        have hfn9 : n1 ≤ f' + 1 + c := by omega
        clear hvv hcells gk gp hxk hxp hck hcc
        have HLE := Lib.hid HLEN
        clear HLEN
        go_upto_region 14 with fail
        refine ordV_start (Below w6.heap.size w6) (Far gb w6) [25, 27] [(0, none), (1, none), (2, none), (3, some false), (4, none), (5, none), (6, none), (7, none), (8, some false), (9, none), (10, none), (11, none), (12, none), (13, some false), (14, none), (15, none), (16, some false), (17, none), (18, none), (19, none), (20, some false), (21, none), (22, none), (23, some false), (24, none), (25, some true), (26, none), (27, some true)] (by kernel_rfl) (by kernel_rfl) (by kernel_rfl) (fun _ _ _ _ _ h => h) (fun _ _ => rfl) ?_
        have HD_ : Below w6.heap.size w6 w6.drew := (Below.refl _ _).drew
        have hR0 : Far gb w6 w6.drew := fun _ _ => rfl
        obtain ⟨hcD, hfD⟩ := bcell HD_
        obtain ⟨Wd, hWd⟩ : ∃ Wd, w6.drew = Wd := ⟨_, rfl⟩
        rw [hWd] at HD_ hcD hfD hR0 ⊢
        clear hWd
        iterate 1 (refine ordV_takeR (v := ?_) rfl rfl ?_ ?_; rotate_left 1; (focus (intro W hW; (go_simp <;> (try with_reducible rfl)))); simp only [Act.put, List.setIfInBounds_toArray, List.set_cons_zero, List.set_cons_succ])
        iterate 1 (refine ordV_takeR (v := ?_) rfl rfl ?_ ?_; rotate_left 1; (focus (intro W hW; (go_simp <;> (try with_reducible rfl)))); simp only [Act.put, List.setIfInBounds_toArray, List.set_cons_zero, List.set_cons_succ])
        iterate 1 (refine ordV_takeR (v := ?_) rfl rfl ?_ ?_; rotate_left 1; (focus (intro W hW; (go_simp <;> (try with_reducible rfl)))); simp only [Act.put, List.setIfInBounds_toArray, List.set_cons_zero, List.set_cons_succ])
        iterate 1 (refine ordV_takeS (v := ?_) rfl rfl HD_ ?_ ?_; rotate_left 1; (focus (intro W hW; obtain ⟨hcW, hfW⟩ := bcell hW; (go_simp <;> (try with_reducible rfl)))); simp only [Act.put, List.setIfInBounds_toArray, List.set_cons_zero, List.set_cons_succ])
        iterate 1 (refine ordV_takeR (v := ?_) rfl rfl ?_ ?_; rotate_left 1; (focus (intro W hW; (go_simp <;> (try with_reducible rfl)))); simp only [Act.put, List.setIfInBounds_toArray, List.set_cons_zero, List.set_cons_succ])
        iterate 1 (refine ordV_takeR (v := ?_) rfl rfl ?_ ?_; rotate_left 1; (focus (intro W hW; (go_simp <;> (try with_reducible rfl)))); simp only [Act.put, List.setIfInBounds_toArray, List.set_cons_zero, List.set_cons_succ])
        iterate 1 (refine ordV_takeR (v := ?_) rfl rfl ?_ ?_; rotate_left 1; (focus (intro W hW; (go_simp <;> (try with_reducible rfl)))); simp only [Act.put, List.setIfInBounds_toArray, List.set_cons_zero, List.set_cons_succ])
        iterate 1 (refine ordV_takeR (v := ?_) rfl rfl ?_ ?_; rotate_left 1; (focus (intro W hW; (go_simp <;> (try with_reducible rfl)))); simp only [Act.put, List.setIfInBounds_toArray, List.set_cons_zero, List.set_cons_succ])
        iterate 1 (refine ordV_takeS (v := ?_) rfl rfl HD_ ?_ ?_; rotate_left 1; (focus (intro W hW; obtain ⟨hcW, hfW⟩ := bcell hW; (go_simp <;> (try with_reducible rfl)))); simp only [Act.put, List.setIfInBounds_toArray, List.set_cons_zero, List.set_cons_succ])
        iterate 1 (refine ordV_takeR (v := ?_) rfl rfl ?_ ?_; rotate_left 1; (focus (intro W hW; (go_simp <;> (try with_reducible rfl)))); simp only [Act.put, List.setIfInBounds_toArray, List.set_cons_zero, List.set_cons_succ])
        iterate 1 (refine ordV_takeR (v := ?_) rfl rfl ?_ ?_; rotate_left 1; (focus (intro W hW; (go_simp <;> (try with_reducible rfl)))); simp only [Act.put, List.setIfInBounds_toArray, List.set_cons_zero, List.set_cons_succ])
        iterate 1 (refine ordV_takeR (v := ?_) rfl rfl ?_ ?_; rotate_left 1; (focus (intro W hW; (go_simp <;> (try with_reducible rfl)))); simp only [Act.put, List.setIfInBounds_toArray, List.set_cons_zero, List.set_cons_succ])
        iterate 1 (refine ordV_takeR (v := ?_) rfl rfl ?_ ?_; rotate_left 1; (focus (intro W hW; (go_simp <;> (try with_reducible rfl)))); simp only [Act.put, List.setIfInBounds_toArray, List.set_cons_zero, List.set_cons_succ])
        iterate 1 (refine ordV_takeS (v := ?_) rfl rfl HD_ ?_ ?_; rotate_left 1; (focus (intro W hW; obtain ⟨hcW, hfW⟩ := bcell hW; (go_simp <;> (try with_reducible rfl)))); simp only [Act.put, List.setIfInBounds_toArray, List.set_cons_zero, List.set_cons_succ])
        iterate 1 (refine ordV_takeR (v := ?_) rfl rfl ?_ ?_; rotate_left 1; (focus (intro W hW; (go_simp <;> (try with_reducible rfl)))); simp only [Act.put, List.setIfInBounds_toArray, List.set_cons_zero, List.set_cons_succ])
        iterate 1 (refine ordV_takeR (v := ?_) rfl rfl ?_ ?_; rotate_left 1; (focus (intro W hW; (go_simp <;> (try with_reducible rfl)))); simp only [Act.put, List.setIfInBounds_toArray, List.set_cons_zero, List.set_cons_succ])
        iterate 1 (refine ordV_takeS (v := ?_) rfl rfl HD_ ?_ ?_; rotate_left 1; (focus (intro W hW; obtain ⟨hcW, hfW⟩ := bcell hW; (go_simp <;> (try with_reducible rfl)))); simp only [Act.put, List.setIfInBounds_toArray, List.set_cons_zero, List.set_cons_succ])
        iterate 1 (refine ordV_takeR (v := ?_) rfl rfl ?_ ?_; rotate_left 1; (focus (intro W hW; (go_simp <;> (try with_reducible rfl)))); simp only [Act.put, List.setIfInBounds_toArray, List.set_cons_zero, List.set_cons_succ])
        iterate 1 (refine ordV_takeR (v := ?_) rfl rfl ?_ ?_; rotate_left 1; (focus (intro W hW; (go_simp <;> (try with_reducible rfl)))); simp only [Act.put, List.setIfInBounds_toArray, List.set_cons_zero, List.set_cons_succ])
        iterate 1 (refine ordV_takeR (v := ?_) rfl rfl ?_ ?_; rotate_left 1; (focus (intro W hW; (go_simp <;> (try with_reducible rfl)))); simp only [Act.put, List.setIfInBounds_toArray, List.set_cons_zero, List.set_cons_succ])
        iterate 1 (refine ordV_takeS (v := ?_) rfl rfl HD_ ?_ ?_; rotate_left 1; (focus (intro W hW; obtain ⟨hcW, hfW⟩ := bcell hW; (go_simp <;> (try with_reducible rfl)))); simp only [Act.put, List.setIfInBounds_toArray, List.set_cons_zero, List.set_cons_succ])
        iterate 1 (refine ordV_takeR (v := ?_) rfl rfl ?_ ?_; rotate_left 1; (focus (intro W hW; (go_simp <;> (try with_reducible rfl)))); simp only [Act.put, List.setIfInBounds_toArray, List.set_cons_zero, List.set_cons_succ])
        iterate 1 (refine ordV_takeR (v := ?_) rfl rfl ?_ ?_; rotate_left 1; (focus (intro W hW; (go_simp <;> (try with_reducible rfl)))); simp only [Act.put, List.setIfInBounds_toArray, List.set_cons_zero, List.set_cons_succ])
        iterate 1 (refine ordV_takeS (v := ?_) rfl rfl HD_ ?_ ?_; rotate_left 1; (focus (intro W hW; obtain ⟨hcW, hfW⟩ := bcell hW; (go_simp <;> (try with_reducible rfl)))); simp only [Act.put, List.setIfInBounds_toArray, List.set_cons_zero, List.set_cons_succ])
        iterate 1 (refine ordV_takeR (v := ?_) rfl rfl ?_ ?_; rotate_left 1; (focus (intro W hW; (go_simp <;> (try with_reducible rfl)))); simp only [Act.put, List.setIfInBounds_toArray, List.set_cons_zero, List.set_cons_succ])
        refine ordV_call rfl rfl (fun K hK => ?_)
        go_simp
        refine hK.out _ _ ((((hR0.set _ _).set _ _).set _ _).set _ _) (fun _ h => by cases h) ?_
        clear hK K
        have hgbE := (hgb.below HD_ hgb.lt).set4 (k * 4) xp
        have hRE : Far gb w6 (setW4 Wd gb (k * 4) xp) := (((hR0.set _ _).set _ _).set _ _).set _ _
        have hszE : (setW4 Wd gb (k * 4) xp).heap.size = Wd.heap.size := by unfold setW4; simp
        obtain ⟨We, hWe⟩ : ∃ W, setW4 Wd gb (k * 4) xp = W := ⟨_, rfl⟩
        have hWe2 : ((((Wd.setCell ⟨gb, k * 4, none⟩ ((Value.slice xp.A xp.G.head.length xp.G.head.length))).setCell ⟨gb, k * 4 + 1, none⟩ (.int .i64 (xp.G.rank : Int))).setCell ⟨gb, k * 4 + 2, none⟩ (.int .i64 xp.G.link)).setCell ⟨gb, k * 4 + 3, none⟩ (.int .i64 xp.G.cost)) = We := hWe
        rw [hWe] at hgbE hRE hszE
        rw [hWe2]
        have HWE := Lib.hid hWe
        clear hWe hWe2
        obtain ⟨y0, hy0⟩ : ∃ u, We.cell? ⟨gb, c * 4, none⟩ = some u := by rw [hgbE.cell]; exact ⟨_, Array.getElem?_eq_getElem (by rw [set4_size, hcs]; omega)⟩
        have yf0 := hgbE.frozen (c * 4)
        obtain ⟨y1, hy1⟩ : ∃ u, We.cell? ⟨gb, c * 4 + 1, none⟩ = some u := by rw [hgbE.cell]; exact ⟨_, Array.getElem?_eq_getElem (by rw [set4_size, hcs]; omega)⟩
        have yf1 := hgbE.frozen (c * 4 + 1)
        obtain ⟨y2, hy2⟩ : ∃ u, We.cell? ⟨gb, c * 4 + 2, none⟩ = some u := by rw [hgbE.cell]; exact ⟨_, Array.getElem?_eq_getElem (by rw [set4_size, hcs]; omega)⟩
        have yf2 := hgbE.frozen (c * 4 + 2)
        obtain ⟨y3, hy3⟩ : ∃ u, We.cell? ⟨gb, c * 4 + 3, none⟩ = some u := by rw [hgbE.cell]; exact ⟨_, Array.getElem?_eq_getElem (by rw [set4_size, hcs]; omega)⟩
        have yf3 := hgbE.frozen (c * 4 + 3)
        try simp only [Act.put, List.setIfInBounds_toArray, List.set_cons_zero, List.set_cons_succ]
        iterate 1 (refine ordV_takeR (v := ?_) rfl rfl ?_ ?_; rotate_left 1; (focus (intro W hW; (go_simp <;> (try with_reducible rfl)))); simp only [Act.put, List.setIfInBounds_toArray, List.set_cons_zero, List.set_cons_succ])
        refine ordV_call rfl rfl (fun K hK => ?_)
        go_simp
        refine hK.out _ _ ((((hRE.set _ _).set _ _).set _ _).set _ _) (fun _ h => by cases h) ?_
        clear hK K
        refine ordV_nil ?_
        clear hy0 hy1 hy2 hy3 yf0 yf1 yf2 yf3
        have hgbF := hgbE.set4 (c * 4) xk
        obtain ⟨Wf, hWf⟩ : ∃ W, setW4 We gb (c * 4) xk = W := ⟨_, rfl⟩
        have hWf2 : ((((We.setCell ⟨gb, c * 4, none⟩ ((Value.slice xk.A xk.G.head.length xk.G.head.length))).setCell ⟨gb, c * 4 + 1, none⟩ (.int .i64 (xk.G.rank : Int))).setCell ⟨gb, c * 4 + 2, none⟩ (.int .i64 xk.G.link)).setCell ⟨gb, c * 4 + 3, none⟩ (.int .i64 xk.G.cost)) = Wf := hWf
        rw [hWf] at hgbF
        rw [hWf2]
        have HWF := Lib.hid hWf
        clear hWf hWf2
        have hown9 : Wf.ownsRow B 100 4 (.slice (some ⟨gb, 0, none⟩) n1 cap) ((L.set k xp).set c xk).length (((L.set k xp).set c xk).flatMap encMg) := by
          rw [List.length_set, List.length_set, HLE.out]
          exact ownG_mk hgB2 hgbF (by simp [HLE.out]) (by rw [← HLE.out]; exact hnc2) hcm2 (by rw [set4_size, set4_size]; exact hcs) (set4_take (by simp [HLE.out]) hcn1 (set4_take HLE.out.symm (by omega) (by rw [← HLE.out]; exact htk)))
        have hfr9 : HFr bh B w6 Wf := by
          have h1 := HFr.of_below (bh := bh) hB6 HD_
          have h2 := HFr.setG4 (bh := bh) hgB2 (hgb.below HD_ gl) (k * 4) xp
          rw [HWE.out] at h2
          have h3 := HFr.setG4 (bh := bh) hgB2 hgbE (c * 4) xk
          rw [HWF.out] at h3
          exact (h1.trans h2).trans h3
        have hfar : ∀ (b : Nat) (t : TypeId) (cs : Array Value), b ≠ gb → Blk w6 b t cs → Blk Wf b t cs := fun b t cs ne h1 => by
          have h2 := ((((h1.below HD_ h1.lt).far (p := ⟨gb, k * 4, none⟩) ne ((Value.slice xp.A xp.G.head.length xp.G.head.length))).far (p := ⟨gb, k * 4 + 1, none⟩) ne (.int .i64 (xp.G.rank : Int))).far (p := ⟨gb, k * 4 + 2, none⟩) ne (.int .i64 xp.G.link)).far (p := ⟨gb, k * 4 + 3, none⟩) ne (.int .i64 xp.G.cost)
          have h2 : Blk We b t cs := by rw [← HWE.out]; exact h2
          have h3 := (((h2.far (p := ⟨gb, c * 4, none⟩) ne ((Value.slice xk.A xk.G.head.length xk.G.head.length))).far (p := ⟨gb, c * 4 + 1, none⟩) ne (.int .i64 (xk.G.rank : Int))).far (p := ⟨gb, c * 4 + 2, none⟩) ne (.int .i64 xk.G.link)).far (p := ⟨gb, c * 4 + 3, none⟩) ne (.int .i64 xk.G.cost)
          rw [← HWF.out]; exact h3
        have HW9 : Hid (HeapW bh B Wf (.slice (some ⟨gb, 0, none⟩) n1 cap) ((L.set k xp).set c xk)) := ⟨hfar _ _ _ ngh HW6.out.h, hown9, fun x hx => by
          refine hfr9.gm HW6.out.typ ?_
          rcases List.mem_or_eq_of_mem_set hx with hx | rfl
          · rcases List.mem_or_eq_of_mem_set hx with hx | rfl
            · exact HW6.out.ok x hx
            · exact HW6.out.ok _ (List.mem_of_getElem? HXP.out)
          · exact HW6.out.ok _ (List.mem_of_getElem? HXK.out)⟩
        have HF9 := Lib.hid (HF6.out.trans hfr9)
        have HR9 := Lib.hid (hfar _ _ _ (Ne.symm ngr) HR6.out)
        have HT9 := Lib.hid (hfar _ _ _ (Ne.symm ngt) HT6.out)
        have HL9 : Hid (((L.set k xp).set c xk).length = n1) := by show _ = _; rw [List.length_set, List.length_set]; exact HLE.out
        clear hgb hgbE hgbF hRE hszE hown9 hfr9 HD_ hcD hfD hR0 hfar
        go_wp2_with fail
        go_roundw
        case rel => exact ⟨c, f', _, rfl, HW9, HL9, .inl hcn1, hfn9, HRL, HF9, HR9, HT9⟩
        case measure => simp [intOf]; omega
end Go.Proofs.YtfjkmgjjifhdkaaGreat
