/-
  The walks of layer 15: a group parted behind its first way.
-/
import Derived.Test.YtfjkmgjjifhdkaaGreatR16
import Derived.Test.YtfjkmgjjifhdkaaGreatR11
namespace Go.Proofs.YtfjkmgjjifhdkaaGreat
open Go Go.RowKit

/-- What split leaves. -/
def IsSplit (bh B : Nat) (w : World) (H : List MG) (R : List Gp) (n : Nat) (e : Ending) (w' : World) : Prop := e = .returned (.tuple #[]) ∧ (∃ v' H', HeapW bh B w' v' H' ∧ H'.map (·.G) = R ∧ H'.length ≤ H.length + n) ∧ HFr bh B w w'
set_option maxRecDepth 100000 in
set_option maxHeartbeats 16000000 in
theorem split_any (A : Option Addr) (c N bt gl gf C : Nat) (g : Gr) (hg : GrOK g) (hN : g.n = (N : Int)) (bh B : Nat) (vH : Value) (H : List MG) (w : World) (hC1 : C ≤ B) (hC2 : C ≤ bh) (hB : B ≤ w.heap.size) (hbh : bh < B)
    (HT : Hid (∀ W, Below C w W → TabW g N A c bt gl gf W)) (hw : HeapW bh B w vH H) (ma : MG) (t : List Int) (Aw : Option Addr) (cw : Nat) (hway : SlT w Aw (ma.G.head ++ t)) (hlc : (ma.G.head ++ t).length ≤ cw) (_hcw : cw ≤ maxLen)
    (hW : wayB g 0 (ma.G.head ++ t) = true) (hlen : H.length ≤ 500000) (hrk : ma.G.rank ≤ 20000) :
    Calls Tryz.prog 37 #[.pointer (some ⟨bt, 0, none⟩), .pointer (some ⟨bh, 0, none⟩), aggMg ma, .slice Aw (ma.G.head ++ t).length cw] w
      (IsSplit bh B w H (pushAll (H.map (·.G)) (spl g ma.G.head (endP g 0 ma.G.head) (sumC g ma.G.head) ma.G.rank t)) (ma.G.head ++ t).length) := by
  obtain ⟨R, hR⟩ : ∃ R, pushAll (H.map (·.G)) (spl g ma.G.head (endP g 0 ma.G.head) (sumC g ma.G.head) ma.G.rank t) = R := ⟨_, rfl⟩
  have HIN0 : Hid (SpInv g (ma.G.head ++ t) ma.G.head.length ma.G.rank (H.map (·.G)) R 0 (H.map (·.G))) := SpInv.zero hR
  have HSK : Hid (∀ (L : List Gp) (j : Nat), SpInv g (ma.G.head ++ t) ma.G.head.length ma.G.rank (H.map (·.G)) R j L → j < ma.G.head.length → SpInv g (ma.G.head ++ t) ma.G.head.length ma.G.rank (H.map (·.G)) R (j + 1) L) := fun L j h1 h2 => h1.skip hR h2
  rw [hR]
  have hhl : ma.G.head.length ≤ (ma.G.head ++ t).length := by simp
  clear hR
  obtain ⟨Wl, hWl⟩ : ∃ W, ma.G.head ++ t = W := ⟨_, rfl⟩
  rw [hWl] at hway hlc hW HIN0 HSK hhl ⊢
  clear hWl
  have hn := hg.n
  rw [hN] at hn
  have hwb := way_bd hg hW
  have hWN : Wl.length ≤ 2000 := by omega
  obtain ⟨hl, hhl'⟩ : ∃ n, ma.G.head.length = n := ⟨_, rfl⟩
  rw [hhl'] at HIN0 HSK hhl
  obtain ⟨w1, hw1⟩ : ∃ w1, w.alloc (.cells #[(Value.slice ma.A ma.G.head.length ma.G.head.length), .int .i64 (ma.G.rank : Int), .int .i64 ma.G.link, .int .i64 ma.G.cost] 100) = w1 := ⟨_, rfl⟩
  have hb1 : Below w.heap.size w w1 := by rw [← hw1]; exact nw _ (Below.refl _ _)
  have hM1 : Blk w1 w.heap.size 100 #[(Value.slice ma.A ma.G.head.length ma.G.head.length), .int .i64 (ma.G.rank : Int), .int .i64 ma.G.link, .int .i64 ma.G.cost] := by rw [← hw1]; exact Blk.new _ _ _
  rw [hhl'] at hM1
  have hvb : vH.ownBlock ≠ some w.heap.size := own_lt hw.own (Nat.le_refl _)
  have HW1 := Lib.hid hw1
  have HH1 := Lib.hid (hw.below hb1)
  have HF1 := Lib.hid (HFr.of_below (bh := bh) hB hb1)
  have HTY := Lib.hid hw.typ
  have HG := Lib.hid hg
  have HN := Lib.hid hN
  have HWW := Lib.hid hW
  have HWAY := Lib.hid hway
  have nhb : w.heap.size ≠ bh := by have := hw.h.lt; omega
  obtain ⟨ba, hba⟩ : ∃ b, w.heap.size = b := ⟨_, rfl⟩
  have hM : Blk w1 ba 100 #[.slice ma.A hl hl, .int .i64 (ma.G.rank : Int), .int .i64 ma.G.link, .int .i64 ma.G.cost] := by rw [← hba]; exact hM1
  have hvb' : vH.ownBlock ≠ some ba := by rw [← hba]; exact hvb
  have nhb' : ba ≠ bh := by rw [← hba]; exact nhb
  have HM1 := Lib.hid hM
  have HBA := Lib.hid hba
  have HK1 : Hid (vH.ownBlock ≠ some ba) := hvb'
  have hHl : H.length ≤ 500000 := hlen
  have HHL := Lib.hid hhl'
  have h0 : ((0 : Nat) : Int) = 0 := rfl
  clear hw1 hw hg hN hW hway hb1 hM hvb' hba hM1 hvb nhb hhl' hwb
  unfold aggMg
  go_enter Tryz.func37, Tryz.ntmps37
  go_upto_region 1 with fail
  rw [HW1.out, HBA.out]
  go_wp2_with fail
  go_loopw [8, 9, 16] (fun nv sv iv wr => ∃ (j : Nat) (nd sp : Int) (L : List MG) (vv : Value), j ≤ Wl.length ∧ iv = .int .i64 (j : Int) ∧ nv = .int .i64 nd ∧ sv = .int .i64 sp ∧ Hid (endP g 0 (Wl.take j) = nd) ∧ Hid (sumC g (Wl.take j) = sp) ∧ Hid (HeapW bh B wr vv L) ∧
      Hid (SpInv g Wl hl ma.G.rank (H.map (·.G)) R j (L.map (·.G))) ∧ Hid (HFr bh B w wr) ∧ Hid (Blk wr ba 100 #[.slice ma.A hl hl, .int .i64 (ma.G.rank : Int), .int .i64 ma.G.link, .int .i64 ma.G.cost] ∧ vv.ownBlock ≠ some ba) ∧ Hid (L.length ≤ H.length + j)) (fun _ _ iv _ => Wl.length - (intOf iv).toNat)
  case atStart => exact ⟨0, 0, 0, H, vH, Nat.zero_le _, rfl, rfl, rfl, rfl, rfl, HH1, HIN0, HF1, ⟨HM1.out, HK1.out⟩, Nat.le_refl _⟩
  case round =>
    obtain ⟨j, nd, sp, L, vv, hj, rfl, rfl, rfl, HE, HS, HW, HI, HF, HK, HLEN⟩ := hrel
    by_cases hlt : j < Wl.length
    · obtain ⟨b0, o0, cs0, rfl, hb0, hc0⟩ := (HF.out.slt HTY.out HWAY.out) (by intro e; rw [e] at hlt; simp at hlt)
      obtain ⟨i, hi⟩ : ∃ i, Wl[j]? = some i := ⟨_, List.getElem?_eq_getElem hlt⟩
      obtain ⟨hif, hen, hsn, hn0, hnN, hs0, hsN, hpa, hdr, htk⟩ := way_at HG.out HWW.out hi
      rw [HE.out] at hif hn0 hnN
      rw [HS.out] at hsn hs0 hsN
      have hlk := frL_link HG.out hif
      obtain ⟨l0, l1, l2, l3, l4, l5, l6, l7⟩ := hlk
      obtain ⟨xn, rfl⟩ : ∃ xn : Nat, i = (xn : Int) := ⟨i.toNat, by omega⟩
      obtain ⟨v, rfl⟩ : ∃ v : Nat, nd = (v : Int) := ⟨nd.toNat, by omega⟩
      obtain ⟨tn, htn⟩ : ∃ tn : Nat, (lkAt g (xn : Int)).to = (tn : Int) := ⟨(lkAt g (xn : Int)).to.toNat, by omega⟩
      have HTN := Lib.hid htn
      have hlm := lkAt_mem (g := g) (i := (xn : Int)) ⟨l0, l1⟩
      rw [Int.toNat_natCast] at hlm
      have HLM := Lib.hid hlm
      have hinl : xn < g.ls.length := by omega
      have hinl' : (xn : Int) < (g.ls.length : Int) := by omega
      have hxn0 : (0 : Int) ≤ (xn : Int) := by omega
      have hvN : v < N := by have := HN.out; omega
      have hvN' : (v : Int) < (N : Int) := by omega
      have hv0 : (0 : Int) ≤ (v : Int) := by omega
      have hgn := HN.out
      have hsp : sp ≤ 2000000000 := by omega
      have hcb : 0 ≤ (lkAt g (xn : Int)).cost ∧ (lkAt g (xn : Int)).cost ≤ 1000000 := ⟨l5, l6⟩
      have HE1 : Hid (endP g 0 (Wl.take (j + 1)) = (tn : Int)) := by show _ = _; rw [hen, htn]
      have HE2 : Hid (sumC g (Wl.take (j + 1)) = sp + (lkAt g (xn : Int)).cost) := hsn
      have hws : IntKind.i64.wrap (sp + (lkAt g (xn : Int)).cost) = sp + (lkAt g (xn : Int)).cost := IntWalk.i64_in _ (by omega)
      have c0 := hb0.cell (o0 + j)
      rw [hc0 j (xn : Int) hi] at c0
      have q0 := HK.out.1.cell 0
      have q1 := HK.out.1.cell 1
      have ql := HK.out.1.lt
      simp at q0 q1
      have HII := Lib.hid hi
      have hlj : (j : Int) < (Wl.length : Int) := by omega
      have hj0 : (0 : Int) ≤ (j : Int) := by omega
      have HPA := Lib.hid hpa
      clear htn hlm hen hsn hif hi hdr htk l0 l1 l2 l3 l4 l7 hn0 hnN hsN hgn hpa
      by_cases hge : hl ≤ j
      · have HIS := SpInv.step HG.out HWW.out HII.out HI.out (by omega)
        rw [HE.out, HS.out] at HIS
        have HIS := Lib.hid HIS
        have hge' : (hl : Int) ≤ (j : Int) := by omega
        have hTa := HT.out wr (HF.out.below2 hC1 hC2)
        have t3 := hTa.t.cell 3
        simp at t3
        have tl := hTa.t.lt
        obtain ⟨Bk, ck, f0, fl, hsk, hk1, hk2⟩ := hTa.at_ hvN
        have hfb := frL_lenb HG.out (v : Int)
        have HSK2 := Lib.hid hsk
        have HTA := Lib.hid hTa
        have hBr : B ≤ wr.heap.size := Nat.le_trans hB HF.out.size
        clear hge hsk hTa
        by_cases hjl : j = hl
        · have z1 : ((j : Int) == (hl : Int)) = true := by simp [hjl]
          have hw1 : IntKind.i64.wrap ((ma.G.rank : Int) + 1) = (ma.G.rank : Int) + 1 := IntWalk.i64_in _ (by omega)
          obtain ⟨rr, hrr⟩ : ∃ rr, ma.G.rank + 1 = rr := ⟨_, rfl⟩
          have HRN : Hid (rkAt hl ma.G.rank j + 1 = rr) := by show _ = _; unfold rkAt; rw [if_pos hjl]; exact hrr
          have hrI : (ma.G.rank : Int) + 1 = (rr : Int) := by omega
          have HRI := Lib.hid hrI
          have hr0 : (0 : Int) ≤ (rr : Int) := by omega
          have hrr2 : rr ≤ 20001 := by omega
          clear hrr hrI hjl
          go_upto_region 9 with fail
          rw [HRI.out]
          rw [HRN.out] at HIS
          by_cases hrl : rr < (frL g (v : Int)).length
          · have hrlI : (rr : Int) < ((frL g (v : Int)).length : Int) := by omega
            obtain ⟨bx, ox, lk, rfl, hbx, hlx, hcx⟩ := HSK2.out.int hrl
            rw [hlx] at HIS
            have hlf := frL_link HG.out (List.mem_of_getElem? hlx)
            have hva := frL_via (List.mem_of_getElem? hlx)
            obtain ⟨m0, m1, _, m3, m4, m5, m6, m7⟩ := hlf
            obtain ⟨ln, rfl⟩ : ∃ ln : Nat, lk = (ln : Int) := ⟨lk.toNat, by omega⟩
            have HBY : Hid (∀ W, Below wr.heap.size wr W → Calls Tryz.prog 72 #[.pointer (some ⟨bt, 0, none⟩), .int .i64 (ln : Int)] W fun e w' => e = .returned (.int .i64 (viaOf g (ln : Int))) ∧ ∃ q, w' = W.drewN q) := fun W hW => by
              have hTW := HTA.out.below hW
              exact tabBy HG.out HN.out hTW.t hTW.ls hTW.l ⟨m0, m1⟩ m7 (potL_at HG.out (by omega) m4)
            have hvb := bh_bd HG.out (lkAt g (ln : Int)).to
            have HVB : Hid (viaOf g (ln : Int) = viaOf g (ln : Int)) := rfl
            have hvab : 0 ≤ viaOf g (ln : Int) ∧ viaOf g (ln : Int) ≤ 2001000000 := by omega
            clear hva hvb m0 m1 m3 m4 m5 m6 m7 hlx HVB
            obtain ⟨m', hm'⟩ : ∃ m' : MG, MG.mk (some ⟨b0, o0, none⟩) ⟨Wl.take j, rr, (ln : Int), sp + viaOf g (ln : Int)⟩ = m' := ⟨_, rfl⟩
            have HM' := Lib.hid hm'
            have HAG : Hid (aggMg m' = .agg #[.slice (some ⟨b0, o0, none⟩) j j, .int .i64 (rr : Int), .int .i64 (ln : Int), .int .i64 (sp + viaOf g (ln : Int))]) := by
              show _ = _
              rw [← hm']
              unfold aggMg
              simp only [List.length_take, Nat.min_eq_left hj] <;> rfl
            have HGM : Hid (GMOK wr m') := by
              show GMOK _ _
              rw [← hm']
              exact ⟨(HF.out.slt HTY.out HWAY.out).take j, by show (Wl.take j).length ≤ 2000; rw [List.length_take]; omega⟩
            have HPU : Hid (∀ W, Below wr.heap.size wr W → Calls Tryz.prog 75 #[.pointer (some ⟨bh, 0, none⟩), .agg #[.slice (some ⟨b0, o0, none⟩) j j, .int .i64 (rr : Int), .int .i64 (ln : Int), .int .i64 (sp + viaOf g (ln : Int))]] W fun e w' => e = .returned (.tuple #[]) ∧ (∃ v', HeapW bh B w' v' (pushM ltG L m') ∧ HKp bh W vv w' v') ∧ HFr bh B W w') := fun W hW => by
              have h := push_any bh B vv L m' W (Nat.le_trans hBr hW.size) hbh (HW.out.below hW) (HGM.out.below hW) (by have := HLEN.out; omega)
              rw [HAG.out] at h
              exact h
            have HI2 : Hid (SpInv g Wl hl ma.G.rank (H.map (·.G)) R (j + 1) ((pushM ltG L m').map (·.G))) := by
              show SpInv _ _ _ _ _ _ _ _
              rw [pushM_mapG, ← HM'.out]
              exact HIS.out
            have HLEN2 : Hid ((pushM ltG L m').length ≤ H.length + (j + 1)) := by
              show _ ≤ _
              have h1 := (upM_memG (L.length + 1) (L ++ [m']) L.length (by simp)).1
              have h2 : (pushM ltG L m').length = (L ++ [m']).length := h1
              rw [h2, List.length_append, List.length_singleton]
              have := HLEN.out
              omega
            have hwv : IntKind.i64.wrap (sp + viaOf g (ln : Int)) = sp + viaOf g (ln : Int) := IntWalk.i64_in _ (by omega)
            have hjc : (j : Int) ≤ (cw : Int) := by omega
            generalize viaOf g (ln : Int) = va at *
            clear hm'
            go_upto_region 11 with fail
            refine ordV_start (Below wr.heap.size wr) (fun _ => True) [13] [(0, none), (1, none), (2, none), (3, none), (4, none), (5, none), (6, none), (7, none), (8, none), (9, none), (10, some true), (11, none), (12, none), (13, some true)] (by kernel_rfl) (by kernel_rfl) (by kernel_rfl) (fun _ _ _ _ _ h => h) trivial ?_
            have HD : Below wr.heap.size wr wr.drew := (Below.refl _ _).drew
            obtain ⟨Wd, hWd⟩ : ∃ Wd, wr.drew = Wd := ⟨_, rfl⟩
            rw [hWd] at HD ⊢
            clear hWd
            iterate 10 (refine ordV_takeR (v := ?_) rfl rfl ?_ ?_; rotate_left 1; (focus (intro W hW; (go_simp <;> (try with_reducible rfl)))); simp only [Act.put, List.setIfInBounds_toArray, List.set_cons_zero, List.set_cons_succ])
            refine ordV_call rfl rfl (fun K hK => ?_)
            go_simp
            go_at_call 72
            refine (HBY.out _ HD).mono ?_
            rintro e W1 ⟨rfl, hq⟩
            have hS0 := HD.trans ((Grown.of_draw hq).below.mono HD.size)
            refine hK.out _ _ trivial (fun _ _ => hS0) ?_
            clear hK K
            try simp only [Act.put, List.setIfInBounds_toArray, List.set_cons_zero, List.set_cons_succ]
            iterate 2 (refine ordV_takeR (v := ?_) rfl rfl ?_ ?_; rotate_left 1; (focus (intro W hW; (go_simp <;> (try with_reducible rfl)))); simp only [Act.put, List.setIfInBounds_toArray, List.set_cons_zero, List.set_cons_succ])
            refine ordV_call rfl rfl (fun K hK => ?_)
            go_simp
            go_at_call 75
            refine (HPU.out _ hS0).mono ?_
            rintro e W2 ⟨rfl, ⟨v2, hHW2, hHK2⟩, hHF2⟩
            refine hK.out _ _ trivial (fun _ h => by cases h) ?_
            clear hK K
            refine ordV_nil ?_
            have HF2 := Lib.hid ((HF.out.trans (HFr.of_below hBr hS0)).trans hHF2)
            have HW2 := Lib.hid hHW2
            have HK2 : Hid (Blk W2 ba 100 #[.slice ma.A hl hl, .int .i64 (ma.G.rank : Int), .int .i64 ma.G.link, .int .i64 ma.G.cost] ∧ v2.ownBlock ≠ some ba) := hHK2 ba _ _ nhb' HK.out.2 (HK.out.1.below hS0 HK.out.1.lt)
            clear hHF2 hHW2 hHK2 hS0 t3 tl f0 fl hcx hbx q0 q1 ql c0
            have hTb := HT.out W2 (HF2.out.below2 hC1 hC2)
            have t1 := hTb.t.cell 1
            simp at t1
            have tl := hTb.t.lt
            obtain ⟨b, off, l, rfl, hbb, hll, d0, d1, d2, d3⟩ := hTb.ls.lk hinl
            have e1 : l = lkAt g (xn : Int) := by rw [HLM.out] at hll; exact (Option.some.inj hll).symm
            rw [e1] at d1 d3
            rw [HTN.out] at d1
            clear hll e1 d0 d2 hTb
            go_wp2_with fail
            go_roundw
            case rel => exact ⟨j + 1, _, _, pushM ltG L m', v2, by omega, by go_num, rfl, rfl, HE1, HE2, HW2, HI2, HF2, HK2, HLEN2⟩
            case measure => simp [intOf]; omega
          · have hrlI : ((frL g (v : Int)).length : Int) ≤ (rr : Int) := by omega
            rw [List.getElem?_eq_none (show (frL g (v : Int)).length ≤ rr by omega)] at HIS
            have HI2 : Hid (SpInv g Wl hl ma.G.rank (H.map (·.G)) R (j + 1) (L.map (·.G))) := HIS.out
            have HLEN2 : Hid (L.length ≤ H.length + (j + 1)) := by show _ ≤ _; have := HLEN.out; omega
            clear hrl
            go_upto_region 12 with fail
            clear t3
            have hTb := HT.out wr (HF.out.below2 hC1 hC2)
            have t1 := hTb.t.cell 1
            simp at t1
            have tl := hTb.t.lt
            obtain ⟨b, off, l, rfl, hbb, hll, d0, d1, d2, d3⟩ := hTb.ls.lk hinl
            have e1 : l = lkAt g (xn : Int) := by rw [HLM.out] at hll; exact (Option.some.inj hll).symm
            rw [e1] at d1 d3
            rw [HTN.out] at d1
            clear hll e1 d0 d2 hTb
            go_wp2_with fail
            go_roundw
            case rel => exact ⟨j + 1, _, _, L, vv, by omega, by go_num, rfl, rfl, HE1, HE2, HW, HI2, HF, HK, HLEN2⟩
            case measure => simp [intOf]; omega
        · have z1 : ((j : Int) == (hl : Int)) = false := by simp; omega
          have HRN : Hid (rkAt hl ma.G.rank j + 1 = 1) := by show _ = _; unfold rkAt; rw [if_neg hjl]
          clear hjl
          go_upto_region 9 with fail
          rw [HRN.out] at HIS
          by_cases hrl : 1 < (frL g (v : Int)).length
          · have hrlI : 1 < ((frL g (v : Int)).length : Int) := by omega
            obtain ⟨bx, ox, lk, rfl, hbx, hlx, hcx⟩ := HSK2.out.int hrl
            rw [hlx] at HIS
            have hlf := frL_link HG.out (List.mem_of_getElem? hlx)
            have hva := frL_via (List.mem_of_getElem? hlx)
            obtain ⟨m0, m1, _, m3, m4, m5, m6, m7⟩ := hlf
            obtain ⟨ln, rfl⟩ : ∃ ln : Nat, lk = (ln : Int) := ⟨lk.toNat, by omega⟩
            have HBY : Hid (∀ W, Below wr.heap.size wr W → Calls Tryz.prog 72 #[.pointer (some ⟨bt, 0, none⟩), .int .i64 (ln : Int)] W fun e w' => e = .returned (.int .i64 (viaOf g (ln : Int))) ∧ ∃ q, w' = W.drewN q) := fun W hW => by
              have hTW := HTA.out.below hW
              exact tabBy HG.out HN.out hTW.t hTW.ls hTW.l ⟨m0, m1⟩ m7 (potL_at HG.out (by omega) m4)
            have hvb := bh_bd HG.out (lkAt g (ln : Int)).to
            have HVB : Hid (viaOf g (ln : Int) = viaOf g (ln : Int)) := rfl
            have hvab : 0 ≤ viaOf g (ln : Int) ∧ viaOf g (ln : Int) ≤ 2001000000 := by omega
            clear hva hvb m0 m1 m3 m4 m5 m6 m7 hlx HVB
            obtain ⟨m', hm'⟩ : ∃ m' : MG, MG.mk (some ⟨b0, o0, none⟩) ⟨Wl.take j, 1, (ln : Int), sp + viaOf g (ln : Int)⟩ = m' := ⟨_, rfl⟩
            have HM' := Lib.hid hm'
            have HAG : Hid (aggMg m' = .agg #[.slice (some ⟨b0, o0, none⟩) j j, .int .i64 1, .int .i64 (ln : Int), .int .i64 (sp + viaOf g (ln : Int))]) := by
              show _ = _
              rw [← hm']
              unfold aggMg
              simp only [List.length_take, Nat.min_eq_left hj] <;> rfl
            have HGM : Hid (GMOK wr m') := by
              show GMOK _ _
              rw [← hm']
              exact ⟨(HF.out.slt HTY.out HWAY.out).take j, by show (Wl.take j).length ≤ 2000; rw [List.length_take]; omega⟩
            have HPU : Hid (∀ W, Below wr.heap.size wr W → Calls Tryz.prog 75 #[.pointer (some ⟨bh, 0, none⟩), .agg #[.slice (some ⟨b0, o0, none⟩) j j, .int .i64 1, .int .i64 (ln : Int), .int .i64 (sp + viaOf g (ln : Int))]] W fun e w' => e = .returned (.tuple #[]) ∧ (∃ v', HeapW bh B w' v' (pushM ltG L m') ∧ HKp bh W vv w' v') ∧ HFr bh B W w') := fun W hW => by
              have h := push_any bh B vv L m' W (Nat.le_trans hBr hW.size) hbh (HW.out.below hW) (HGM.out.below hW) (by have := HLEN.out; omega)
              rw [HAG.out] at h
              exact h
            have HI2 : Hid (SpInv g Wl hl ma.G.rank (H.map (·.G)) R (j + 1) ((pushM ltG L m').map (·.G))) := by
              show SpInv _ _ _ _ _ _ _ _
              rw [pushM_mapG, ← HM'.out]
              exact HIS.out
            have HLEN2 : Hid ((pushM ltG L m').length ≤ H.length + (j + 1)) := by
              show _ ≤ _
              have h1 := (upM_memG (L.length + 1) (L ++ [m']) L.length (by simp)).1
              have h2 : (pushM ltG L m').length = (L ++ [m']).length := h1
              rw [h2, List.length_append, List.length_singleton]
              have := HLEN.out
              omega
            have hwv : IntKind.i64.wrap (sp + viaOf g (ln : Int)) = sp + viaOf g (ln : Int) := IntWalk.i64_in _ (by omega)
            have hjc : (j : Int) ≤ (cw : Int) := by omega
            generalize viaOf g (ln : Int) = va at *
            clear hm'
            go_upto_region 11 with fail
            refine ordV_start (Below wr.heap.size wr) (fun _ => True) [13] [(0, none), (1, none), (2, none), (3, none), (4, none), (5, none), (6, none), (7, none), (8, none), (9, none), (10, some true), (11, none), (12, none), (13, some true)] (by kernel_rfl) (by kernel_rfl) (by kernel_rfl) (fun _ _ _ _ _ h => h) trivial ?_
            have HD : Below wr.heap.size wr wr.drew := (Below.refl _ _).drew
            obtain ⟨Wd, hWd⟩ : ∃ Wd, wr.drew = Wd := ⟨_, rfl⟩
            rw [hWd] at HD ⊢
            clear hWd
            iterate 10 (refine ordV_takeR (v := ?_) rfl rfl ?_ ?_; rotate_left 1; (focus (intro W hW; (go_simp <;> (try with_reducible rfl)))); simp only [Act.put, List.setIfInBounds_toArray, List.set_cons_zero, List.set_cons_succ])
            refine ordV_call rfl rfl (fun K hK => ?_)
            go_simp
            go_at_call 72
            refine (HBY.out _ HD).mono ?_
            rintro e W1 ⟨rfl, hq⟩
            have hS0 := HD.trans ((Grown.of_draw hq).below.mono HD.size)
            refine hK.out _ _ trivial (fun _ _ => hS0) ?_
            clear hK K
            try simp only [Act.put, List.setIfInBounds_toArray, List.set_cons_zero, List.set_cons_succ]
            iterate 2 (refine ordV_takeR (v := ?_) rfl rfl ?_ ?_; rotate_left 1; (focus (intro W hW; (go_simp <;> (try with_reducible rfl)))); simp only [Act.put, List.setIfInBounds_toArray, List.set_cons_zero, List.set_cons_succ])
            refine ordV_call rfl rfl (fun K hK => ?_)
            go_simp
            go_at_call 75
            refine (HPU.out _ hS0).mono ?_
            rintro e W2 ⟨rfl, ⟨v2, hHW2, hHK2⟩, hHF2⟩
            refine hK.out _ _ trivial (fun _ h => by cases h) ?_
            clear hK K
            refine ordV_nil ?_
            have HF2 := Lib.hid ((HF.out.trans (HFr.of_below hBr hS0)).trans hHF2)
            have HW2 := Lib.hid hHW2
            have HK2 : Hid (Blk W2 ba 100 #[.slice ma.A hl hl, .int .i64 (ma.G.rank : Int), .int .i64 ma.G.link, .int .i64 ma.G.cost] ∧ v2.ownBlock ≠ some ba) := hHK2 ba _ _ nhb' HK.out.2 (HK.out.1.below hS0 HK.out.1.lt)
            clear hHF2 hHW2 hHK2 hS0 t3 tl f0 fl hcx hbx q0 q1 ql c0
            have hTb := HT.out W2 (HF2.out.below2 hC1 hC2)
            have t1 := hTb.t.cell 1
            simp at t1
            have tl := hTb.t.lt
            obtain ⟨b, off, l, rfl, hbb, hll, d0, d1, d2, d3⟩ := hTb.ls.lk hinl
            have e1 : l = lkAt g (xn : Int) := by rw [HLM.out] at hll; exact (Option.some.inj hll).symm
            rw [e1] at d1 d3
            rw [HTN.out] at d1
            clear hll e1 d0 d2 hTb
            go_wp2_with fail
            go_roundw
            case rel => exact ⟨j + 1, _, _, pushM ltG L m', v2, by omega, by go_num, rfl, rfl, HE1, HE2, HW2, HI2, HF2, HK2, HLEN2⟩
            case measure => simp [intOf]; omega
          · have hrlI : ((frL g (v : Int)).length : Int) ≤ 1 := by omega
            rw [List.getElem?_eq_none (show (frL g (v : Int)).length ≤ 1 by omega)] at HIS
            have HI2 : Hid (SpInv g Wl hl ma.G.rank (H.map (·.G)) R (j + 1) (L.map (·.G))) := HIS.out
            have HLEN2 : Hid (L.length ≤ H.length + (j + 1)) := by show _ ≤ _; have := HLEN.out; omega
            clear hrl
            go_upto_region 12 with fail
            clear t3
            have hTb := HT.out wr (HF.out.below2 hC1 hC2)
            have t1 := hTb.t.cell 1
            simp at t1
            have tl := hTb.t.lt
            obtain ⟨b, off, l, rfl, hbb, hll, d0, d1, d2, d3⟩ := hTb.ls.lk hinl
            have e1 : l = lkAt g (xn : Int) := by rw [HLM.out] at hll; exact (Option.some.inj hll).symm
            rw [e1] at d1 d3
            rw [HTN.out] at d1
            clear hll e1 d0 d2 hTb
            go_wp2_with fail
            go_roundw
            case rel => exact ⟨j + 1, _, _, L, vv, by omega, by go_num, rfl, rfl, HE1, HE2, HW, HI2, HF, HK, HLEN2⟩
            case measure => simp [intOf]; omega
      · have HI2 := Lib.hid (HSK.out _ j HI.out (by omega))
        have HLEN2 : Hid (L.length ≤ H.length + (j + 1)) := by show _ ≤ _; have := HLEN.out; omega
        have hge' : (j : Int) < (hl : Int) := by omega
        clear hge
        go_upto_region 12 with fail
        have hTb := HT.out wr (HF.out.below2 hC1 hC2)
        have t1 := hTb.t.cell 1
        simp at t1
        have tl := hTb.t.lt
        obtain ⟨b, off, l, rfl, hbb, hll, d0, d1, d2, d3⟩ := hTb.ls.lk hinl
        have e1 : l = lkAt g (xn : Int) := by rw [HLM.out] at hll; exact (Option.some.inj hll).symm
        rw [e1] at d1 d3
        rw [HTN.out] at d1
        clear hll e1 d0 d2 hTb
        go_wp2_with fail
        go_roundw
        case rel => exact ⟨j + 1, _, _, L, vv, by omega, by go_num, rfl, rfl, HE1, HE2, HW, HI2, HF, HK, HLEN2⟩
        case measure => simp [intOf]; omega
    · obtain rfl : j = Wl.length := by omega
      have HRE := Lib.hid (HI.out.fin hhl)
      clear hj
      go_wp2_with fail
      go_end0
      exact ⟨rfl, ⟨vv, L, HW.out, HRE.out, HLEN.out⟩, HF.out⟩
end Go.Proofs.YtfjkmgjjifhdkaaGreat
