/-
  The walk of layer 05's reference: a result is put into ordered results.
-/
import Derived.Test.YtfpnhgahkjglgaaGreatF28
import Derived.Test.YtfpnhgahkjglgaaGreatF22
set_option maxRecDepth 100000
namespace Go.Proofs.YtfpnhgahkjglgaaGreat
open Go Go.RowKit
def IsIns (x : Rs) (L : List Rs) (w : World) (e : Ending) (w' : World) : Prop :=
 (∃ A' c', e = .returned (.slice A' (insR L x).length c') ∧ ((insR L x).length ≤ c' ∧ c' ≤ maxLen) ∧ SlR 2 RRs w' A' (insR L x)) ∧ Below w.heap.size w w'
theorem covR_eq {x y : Rs} (h : (y.tx.toList == x.tx.toList) = true) : covR x y = !befR x y := by
 have e : y.tx = x.tx := toL_inj (by simpa using h)
 unfold covR
 rw [decide_eq_true e, Bool.true_and]
theorem covR_ne {x y : Rs} (h : (y.tx.toList == x.tx.toList) = false) : covR x y = false := by
 have e : ¬ y.tx = x.tx := fun e => by rw [e] at h; simp at h
 unfold covR
 rw [decide_eq_false e, Bool.false_and]
def insMid (x : Rs) (a : List Rs × Bool) (y : Rs) : List Rs := if !a.2 && befR x y then a.1 ++ [x] else a.1
set_option maxHeartbeats 16000000 in
theorem rins_any (A : Option Addr) (L : List Rs) (c : Nat) (x : Rs) (w : World) (hl : SlR 2 RRs w A L) (hc : L.length ≤ c ∧ c ≤ maxLen) (hlen : L.length ≤ 1000) (hs : L.Pairwise (fun a b => befR a b = true)) :
 Calls Tryz.prog 73 #[.slice A L.length c, .agg #[.string x.tx, .int .i64 x.co]] w (IsIns x L w) := by
 obtain ⟨i0, hinf, hz0, hz1, hz2⟩ := info_partsR cloneR_info
 obtain ⟨w1, hw1⟩ : ∃ w1, w.alloc (.cells #[.string x.tx, .int .i64 x.co] 48) = w1 := ⟨_, rfl⟩
 obtain ⟨g, hg⟩ : ∃ g, w.heap.size = g := ⟨_, rfl⟩
 have hb1 : Below w.heap.size w w1 := by rw [← hw1]; exact nw _ (Below.refl _ _)
 have hX : Blk w1 g 48 #[.string x.tx, .int .i64 x.co] := by rw [← hw1, ← hg]; exact Blk.new _ _ _
 obtain ⟨B0, hB0⟩ : ∃ b, w1.heap.size = b := ⟨_, rfl⟩
 have HB0 : Hid (g < B0) := by have := hX.lt; show _ < _; omega
 have HBS : Hid (w1.heap.size = B0) := hB0
 have HW1 := Lib.hid hw1
 have HG := Lib.hid hg
 have HB1 : Hid (∀ W, Below B0 w1 W → Below w.heap.size w W) := fun W hW => hb1.trans (hW.mono (by have := hb1.size; omega))
 have HXC : Hid (∀ W, Below B0 w1 W → W.cell? ⟨g, 0, none⟩ = some (.string x.tx) ∧ W.cell? ⟨g, 1, none⟩ = some (.int .i64 x.co) ∧ g < W.heap.size) := fun W hW => by
  have e1 := hX.below (hW.mono (Nat.le_of_eq hB0)) hX.lt
  exact ⟨by rw [e1.cell]; rfl, by rw [e1.cell]; rfl, e1.lt⟩
 have HSL : Hid (∀ W, Below B0 w1 W → SlR 2 RRs W A L) := fun W hW => (hl.below keeps_rs hb1).below keeps_rs (hW.mono (Nat.le_of_eq hB0))
 have HBE : ∀ y : Rs, Hid (∀ W, Calls Tryz.prog 101 #[.agg #[.string x.tx, .int .i64 x.co], .agg #[.string y.tx, .int .i64 y.co]] W fun e w' => e = .returned (.bool (befR x y)) ∧ Below W.heap.size W w') := fun y W => before5_any x y W
 have HS := Lib.hid hs
 have HC := Lib.hid hc
 obtain ⟨w2, hw2⟩ : ∃ W, w1.alloc (.cells #[] 48) = W := ⟨_, rfl⟩
 have HW2 : Hid (Below B0 w1 w2 ∧ w2.ownsRow B0 48 2 (.slice (some ⟨B0, 0, none⟩) 0 0) 0 []) := ⟨by rw [← hw2]; exact (Below.refl _ _).alloc (Nat.le_of_eq hB0.symm) _, by rw [← hw2, ← hB0]; exact own_empty w1 _ _ _ (Nat.le_refl _)⟩
 clear hw1 hg hb1 hX hl hs hc
 go_enter Tryz.func73, Tryz.ntmps73
 go_upto_region 1 with fail
 rw [HW1.out, HG.out]
 go_upto_region 2 with fail
 clear hw2 hB0
 go_wp2_with fail
 go_loopw [7] (fun jv wr => ∃ j : Nat, j ≤ L.length ∧ jv = .int .i64 (j : Int) ∧ Hid (∀ y ∈ L.take j, covR x y = false) ∧ Below w2.heap.size w2 wr) (fun jv _ => L.length - (intOf jv).toNat)
 case atStart => exact ⟨0, Nat.zero_le _, rfl, fun y hy => (by simp at hy), Below.refl _ _⟩
 case round =>
  obtain ⟨wR, rfl⟩ : ∃ W, W = wr := ⟨wr, rfl⟩
  obtain ⟨j, hj, rfl, HNC, hbr⟩ := hrel
  have HBR := Lib.hid hbr
  have HBT : Hid (∀ W, Below w2.heap.size w2 W → Below B0 w1 W) := fun W hW => HW2.out.1.trans (hW.mono (by have := HW2.out.2.lt B0 rfl; omega))
  by_cases hlt : j < L.length
  ·have hji : (j : Int) < (L.length : Int) := by omega
   have hj0 : (0 : Int) ≤ (j : Int) := by omega
   obtain ⟨bb, off, y, rfl, hbb, hyx, d0, d1⟩ := (HSL.out _ (HBT.out _ hbr)).rs hlt
   obtain ⟨p0, p1, pl⟩ := HXC.out _ (HBT.out _ hbr)
   have HYX := Lib.hid hyx
   have HBE := HBE y
   clear hbr hyx
   go_upto_region 5 with fail
   go_cut [32] (fun s32 W => s32 = .bool (covR x y) ∧ Below w2.heap.size w2 W)
   case first =>
    cases hxe : (y.tx.toList == x.tx.toList) with
    | true =>
     have HCV := Lib.hid (covR_eq hxe)
     refine ordB_below (.quiet 0 (.quiet 1 (.quiet 2 (.quiet 3 (.quiet 4 (.quiet 5 (.quiet 6 (.quiet 7 (.quiet 8 (.quiet 9 (.quiet 10 (.quiet 11 (.quiet 12 (.quiet 13 (.only 14 (.quiet 15 (.quiet 16 .done))))))))))))))))) (by kernel_rfl) (by kernel_rfl) (by kernel_rfl) (fun _ _ _ _ _ h => h) ?_
     intro V0 hV0
     iterate 14 ((first | refine ordB_skip rfl rfl ?_ | (refine ordB_take (v := ?_) rfl rfl ?_ ?_; rotate_left 1; (focus (intro W hW; obtain ⟨hcW, hfW⟩ := bcell hW; (go_simp <;> with_reducible rfl))))); simp only [Act.put, zA, zB, zC])
     refine ordB_only (opB_call rfl rfl (fun K hK => ?_))
     go_simp
     go_at_call 101
     refine (HBE.out V0).mono ?_
     rintro e V0_1 ⟨rfl, hx2⟩
     refine hK.out _ _ (hV0.trans (hx2.mono hV0.size)) (fun hV0_1 => ?_)
     iterate 2 ((first | refine ordB_skip rfl rfl ?_ | (refine ordB_take (v := ?_) rfl rfl ?_ ?_; rotate_left 1; (focus (intro W hW; obtain ⟨hcW, hfW⟩ := bcell hW; (go_simp <;> with_reducible rfl))))); simp only [Act.put, zA, zB, zC])
     refine ordB_nil ?_
     have hbV := HBR.out.trans (hV0_1.mono HBR.out.size)
     clear hV0_1
     go_wp2_with fail
     go_meet
     exact ⟨by rw [HCV.out], hbV⟩
    | false =>
     have HCV := Lib.hid (covR_ne hxe)
     refine ordB_below (.quiet 0 (.quiet 1 (.quiet 2 (.quiet 3 (.quiet 4 (.quiet 5 (.quiet 6 (.quiet 7 (.quiet 8 (.quiet 9 (.quiet 10 (.quiet 11 (.quiet 12 (.quiet 13 (.only 14 (.quiet 15 (.quiet 16 .done))))))))))))))))) (by kernel_rfl) (by kernel_rfl) (by kernel_rfl) (fun _ _ _ _ _ h => h) ?_
     intro V0 hV0
     iterate 14 ((first | refine ordB_skip rfl rfl ?_ | (refine ordB_take (v := ?_) rfl rfl ?_ ?_; rotate_left 1; (focus (intro W hW; obtain ⟨hcW, hfW⟩ := bcell hW; (go_simp <;> with_reducible rfl))))); simp only [Act.put, zA, zB, zC])
     refine ordB_only (opB_cskip rfl rfl hV0 ?_)
     simp only [Act.put, zA, zB, zC]
     iterate 2 ((first | refine ordB_skip rfl rfl ?_ | (refine ordB_take (v := ?_) rfl rfl ?_ ?_; rotate_left 1; (focus (intro W hW; obtain ⟨hcW, hfW⟩ := bcell hW; (go_simp <;> with_reducible rfl))))); simp only [Act.put, zA, zB, zC])
     refine ordB_nil ?_
     have hbV := HBR.out.trans (hV0.mono HBR.out.size)
     clear hV0
     go_wp2_with fail
     go_meet
     exact ⟨by rw [HCV.out], hbV⟩
   case rest =>
    obtain ⟨wC, rfl⟩ : ∃ W, W = wc := ⟨wc, rfl⟩
    obtain ⟨rfl, hbc⟩ := hcut
    have HBC := Lib.hid hbc
    clear hbc d0 d1 p0 p1 pl
    cases hcv : covR x y with
    | true =>
     have HE : Hid (insR L x = L) := ins_cov (List.mem_of_getElem? HYX.out) hcv
     clear hcv
     go_wp2_with fail
     go_ret
     refine ⟨⟨some ⟨bb, off, none⟩, c, by rw [HE.out]; rfl, ?_, ?_⟩, HB1.out _ (HBT.out _ HBC.out)⟩
     ·rw [HE.out]; exact HC.out
     ·rw [HE.out]; exact HSL.out _ (HBT.out _ HBC.out)
    | false =>
     have HCV := Lib.hid hcv
     clear hcv
     go_wp2_with fail
     go_roundw
     case rel => exact ⟨j + 1, by omega, by go_num, fun z hz => (by
      rw [take_succ_of HYX.out] at hz
      rcases List.mem_append.1 hz with hz | hz
      ·exact HNC.out z hz
      ·rw [List.mem_singleton.1 hz]; exact HCV.out), HBC.out⟩
     case measure => simp [intOf]; omega
  ·obtain rfl : j = L.length := by omega
   have hji : ¬ ((L.length : Nat) : Int) < (L.length : Int) := by omega
   have HNC2 : Hid (∀ y ∈ L, covR x y = false) := fun y hy => HNC.out y (by rw [List.take_length]; exact hy)
   have HOW0 := Lib.hid (own_below HW2.out.2 hbr)
   have HBW := Lib.hid (HBT.out _ hbr)
   clear hbr HNC HBR HBT
   go_wp2_with fail
   go_loopw [5, 6, 8] (fun ov dv jv wr => ∃ j : Nat, j ≤ L.length ∧ jv = .int .i64 (j : Int) ∧ dv = .bool (insTo x L j).2 ∧ wr.ownsRow B0 48 2 ov (insTo x L j).1.length ((insTo x L j).1.flatMap encRs) ∧ Below B0 w1 wr) (fun _ _ jv _ => L.length - (intOf jv).toNat)
   case atStart => exact ⟨0, Nat.zero_le _, rfl, rfl, HOW0.out, HBW.out⟩
   case round =>
    obtain ⟨wQ, rfl⟩ : ∃ W, W = wr := ⟨wr, rfl⟩
    obtain ⟨j, hj, rfl, rfl, how, hbq⟩ := hrel
    have hIL := insTo_len x L j
    obtain ⟨⟨o1, dn⟩, hod⟩ : ∃ a, insTo x L j = a := ⟨_, rfl⟩
    rw [hod] at how hIL
    have HOD := Lib.hid hod
    have HOWQ0 := Lib.hid how
    have HBQ0 := Lib.hid hbq
    have hol : o1.length ≤ 1001 := by have h : o1.length ≤ j + (if dn then 1 else 0) := hIL; cases dn <;> simp at h <;> omega
    have hB0q : B0 ≤ wQ.heap.size := by have := HBS.out; have h2 := hbq.size; omega
    rw [hod]
    clear how hod hIL
    by_cases hlt : j < L.length
    ·have hji : (j : Int) < (L.length : Int) := by omega
     have hj0 : (0 : Int) ≤ (j : Int) := by omega
     obtain ⟨bb, off, y, rfl, hbb, hyx, d0, d1⟩ := (HSL.out _ hbq).rs hlt
     obtain ⟨p0, p1, pl⟩ := HXC.out _ hbq
     have HYX := Lib.hid hyx
     have HBE := HBE y
     clear hbq hyx
     go_upto_region 10 with fail
     go_cut [49] (fun s49 W => s49 = .bool (!dn && befR x y) ∧ Below wQ.heap.size wQ W)
     case first =>
      cases dn with
      | true =>
       refine ordB_below (.quiet 0 (.quiet 1 (.quiet 2 (.quiet 3 (.quiet 4 (.quiet 5 (.quiet 6 (.quiet 7 (.only 8 (.quiet 9 .done)))))))))) (by kernel_rfl) (by kernel_rfl) (by kernel_rfl) (fun _ _ _ _ _ h => h) ?_
       intro V0 hV0
       iterate 8 ((first | refine ordB_skip rfl rfl ?_ | (refine ordB_take (v := ?_) rfl rfl ?_ ?_; rotate_left 1; (focus (intro W hW; obtain ⟨hcW, hfW⟩ := bcell hW; (go_simp <;> with_reducible rfl))))); simp only [Act.put, zA, zB, zC])
       refine ordB_only (opB_cskip rfl rfl hV0 ?_)
       simp only [Act.put, zA, zB, zC]
       iterate 1 ((first | refine ordB_skip rfl rfl ?_ | (refine ordB_take (v := ?_) rfl rfl ?_ ?_; rotate_left 1; (focus (intro W hW; obtain ⟨hcW, hfW⟩ := bcell hW; (go_simp <;> with_reducible rfl))))); simp only [Act.put, zA, zB, zC])
       refine ordB_nil ?_
       have hbV := hV0
       clear hV0
       go_wp2_with fail
       go_meet
       exact ⟨rfl, hbV⟩
      | false =>
       refine ordB_below (.quiet 0 (.quiet 1 (.quiet 2 (.quiet 3 (.quiet 4 (.quiet 5 (.quiet 6 (.quiet 7 (.only 8 (.quiet 9 .done)))))))))) (by kernel_rfl) (by kernel_rfl) (by kernel_rfl) (fun _ _ _ _ _ h => h) ?_
       intro V0 hV0
       iterate 8 ((first | refine ordB_skip rfl rfl ?_ | (refine ordB_take (v := ?_) rfl rfl ?_ ?_; rotate_left 1; (focus (intro W hW; obtain ⟨hcW, hfW⟩ := bcell hW; (go_simp <;> with_reducible rfl))))); simp only [Act.put, zA, zB, zC])
       refine ordB_only (opB_call rfl rfl (fun K hK => ?_))
       go_simp
       go_at_call 101
       refine (HBE.out V0).mono ?_
       rintro e V0_1 ⟨rfl, hx2⟩
       refine hK.out _ _ (hV0.trans (hx2.mono hV0.size)) (fun hV0_1 => ?_)
       iterate 1 ((first | refine ordB_skip rfl rfl ?_ | (refine ordB_take (v := ?_) rfl rfl ?_ ?_; rotate_left 1; (focus (intro W hW; obtain ⟨hcW, hfW⟩ := bcell hW; (go_simp <;> with_reducible rfl))))); simp only [Act.put, zA, zB, zC])
       refine ordB_nil ?_
       have hbV := hV0_1
       clear hV0_1
       go_wp2_with fail
       go_meet
       exact ⟨rfl, hbV⟩
     case rest =>
      obtain ⟨X1, rfl⟩ : ∃ W, W = wc := ⟨wc, rfl⟩
      obtain ⟨rfl, hb1⟩ := hcut
      have HOW1 := Lib.hid (own_below HOWQ0.out hb1)
      have HBX1 := Lib.hid (HBQ0.out.trans (hb1.mono hB0q))
      have hB01 : B0 ≤ X1.heap.size := by have := hb1.size; omega
      clear hb1 d0 d1 p0 p1 pl
      obtain ⟨p0, p1, pl⟩ := HXC.out _ HBX1.out
      obtain ⟨cb, hcb⟩ : ∃ b, (!dn && befR x y) = b := ⟨_, rfl⟩
      have HCB := Lib.hid hcb
      rw [hcb]
      clear hcb
      go_upto_if 49 with fail
      go_cut [5, 6] (fun s5 s6 W => s6 = .bool (dn || befR x y) ∧ W.ownsRow B0 48 2 s5 (insMid x (o1, dn) y).length ((insMid x (o1, dn) y).flatMap encRs) ∧ Below B0 w1 W)
      case first =>
       cases cb with
       | true =>
        have HM : Hid (insMid x (o1, dn) y = o1 ++ [x] ∧ (dn || befR x y) = true) := by
         have h := HCB.out
         refine ⟨by unfold insMid; rw [h]; rfl, ?_⟩
         cases dn
         ·simpa using h
         ·rfl
        go_wp2_with (at_builtin; go_loud (refine wpList_appS5 (enc := encRs) (R := RRs) rfl _ _ 43 rfl B0 48 i0 _ 2 24 Tryz.underlying43 hinf hz0 hz1 hz2 rfl (by decide) _ _ _ rfl (HOW1.out.alloc _) (some ⟨X1.heap.size, 0, none⟩) 1 [x] rfl (slr_blkR (enc := encRs) (Blk.new_ (by simp)) (fun _ => rfl) (fun _ => rfl)) (fun _ _ _ h => h) (fun _ => rfl) (fun u hu => by simp [encRs] at hu; rcases hu with rfl | rfl <;> rfl) (by simp; omega) (by decide) (by simp; omega) ?_; intro v4 w4' hown4 hb4 ha4; obtain ⟨A4, c4, rfl⟩ := own_sl hown4; have HOW4 := Lib.hid hown4; have HB4 := Lib.hid hb4; clear hown4 ha4 hb4))
        go_meet
        rw [HM.out.1, HM.out.2]
        exact ⟨rfl, by rw [List.flatMap_append]; simpa using HOW4.out, (HBX1.out.alloc (by have := HBS.out; omega) _).trans HB4.out⟩
       | false =>
        have HM : Hid (insMid x (o1, dn) y = o1 ∧ (dn || befR x y) = dn) := by
         have h := HCB.out
         refine ⟨by unfold insMid; rw [h]; rfl, ?_⟩
         cases dn
         ·simpa using h
         ·rfl
        go_wp2_with fail
        go_meet
        rw [HM.out.1, HM.out.2]
        exact ⟨rfl, HOW1.out, HBX1.out⟩
      case rest =>
       obtain ⟨X2, rfl⟩ : ∃ W, W = wc := ⟨wc, rfl⟩
       obtain ⟨rfl, how2, hb2⟩ := hcut
       obtain ⟨mid, hmid⟩ : ∃ l, insMid x (o1, dn) y = l := ⟨_, rfl⟩
       rw [hmid] at how2
       have hml : mid.length ≤ 1002 := by rw [← hmid]; unfold insMid; split <;> simp <;> omega
       have HMID := Lib.hid hmid
       have HOWQ := Lib.hid how2
       have HBQ := Lib.hid hb2
       obtain ⟨db, hdb⟩ : ∃ b, (dn || befR x y) = b := ⟨_, rfl⟩
       have HDB := Lib.hid hdb
       obtain ⟨bb2, off2, y2, hA2, hbb2, hyx2, d0, d1⟩ := (HSL.out _ hb2).rs hlt
       obtain ⟨rfl, rfl⟩ : bb = bb2 ∧ off = off2 := by injection hA2 with h; injection h with h1 h2; exact ⟨h1, h2⟩
       obtain rfl := Option.some.inj (HYX.out.symm.trans hyx2)
       obtain ⟨p0, p1, pl⟩ := HXC.out _ hb2
       have HIN : Hid (insTo x L (j + 1) = (mid ++ (if y.tx = x.tx then [] else [y]), db)) := by
        show _ = _
        rw [insTo_next HYX.out, HOD.out, ← HMID.out, ← HDB.out]
        rfl
       have hB02 : B0 ≤ X2.heap.size := by have := hb2.size; have := HBS.out; omega
       rw [hdb]
       clear hdb hmid how2 hb2 hA2 hyx2 HOW1 HBX1
       go_upto_region 12 with fail
       cases hxe : (y.tx.toList == x.tx.toList) with
       | true =>
        have HE2 : Hid (insTo x L (j + 1) = (mid, db)) := by
         show _ = _
         rw [HIN.out, if_pos (toL_inj (by simpa using hxe)), List.append_nil]
        refine ordB_below (.quiet 0 (.quiet 1 (.quiet 2 (.quiet 3 (.quiet 4 (.quiet 5 (.quiet 6 (.quiet 7 .done)))))))) (by kernel_rfl) (by kernel_rfl) (by kernel_rfl) (fun _ _ _ _ _ h => h) ?_
        intro V0 hV0
        iterate 8 ((first | refine ordB_skip rfl rfl ?_ | (refine ordB_take (v := ?_) rfl rfl ?_ ?_; rotate_left 1; (focus (intro W hW; obtain ⟨hcW, hfW⟩ := bcell hW; (go_simp <;> with_reducible rfl))))); simp only [Act.put, zA, zB, zC])
        refine ordB_nil ?_
        have HB12 := Lib.hid (HBQ.out.trans (hV0.mono hB02))
        have HOW12 := Lib.hid (own_below HOWQ.out hV0)
        obtain ⟨X12, hX12⟩ : ∃ W, V0 = W := ⟨_, rfl⟩
        rw [hX12] at HB12 HOW12 ⊢
        clear hX12 hV0
        go_wp2_with fail
        go_roundw
        case rel => exact ⟨j + 1, by omega, by go_num, by rw [HE2.out], by rw [HE2.out]; exact HOW12.out, HB12.out⟩
        case measure => simp [intOf]; omega
       | false =>
        have HE2 : Hid (insTo x L (j + 1) = (mid ++ [y], db)) := by
         show _ = _
         rw [HIN.out, if_neg (fun e => by rw [e] at hxe; simp at hxe)]
        refine ordB_below (.quiet 0 (.quiet 1 (.quiet 2 (.quiet 3 (.quiet 4 (.quiet 5 (.quiet 6 (.quiet 7 .done)))))))) (by kernel_rfl) (by kernel_rfl) (by kernel_rfl) (fun _ _ _ _ _ h => h) ?_
        intro V0 hV0
        iterate 8 ((first | refine ordB_skip rfl rfl ?_ | (refine ordB_take (v := ?_) rfl rfl ?_ ?_; rotate_left 1; (focus (intro W hW; obtain ⟨hcW, hfW⟩ := bcell hW; (go_simp <;> with_reducible rfl))))); simp only [Act.put, zA, zB, zC])
        refine ordB_nil ?_
        have HB12 := Lib.hid (HBQ.out.trans (hV0.mono hB02))
        have HOW12 := Lib.hid (own_below HOWQ.out hV0)
        obtain ⟨X12, hX12⟩ : ∃ W, V0 = W := ⟨_, rfl⟩
        rw [hX12] at HB12 HOW12 ⊢
        clear hX12 hV0
        clear d0 d1
        obtain ⟨bb3, off3, y3, hA3, hbb3, hyx3, d0, d1⟩ := (HSL.out _ HB12.out).rs hlt
        obtain ⟨rfl, rfl⟩ : bb = bb3 ∧ off = off3 := by injection hA3 with h; injection h with h1 h2; exact ⟨h1, h2⟩
        obtain rfl := Option.some.inj (HYX.out.symm.trans hyx3)
        clear hA3 hyx3
        have hB012 : B0 ≤ X12.heap.size := by have h := HB12.out.size; have := HBS.out; omega
        go_wp2_with (at_builtin; go_loud (refine wpList_appS5 (enc := encRs) (R := RRs) rfl _ _ 43 rfl B0 48 i0 _ 2 24 Tryz.underlying43 hinf hz0 hz1 hz2 rfl (by decide) _ _ _ rfl (HOW12.out.alloc _) (some ⟨X12.heap.size, 0, none⟩) 1 [y] rfl (slr_blkR (enc := encRs) (Blk.new_ (by simp)) (fun _ => rfl) (fun _ => rfl)) (fun _ _ _ h => h) (fun _ => rfl) (fun u hu => by simp [encRs] at hu; rcases hu with rfl | rfl <;> rfl) (by simp; omega) (by decide) (by simp; omega) ?_; intro v4 w4' hown4 hb4 ha4; obtain ⟨A4, c4, rfl⟩ := own_sl hown4; have HOW4 := Lib.hid hown4; have HB4 := Lib.hid hb4; clear hown4 ha4 hb4))
        go_roundw
        case rel => exact ⟨j + 1, by omega, by go_num, by rw [HE2.out], by rw [HE2.out, List.flatMap_append]; simpa using HOW4.out, (HB12.out.alloc (by have := HBS.out; omega) _).trans HB4.out⟩
        case measure => simp [intOf]; omega
    ·obtain rfl : j = L.length := by omega
     have hji : ¬ ((L.length : Nat) : Int) < (L.length : Int) := by omega
     have HFI : Hid (insR L x = insFin x (o1, dn)) := by
      show _ = _
      rw [ins_is HS.out HNC2.out, HOD.out]
     obtain ⟨p0, p1, pl⟩ := HXC.out _ hbq
     clear hbq
     cases dn with
     | true =>
      have HE2 : Hid (insR L x = o1) := by show _ = _; rw [HFI.out]; rfl
      obtain ⟨A5, c5, rfl, hc5, hcm5, hs5⟩ := own_slr (R := RRs) HOWQ0.out (fun _ => rfl) (fun _ => rfl) rfl
      have HS5 := Lib.hid hs5
      have HC5 := Lib.hid (And.intro hc5 hcm5)
      clear hs5 hc5 hcm5
      go_wp2_with fail
      go_ret
      exact ⟨⟨A5, c5, by rw [HE2.out]; rfl, by rw [HE2.out]; exact HC5.out, by rw [HE2.out]; exact HS5.out⟩, HB1.out _ HBQ0.out⟩
     | false =>
      have HE2 : Hid (insR L x = o1 ++ [x]) := by show _ = _; rw [HFI.out]; rfl
      go_wp2_with (at_builtin; go_loud (refine wpList_appS5 (enc := encRs) (R := RRs) rfl _ _ 43 rfl B0 48 i0 _ 2 24 Tryz.underlying43 hinf hz0 hz1 hz2 rfl (by decide) _ _ _ rfl (HOWQ0.out.alloc _) (some ⟨wQ.heap.size, 0, none⟩) 1 [x] rfl (slr_blkR (enc := encRs) (Blk.new_ (by simp)) (fun _ => rfl) (fun _ => rfl)) (fun _ _ _ h => h) (fun _ => rfl) (fun u hu => by simp [encRs] at hu; rcases hu with rfl | rfl <;> rfl) (by simp; omega) (by decide) (by simp; omega) ?_; intro v4 w4' hown4 hb4 ha4; obtain ⟨A4, c4, rfl⟩ := own_sl hown4; have HOW4 := Lib.hid hown4; have HB4 := Lib.hid hb4; clear hown4 ha4 hb4))
      go_ret
      have h5 : w4'.ownsRow B0 48 2 (.slice A4 (o1.length + 1) c4) (o1 ++ [x]).length ((o1 ++ [x]).flatMap encRs) := by rw [List.flatMap_append]; simpa using HOW4.out
      obtain ⟨A5, c5, he5, hc5, hcm5, hs5⟩ := own_slr (R := RRs) h5 (fun _ => rfl) (fun _ => rfl) rfl
      obtain ⟨rfl, rfl⟩ : A4 = A5 ∧ c4 = c5 := by injection he5 with h1 h2 h3; exact ⟨h1, h3⟩
      exact ⟨⟨A4, c4, by rw [HE2.out]; simp, by rw [HE2.out]; exact ⟨hc5, hcm5⟩, by rw [HE2.out]; exact hs5⟩, HB1.out _ ((HBQ0.out.alloc (by have := HBS.out; omega) _).trans HB4.out)⟩
end Go.Proofs.YtfpnhgahkjglgaaGreat
