/-
  The walk of the reference's Adapt.
-/
import Derived.Test.YtpjecpefbfobdaaAreaOthers
import Derived.Test.YtpjecpefbfobdaaAreaLaw10
import Derived.Test.YtpjecpefbfobdaaOrdV
namespace Go.Proofs.Ytpjecpefbfobdaa
open Go Go.RowKit

set_option maxRecDepth 100000 in
set_option maxHeartbeats 16000000 in
theorem refadapt_any (us : List Ar) (A : Option Addr) (c : Nat) (v1 v2 : Value) (ts : List Tp) (B : Option Addr) (d : Nat) (key : Int) (p : Pt) (w : World) (hx : SlR 5 RAr w A us) (hl : us.length ≤ 60000) (ha : ∀ a ∈ us, ArOK a)
    (hy : SlR 4 RTp w B ts) (hl2 : ts.length ≤ 60000) (hT : ∀ t ∈ ts, TpOK t) (hN : ∀ t ∈ ts, Small t.n) (hinc : IncT ts) :
    Calls Try.prog 18 #[.agg #[.slice A us.length c, v1, v2], .slice B ts.length d, .agg #[.int .u8 key, .int .i64 p.x, .int .i64 p.y]] w fun e w' => ∃ A' c', e = .returned (.tuple #[.slice A' (adaptOf us ts key p).1.length c', .int .i64 (adaptOf us ts key p).2]) ∧
      SlR 4 RTp w' A' (adaptOf us ts key p).1 ∧ Below w.heap.size w w' := by
  obtain ⟨i0, hi, hz0, hz1, hz2⟩ := info_parts tap_info
  obtain ⟨w2, hw2⟩ : ∃ w2, (w.alloc (.cells #[.slice A us.length c, v1, v2] 31)).alloc (.cells #[.int .u8 key, .int .i64 p.x, .int .i64 p.y] 47) = w2 := ⟨_, rfl⟩
  have hbw2 : Below w.heap.size w w2 := by rw [← hw2]; exact nw _ (nw _ (Below.refl _ _))
  have hB0 : Blk w2 w.heap.size 31 #[.slice A us.length c, v1, v2] := by rw [← hw2]; exact (Blk.new _ _ _).alloc _
  have hB1 : Blk w2 (w.heap.size + 1) 47 #[.int .u8 key, .int .i64 p.x, .int .i64 p.y] := by rw [← hw2]; exact Blk.new_ (by simp)
  have hsz2 : w2.heap.size = w.heap.size + 1 + 1 := by rw [← hw2]; simp
  have HW2 := Lib.hid hw2
  have m0 := hB1.cell 0
  have m1 := hB1.cell 1
  have m2 := hB1.cell 2
  have bl := hB0.lt
  have ml := hB1.lt
  simp at m0 m1 m2
  clear hw2
  by_cases hin : insideB p = true
  · have HIn : Hid (∀ W, Calls Try.prog 38 #[vPt p] W fun e w' => e = .returned (.bool true) ∧ Below W.heap.size W w') := fun W => by have := inside_any p W; rw [hin] at this; exact this
    have hpOK := inside_ok hin
    have HBW2 := Lib.hid hbw2
    cases hao : areaOf us key with
    | none =>
      have HArea : Hid (∀ W, Below w.heap.size w W → Calls Try.prog 25 #[.agg #[.slice A us.length c, v1, v2], .int .u8 key] W fun e w' => e = .returned (.tuple #[vAr ⟨0, 0, 0, 0, 0⟩, .bool false]) ∧ Below W.heap.size W w') := fun W hW => by
        have := area_any A us c v1 v2 key W (hx.below keeps_ar hW) (by omega)
        rw [hao] at this
        exact this
      have HA : Hid (adaptOf us ts key p = ([], 210)) := by show adaptOf us ts key p = _; unfold adaptOf; rw [if_pos hin, hao]
      have k0 := hB0.cell 0
      have k1 := hB0.cell 1
      have k2 := hB0.cell 2
      simp at k0 k1 k2
      clear hin hbw2 hao hx
      go_enter Try.func18, Try.ntmps18
      go_wp2_with (first | (go_at_call 38; go_loud (rw [HW2.out]; refine (HIn.out _).mono ?_; rintro e w3 ⟨rfl, hb3⟩; have q0 := (hB0.below hb3 bl).cell 0; have q1 := (hB0.below hb3 bl).cell 1; have q2 := (hB0.below hb3 bl).cell 2; have q3 := (hB1.below hb3 ml).cell 0; have q4 := (hB0.below hb3 bl).lt; have q5 := (hB1.below hb3 ml).lt; simp at q0 q1 q2 q3)) | (go_at_call 25; go_loud (refine (HArea.out _ (bthen HBW2.out hb3)).mono ?_; rintro e w4 ⟨rfl, hb4⟩)))
      go_ret2
      exact ⟨none, 0, by rw [HA.out]; rfl, by rw [HA.out]; exact SlR.nil, bthen HBW2.out (bthen hb3 (nw _ hb4))⟩
    | some a =>
      obtain ⟨ham, hak⟩ := areaOf_key hao
      have haOK := ha a ham
      have HArea : Hid (∀ W, Below w.heap.size w W → Calls Try.prog 25 #[.agg #[.slice A us.length c, v1, v2], .int .u8 key] W fun e w' => e = .returned (.tuple #[vAr a, .bool true]) ∧ Below W.heap.size W w') := fun W hW => by
        have := area_any A us c v1 v2 key W (hx.below keeps_ar hW) (by omega)
        rw [hao] at this
        exact this
      have HMid : Hid (∀ W, Calls Try.prog 28 #[vAr a] W fun e w' => e = .returned (vPt (midOf a)) ∧ Below W.heap.size W w') := fun W => refmiddle_any a W haOK
      have HA : Hid (adaptOf us ts key p = (putT ts key (newT (tapOf ts key) (midOf a) p), 0)) := by show adaptOf us ts key p = _; unfold adaptOf; rw [if_pos hin, hao]
      have hmS := mid_small haOK
      have k0 := hB0.cell 0
      have k1 := hB0.cell 1
      have k2 := hB0.cell 2
      simp at k0 k1 k2
      clear hin hbw2 hao hx ham hak
      go_enter Try.func18, Try.ntmps18
      go_upto_region 7 with (first | (go_at_call 38; go_loud (rw [HW2.out]; refine (HIn.out _).mono ?_; rintro e w3 ⟨rfl, hb3⟩; have q0 := (hB0.below hb3 bl).cell 0; have q1 := (hB0.below hb3 bl).cell 1; have q2 := (hB0.below hb3 bl).cell 2; have q3 := (hB1.below hb3 ml).cell 0; have q4 := (hB0.below hb3 bl).lt; have q5 := (hB1.below hb3 ml).lt; simp at q0 q1 q2 q3)) | (go_at_call 25; go_loud (refine (HArea.out _ (bthen HBW2.out hb3)).mono ?_; rintro e w4 ⟨rfl, hb4⟩)) | (go_at_call 28; go_loud (refine (HMid.out _).mono ?_; rintro e w5 ⟨rfl, hb5⟩)))
      obtain ⟨W6, hW6⟩ : ∃ W, w5.alloc (.cells #[.int .i64 (midOf a).x, .int .i64 (midOf a).y] 36) = W := ⟨_, rfl⟩
      have hb56 : Below w5.heap.size w5 W6 := by rw [← hW6]; exact nw _ (Below.refl _ _)
      have hC : Blk W6 w5.heap.size 36 #[.int .i64 (midOf a).x, .int .i64 (midOf a).y] := by rw [← hW6]; exact Blk.new _ _ _
      rw [hW6]
      clear hW6
      have hb26 : Below w2.heap.size w2 W6 := bthen (bthen (nw _ (bthen hb3 hb4)) hb5) hb56
      have hB1 := hB1.below hb26 ml
      have HBW6 := Lib.hid (bthen HBW2.out hb26)
      have z0 := hB1.cell 0
      have zl := hB1.lt
      have hCl := hC.lt
      simp at z0
      obtain ⟨gc, hgc⟩ : ∃ g, w5.heap.size = g := ⟨_, rfl⟩
      rw [hgc] at hC hCl ⊢
      clear hb3 hb4 hb5 hb56 hb26 q0 q1 q2 q3 q4 q5 k0 k1 k2 m0 m1 m2 hgc hB0
      generalize midOf a = m at *
      go_upto_region 8 with fail
      obtain ⟨W7, hW7⟩ : ∃ W, (W6.alloc (.cells #[] 82)).alloc (.cells #[.int .u8 key, .int .i64 0, .int .i64 0, .int .i64 0] 82) = W := ⟨_, rfl⟩
      have hb67 : Below W6.heap.size W6 W7 := by rw [← hW7]; exact nw _ (nw _ (Below.refl _ _))
      have hO7 : W7.ownsRow W6.heap.size 82 4 (.slice (some ⟨W6.heap.size, 0, none⟩) 0 0) 0 [] := by rw [← hW7]; exact (own_empty W6 _ _ _ (Nat.le_refl _)).alloc _
      have hT7 : Blk W7 (W6.heap.size + 1) 82 #[.int .u8 key, .int .i64 0, .int .i64 0, .int .i64 0] := by rw [← hW7]; exact Blk.new_ (by simp)
      have hsz7 : W7.heap.size = W6.heap.size + 1 + 1 := by rw [← hW7]; simp
      rw [hW7]
      clear hW7
      have hg1 : w.heap.size + 1 < W6.heap.size := zl
      have hgcl : gc < W6.heap.size := hCl
      have hB16 := hB1
      have hB1 := hB1.below hb67 hB1.lt
      have hC := hC.below hb67 hC.lt
      obtain ⟨gm, hgm⟩ : ∃ g, w.heap.size + 1 = g := ⟨_, rfl⟩
      obtain ⟨gt, hgt⟩ : ∃ g, W6.heap.size + 1 = g := ⟨_, rfl⟩
      have h6t : W6.heap.size < gt := by omega
      have h7t : gt < W7.heap.size := by omega
      rw [hgm] at hB1 hB16 hg1 ⊢
      rw [hgt] at hT7 ⊢
      have hne1 : gm ≠ gt := by omega
      have hne2 : gc ≠ gt := by omega
      have hmt : gm < gt := by omega
      have hct : gc < gt := by omega
      clear hgm hgt hsz7 z0 zl hCl hsz2
      go_wp2_with fail
      go_loopw [14] (fun i wr => ∃ k : Nat, k ≤ ts.length ∧ i = .int .i64 k ∧ Blk wr gt 82 #[.int .u8 (lastT ts key k).key, .int .i64 (lastT ts key k).dx, .int .i64 (lastT ts key k).dy, .int .i64 (lastT ts key k).n] ∧ Below gt W7 wr) (fun i _ => ts.length - (intOf i).toNat)
      case atStart => exact ⟨0, by omega, rfl, hT7, Below.refl _ _⟩
      case round =>
        obtain ⟨k, hk, rfl, hTb, hbr⟩ := hrel
        have hb6r := hb67.trans (hbr.mono (Nat.le_of_lt h6t))
        have hbw := bthen HBW6.out hb6r
        have hTl := hTb.lt
        have hM := hB1.below hbr hmt
        have y0 := hM.cell 0
        have yl := hM.lt
        simp at y0
        by_cases hlt : k < ts.length
        · obtain ⟨b, off, x, rfl, hbb, hxx, d0, d1, d2, d3⟩ := (hy.below keeps_tp hbw).tp hlt
          have HL := Lib.hid (lastT_snoc (key := key) hxx)
          clear hxx
          generalize lastT ts key k = t0 at *
          by_cases hkey : x.key = key
          · have HK := Lib.hid hkey
            have e1 : (x.key == key) = true := by simpa using hkey
            clear hkey
            go_wp2_with fail
            refine ordB_below (.quiet 0 (.quiet 1 (.quiet 2 (.quiet 3 (.quiet 4 (.quiet 5 (.quiet 6 (.quiet 7 .done)))))))) (by kernel_rfl) (by kernel_rfl) (by kernel_rfl) (fun _ _ _ _ _ h => h) ?_
            intro V0 hV0
            iterate 8 (first
              | (refine ordB_skip rfl rfl ?_; simp only [Act.put, List.setIfInBounds_toArray, List.set_cons_zero, List.set_cons_succ])
              | (refine ordB_take (v := ?_) rfl rfl ?_ ?_
                 rotate_left 1
                 focus (intro W hW; obtain ⟨hcW, hfW⟩ := bcell hW; (go_simp <;> with_reducible rfl))
                 simp only [Act.put, List.setIfInBounds_toArray, List.set_cons_zero, List.set_cons_succ]))
            refine ordB_nil ?_
            have hTs := hTb.below hV0 hTl
            have f0 := hTs.frozen 0
            have f1 := hTs.frozen 1
            have f2 := hTs.frozen 2
            have f3 := hTs.frozen 3
            have q0 := hTs.cell 0
            have q1 := hTs.cell 1
            have q2 := hTs.cell 2
            have q3 := hTs.cell 3
            simp at q0 q1 q2 q3
            have x0 := (hV0.cell (p := ⟨b, _, none⟩) hbb).trans d0
            have x1 := (hV0.cell (p := ⟨b, _, none⟩) hbb).trans d1
            have x2 := (hV0.cell (p := ⟨b, _, none⟩) hbb).trans d2
            have x3 := (hV0.cell (p := ⟨b, _, none⟩) hbb).trans d3
            have hbs := hbr.trans (hV0.mono (Nat.le_of_lt hTl))
            go_wp2_with fail
            go_roundw
            case rel => exact ⟨k + 1, by omega, by go_num, (by rw [HL.out, if_pos HK.out]; have := (((hTs.set_ 0 (.int .u8 x.key)).set_ 1 (.int .i64 x.dx)).set_ 2 (.int .i64 x.dy)).set_ 3 (.int .i64 x.n); simpa using this), (((hbs.setCell (Nat.le_refl _) _).setCell (Nat.le_refl _) _).setCell (Nat.le_refl _) _).setCell (Nat.le_refl _) _⟩
            case measure => simp [intOf]; omega
          · have HK := Lib.hid hkey
            have e1 : (x.key == key) = false := by simpa using hkey
            clear hkey
            go_wp2_with fail
            refine ordB_below (.quiet 0 (.quiet 1 (.quiet 2 (.quiet 3 (.quiet 4 (.quiet 5 (.quiet 6 (.quiet 7 .done)))))))) (by kernel_rfl) (by kernel_rfl) (by kernel_rfl) (fun _ _ _ _ _ h => h) ?_
            intro V0 hV0
            iterate 8 (first
              | (refine ordB_skip rfl rfl ?_; simp only [Act.put, List.setIfInBounds_toArray, List.set_cons_zero, List.set_cons_succ])
              | (refine ordB_take (v := ?_) rfl rfl ?_ ?_
                 rotate_left 1
                 focus (intro W hW; obtain ⟨hcW, hfW⟩ := bcell hW; (go_simp <;> with_reducible rfl))
                 simp only [Act.put, List.setIfInBounds_toArray, List.set_cons_zero, List.set_cons_succ]))
            refine ordB_nil ?_
            have hTs := hTb.below hV0 hTl
            have f0 := hTs.frozen 0
            have f1 := hTs.frozen 1
            have f2 := hTs.frozen 2
            have f3 := hTs.frozen 3
            have q0 := hTs.cell 0
            have q1 := hTs.cell 1
            have q2 := hTs.cell 2
            have q3 := hTs.cell 3
            simp at q0 q1 q2 q3
            have x0 := (hV0.cell (p := ⟨b, _, none⟩) hbb).trans d0
            have x1 := (hV0.cell (p := ⟨b, _, none⟩) hbb).trans d1
            have x2 := (hV0.cell (p := ⟨b, _, none⟩) hbb).trans d2
            have x3 := (hV0.cell (p := ⟨b, _, none⟩) hbb).trans d3
            have hbs := hbr.trans (hV0.mono (Nat.le_of_lt hTl))
            go_wp2_with fail
            go_roundw
            case rel => exact ⟨k + 1, by omega, by go_num, (by rw [HL.out, if_neg HK.out]; exact hTs), hbs⟩
            case measure => simp [intOf]; omega
        · obtain rfl : k = ts.length := by omega
          rw [lastT_all hinc] at hTb
          have htk := tapOf_key ts key
          have hsm : Small (tapOf ts key).dx ∧ Small (tapOf ts key).dy ∧ Small (tapOf ts key).n := by
            rcases tapOf_or ts key with h | h
            · rw [h]; unfold Small; simp
            · exact ⟨(hT _ h).dx, (hT _ h).dy, hN _ h⟩
          obtain ⟨sx, sy, sn⟩ := hsm
          obtain ⟨px, py⟩ := hpOK
          obtain ⟨mx, my⟩ := hmS
          unfold Small at sx sy sn px py mx my
          have HTK := Lib.hid htk
          clear htk
          generalize tapOf ts key = t0 at *
          have hw1 : IntKind.i64.wrap (t0.dx + p.x) = t0.dx + p.x := IntWalk.i64_in _ (by omega)
          have hw2 : IntKind.i64.wrap (t0.dx + p.x - m.x) = t0.dx + p.x - m.x := IntWalk.i64_in _ (by omega)
          have hw3 : IntKind.i64.wrap (t0.dy + p.y) = t0.dy + p.y := IntWalk.i64_in _ (by omega)
          have hw4 : IntKind.i64.wrap (t0.dy + p.y - m.y) = t0.dy + p.y - m.y := IntWalk.i64_in _ (by omega)
          have hw5 : IntKind.i64.wrap (t0.n + 1) = t0.n + 1 := IntWalk.i64_in _ (by omega)
          have hbx := tdiv2_bd (v := t0.dx + p.x - m.x) (B := 805306368) (by omega)
          have hby := tdiv2_bd (v := t0.dy + p.y - m.y) (B := 805306368) (by omega)
          have hw6 : IntKind.i64.wrap ((t0.dx + p.x - m.x).tdiv 2) = (t0.dx + p.x - m.x).tdiv 2 := IntWalk.i64_in _ (by omega)
          have hw7 : IntKind.i64.wrap ((t0.dy + p.y - m.y).tdiv 2) = (t0.dy + p.y - m.y).tdiv 2 := IntWalk.i64_in _ (by omega)
          have r1 := hM.cell 1
          have r2 := hM.cell 2
          have hCr := hC.below hbr hct
          have c0 := hCr.cell 0
          have c1 := hCr.cell 1
          have cl := hCr.lt
          have u1 := hTb.cell 1
          have u2 := hTb.cell 2
          have u3 := hTb.cell 3
          have vf1 := hTb.frozen 1
          have vf2 := hTb.frozen 2
          have vf3 := hTb.frozen 3
          simp at r1 r2 c0 c1 u1 u2 u3
          go_wp2_with fail
          refine ordV_start (Below wr.heap.size wr) (Far gt wr) [22, 24, 26] [(0, none), (1, some false), (2, none), (3, none), (4, none), (5, none), (6, none), (7, none), (8, none), (9, none), (10, some false), (11, none), (12, none), (13, none), (14, none), (15, none), (16, none), (17, none), (18, none), (19, some false), (20, none), (21, none), (22, some true), (23, none), (24, some true), (25, none), (26, some true)] (by kernel_rfl) (by kernel_rfl) (by kernel_rfl) (fun _ _ _ _ _ h => h) (fun _ _ => rfl) ?_
          have HD : Below wr.heap.size wr wr.drew := (Below.refl _ _).drew
          have hR0 : Far gt wr wr.drew := fun _ _ => rfl
          obtain ⟨hcD, hfD⟩ := bcell HD
          obtain ⟨Wd, hWd⟩ : ∃ Wd, wr.drew = Wd := ⟨_, rfl⟩
          rw [hWd] at HD hcD hfD hR0 ⊢
          clear hWd
          iterate 1 (refine ordV_takeR (v := ?_) rfl rfl ?_ ?_; rotate_left 1; (focus (intro W hW; have hcW := hW.cell; (go_simp <;> (try with_reducible rfl)))); simp only [Act.put, List.setIfInBounds_toArray, List.set_cons_zero, List.set_cons_succ])
          iterate 1 (refine ordV_takeS (v := ?_) rfl rfl HD ?_ ?_; rotate_left 1; (focus (intro W hW; obtain ⟨hcW, hfW⟩ := bcell hW; (go_simp <;> (try with_reducible rfl)))); simp only [Act.put, List.setIfInBounds_toArray, List.set_cons_zero, List.set_cons_succ])
          iterate 8 (refine ordV_takeR (v := ?_) rfl rfl ?_ ?_; rotate_left 1; (focus (intro W hW; have hcW := hW.cell; (go_simp <;> (try with_reducible rfl)))); simp only [Act.put, List.setIfInBounds_toArray, List.set_cons_zero, List.set_cons_succ])
          iterate 1 (refine ordV_takeS (v := ?_) rfl rfl HD ?_ ?_; rotate_left 1; (focus (intro W hW; obtain ⟨hcW, hfW⟩ := bcell hW; (go_simp <;> (try with_reducible rfl)))); simp only [Act.put, List.setIfInBounds_toArray, List.set_cons_zero, List.set_cons_succ])
          iterate 8 (refine ordV_takeR (v := ?_) rfl rfl ?_ ?_; rotate_left 1; (focus (intro W hW; have hcW := hW.cell; (go_simp <;> (try with_reducible rfl)))); simp only [Act.put, List.setIfInBounds_toArray, List.set_cons_zero, List.set_cons_succ])
          iterate 1 (refine ordV_takeS (v := ?_) rfl rfl HD ?_ ?_; rotate_left 1; (focus (intro W hW; obtain ⟨hcW, hfW⟩ := bcell hW; (go_simp <;> (try with_reducible rfl)))); simp only [Act.put, List.setIfInBounds_toArray, List.set_cons_zero, List.set_cons_succ])
          iterate 2 (refine ordV_takeR (v := ?_) rfl rfl ?_ ?_; rotate_left 1; (focus (intro W hW; have hcW := hW.cell; (go_simp <;> (try with_reducible rfl)))); simp only [Act.put, List.setIfInBounds_toArray, List.set_cons_zero, List.set_cons_succ])
          refine ordV_call rfl rfl (fun K hK => ?_)
          have hTd := hTb.below HD hTl
          have o1 := hTd.cell 1
          have of1 := hTd.frozen 1
          simp at o1
          go_simp
          refine hK.out _ _ (hR0.set _ _) (fun _ h => by cases h) ?_
          iterate 1 (refine ordV_takeR (v := ?_) rfl rfl ?_ ?_; rotate_left 1; (focus (intro W hW; have hcW := hW.cell; (go_simp <;> (try with_reducible rfl)))); simp only [Act.put, List.setIfInBounds_toArray, List.set_cons_zero, List.set_cons_succ])
          refine ordV_call rfl rfl (fun K hK => ?_)
          have hTe := hTd.set_ 1 (.int .i64 (t0.dx + p.x - m.x))
          have o2 := hTe.cell 2
          have of2 := hTe.frozen 2
          simp at o2
          go_simp
          refine hK.out _ _ ((hR0.set _ _).set _ _) (fun _ h => by cases h) ?_
          iterate 1 (refine ordV_takeR (v := ?_) rfl rfl ?_ ?_; rotate_left 1; (focus (intro W hW; have hcW := hW.cell; (go_simp <;> (try with_reducible rfl)))); simp only [Act.put, List.setIfInBounds_toArray, List.set_cons_zero, List.set_cons_succ])
          refine ordV_call rfl rfl (fun K hK => ?_)
          have hTf := hTe.set_ 2 (.int .i64 (t0.dy + p.y - m.y))
          have o3 := hTf.cell 3
          have of3 := hTf.frozen 3
          simp at o3
          go_simp
          refine hK.out _ _ (((hR0.set _ _).set _ _).set _ _) (fun _ h => by cases h) ?_
          refine ordV_nil ?_
          have hTg := hTf.set_ 3 (.int .i64 (t0.n + 1))
          have hbg := (((hbr.trans (HD.mono (Nat.le_of_lt hTl))).setCell (p := ⟨gt, 1, none⟩) (Nat.le_refl _) (.int .i64 (t0.dx + p.x - m.x))).setCell (p := ⟨gt, 2, none⟩) (Nat.le_refl _) (.int .i64 (t0.dy + p.y - m.y))).setCell (p := ⟨gt, 3, none⟩) (Nat.le_refl _) (.int .i64 (t0.n + 1))
          obtain ⟨W9, hW9⟩ : ∃ W, ((Wd.setCell ⟨gt, 1, none⟩ (.int .i64 (t0.dx + p.x - m.x))).setCell ⟨gt, 2, none⟩ (.int .i64 (t0.dy + p.y - m.y))).setCell ⟨gt, 3, none⟩ (.int .i64 (t0.n + 1)) = W := ⟨_, rfl⟩
          rw [hW9] at hTg hbg ⊢
          simp only [List.setIfInBounds_toArray, List.set_cons_zero, List.set_cons_succ] at hTg
          clear hW9 hTd hTe hTf o1 of1 o2 of2 o3 of3 hR0 HD hcD hfD u1 u2 u3 c0 c1 r1 r2 cl
          have g0 := hTg.cell 0
          have g1 := hTg.cell 1
          have g2 := hTg.cell 2
          have g3 := hTg.cell 3
          have gf1 := hTg.frozen 1
          have gf2 := hTg.frozen 2
          have gf3 := hTg.frozen 3
          have gl := hTg.lt
          simp at g0 g1 g2 g3
          go_upto_if 79 with fail
          have HN2 : Hid (newT t0 m p = if t0.n + 1 = 64 then ⟨t0.key, (t0.dx + p.x - m.x).tdiv 2, (t0.dy + p.y - m.y).tdiv 2, 32⟩ else ⟨t0.key, t0.dx + p.x - m.x, t0.dy + p.y - m.y, t0.n + 1⟩) := by
            show newT t0 m p = _
            unfold newT halfT bumpT
            dsimp only
            rw [show t0.dx + (p.x - m.x) = t0.dx + p.x - m.x by omega, show t0.dy + (p.y - m.y) = t0.dy + p.y - m.y by omega]
          have HNk : Hid ((newT t0 m p).key = key) := by show _ = _; rw [newT_key]; exact HTK.out
          obtain ⟨t2, ht2⟩ : ∃ t, newT t0 m p = t := ⟨_, rfl⟩
          rw [ht2] at HN2 HNk HA
          go_cut [] (fun wx => Blk wx gt 82 #[.int .u8 t2.key, .int .i64 t2.dx, .int .i64 t2.dy, .int .i64 t2.n] ∧ Below gt W7 wx)
          case first =>
            clear ht2 HNk HA
            by_cases h64 : t0.n + 1 = 64
            · have e : (t0.n + 1 == 64) = true := by simpa using h64
              have HN3 : Hid (t2 = ⟨t0.key, (t0.dx + p.x - m.x).tdiv 2, (t0.dy + p.y - m.y).tdiv 2, 32⟩) := by show t2 = _; rw [HN2.out, if_pos h64]
              clear h64
              go_wp2_with fail
              go_meet
              refine ⟨?_, ((hbg.setCell (Nat.le_refl _) _).setCell (Nat.le_refl _) _).setCell (Nat.le_refl _) _⟩
              rw [HN3.out]
              have := ((hTg.set_ 1 (.int .i64 ((t0.dx + p.x - m.x).tdiv 2))).set_ 2 (.int .i64 ((t0.dy + p.y - m.y).tdiv 2))).set_ 3 (.int .i64 32)
              simpa using this
            · have e : (t0.n + 1 == 64) = false := by simpa using h64
              have HN3 : Hid (t2 = ⟨t0.key, t0.dx + p.x - m.x, t0.dy + p.y - m.y, t0.n + 1⟩) := by show t2 = _; rw [HN2.out, if_neg h64]
              clear h64
              go_wp2_with fail
              go_meet
              exact ⟨by rw [HN3.out]; exact hTg, hbg⟩
          case rest =>
            obtain ⟨WA, rfl⟩ : ∃ W, W = wc := ⟨wc, rfl⟩
            obtain ⟨hT, hbA⟩ := hcut
            have HA2 : Hid (adaptOf us ts key p = (putT ts key t2, 0)) := HA.out
            clear ht2 HN2 HA HTK hw1 hw2 hw3 hw4 hw5 hw6 hw7 hbx hby g0 g1 g2 g3 gf1 gf2 gf3 gl hTg hbg sx sy sn px py mx my hTb hbr hM y0 hlt hk yl hTl hb6r hbw hCr vf1 vf2 vf3
            have hOA : WA.ownsRow W6.heap.size 82 4 (.slice (some ⟨W6.heap.size, 0, none⟩) 0 0) 0 [] := own_keep hO7 (fun g hg _ => by simp [Value.ownBlock] at hg; subst hg; exact hbA.block _ h6t)
            have hb6A := hb67.trans (hbA.mono (Nat.le_of_lt h6t))
            have hvA : (Value.slice (some ⟨W6.heap.size, 0, none⟩) 0 0).ownBlock ≠ some gt := by simp [Value.ownBlock]; omega
            go_wp2_with fail
            go_loopw [12, 13, 15] (fun o dn i wr => ∃ k : Nat, k ≤ ts.length ∧ i = .int .i64 k ∧ dn = .bool (outT ts t2 key k).2 ∧ wr.ownsRow W6.heap.size 82 4 o (outT ts t2 key k).1.length ((outT ts t2 key k).1.flatMap encT) ∧ o.ownBlock ≠ some gt ∧ Blk wr gt 82 #[.int .u8 t2.key, .int .i64 t2.dx, .int .i64 t2.dy, .int .i64 t2.n] ∧ Below W6.heap.size W6 wr) (fun _ _ i _ => ts.length - (intOf i).toNat)
            case atStart => exact ⟨0, by omega, rfl, rfl, hOA, hvA, hT, hb6A⟩
            case round =>
              clear hT hbA hOA hb6A hvA
              obtain ⟨k, hk, rfl, rfl, hown, hvne, hT, hbr⟩ := hrel
              have hbw := bthen HBW6.out hbr
              have hM := hB16.below hbr hg1
              by_cases hlt : k < ts.length
              · obtain ⟨b, off, x, rfl, hbb, hxx, d0, d1, d2, d3⟩ := hy.tp hlt
                have hw6s := HBW6.out.size
                have hbb6 : b < W6.heap.size := by omega
                have HO := Lib.hid (outT_snoc (t := t2) (key := key) hxx)
                have hol := outT_len ts t2 key k
                have d0 := (hbw.cell (p := ⟨b, _, none⟩) hbb).trans d0
                have d1 := (hbw.cell (p := ⟨b, _, none⟩) hbb).trans d1
                have d2 := (hbw.cell (p := ⟨b, _, none⟩) hbb).trans d2
                have d3 := (hbw.cell (p := ⟨b, _, none⟩) hbb).trans d3
                have d0 := (hbw.cell (p := ⟨b, _, none⟩) hbb).symm.trans d0
                have d1 := (hbw.cell (p := ⟨b, _, none⟩) hbb).symm.trans d1
                have d2 := (hbw.cell (p := ⟨b, _, none⟩) hbb).symm.trans d2
                have d3 := (hbw.cell (p := ⟨b, _, none⟩) hbb).symm.trans d3
                clear hxx
                generalize outT ts t2 key k = o at *
                obtain ⟨ol, od⟩ := o
                dsimp only at hown hol ⊢
                have y0 := hM.cell 0
                have yl := hM.lt
                have tl := hT.lt
                simp at y0
                have E0 := (hbw.cell (p := ⟨b, _, none⟩) hbb).trans d0
                have E1 := (hbw.cell (p := ⟨b, _, none⟩) hbb).trans d1
                have E2 := (hbw.cell (p := ⟨b, _, none⟩) hbb).trans d2
                have E3 := (hbw.cell (p := ⟨b, _, none⟩) hbb).trans d3
                have bR := Nat.lt_of_lt_of_le hbb hbw.size
                have hrel_ : x.key < key ∨ x.key = key ∨ key < x.key := by omega
                rcases hrel_ with hrel_ | hrel_ | hrel_
                · have e1 : decide (key ≤ x.key) = false := by simp; omega
                  have e2 : (x.key == key) = false := by simp; omega
                  have e3 : (x.key != key) = true := by simp; omega
                  cases od
                  · -- smaller, not placed
                    have HS := Lib.hid (step_lt (t := t2) (o := ol) (d := false) hrel_)
                    clear hrel_
                    go_wp2_with fail
                    refine ordB_below (.quiet 0 (.quiet 1 (.quiet 2 (.quiet 3 (.quiet 4 (.quiet 5 (.quiet 6 (.quiet 7 (.quiet 8 (.quiet 9 (.quiet 10 (.quiet 11 .done)))))))))))) (by kernel_rfl) (by kernel_rfl) (by kernel_rfl) (fun _ _ _ _ _ h => h) ?_
                    intro V0 hV0
                    iterate 12 (first
                      | (refine ordB_skip rfl rfl ?_; simp only [Act.put, List.setIfInBounds_toArray, List.set_cons_zero, List.set_cons_succ])
                      | (refine ordB_take (v := ?_) rfl rfl ?_ ?_
                         rotate_left 1
                         focus (intro W hW; obtain ⟨hcW, hfW⟩ := bcell hW; (go_simp <;> with_reducible rfl))
                         simp only [Act.put, List.setIfInBounds_toArray, List.set_cons_zero, List.set_cons_succ]))
                    refine ordB_nil ?_
                    have hbV := hbr.trans (hV0.mono hbr.size)
                    have hOV := own_below hown hV0
                    have HOV := Lib.hid hOV
                    have hTV := hT.below hV0 hT.lt
                    have HTV := Lib.hid hTV
                    have hMV := hM.below hV0 hM.lt
                    have hbwV := bthen hbw hV0
                    have t0' := hTV.cell 0
                    have t1' := hTV.cell 1
                    have t2' := hTV.cell 2
                    have t3' := hTV.cell 3
                    have k0' := hMV.cell 0
                    have tl' := hTV.lt
                    have ml' := hMV.lt
                    simp at t0' t1' t2' t3' k0'
                    have X0 := (hbwV.cell (p := ⟨b, _, none⟩) hbb).trans d0
                    have X1 := (hbwV.cell (p := ⟨b, _, none⟩) hbb).trans d1
                    have X2 := (hbwV.cell (p := ⟨b, _, none⟩) hbb).trans d2
                    have X3 := (hbwV.cell (p := ⟨b, _, none⟩) hbb).trans d3
                    have hbbV := Nat.lt_of_lt_of_le hbb hbwV.size
                    have hV6 := hbV.size
                    clear hOV hTV
                    generalize V0 = V at *
                    go_wp2_with fail
                    refine ordB_below (.quiet 0 (.quiet 1 (.quiet 2 (.quiet 3 (.quiet 4 (.quiet 5 (.quiet 6 (.quiet 7 .done)))))))) (by kernel_rfl) (by kernel_rfl) (by kernel_rfl) (fun _ _ _ _ _ h => h) ?_
                    intro Y0 hY0
                    iterate 8 (first
                      | (refine ordB_skip rfl rfl ?_; simp only [Act.put, List.setIfInBounds_toArray, List.set_cons_zero, List.set_cons_succ])
                      | (refine ordB_take (v := ?_) rfl rfl ?_ ?_
                         rotate_left 1
                         focus (intro W hW; obtain ⟨hcW, hfW⟩ := bcell hW; (go_simp <;> with_reducible rfl))
                         simp only [Act.put, List.setIfInBounds_toArray, List.set_cons_zero, List.set_cons_succ]))
                    refine ordB_nil ?_
                    have hbY := hbV.trans (hY0.mono hbV.size)
                    have HOY := Lib.hid (own_below HOV.out hY0)
                    have HTY := Lib.hid (HTV.out.below hY0 HTV.out.lt)
                    have hMY := hMV.below hY0 hMV.lt
                    have x0 := (hY0.cell (p := ⟨b, _, none⟩) hbbV).trans X0
                    have x1 := (hY0.cell (p := ⟨b, _, none⟩) hbbV).trans X1
                    have x2 := (hY0.cell (p := ⟨b, _, none⟩) hbbV).trans X2
                    have x3 := (hY0.cell (p := ⟨b, _, none⟩) hbbV).trans X3
                    have bY := Nat.lt_of_lt_of_le hbbV hY0.size
                    have hY6 := hbY.size
                    generalize Y0 = Y at *
                    go_wp2_with (first | (at_builtin; go_loud (refine wpList_app1 rfl _ _ 33 rfl W6.heap.size 82 i0 _ 4 32 Try.underlying33 hi hz0 hz1 hz2 rfl (by decide) u12 _ _ rfl _ [.int .u8 x.key, .int .i64 x.dx, .int .i64 x.dy, .int .i64 x.n] rfl HOY.out _ rfl (by simp) rfl (by simp [Value.oneCell']) (by first | omega | (simp; omega)) (by decide) (by omega) ?_; intro v5 w5 hown5 hb5 ha5; have ho5 : w5.ownsRow W6.heap.size 82 4 v5 (ol ++ [x]).length ((ol ++ [x]).flatMap encT) := (by rw [List.length_append, enc_snoc]; exact hown5); clear hown5; have HO5 := Lib.hid ho5; clear ho5; have hT5 := HTY.out.apps ha5 hvne; have hne5 := ha5.ne HTY.out.lt hvne; have hM5 := hMY.below hb5 hg1; have HT5 := Lib.hid hT5; have hB5 := hbY.trans hb5; have hW5 := hB5.size; have hl5 := hT5.lt; have hm5 := hM5.lt; have k5 := hM5.cell 0; simp at k5; clear hT5 ha5)))
                    go_roundw
                    case rel => exact ⟨k + 1, by omega, by go_num, by rw [HO.out, HS.out], (by rw [HO.out, HS.out]; exact HO5.out), hne5, HT5.out, hB5⟩
                    case measure => simp [intOf]; omega
                  · -- smaller, placed
                    have HS := Lib.hid (step_lt (t := t2) (o := ol) (d := true) hrel_)
                    clear hrel_
                    go_wp2_with fail
                    refine ordB_below (.quiet 0 (.quiet 1 (.quiet 2 (.quiet 3 (.quiet 4 (.quiet 5 (.quiet 6 (.quiet 7 (.quiet 8 (.quiet 9 (.quiet 10 (.quiet 11 .done)))))))))))) (by kernel_rfl) (by kernel_rfl) (by kernel_rfl) (fun _ _ _ _ _ h => h) ?_
                    intro V0 hV0
                    iterate 12 (first
                      | (refine ordB_skip rfl rfl ?_; simp only [Act.put, List.setIfInBounds_toArray, List.set_cons_zero, List.set_cons_succ])
                      | (refine ordB_take (v := ?_) rfl rfl ?_ ?_
                         rotate_left 1
                         focus (intro W hW; obtain ⟨hcW, hfW⟩ := bcell hW; (go_simp <;> with_reducible rfl))
                         simp only [Act.put, List.setIfInBounds_toArray, List.set_cons_zero, List.set_cons_succ]))
                    refine ordB_nil ?_
                    have hbV := hbr.trans (hV0.mono hbr.size)
                    have hOV := own_below hown hV0
                    have HOV := Lib.hid hOV
                    have hTV := hT.below hV0 hT.lt
                    have HTV := Lib.hid hTV
                    have hMV := hM.below hV0 hM.lt
                    have hbwV := bthen hbw hV0
                    have t0' := hTV.cell 0
                    have t1' := hTV.cell 1
                    have t2' := hTV.cell 2
                    have t3' := hTV.cell 3
                    have k0' := hMV.cell 0
                    have tl' := hTV.lt
                    have ml' := hMV.lt
                    simp at t0' t1' t2' t3' k0'
                    have X0 := (hbwV.cell (p := ⟨b, _, none⟩) hbb).trans d0
                    have X1 := (hbwV.cell (p := ⟨b, _, none⟩) hbb).trans d1
                    have X2 := (hbwV.cell (p := ⟨b, _, none⟩) hbb).trans d2
                    have X3 := (hbwV.cell (p := ⟨b, _, none⟩) hbb).trans d3
                    have hbbV := Nat.lt_of_lt_of_le hbb hbwV.size
                    have hV6 := hbV.size
                    clear hOV hTV
                    generalize V0 = V at *
                    go_wp2_with fail
                    refine ordB_below (.quiet 0 (.quiet 1 (.quiet 2 (.quiet 3 (.quiet 4 (.quiet 5 (.quiet 6 (.quiet 7 .done)))))))) (by kernel_rfl) (by kernel_rfl) (by kernel_rfl) (fun _ _ _ _ _ h => h) ?_
                    intro Y0 hY0
                    iterate 8 (first
                      | (refine ordB_skip rfl rfl ?_; simp only [Act.put, List.setIfInBounds_toArray, List.set_cons_zero, List.set_cons_succ])
                      | (refine ordB_take (v := ?_) rfl rfl ?_ ?_
                         rotate_left 1
                         focus (intro W hW; obtain ⟨hcW, hfW⟩ := bcell hW; (go_simp <;> with_reducible rfl))
                         simp only [Act.put, List.setIfInBounds_toArray, List.set_cons_zero, List.set_cons_succ]))
                    refine ordB_nil ?_
                    have hbY := hbV.trans (hY0.mono hbV.size)
                    have HOY := Lib.hid (own_below HOV.out hY0)
                    have HTY := Lib.hid (HTV.out.below hY0 HTV.out.lt)
                    have hMY := hMV.below hY0 hMV.lt
                    have x0 := (hY0.cell (p := ⟨b, _, none⟩) hbbV).trans X0
                    have x1 := (hY0.cell (p := ⟨b, _, none⟩) hbbV).trans X1
                    have x2 := (hY0.cell (p := ⟨b, _, none⟩) hbbV).trans X2
                    have x3 := (hY0.cell (p := ⟨b, _, none⟩) hbbV).trans X3
                    have bY := Nat.lt_of_lt_of_le hbbV hY0.size
                    have hY6 := hbY.size
                    generalize Y0 = Y at *
                    go_wp2_with (first | (at_builtin; go_loud (refine wpList_app1 rfl _ _ 33 rfl W6.heap.size 82 i0 _ 4 32 Try.underlying33 hi hz0 hz1 hz2 rfl (by decide) u12 _ _ rfl _ [.int .u8 x.key, .int .i64 x.dx, .int .i64 x.dy, .int .i64 x.n] rfl HOY.out _ rfl (by simp) rfl (by simp [Value.oneCell']) (by first | omega | (simp; omega)) (by decide) (by omega) ?_; intro v5 w5 hown5 hb5 ha5; have ho5 : w5.ownsRow W6.heap.size 82 4 v5 (ol ++ [x]).length ((ol ++ [x]).flatMap encT) := (by rw [List.length_append, enc_snoc]; exact hown5); clear hown5; have HO5 := Lib.hid ho5; clear ho5; have hT5 := HTY.out.apps ha5 hvne; have hne5 := ha5.ne HTY.out.lt hvne; have hM5 := hMY.below hb5 hg1; have HT5 := Lib.hid hT5; have hB5 := hbY.trans hb5; have hW5 := hB5.size; have hl5 := hT5.lt; have hm5 := hM5.lt; have k5 := hM5.cell 0; simp at k5; clear hT5 ha5)))
                    go_roundw
                    case rel => exact ⟨k + 1, by omega, by go_num, by rw [HO.out, HS.out], (by rw [HO.out, HS.out]; exact HO5.out), hne5, HT5.out, hB5⟩
                    case measure => simp [intOf]; omega
                · have e1 : decide (key ≤ x.key) = true := by simp; omega
                  have e2 : (x.key == key) = true := by simp; omega
                  have e3 : (x.key != key) = false := by simp; omega
                  cases od
                  · -- the key, not placed
                    have HS := Lib.hid (step_eq_f (t := t2) (o := ol) hrel_)
                    clear hrel_
                    go_wp2_with fail
                    refine ordB_below (.quiet 0 (.quiet 1 (.quiet 2 (.quiet 3 (.quiet 4 (.quiet 5 (.quiet 6 (.quiet 7 (.quiet 8 (.quiet 9 (.quiet 10 (.quiet 11 .done)))))))))))) (by kernel_rfl) (by kernel_rfl) (by kernel_rfl) (fun _ _ _ _ _ h => h) ?_
                    intro V0 hV0
                    iterate 12 (first
                      | (refine ordB_skip rfl rfl ?_; simp only [Act.put, List.setIfInBounds_toArray, List.set_cons_zero, List.set_cons_succ])
                      | (refine ordB_take (v := ?_) rfl rfl ?_ ?_
                         rotate_left 1
                         focus (intro W hW; obtain ⟨hcW, hfW⟩ := bcell hW; (go_simp <;> with_reducible rfl))
                         simp only [Act.put, List.setIfInBounds_toArray, List.set_cons_zero, List.set_cons_succ]))
                    refine ordB_nil ?_
                    have hbV := hbr.trans (hV0.mono hbr.size)
                    have hOV := own_below hown hV0
                    have HOV := Lib.hid hOV
                    have hTV := hT.below hV0 hT.lt
                    have HTV := Lib.hid hTV
                    have hMV := hM.below hV0 hM.lt
                    have hbwV := bthen hbw hV0
                    have t0' := hTV.cell 0
                    have t1' := hTV.cell 1
                    have t2' := hTV.cell 2
                    have t3' := hTV.cell 3
                    have k0' := hMV.cell 0
                    have tl' := hTV.lt
                    have ml' := hMV.lt
                    simp at t0' t1' t2' t3' k0'
                    have X0 := (hbwV.cell (p := ⟨b, _, none⟩) hbb).trans d0
                    have X1 := (hbwV.cell (p := ⟨b, _, none⟩) hbb).trans d1
                    have X2 := (hbwV.cell (p := ⟨b, _, none⟩) hbb).trans d2
                    have X3 := (hbwV.cell (p := ⟨b, _, none⟩) hbb).trans d3
                    have hbbV := Nat.lt_of_lt_of_le hbb hbwV.size
                    have hV6 := hbV.size
                    clear hOV hTV
                    generalize V0 = V at *
                    go_wp2_with (first | (at_builtin; go_loud (refine wpList_app1 rfl _ _ 33 rfl W6.heap.size 82 i0 _ 4 32 Try.underlying33 hi hz0 hz1 hz2 rfl (by decide) u12 _ _ rfl _ [.int .u8 t2.key, .int .i64 t2.dx, .int .i64 t2.dy, .int .i64 t2.n] rfl HOV.out _ rfl (by simp) rfl (by simp [Value.oneCell']) (by first | omega | (simp; omega)) (by decide) (by omega) ?_; intro v4 w4 hown4 hb4 ha4; have ho4 : w4.ownsRow W6.heap.size 82 4 v4 (ol ++ [t2]).length ((ol ++ [t2]).flatMap encT) := (by rw [List.length_append, enc_snoc]; exact hown4); clear hown4; have HO4 := Lib.hid ho4; clear ho4; have hT4 := HTV.out.apps ha4 hvne; have hne4 := ha4.ne HTV.out.lt hvne; have hM4 := hMV.below hb4 hg1; have HT4 := Lib.hid hT4; have hB4 := hbV.trans hb4; have hW4 := hB4.size; have hl4 := hT4.lt; have hm4 := hM4.lt; have k4 := hM4.cell 0; simp at k4; clear hT4 ha4)))
                    have X0 := (hb4.cell (p := ⟨b, _, none⟩) hbb6).trans X0
                    have X1 := (hb4.cell (p := ⟨b, _, none⟩) hbb6).trans X1
                    have X2 := (hb4.cell (p := ⟨b, _, none⟩) hbb6).trans X2
                    have X3 := (hb4.cell (p := ⟨b, _, none⟩) hbb6).trans X3
                    have hbbV := Nat.lt_of_lt_of_le hbb6 hW4
                    refine ordB_below (.quiet 0 (.quiet 1 (.quiet 2 (.quiet 3 (.quiet 4 (.quiet 5 (.quiet 6 (.quiet 7 .done)))))))) (by kernel_rfl) (by kernel_rfl) (by kernel_rfl) (fun _ _ _ _ _ h => h) ?_
                    intro Y0 hY0
                    iterate 8 (first
                      | (refine ordB_skip rfl rfl ?_; simp only [Act.put, List.setIfInBounds_toArray, List.set_cons_zero, List.set_cons_succ])
                      | (refine ordB_take (v := ?_) rfl rfl ?_ ?_
                         rotate_left 1
                         focus (intro W hW; obtain ⟨hcW, hfW⟩ := bcell hW; (go_simp <;> with_reducible rfl))
                         simp only [Act.put, List.setIfInBounds_toArray, List.set_cons_zero, List.set_cons_succ]))
                    refine ordB_nil ?_
                    have hbY := hB4.trans (hY0.mono hB4.size)
                    have HOY := Lib.hid (own_below HO4.out hY0)
                    have HTY := Lib.hid (HT4.out.below hY0 HT4.out.lt)
                    have hMY := hM4.below hY0 hM4.lt
                    have x0 := (hY0.cell (p := ⟨b, _, none⟩) hbbV).trans X0
                    have x1 := (hY0.cell (p := ⟨b, _, none⟩) hbbV).trans X1
                    have x2 := (hY0.cell (p := ⟨b, _, none⟩) hbbV).trans X2
                    have x3 := (hY0.cell (p := ⟨b, _, none⟩) hbbV).trans X3
                    have bY := Nat.lt_of_lt_of_le hbbV hY0.size
                    have hY6 := hbY.size
                    generalize Y0 = Y at *
                    go_wp2_with fail
                    go_roundw
                    case rel => exact ⟨k + 1, by omega, by go_num, by rw [HO.out, HS.out], (by rw [HO.out, HS.out]; exact HOY.out), hne4, HTY.out, hbY⟩
                    case measure => simp [intOf]; omega
                  · -- the key, placed
                    have HS := Lib.hid (step_eq_t (t := t2) (o := ol) hrel_)
                    clear hrel_
                    go_wp2_with fail
                    refine ordB_below (.quiet 0 (.quiet 1 (.quiet 2 (.quiet 3 (.quiet 4 (.quiet 5 (.quiet 6 (.quiet 7 (.quiet 8 (.quiet 9 (.quiet 10 (.quiet 11 .done)))))))))))) (by kernel_rfl) (by kernel_rfl) (by kernel_rfl) (fun _ _ _ _ _ h => h) ?_
                    intro V0 hV0
                    iterate 12 (first
                      | (refine ordB_skip rfl rfl ?_; simp only [Act.put, List.setIfInBounds_toArray, List.set_cons_zero, List.set_cons_succ])
                      | (refine ordB_take (v := ?_) rfl rfl ?_ ?_
                         rotate_left 1
                         focus (intro W hW; obtain ⟨hcW, hfW⟩ := bcell hW; (go_simp <;> with_reducible rfl))
                         simp only [Act.put, List.setIfInBounds_toArray, List.set_cons_zero, List.set_cons_succ]))
                    refine ordB_nil ?_
                    have hbV := hbr.trans (hV0.mono hbr.size)
                    have hOV := own_below hown hV0
                    have HOV := Lib.hid hOV
                    have hTV := hT.below hV0 hT.lt
                    have HTV := Lib.hid hTV
                    have hMV := hM.below hV0 hM.lt
                    have hbwV := bthen hbw hV0
                    have t0' := hTV.cell 0
                    have t1' := hTV.cell 1
                    have t2' := hTV.cell 2
                    have t3' := hTV.cell 3
                    have k0' := hMV.cell 0
                    have tl' := hTV.lt
                    have ml' := hMV.lt
                    simp at t0' t1' t2' t3' k0'
                    have X0 := (hbwV.cell (p := ⟨b, _, none⟩) hbb).trans d0
                    have X1 := (hbwV.cell (p := ⟨b, _, none⟩) hbb).trans d1
                    have X2 := (hbwV.cell (p := ⟨b, _, none⟩) hbb).trans d2
                    have X3 := (hbwV.cell (p := ⟨b, _, none⟩) hbb).trans d3
                    have hbbV := Nat.lt_of_lt_of_le hbb hbwV.size
                    have hV6 := hbV.size
                    clear hOV hTV
                    generalize V0 = V at *
                    go_wp2_with fail
                    refine ordB_below (.quiet 0 (.quiet 1 (.quiet 2 (.quiet 3 (.quiet 4 (.quiet 5 (.quiet 6 (.quiet 7 .done)))))))) (by kernel_rfl) (by kernel_rfl) (by kernel_rfl) (fun _ _ _ _ _ h => h) ?_
                    intro Y0 hY0
                    iterate 8 (first
                      | (refine ordB_skip rfl rfl ?_; simp only [Act.put, List.setIfInBounds_toArray, List.set_cons_zero, List.set_cons_succ])
                      | (refine ordB_take (v := ?_) rfl rfl ?_ ?_
                         rotate_left 1
                         focus (intro W hW; obtain ⟨hcW, hfW⟩ := bcell hW; (go_simp <;> with_reducible rfl))
                         simp only [Act.put, List.setIfInBounds_toArray, List.set_cons_zero, List.set_cons_succ]))
                    refine ordB_nil ?_
                    have hbY := hbV.trans (hY0.mono hbV.size)
                    have HOY := Lib.hid (own_below HOV.out hY0)
                    have HTY := Lib.hid (HTV.out.below hY0 HTV.out.lt)
                    have hMY := hMV.below hY0 hMV.lt
                    have x0 := (hY0.cell (p := ⟨b, _, none⟩) hbbV).trans X0
                    have x1 := (hY0.cell (p := ⟨b, _, none⟩) hbbV).trans X1
                    have x2 := (hY0.cell (p := ⟨b, _, none⟩) hbbV).trans X2
                    have x3 := (hY0.cell (p := ⟨b, _, none⟩) hbbV).trans X3
                    have bY := Nat.lt_of_lt_of_le hbbV hY0.size
                    have hY6 := hbY.size
                    generalize Y0 = Y at *
                    go_wp2_with fail
                    go_roundw
                    case rel => exact ⟨k + 1, by omega, by go_num, by rw [HO.out, HS.out], (by rw [HO.out, HS.out]; exact HOY.out), hvne, HTY.out, hbY⟩
                    case measure => simp [intOf]; omega
                · have e1 : decide (key ≤ x.key) = true := by simp; omega
                  have e2 : (x.key == key) = false := by simp; omega
                  have e3 : (x.key != key) = true := by simp; omega
                  cases od
                  · -- greater, not placed
                    have HS := Lib.hid (step_gt_f (t := t2) (o := ol) hrel_)
                    clear hrel_
                    go_wp2_with fail
                    refine ordB_below (.quiet 0 (.quiet 1 (.quiet 2 (.quiet 3 (.quiet 4 (.quiet 5 (.quiet 6 (.quiet 7 (.quiet 8 (.quiet 9 (.quiet 10 (.quiet 11 .done)))))))))))) (by kernel_rfl) (by kernel_rfl) (by kernel_rfl) (fun _ _ _ _ _ h => h) ?_
                    intro V0 hV0
                    iterate 12 (first
                      | (refine ordB_skip rfl rfl ?_; simp only [Act.put, List.setIfInBounds_toArray, List.set_cons_zero, List.set_cons_succ])
                      | (refine ordB_take (v := ?_) rfl rfl ?_ ?_
                         rotate_left 1
                         focus (intro W hW; obtain ⟨hcW, hfW⟩ := bcell hW; (go_simp <;> with_reducible rfl))
                         simp only [Act.put, List.setIfInBounds_toArray, List.set_cons_zero, List.set_cons_succ]))
                    refine ordB_nil ?_
                    have hbV := hbr.trans (hV0.mono hbr.size)
                    have hOV := own_below hown hV0
                    have HOV := Lib.hid hOV
                    have hTV := hT.below hV0 hT.lt
                    have HTV := Lib.hid hTV
                    have hMV := hM.below hV0 hM.lt
                    have hbwV := bthen hbw hV0
                    have t0' := hTV.cell 0
                    have t1' := hTV.cell 1
                    have t2' := hTV.cell 2
                    have t3' := hTV.cell 3
                    have k0' := hMV.cell 0
                    have tl' := hTV.lt
                    have ml' := hMV.lt
                    simp at t0' t1' t2' t3' k0'
                    have X0 := (hbwV.cell (p := ⟨b, _, none⟩) hbb).trans d0
                    have X1 := (hbwV.cell (p := ⟨b, _, none⟩) hbb).trans d1
                    have X2 := (hbwV.cell (p := ⟨b, _, none⟩) hbb).trans d2
                    have X3 := (hbwV.cell (p := ⟨b, _, none⟩) hbb).trans d3
                    have hbbV := Nat.lt_of_lt_of_le hbb hbwV.size
                    have hV6 := hbV.size
                    clear hOV hTV
                    generalize V0 = V at *
                    go_wp2_with (first | (at_builtin; go_loud (refine wpList_app1 rfl _ _ 33 rfl W6.heap.size 82 i0 _ 4 32 Try.underlying33 hi hz0 hz1 hz2 rfl (by decide) u12 _ _ rfl _ [.int .u8 t2.key, .int .i64 t2.dx, .int .i64 t2.dy, .int .i64 t2.n] rfl HOV.out _ rfl (by simp) rfl (by simp [Value.oneCell']) (by first | omega | (simp; omega)) (by decide) (by omega) ?_; intro v4 w4 hown4 hb4 ha4; have ho4 : w4.ownsRow W6.heap.size 82 4 v4 (ol ++ [t2]).length ((ol ++ [t2]).flatMap encT) := (by rw [List.length_append, enc_snoc]; exact hown4); clear hown4; have HO4 := Lib.hid ho4; clear ho4; have hT4 := HTV.out.apps ha4 hvne; have hne4 := ha4.ne HTV.out.lt hvne; have hM4 := hMV.below hb4 hg1; have HT4 := Lib.hid hT4; have hB4 := hbV.trans hb4; have hW4 := hB4.size; have hl4 := hT4.lt; have hm4 := hM4.lt; have k4 := hM4.cell 0; simp at k4; clear hT4 ha4)))
                    have X0 := (hb4.cell (p := ⟨b, _, none⟩) hbb6).trans X0
                    have X1 := (hb4.cell (p := ⟨b, _, none⟩) hbb6).trans X1
                    have X2 := (hb4.cell (p := ⟨b, _, none⟩) hbb6).trans X2
                    have X3 := (hb4.cell (p := ⟨b, _, none⟩) hbb6).trans X3
                    have hbbV := Nat.lt_of_lt_of_le hbb6 hW4
                    refine ordB_below (.quiet 0 (.quiet 1 (.quiet 2 (.quiet 3 (.quiet 4 (.quiet 5 (.quiet 6 (.quiet 7 .done)))))))) (by kernel_rfl) (by kernel_rfl) (by kernel_rfl) (fun _ _ _ _ _ h => h) ?_
                    intro Y0 hY0
                    iterate 8 (first
                      | (refine ordB_skip rfl rfl ?_; simp only [Act.put, List.setIfInBounds_toArray, List.set_cons_zero, List.set_cons_succ])
                      | (refine ordB_take (v := ?_) rfl rfl ?_ ?_
                         rotate_left 1
                         focus (intro W hW; obtain ⟨hcW, hfW⟩ := bcell hW; (go_simp <;> with_reducible rfl))
                         simp only [Act.put, List.setIfInBounds_toArray, List.set_cons_zero, List.set_cons_succ]))
                    refine ordB_nil ?_
                    have hbY := hB4.trans (hY0.mono hB4.size)
                    have HOY := Lib.hid (own_below HO4.out hY0)
                    have HTY := Lib.hid (HT4.out.below hY0 HT4.out.lt)
                    have hMY := hM4.below hY0 hM4.lt
                    have x0 := (hY0.cell (p := ⟨b, _, none⟩) hbbV).trans X0
                    have x1 := (hY0.cell (p := ⟨b, _, none⟩) hbbV).trans X1
                    have x2 := (hY0.cell (p := ⟨b, _, none⟩) hbbV).trans X2
                    have x3 := (hY0.cell (p := ⟨b, _, none⟩) hbbV).trans X3
                    have bY := Nat.lt_of_lt_of_le hbbV hY0.size
                    have hY6 := hbY.size
                    generalize Y0 = Y at *
                    go_wp2_with (first | (at_builtin; go_loud (refine wpList_app1 rfl _ _ 33 rfl W6.heap.size 82 i0 _ 4 32 Try.underlying33 hi hz0 hz1 hz2 rfl (by decide) v4 _ _ rfl _ [.int .u8 x.key, .int .i64 x.dx, .int .i64 x.dy, .int .i64 x.n] rfl HOY.out _ rfl (by simp) rfl (by simp [Value.oneCell']) (by first | omega | (simp; omega)) (by decide) (by omega) ?_; intro v5 w5 hown5 hb5 ha5; have ho5 : w5.ownsRow W6.heap.size 82 4 v5 (ol ++ [t2] ++ [x]).length ((ol ++ [t2] ++ [x]).flatMap encT) := (by rw [List.length_append, enc_snoc]; exact hown5); clear hown5; have HO5 := Lib.hid ho5; clear ho5; have hT5 := HTY.out.apps ha5 hne4; have hne5 := ha5.ne HTY.out.lt hne4; have hM5 := hMY.below hb5 hg1; have HT5 := Lib.hid hT5; have hB5 := hbY.trans hb5; have hW5 := hB5.size; have hl5 := hT5.lt; have hm5 := hM5.lt; have k5 := hM5.cell 0; simp at k5; clear hT5 ha5)))
                    go_roundw
                    case rel => exact ⟨k + 1, by omega, by go_num, by rw [HO.out, HS.out], (by rw [HO.out, HS.out]; exact HO5.out), hne5, HT5.out, hB5⟩
                    case measure => simp [intOf]; omega
                  · -- greater, placed
                    have HS := Lib.hid (step_gt_t (t := t2) (o := ol) hrel_)
                    clear hrel_
                    go_wp2_with fail
                    refine ordB_below (.quiet 0 (.quiet 1 (.quiet 2 (.quiet 3 (.quiet 4 (.quiet 5 (.quiet 6 (.quiet 7 (.quiet 8 (.quiet 9 (.quiet 10 (.quiet 11 .done)))))))))))) (by kernel_rfl) (by kernel_rfl) (by kernel_rfl) (fun _ _ _ _ _ h => h) ?_
                    intro V0 hV0
                    iterate 12 (first
                      | (refine ordB_skip rfl rfl ?_; simp only [Act.put, List.setIfInBounds_toArray, List.set_cons_zero, List.set_cons_succ])
                      | (refine ordB_take (v := ?_) rfl rfl ?_ ?_
                         rotate_left 1
                         focus (intro W hW; obtain ⟨hcW, hfW⟩ := bcell hW; (go_simp <;> with_reducible rfl))
                         simp only [Act.put, List.setIfInBounds_toArray, List.set_cons_zero, List.set_cons_succ]))
                    refine ordB_nil ?_
                    have hbV := hbr.trans (hV0.mono hbr.size)
                    have hOV := own_below hown hV0
                    have HOV := Lib.hid hOV
                    have hTV := hT.below hV0 hT.lt
                    have HTV := Lib.hid hTV
                    have hMV := hM.below hV0 hM.lt
                    have hbwV := bthen hbw hV0
                    have t0' := hTV.cell 0
                    have t1' := hTV.cell 1
                    have t2' := hTV.cell 2
                    have t3' := hTV.cell 3
                    have k0' := hMV.cell 0
                    have tl' := hTV.lt
                    have ml' := hMV.lt
                    simp at t0' t1' t2' t3' k0'
                    have X0 := (hbwV.cell (p := ⟨b, _, none⟩) hbb).trans d0
                    have X1 := (hbwV.cell (p := ⟨b, _, none⟩) hbb).trans d1
                    have X2 := (hbwV.cell (p := ⟨b, _, none⟩) hbb).trans d2
                    have X3 := (hbwV.cell (p := ⟨b, _, none⟩) hbb).trans d3
                    have hbbV := Nat.lt_of_lt_of_le hbb hbwV.size
                    have hV6 := hbV.size
                    clear hOV hTV
                    generalize V0 = V at *
                    go_wp2_with fail
                    refine ordB_below (.quiet 0 (.quiet 1 (.quiet 2 (.quiet 3 (.quiet 4 (.quiet 5 (.quiet 6 (.quiet 7 .done)))))))) (by kernel_rfl) (by kernel_rfl) (by kernel_rfl) (fun _ _ _ _ _ h => h) ?_
                    intro Y0 hY0
                    iterate 8 (first
                      | (refine ordB_skip rfl rfl ?_; simp only [Act.put, List.setIfInBounds_toArray, List.set_cons_zero, List.set_cons_succ])
                      | (refine ordB_take (v := ?_) rfl rfl ?_ ?_
                         rotate_left 1
                         focus (intro W hW; obtain ⟨hcW, hfW⟩ := bcell hW; (go_simp <;> with_reducible rfl))
                         simp only [Act.put, List.setIfInBounds_toArray, List.set_cons_zero, List.set_cons_succ]))
                    refine ordB_nil ?_
                    have hbY := hbV.trans (hY0.mono hbV.size)
                    have HOY := Lib.hid (own_below HOV.out hY0)
                    have HTY := Lib.hid (HTV.out.below hY0 HTV.out.lt)
                    have hMY := hMV.below hY0 hMV.lt
                    have x0 := (hY0.cell (p := ⟨b, _, none⟩) hbbV).trans X0
                    have x1 := (hY0.cell (p := ⟨b, _, none⟩) hbbV).trans X1
                    have x2 := (hY0.cell (p := ⟨b, _, none⟩) hbbV).trans X2
                    have x3 := (hY0.cell (p := ⟨b, _, none⟩) hbbV).trans X3
                    have bY := Nat.lt_of_lt_of_le hbbV hY0.size
                    have hY6 := hbY.size
                    generalize Y0 = Y at *
                    go_wp2_with (first | (at_builtin; go_loud (refine wpList_app1 rfl _ _ 33 rfl W6.heap.size 82 i0 _ 4 32 Try.underlying33 hi hz0 hz1 hz2 rfl (by decide) u12 _ _ rfl _ [.int .u8 x.key, .int .i64 x.dx, .int .i64 x.dy, .int .i64 x.n] rfl HOY.out _ rfl (by simp) rfl (by simp [Value.oneCell']) (by first | omega | (simp; omega)) (by decide) (by omega) ?_; intro v5 w5 hown5 hb5 ha5; have ho5 : w5.ownsRow W6.heap.size 82 4 v5 (ol ++ [x]).length ((ol ++ [x]).flatMap encT) := (by rw [List.length_append, enc_snoc]; exact hown5); clear hown5; have HO5 := Lib.hid ho5; clear ho5; have hT5 := HTY.out.apps ha5 hvne; have hne5 := ha5.ne HTY.out.lt hvne; have hM5 := hMY.below hb5 hg1; have HT5 := Lib.hid hT5; have hB5 := hbY.trans hb5; have hW5 := hB5.size; have hl5 := hT5.lt; have hm5 := hM5.lt; have k5 := hM5.cell 0; simp at k5; clear hT5 ha5)))
                    go_roundw
                    case rel => exact ⟨k + 1, by omega, by go_num, by rw [HO.out, HS.out], (by rw [HO.out, HS.out]; exact HO5.out), hne5, HT5.out, hB5⟩
                    case measure => simp [intOf]; omega
              · obtain rfl : k = ts.length := by omega
                have hol := outT_len ts t2 key ts.length
                have HOA := Lib.hid (outT_all (t := t2) (key := key) hinc)
                have tl := hT.lt
                have q0 := hT.cell 0
                have q1 := hT.cell 1
                have q2 := hT.cell 2
                have q3 := hT.cell 3
                simp at q0 q1 q2 q3
                generalize outT ts t2 key ts.length = o at *
                obtain ⟨ol, od⟩ := o
                dsimp only at hown hol ⊢
                have HOV := Lib.hid hown
                have HTV := Lib.hid hT
                have hV6 := hbr.size
                have hbV := hbr
                clear hown hT hlt
                cases od
                · go_wp2_with (first | (at_builtin; go_loud (refine wpList_app1 rfl _ _ 33 rfl W6.heap.size 82 i0 _ 4 32 Try.underlying33 hi hz0 hz1 hz2 rfl (by decide) u12 _ _ rfl _ [.int .u8 t2.key, .int .i64 t2.dx, .int .i64 t2.dy, .int .i64 t2.n] rfl HOV.out _ rfl (by simp) rfl (by simp [Value.oneCell']) (by first | omega | (simp; omega)) (by decide) (by omega) ?_; intro v4 w4 hown4 hb4 ha4; have ho4 : w4.ownsRow W6.heap.size 82 4 v4 (ol ++ [t2]).length ((ol ++ [t2]).flatMap encT) := (by rw [List.length_append, enc_snoc]; exact hown4); clear hown4; have HO4 := Lib.hid ho4; clear ho4; have hT4 := HTV.out.apps ha4 hvne; have hne4 := ha4.ne HTV.out.lt hvne; have hM4 := hM.below hb4 hg1; have HT4 := Lib.hid hT4; have hB4 := hbV.trans hb4; have hW4 := hB4.size; have hl4 := hT4.lt; have hm4 := hM4.lt; have k4 := hM4.cell 0; simp at k4; clear hT4 ha4)))
                  go_ret2
                  obtain ⟨A9, c9, rfl, hc9, hcm9, hs9⟩ := own_slr (R := RTp) HO4.out (fun _ => rfl) (fun _ => rfl) rfl
                  have he : putT ts key t2 = ol ++ [t2] := HOA.out.symm
                  exact ⟨A9, ⟨c9, by rw [HA2.out, he]; rfl⟩, by rw [HA2.out, he]; exact hs9, bthen HBW6.out hB4⟩
                · obtain ⟨A9, c9, rfl, hc9, hcm9, hs9⟩ := own_slr (R := RTp) HOV.out (fun _ => rfl) (fun _ => rfl) rfl
                  have HE : Hid (putT ts key t2 = ol) := HOA.out.symm
                  go_wp2_with fail
                  go_ret2
                  exact ⟨A9, ⟨c9, by rw [HA2.out, HE.out]; rfl⟩, by rw [HA2.out, HE.out]; exact hs9, bthen HBW6.out hbr⟩
  · have hf : insideB p = false := by simpa using hin
    have HIn : Hid (∀ W, Calls Try.prog 38 #[vPt p] W fun e w' => e = .returned (.bool false) ∧ Below W.heap.size W w') := fun W => by have := inside_any p W; rw [hf] at this; exact this
    have HA : Hid (adaptOf us ts key p = ([], 1)) := by show adaptOf us ts key p = _; unfold adaptOf; rw [if_neg hin]
    have HBW2 := Lib.hid hbw2
    clear hin hf hbw2
    go_enter Try.func18, Try.ntmps18
    go_wp2_with (go_at_call 38; go_loud (rw [HW2.out]; refine (HIn.out _).mono ?_; rintro e w3 ⟨rfl, hb3⟩))
    go_ret2
    exact ⟨none, 0, by rw [HA.out]; rfl, by rw [HA.out]; exact SlR.nil, bthen HBW2.out hb3⟩
end Go.Proofs.Ytpjecpefbfobdaa
