/-
  The walk of TopPinnedPages.
-/
import Derived.Test.YtfjkmgjjifhdkaaGreatP49
import Derived.Test.YtfjkmgjjifhdkaaGreatP45
import Derived.Test.YtfjkmgjjifhdkaaGreatP22
import Derived.Deep.DeepCutAuto
namespace Go.Proofs.YtfjkmgjjifhdkaaGreat
open Go Go.RowKit

set_option maxRecDepth 100000 in
set_option maxHeartbeats 16000000 in
theorem topPinned_any (AR : Option Addr) (rl : List R4) (cr : Nat) (AP : Option Addr) (tl : List T3) (cp : Nat) (u : Int) (w : World) (hrl : SlR 4 RR4 w AR rl) (hrn : rl.length ≤ maxLen) (hrok : ∀ r ∈ rl, R4OK r) (htl : SlR 3 RT3 w AP tl) (htc : tl.length ≤ cp) (hcp : cp ≤ maxLen) (htok : ∀ p ∈ tl, T3OK p) (hu : 0 ≤ u ∧ u ≤ 255) :
    Calls Tryz.prog 3 #[.slice AR rl.length cr, .slice AP tl.length cp, .int .u8 u] w fun e w' => e = .returned (.bool true) ∧ Below w.heap.size w w' := by
  have HLaM : Hid (∀ W, Below w.heap.size w W → Calls Tryz.prog 7 #[.slice AR rl.length cr, .int .u8 u, .int .i64 4] W (GivesLa (latM rl u 4) W)) := fun W hW => lat_any AR rl cr u 4 W (hrl.below keeps_r4 hW) hrn hrok hu ⟨by omega, by omega⟩
  obtain ⟨q1, q2, q3, q4, q5⟩ := latM_ok (l := rl) (pl := u) (n := 4) hu.1 (by omega) (by omega) hrok
  generalize latM rl u 4 = la at *
  have HOK := Lib.hid q1
  have HES := Lib.hid q3
  have hn0 := q1.1.1
  have hT : Hid (∀ W, Below w.heap.size w W → SlR 3 RT3 W AP tl) := fun W hW => htl.below keeps_t3 hW
  have HTO := Lib.hid htok
  clear q1 q2 q3 q5 hrl hrn hrok htl htok
  go_enter Tryz.func3, Tryz.ntmps3
  go_upto_region 3 with (first
    | (go_at_call 6; go_loud (refine (sanity20t_any w).mono ?_; rintro e w2 ⟨rfl, hb2⟩))
    | (go_at_call 7; go_loud (refine (HLaM.out _ hb2).mono ?_; rintro e w3 ⟨A9, c9, rfl, hs9, hk9, hb9, hown9⟩)))
  obtain ⟨W4, hW4⟩ : ∃ V, w3.alloc (.cells #[.int .i64 la.n, .slice A9 la.es.length c9] 27) = V := ⟨_, rfl⟩
  have hX : LB la w3.heap.size A9 c9 W4 := by rw [← hW4]; exact lb_new hs9 hk9
  have hb4 : Below w3.heap.size w3 W4 := by rw [← hW4]; exact nw _ (Below.refl _ _)
  have HB4 := Lib.hid (bthen hb2 (bthen hb9 hb4))
  rw [hW4]
  obtain ⟨gX, hgX⟩ : ∃ b, w3.heap.size = b := ⟨_, rfl⟩
  rw [hgX] at hX ⊢
  have x0 := hX.b.cell 0
  have x1 := hX.b.cell 1
  have xl := hX.b.lt
  simp at x0 x1
  have HX := Lib.hid hX
  clear hW4 hgX hb2 hb9 hb4 hs9 hk9 hown9 hX
  by_cases hn : la.n = 0
  · have z1 : (la.n == 0) = true := by simpa using hn
    go_wp2_with fail
    go_ret
    exact ⟨rfl, HB4.out⟩
  have z1 : (la.n == 0) = false := by simpa using hn
  obtain ⟨m3, hm3⟩ : ∃ m : Nat, min tl.length 3 = m := ⟨_, rfl⟩
  have hmi : min (tl.length : Int) 3 = (m3 : Int) := by omega
  have hm3c : m3 ≤ cp := by omega
  have hm3l : m3 ≤ tl.length := by omega
  have hmcI : (m3 : Int) ≤ (cp : Int) := by omega
  have hm0I : (0 : Int) ≤ (m3 : Int) := by omega
  have HT3 : Hid (∀ W, Below w.heap.size w W → SlR 3 RT3 W AP (tl.take m3)) := fun W hW => slr_pre (hT.out W hW) m3
  have hml : (tl.take m3).length = m3 := by rw [List.length_take]; omega
  have HMD : Hid (∀ W, Below W4.heap.size W4 W → Calls Tryz.prog 8 #[.slice AP m3 cp, .int .i64 la.n] W (GivesPns la.n 5 W)) := fun W hW => by
    have := rmade18_any AP cp (tl.take m3) la.n W (HT3.out W (bthen HB4.out hW)) (by unfold maxLen at *; omega) (by omega) (fun p hp => HTO.out p (List.mem_of_mem_take hp))
    rw [hml] at this
    exact this
  clear hm3 hml
  go_upto_region 5 with fail
  go_cut [9] (fun s9 W => ∃ (ps : List Pn) (Bp : Option Addr) (dp : Nat), s9 = .slice Bp ps.length dp ∧ Hid (∀ p ∈ ps, PnOK la.n p) ∧ ps.length ≤ 5 ∧ Hid (SlR 3 RPn W Bp ps) ∧ Below W4.heap.size W4 W)
  case first =>
    refine ordB_below (.quiet 0 (.quiet 1 (.quiet 2 (.quiet 3 (.quiet 4 (.quiet 5 (.quiet 6 (.only 7 (.quiet 8 .done))))))))) (by kernel_rfl) (by kernel_rfl) (by kernel_rfl) (fun _ _ _ _ _ h => h) ?_
    intro V0 hV0
    iterate 7 (first
      | (refine ordB_skip rfl rfl ?_; simp only [Act.put, List.setIfInBounds_toArray, List.set_cons_zero, List.set_cons_succ])
      | (refine ordB_take (v := ?_) rfl rfl ?_ ?_
         rotate_left 1
         focus (intro W hW; obtain ⟨hcW, hfW⟩ := bcell hW; (go_simp <;> with_reducible rfl))
         simp only [Act.put, List.setIfInBounds_toArray, List.set_cons_zero, List.set_cons_succ]))
    refine ordB_only (opB_call rfl rfl (fun K hK => ?_))
    go_simp
    go_at_call 8
    refine (HMD.out _ hV0).mono ?_
    rintro e V0_1 ⟨ps, Bp, dp, hps, hpl, rfl, hpss, hx9⟩
    refine hK.out _ _ (hV0.trans (hx9.mono hV0.size)) (fun hV0_1 => ?_)
    iterate 1 (first
      | (refine ordB_skip rfl rfl ?_; simp only [Act.put, List.setIfInBounds_toArray, List.set_cons_zero, List.set_cons_succ])
      | (refine ordB_take (v := ?_) rfl rfl ?_ ?_
         rotate_left 1
         focus (intro W hW; obtain ⟨hcW, hfW⟩ := bcell hW; (go_simp <;> with_reducible rfl))
         simp only [Act.put, List.setIfInBounds_toArray, List.set_cons_zero, List.set_cons_succ]))
    refine ordB_nil ?_
    go_wp2_with fail
    go_meet
    exact ⟨ps, Bp, dp, rfl, hps, hpl, hpss, hV0_1⟩
  case rest =>
    obtain ⟨W5, rfl⟩ : ∃ W, W = wc := ⟨wc, rfl⟩
    obtain ⟨ps, Bp, dp, rfl, HPO, hps5, HPS, hb5⟩ := hcut
    clear x0 x1 xl hmi hmcI hm0I HMD HT3
    have HX5 := Lib.hid (HX.out.below hb5)
    have HB5 := Lib.hid (bthen HB4.out hb5)
    clear hb5
    have HRS : Hid (Calls Tryz.prog 9 #[.agg #[.int .i64 la.n, .slice A9 la.es.length c9], .slice Bp ps.length dp] W5 (GivesLat (pinL la ps) W5)) := restrict_any la A9 c9 ps Bp dp W5 HX5.out.s (by have := HES.out; omega) HPS.out (by unfold maxLen; omega)
    have hyo := pinL_ok HOK.out ps
    have hyl : (pinL la ps).es.length ≤ 13 := Nat.le_trans (List.length_filter_le _ _) HES.out
    obtain ⟨y, hy⟩ : ∃ y, pinL la ps = y := ⟨_, rfl⟩
    rw [hy] at HRS hyo hyl
    have HY := Lib.hid hy
    have HYO := Lib.hid hyo
    have HYL := Lib.hid hyl
    clear hy hyo hyl
    have x0 := HX5.out.b.cell 0
    have x1 := HX5.out.b.cell 1
    have xl := HX5.out.b.lt
    simp at x0 x1
    go_upto_region 7 with (go_at_call 9; go_loud (refine HRS.out.mono ?_; rintro r w6 ⟨By, dy, rfl, hsy, hky, hb6⟩))
    obtain ⟨W7, hW7⟩ : ∃ V, w6.alloc (.cells #[.int .i64 y.n, .slice By y.es.length dy] 27) = V := ⟨_, rfl⟩
    have hY : LB y w6.heap.size By dy W7 := by rw [← hW7]; exact lb_new hsy hky
    have hb7 : Below w6.heap.size w6 W7 := by rw [← hW7]; exact nw _ (Below.refl _ _)
    have hb57 := bthen hb6 hb7
    have HX7 := Lib.hid (HX5.out.below hb57)
    have HB7 := Lib.hid (bthen HB5.out hb57)
    have HPS7 := Lib.hid (HPS.out.below keeps_pn hb57)
    rw [hW7]
    obtain ⟨gY, hgY⟩ : ∃ b, w6.heap.size = b := ⟨_, rfl⟩
    rw [hgY] at hY ⊢
    have HY7 := Lib.hid hY
    clear hW7 hgY hY hsy hky hb6 hb7 hb57 x0 x1 xl HX5 HB5 HPS HRS
    have HC : Hid (∀ W, Below W7.heap.size W7 W → (W.cell? ⟨gX, 0, none⟩ = some (.int .i64 la.n) ∧ W.cell? ⟨gX, 1, none⟩ = some (.slice A9 la.es.length c9) ∧ gX < W.heap.size) ∧ (W.cell? ⟨gY, 0, none⟩ = some (.int .i64 y.n) ∧ W.cell? ⟨gY, 1, none⟩ = some (.slice By y.es.length dy) ∧ gY < W.heap.size)) := fun W hW => by
      have f1 := (HX7.out.below hW).b
      have f2 := (HY7.out.below hW).b
      exact ⟨⟨by rw [f1.cell]; rfl, by rw [f1.cell]; rfl, f1.lt⟩, ⟨by rw [f2.cell]; rfl, by rw [f2.cell]; rfl, f2.lt⟩⟩
    obtain ⟨GN, hGN⟩ : ∃ N, (grX la).n = N := ⟨_, rfl⟩
    obtain ⟨GL, hGL⟩ : ∃ N, (grX la).ls.length = N := ⟨_, rfl⟩
    obtain ⟨YN, hYN⟩ : ∃ N, (grX y).n = N := ⟨_, rfl⟩
    obtain ⟨YL, hYL⟩ : ∃ N, (grX y).ls.length = N := ⟨_, rfl⟩
    have HG1 : Hid (∀ W, Below W7.heap.size W7 W → Calls Tryz.prog 11 #[.agg #[.int .i64 la.n, .slice A9 la.es.length c9]] W fun r w' => ∃ B d, r = .returned (.agg #[.int .i64 GN, .slice B GL d]) ∧ SlR 4 RLk w' B (grX la).ls ∧ Below W.heap.size W w') := fun W hW => graphX_any la HOK.out A9 c9 W (HX7.out.below hW).s (by have := HES.out; omega) hGN hGL
    have HG2 : Hid (∀ W, Below W7.heap.size W7 W → Calls Tryz.prog 11 #[.agg #[.int .i64 y.n, .slice By y.es.length dy]] W fun r w' => ∃ B d, r = .returned (.agg #[.int .i64 YN, .slice B YL d]) ∧ SlR 4 RLk w' B (grX y).ls ∧ Below W.heap.size W w') := fun W hW => graphX_any y HYO.out By dy W (HY7.out.below hW).s (by have := HYL.out; omega) hYN hYL
    have HL1 : Hid (∀ W B d, SlR 4 RLk W B (grX la).ls → Calls Tryz.prog 10 #[.agg #[.int .i64 GN, .slice B GL d], .int .i64 50] W fun e w' => ∃ (L : List Can) (B : Option Addr) (d : Nat), e = .returned (.tuple #[.slice B L.length d, .int .i64 0]) ∧ SlR 2 RCan w' B L ∧ Hid (IsList (grX la) 50 L) ∧ Below W.heap.size W w') := fun W B d hs => listX_any la HOK.out B d W hs hGN hGL
    have HL2 : Hid (∀ W B d, SlR 4 RLk W B (grX y).ls → Calls Tryz.prog 10 #[.agg #[.int .i64 YN, .slice B YL d], .int .i64 50] W fun e w' => ∃ (L : List Can) (B : Option Addr) (d : Nat), e = .returned (.tuple #[.slice B L.length d, .int .i64 0]) ∧ SlR 2 RCan w' B L ∧ Hid (IsList (grX y) 50 L) ∧ Below W.heap.size W w') := fun W B d hs => listX_any y HYO.out B d W hs hYN hYL
    clear hGN hGL hYN hYL
    obtain ⟨⟨x0, x1, xl⟩, ⟨y0, y1, yl⟩⟩ := HC.out W7 (Below.refl _ _)
    go_upto_region 8 with (first
      | (go_at_call 10; go_loud (refine (HL1.out wg Bg dg hsg).mono ?_; rintro e w8 ⟨CA, B1c, dA, rfl, hca, hia, hb8⟩))
      | (go_at_call 11; go_loud (refine (HG1.out W7 (Below.refl _ _)).mono ?_; rintro r wg ⟨Bg, dg, rfl, hsg, hbg⟩; clear x0 x1 xl y0 y1 yl)))
    have HB8 := Lib.hid (bthen hbg hb8)
    have HCA8 := Lib.hid hca
    have HIA := Lib.hid hia.out
    clear hsg hbg hb8 hca hia
    obtain ⟨⟨x0, x1, xl⟩, ⟨y0, y1, yl⟩⟩ := HC.out w8 HB8.out
    go_upto_region 9 with (first
      | (go_at_call 10; go_loud (refine (HL2.out wh Bh dh hsh).mono ?_; rintro e w9 ⟨CB, B2c, dB, rfl, hcb, hib, hb9⟩))
      | (go_at_call 11; go_loud (refine (HG2.out w8 HB8.out).mono ?_; rintro r wh ⟨Bh, dh, rfl, hsh, hbh⟩; clear x0 x1 xl y0 y1 yl)))
    have hb89 := bthen hbh hb9
    have HB9 := Lib.hid (bthen HB8.out hb89)
    have HCA := Lib.hid (HCA8.out.below keeps_can hb89)
    have HCB := Lib.hid hcb
    have HIB := Lib.hid hib.out
    have HBW := Lib.hid (bthen HB7.out HB9.out)
    clear hsh hbh hb9 hb89 hcb hib HCA8 HB8 HG1 HG2 HL1 HL2
    by_cases h50 : CA.length = 50
    · have z5 : ((CA.length : Int) == 50) = true := by simp; omega
      go_wp2_with fail
      go_ret
      exact ⟨rfl, HBW.out⟩
    have z5 : ((CA.length : Int) == 50) = false := by simp; omega
    have HPL : Hid (CB.map (canE (pinL la ps)) = (CA.filter (keepC la ps)).map (canE la)) := pinned_list HOK.out HPO.out HIA.out (by rw [HY.out]; exact HIB.out) h50
    have hA50 : CA.length ≤ 50 := HIA.out.len
    have hB50 : CB.length ≤ 50 := HIB.out.len
    clear h50
    obtain ⟨WZ, hWZ⟩ : ∃ V, w9 = V := ⟨_, rfl⟩
    rw [hWZ] at HB9 HCA HCB HBW ⊢
    clear hWZ
    have HPZ : Hid (∀ W, Below WZ.heap.size WZ W → SlR 3 RPn W Bp ps) := fun W hW => HPS7.out.below keeps_pn (bthen HB9.out hW)
    have HEX : Hid (∀ W, Below WZ.heap.size WZ W → SlR 4 REd W A9 la.es) := fun W hW => (HX7.out.below (bthen HB9.out hW)).s
    have HEY : Hid (∀ W, Below WZ.heap.size WZ W → SlR 4 REd W By y.es) := fun W hW => (HY7.out.below (bthen HB9.out hW)).s
    go_wp2_with fail
    go_loopw [15, 16] (fun av iv wr => ∃ (i at_ : Nat), i ≤ CA.length ∧ Hid (at_ = ((CA.take i).filter (keepC la ps)).length) ∧ at_ ≤ 50 ∧ av = .int .i64 (at_ : Int) ∧ iv = .int .i64 (i : Int) ∧ Below WZ.heap.size WZ wr) (fun _ iv _ => CA.length - (intOf iv).toNat)
    case atStart => exact ⟨0, 0, by omega, (by show _ = _; simp), by omega, rfl, rfl, Below.refl _ _⟩
    case round =>
      obtain ⟨wR, rfl⟩ : ∃ W, W = wr := ⟨wr, rfl⟩
      obtain ⟨i, at_, hi, HAT, hat, rfl, rfl, hbr⟩ := hrel
      have HBR := Lib.hid hbr
      by_cases hlt : i < CA.length
      · obtain ⟨b, off, c, AC, cC, rfl, hbb, hcc, t0, t1, hlk, _, _⟩ := (HCA.out.below keeps_can hbr).can hlt
        have HCI := Lib.hid hcc
        obtain ⟨hcr, hcl⟩ := canX HOK.out HIA.out (List.mem_of_getElem? hcc)
        have HCR := Lib.hid hcr
        have HLK := Lib.hid hlk
        obtain ⟨nc, hnc⟩ : ∃ n, c.links.length = n := ⟨_, rfl⟩
        have HNC := Lib.hid hnc
        rw [hnc] at hcl t0
        have hnc40 : nc ≤ 40 := by have := HOK.out.1.2; omega
        have HD : Hid (∀ W, Below wR.heap.size wR W → W.cell? ⟨b, off + i * 2, none⟩ = some (.slice AC nc cC) ∧ W.cell? ⟨b, off + i * 2 + 1, none⟩ = some (.int .i64 c.cost) ∧ b < W.heap.size) := fun W hW => ⟨(hW.cell (p := ⟨b, off + i * 2, none⟩) hbb).trans t0, (hW.cell (p := ⟨b, off + i * 2 + 1, none⟩) hbb).trans t1, Nat.lt_of_lt_of_le hbb hW.size⟩
        have hiI : (i : Int) < (CA.length : Int) := by omega
        have hi0 : (0 : Int) ≤ (i : Int) := by omega
        clear hcc hcr hlk hnc hcl t0 t1 hbb hbr
        have hK0 : keepTo la ps c 0 = true := rfl
        have HKA : Hid (keepTo la ps c ps.length = keepC la ps c) := keepTo_all la ps c
        go_upto_region 19 with fail
        go_loopw [17, 18] (fun kv qv wv => ∃ (k : Nat), k ≤ ps.length ∧ kv = .bool (keepTo la ps c k) ∧ qv = .int .i64 (k : Int) ∧ Below wR.heap.size wR wv) (fun _ qv _ => ps.length - (intOf qv).toNat)
        case atStart => exact ⟨0, by omega, rfl, rfl, Below.refl _ _⟩
        case round =>
          obtain ⟨wv, rfl⟩ : ∃ W, W = wr := ⟨wr, rfl⟩
          obtain ⟨k, hk, rfl, rfl, hbv⟩ := hrel
          have HBV := Lib.hid hbv
          obtain ⟨kp, hkp⟩ : ∃ v, keepTo la ps c k = v := ⟨_, rfl⟩
          rw [hkp]
          have HKP := Lib.hid hkp
          clear hkp
          by_cases hlk : k < ps.length
          · obtain ⟨bp, op, p, hAp, hbp, hpp, e0, e1, e2⟩ := (HPZ.out wv (bthen HBR.out hbv)).pn hlk
            subst hAp
            have HKS : Hid (keepTo la ps c (k + 1) = (kp && hasC la c p nc)) := by show _ = _; rw [keepTo_succ hpp, HKP.out, HNC.out]
            have HPC : Hid (∀ W, Below wv.heap.size wv W → W.cell? ⟨bp, op + k * 3, none⟩ = some (.int .i64 p.fr) ∧ W.cell? ⟨bp, op + k * 3 + 1, none⟩ = some (.int .i64 p.en) ∧ W.cell? ⟨bp, op + k * 3 + 2, none⟩ = some (.int .i64 p.wd) ∧ bp < W.heap.size) := fun W hW => ⟨(hW.cell (p := ⟨bp, _, none⟩) hbp).trans e0, (hW.cell (p := ⟨bp, _, none⟩) hbp).trans e1, (hW.cell (p := ⟨bp, _, none⟩) hbp).trans e2, Nat.lt_of_lt_of_le hbp hW.size⟩
            have hkI : (k : Int) < (ps.length : Int) := by omega
            have hk0 : (0 : Int) ≤ (k : Int) := by omega
            have hH0 : hasC la c p 0 = false := rfl
            clear hpp e0 e1 e2 hbp hbv
            go_upto_region 23 with fail
            go_loopw [19, 20] (fun hv jv wj => ∃ (j : Nat), j ≤ nc ∧ hv = .bool (hasC la c p j) ∧ jv = .int .i64 (j : Int) ∧ Below wv.heap.size wv wj) (fun _ jv _ => nc - (intOf jv).toNat)
            case atStart => exact ⟨0, by omega, rfl, rfl, Below.refl _ _⟩
            case round =>
             as_aux_lemma =>
                obtain ⟨wj, rfl⟩ : ∃ W, W = wr := ⟨wr, rfl⟩
                obtain ⟨j, hj, rfl, rfl, hbj⟩ := hrel
                have HBJ := Lib.hid hbj
                have hbRj := bthen HBV.out hbj
                obtain ⟨hs, hhs⟩ : ∃ v, hasC la c p j = v := ⟨_, rfl⟩
                rw [hhs]
                obtain ⟨t0, t1, hbb⟩ := HD.out _ hbRj
                by_cases hlj : j < nc
                · obtain ⟨bl, ol, n, hAl, hbl, hnn, g0⟩ := (HLK.out.below keeps_int hbRj).int (k := j) (by rw [HNC.out]; exact hlj)
                  subst hAl
                  obtain ⟨hn0, hn1⟩ := HCR.out n (List.mem_of_getElem? hnn)
                  have hhn := hasC_succ (x := la) (p := p) hnn
                  rw [hhs] at hhn
                  obtain ⟨q, rfl⟩ : ∃ q : Nat, n = (q : Int) := ⟨n.toNat, by omega⟩
                  obtain ⟨be, oe, e, hAe, hbe, hee, f0, f1, f2, f3⟩ := (HEX.out wj (bthen HBR.out hbRj)).ed (k := q) (by omega)
                  subst hAe
                  have hed : edAt la (q : Int) = e := edAt_ofX (by rw [Int.toNat_natCast]; exact hee)
                  rw [hed] at hhn
                  have HHN := Lib.hid hhn
                  have hjI : (j : Int) < (nc : Int) := by omega
                  have hj0 : (0 : Int) ≤ (j : Int) := by omega
                  obtain ⟨p0, p1, p2, hbp⟩ := HPC.out _ hbj
                  obtain ⟨⟨x0, x1, xl⟩, ⟨y0, y1, yl⟩⟩ := HC.out _ (bthen HB9.out (bthen HBR.out hbRj))
                  clear hhs hhn hed hnn hee f3 hbj hbRj
                  cases hs with
                  | true =>
                    have HV : Hid (hasC la c p (j + 1) = true) := by show _ = _; rw [HHN.out]; rfl
                    go_upto_region 26 with fail
                    refine ordB_below (.quiet 0 (.quiet 1 (.quiet 2 (.quiet 3 (.quiet 4 (.quiet 5 (.quiet 6 (.quiet 7 (.quiet 8 (.quiet 9 (.quiet 10 (.quiet 11 (.quiet 12 (.quiet 13 (.quiet 14 (.quiet 15 (.quiet 16 (.quiet 17 (.quiet 18 (.quiet 19 (.quiet 20 (.quiet 21 (.quiet 22 (.quiet 23 (.quiet 24 (.quiet 25 (.quiet 26 (.quiet 27 (.quiet 28 (.quiet 29 (.quiet 30 (.quiet 31 (.quiet 32 (.quiet 33 (.quiet 34 (.quiet 35 (.quiet 36 (.quiet 37 (.quiet 38 (.quiet 39 (.quiet 40 (.quiet 41 (.quiet 42 (.quiet 43 (.quiet 44 (.quiet 45 (.quiet 46 (.quiet 47 (.quiet 48 (.quiet 49 (.quiet 50 (.quiet 51 (.quiet 52 (.quiet 53 (.quiet 54 (.quiet 55 (.quiet 56 (.quiet 57 (.quiet 58 (.quiet 59 (.quiet 60 (.quiet 61 (.quiet 62 .done))))))))))))))))))))))))))))))))))))))))))))))))))))))))))))))) (by kernel_rfl) (by kernel_rfl) (by kernel_rfl) (fun _ _ _ _ _ h => h) ?_
                    intro V1 hV1
                    iterate 63 (first
                      | (refine ordB_skip rfl rfl ?_; simp only [Act.put, List.setIfInBounds_toArray, List.set_cons_zero, List.set_cons_succ])
                      | (refine ordB_take (v := ?_) rfl rfl ?_ ?_
                         rotate_left 1
                         focus (intro W hW; obtain ⟨hcW, hfW⟩ := bcell hW; (go_simp <;> with_reducible rfl))
                         simp only [Act.put, List.setIfInBounds_toArray, List.set_cons_zero, List.set_cons_succ]))
                    refine ordB_nil ?_
                    have HBE := Lib.hid (HBJ.out.trans (hV1.mono HBJ.out.size))
                    go_wp2_with fail
                    go_roundw
                    case rel => exact ⟨j + 1, by omega, by rw [HV.out], by go_num, HBE.out⟩
                    case measure => simp [intOf]; omega
                  | false =>
                    cases z1 : (e.fr == p.fr) with
                    | false =>
                      have HV : Hid (hasC la c p (j + 1) = false) := by show _ = _; rw [HHN.out]; unfold hasE; rw [z1]; rfl
                      go_upto_region 26 with fail
                      refine ordB_below (.quiet 0 (.quiet 1 (.quiet 2 (.quiet 3 (.quiet 4 (.quiet 5 (.quiet 6 (.quiet 7 (.quiet 8 (.quiet 9 (.quiet 10 (.quiet 11 (.quiet 12 (.quiet 13 (.quiet 14 (.quiet 15 (.quiet 16 (.quiet 17 (.quiet 18 (.quiet 19 (.quiet 20 (.quiet 21 (.quiet 22 (.quiet 23 (.quiet 24 (.quiet 25 (.quiet 26 (.quiet 27 (.quiet 28 (.quiet 29 (.quiet 30 (.quiet 31 (.quiet 32 (.quiet 33 (.quiet 34 (.quiet 35 (.quiet 36 (.quiet 37 (.quiet 38 (.quiet 39 (.quiet 40 (.quiet 41 (.quiet 42 (.quiet 43 (.quiet 44 (.quiet 45 (.quiet 46 (.quiet 47 (.quiet 48 (.quiet 49 (.quiet 50 (.quiet 51 (.quiet 52 (.quiet 53 (.quiet 54 (.quiet 55 (.quiet 56 (.quiet 57 (.quiet 58 (.quiet 59 (.quiet 60 (.quiet 61 (.quiet 62 .done))))))))))))))))))))))))))))))))))))))))))))))))))))))))))))))) (by kernel_rfl) (by kernel_rfl) (by kernel_rfl) (fun _ _ _ _ _ h => h) ?_
                      intro V1 hV1
                      iterate 63 (first
                        | (refine ordB_skip rfl rfl ?_; simp only [Act.put, List.setIfInBounds_toArray, List.set_cons_zero, List.set_cons_succ])
                        | (refine ordB_take (v := ?_) rfl rfl ?_ ?_
                           rotate_left 1
                           focus (intro W hW; obtain ⟨hcW, hfW⟩ := bcell hW; (go_simp <;> with_reducible rfl))
                           simp only [Act.put, List.setIfInBounds_toArray, List.set_cons_zero, List.set_cons_succ]))
                      refine ordB_nil ?_
                      have HBE := Lib.hid (HBJ.out.trans (hV1.mono HBJ.out.size))
                      go_wp2_with fail
                      go_roundw
                      case rel => exact ⟨j + 1, by omega, by rw [HV.out], by go_num, HBE.out⟩
                      case measure => simp [intOf]; omega
                    | true =>
                      cases z2 : (e.to == p.en) with
                      | false =>
                        have HV : Hid (hasC la c p (j + 1) = false) := by show _ = _; rw [HHN.out]; unfold hasE; rw [z1, z2]; rfl
                        go_upto_region 26 with fail
                        refine ordB_below (.quiet 0 (.quiet 1 (.quiet 2 (.quiet 3 (.quiet 4 (.quiet 5 (.quiet 6 (.quiet 7 (.quiet 8 (.quiet 9 (.quiet 10 (.quiet 11 (.quiet 12 (.quiet 13 (.quiet 14 (.quiet 15 (.quiet 16 (.quiet 17 (.quiet 18 (.quiet 19 (.quiet 20 (.quiet 21 (.quiet 22 (.quiet 23 (.quiet 24 (.quiet 25 (.quiet 26 (.quiet 27 (.quiet 28 (.quiet 29 (.quiet 30 (.quiet 31 (.quiet 32 (.quiet 33 (.quiet 34 (.quiet 35 (.quiet 36 (.quiet 37 (.quiet 38 (.quiet 39 (.quiet 40 (.quiet 41 (.quiet 42 (.quiet 43 (.quiet 44 (.quiet 45 (.quiet 46 (.quiet 47 (.quiet 48 (.quiet 49 (.quiet 50 (.quiet 51 (.quiet 52 (.quiet 53 (.quiet 54 (.quiet 55 (.quiet 56 (.quiet 57 (.quiet 58 (.quiet 59 (.quiet 60 (.quiet 61 (.quiet 62 .done))))))))))))))))))))))))))))))))))))))))))))))))))))))))))))))) (by kernel_rfl) (by kernel_rfl) (by kernel_rfl) (fun _ _ _ _ _ h => h) ?_
                        intro V1 hV1
                        iterate 63 (first
                          | (refine ordB_skip rfl rfl ?_; simp only [Act.put, List.setIfInBounds_toArray, List.set_cons_zero, List.set_cons_succ])
                          | (refine ordB_take (v := ?_) rfl rfl ?_ ?_
                             rotate_left 1
                             focus (intro W hW; obtain ⟨hcW, hfW⟩ := bcell hW; (go_simp <;> with_reducible rfl))
                             simp only [Act.put, List.setIfInBounds_toArray, List.set_cons_zero, List.set_cons_succ]))
                        refine ordB_nil ?_
                        have HBE := Lib.hid (HBJ.out.trans (hV1.mono HBJ.out.size))
                        go_wp2_with fail
                        go_roundw
                        case rel => exact ⟨j + 1, by omega, by rw [HV.out], by go_num, HBE.out⟩
                        case measure => simp [intOf]; omega
                      | true =>
                        cases z3 : (p.wd == -1) with
                        | true =>
                          have HV : Hid (hasC la c p (j + 1) = true) := by show _ = _; rw [HHN.out]; unfold hasE; rw [z1, z2, z3]; rfl
                          go_upto_region 26 with fail
                          refine ordB_below (.quiet 0 (.quiet 1 (.quiet 2 (.quiet 3 (.quiet 4 (.quiet 5 (.quiet 6 (.quiet 7 (.quiet 8 (.quiet 9 (.quiet 10 (.quiet 11 (.quiet 12 (.quiet 13 (.quiet 14 (.quiet 15 (.quiet 16 (.quiet 17 (.quiet 18 (.quiet 19 (.quiet 20 (.quiet 21 (.quiet 22 (.quiet 23 (.quiet 24 (.quiet 25 (.quiet 26 (.quiet 27 (.quiet 28 (.quiet 29 (.quiet 30 (.quiet 31 (.quiet 32 (.quiet 33 (.quiet 34 (.quiet 35 (.quiet 36 (.quiet 37 (.quiet 38 (.quiet 39 (.quiet 40 (.quiet 41 (.quiet 42 (.quiet 43 (.quiet 44 (.quiet 45 (.quiet 46 (.quiet 47 (.quiet 48 (.quiet 49 (.quiet 50 (.quiet 51 (.quiet 52 (.quiet 53 (.quiet 54 (.quiet 55 (.quiet 56 (.quiet 57 (.quiet 58 (.quiet 59 (.quiet 60 (.quiet 61 (.quiet 62 .done))))))))))))))))))))))))))))))))))))))))))))))))))))))))))))))) (by kernel_rfl) (by kernel_rfl) (by kernel_rfl) (fun _ _ _ _ _ h => h) ?_
                          intro V1 hV1
                          iterate 63 (first
                            | (refine ordB_skip rfl rfl ?_; simp only [Act.put, List.setIfInBounds_toArray, List.set_cons_zero, List.set_cons_succ])
                            | (refine ordB_take (v := ?_) rfl rfl ?_ ?_
                               rotate_left 1
                               focus (intro W hW; obtain ⟨hcW, hfW⟩ := bcell hW; (go_simp <;> with_reducible rfl))
                               simp only [Act.put, List.setIfInBounds_toArray, List.set_cons_zero, List.set_cons_succ]))
                          refine ordB_nil ?_
                          have HBE := Lib.hid (HBJ.out.trans (hV1.mono HBJ.out.size))
                          go_wp2_with fail
                          go_roundw
                          case rel => exact ⟨j + 1, by omega, by rw [HV.out], by go_num, HBE.out⟩
                          case measure => simp [intOf]; omega
                        | false =>
                          cases z4 : (p.wd == e.wd) with
                          | true =>
                            have HV : Hid (hasC la c p (j + 1) = true) := by show _ = _; rw [HHN.out]; unfold hasE; rw [z1, z2, z3, z4]; rfl
                            go_upto_region 26 with fail
                            refine ordB_below (.quiet 0 (.quiet 1 (.quiet 2 (.quiet 3 (.quiet 4 (.quiet 5 (.quiet 6 (.quiet 7 (.quiet 8 (.quiet 9 (.quiet 10 (.quiet 11 (.quiet 12 (.quiet 13 (.quiet 14 (.quiet 15 (.quiet 16 (.quiet 17 (.quiet 18 (.quiet 19 (.quiet 20 (.quiet 21 (.quiet 22 (.quiet 23 (.quiet 24 (.quiet 25 (.quiet 26 (.quiet 27 (.quiet 28 (.quiet 29 (.quiet 30 (.quiet 31 (.quiet 32 (.quiet 33 (.quiet 34 (.quiet 35 (.quiet 36 (.quiet 37 (.quiet 38 (.quiet 39 (.quiet 40 (.quiet 41 (.quiet 42 (.quiet 43 (.quiet 44 (.quiet 45 (.quiet 46 (.quiet 47 (.quiet 48 (.quiet 49 (.quiet 50 (.quiet 51 (.quiet 52 (.quiet 53 (.quiet 54 (.quiet 55 (.quiet 56 (.quiet 57 (.quiet 58 (.quiet 59 (.quiet 60 (.quiet 61 (.quiet 62 .done))))))))))))))))))))))))))))))))))))))))))))))))))))))))))))))) (by kernel_rfl) (by kernel_rfl) (by kernel_rfl) (fun _ _ _ _ _ h => h) ?_
                            intro V1 hV1
                            iterate 63 (first
                              | (refine ordB_skip rfl rfl ?_; simp only [Act.put, List.setIfInBounds_toArray, List.set_cons_zero, List.set_cons_succ])
                              | (refine ordB_take (v := ?_) rfl rfl ?_ ?_
                                 rotate_left 1
                                 focus (intro W hW; obtain ⟨hcW, hfW⟩ := bcell hW; (go_simp <;> with_reducible rfl))
                                 simp only [Act.put, List.setIfInBounds_toArray, List.set_cons_zero, List.set_cons_succ]))
                            refine ordB_nil ?_
                            have HBE := Lib.hid (HBJ.out.trans (hV1.mono HBJ.out.size))
                            go_wp2_with fail
                            go_roundw
                            case rel => exact ⟨j + 1, by omega, by rw [HV.out], by go_num, HBE.out⟩
                            case measure => simp [intOf]; omega
                          | false =>
                            have HV : Hid (hasC la c p (j + 1) = false) := by show _ = _; rw [HHN.out]; unfold hasE; rw [z1, z2, z3, z4]; rfl
                            go_upto_region 26 with fail
                            refine ordB_below (.quiet 0 (.quiet 1 (.quiet 2 (.quiet 3 (.quiet 4 (.quiet 5 (.quiet 6 (.quiet 7 (.quiet 8 (.quiet 9 (.quiet 10 (.quiet 11 (.quiet 12 (.quiet 13 (.quiet 14 (.quiet 15 (.quiet 16 (.quiet 17 (.quiet 18 (.quiet 19 (.quiet 20 (.quiet 21 (.quiet 22 (.quiet 23 (.quiet 24 (.quiet 25 (.quiet 26 (.quiet 27 (.quiet 28 (.quiet 29 (.quiet 30 (.quiet 31 (.quiet 32 (.quiet 33 (.quiet 34 (.quiet 35 (.quiet 36 (.quiet 37 (.quiet 38 (.quiet 39 (.quiet 40 (.quiet 41 (.quiet 42 (.quiet 43 (.quiet 44 (.quiet 45 (.quiet 46 (.quiet 47 (.quiet 48 (.quiet 49 (.quiet 50 (.quiet 51 (.quiet 52 (.quiet 53 (.quiet 54 (.quiet 55 (.quiet 56 (.quiet 57 (.quiet 58 (.quiet 59 (.quiet 60 (.quiet 61 (.quiet 62 .done))))))))))))))))))))))))))))))))))))))))))))))))))))))))))))))) (by kernel_rfl) (by kernel_rfl) (by kernel_rfl) (fun _ _ _ _ _ h => h) ?_
                            intro V1 hV1
                            iterate 63 (first
                              | (refine ordB_skip rfl rfl ?_; simp only [Act.put, List.setIfInBounds_toArray, List.set_cons_zero, List.set_cons_succ])
                              | (refine ordB_take (v := ?_) rfl rfl ?_ ?_
                                 rotate_left 1
                                 focus (intro W hW; obtain ⟨hcW, hfW⟩ := bcell hW; (go_simp <;> with_reducible rfl))
                                 simp only [Act.put, List.setIfInBounds_toArray, List.set_cons_zero, List.set_cons_succ]))
                            refine ordB_nil ?_
                            have HBE := Lib.hid (HBJ.out.trans (hV1.mono HBJ.out.size))
                            go_wp2_with fail
                            go_roundw
                            case rel => exact ⟨j + 1, by omega, by rw [HV.out], by go_num, HBE.out⟩
                            case measure => simp [intOf]; omega
                · obtain rfl : j = nc := by omega
                  rw [hhs] at HKS
                  clear hbRj hbj
                  cases kp with
                  | false =>
                    have HV : Hid (keepTo la ps c (k + 1) = false) := by show _ = _; rw [HKS.out]; rfl
                    go_wp2_with fail
                    go_roundw
                    case rel => exact ⟨k + 1, by omega, by rw [HV.out], by go_num, bthen HBV.out HBJ.out⟩
                    case measure => simp [intOf]; omega
                  | true =>
                    have HV : Hid (keepTo la ps c (k + 1) = hs) := by show _ = _; rw [HKS.out]; rfl
                    go_wp2_with fail
                    go_roundw
                    case rel => exact ⟨k + 1, by omega, by rw [HV.out], by go_num, bthen HBV.out HBJ.out⟩
                    case measure => simp [intOf]; omega
          · obtain rfl : k = ps.length := by omega
            have hkc : keepC la ps c = kp := by rw [← HKA.out]; exact HKP.out
            have hnx := pin_next (ps := ps) (x := la) HCI.out
            rw [← HAT.out, hkc] at hnx
            cases kp with
            | false =>
              have HNX : Hid (at_ = ((CA.take (i + 1)).filter (keepC la ps)).length) := by show _ = _; rw [hnx]; simp
              clear hnx hkc hbv
              go_wp2_with fail
              go_roundw
              case rel => exact ⟨i + 1, at_, by omega, HNX.out, by omega, rfl, by go_num, bthen HBR.out HBV.out⟩
              case measure => simp [intOf]; omega
            | true =>
              have HNX : Hid (at_ + 1 = ((CA.take (i + 1)).filter (keepC la ps)).length) := by show _ = _; rw [hnx]; simp
              obtain ⟨d, hd, hdc, hde⟩ := pin_at HPL.out HCI.out hkc
              rw [← HAT.out] at hd
              rw [HY.out] at hde
              have hatl := (List.getElem?_eq_some_iff.1 hd).1
              have hRv := bthen HBR.out hbv
              obtain ⟨b2, o2, d', AD, cD, rfl, hb2, hdd, u0, u1, hld, _, _⟩ := (HCB.out.below keeps_can hRv).can hatl
              obtain rfl : d = d' := Option.some.inj (hd.symm.trans hdd)
              have hnd : d.links.length = nc := by have := congrArg List.length hde; unfold edsL at this; rw [List.length_map, List.length_map] at this; rw [this]; exact HNC.out
              have HND := Lib.hid hnd
              obtain ⟨hdr, _⟩ := canX HYO.out HIB.out (List.mem_of_getElem? hdd)
              have HDR := Lib.hid hdr
              have HDE := Lib.hid hde
              have HLD := Lib.hid hld
              rw [hnd] at u0
              rw [hdc] at u1
              have HD2 : Hid (∀ W, Below wv.heap.size wv W → W.cell? ⟨b2, o2 + at_ * 2, none⟩ = some (.slice AD nc cD) ∧ W.cell? ⟨b2, o2 + at_ * 2 + 1, none⟩ = some (.int .i64 c.cost) ∧ b2 < W.heap.size) := fun W hW => ⟨(hW.cell (p := ⟨b2, _, none⟩) hb2).trans u0, (hW.cell (p := ⟨b2, _, none⟩) hb2).trans u1, Nat.lt_of_lt_of_le hb2 hW.size⟩
              have hatI : (at_ : Int) < (CB.length : Int) := by omega
              have hat0 : (0 : Int) ≤ (at_ : Int) := by omega
              have hatn : ¬ (CB.length : Int) ≤ (at_ : Int) := by omega
              obtain ⟨t0, t1, hbb⟩ := HD.out _ hbv
              clear hd hdd hdc hde hnd hdr hld hnx hkc hRv hbv
              as_aux_lemma =>
                go_upto_region 29 with fail
                refine ordB_below (.quiet 0 (.quiet 1 (.quiet 2 (.quiet 3 (.quiet 4 (.quiet 5 (.quiet 6 (.quiet 7 (.quiet 8 (.quiet 9 (.quiet 10 (.quiet 11 (.quiet 12 (.quiet 13 (.quiet 14 (.quiet 15 (.quiet 16 (.quiet 17 (.quiet 18 (.quiet 19 (.quiet 20 (.quiet 21 (.quiet 22 (.quiet 23 (.quiet 24 (.quiet 25 (.quiet 26 (.quiet 27 (.quiet 28 (.quiet 29 (.quiet 30 (.quiet 31 .done)))))))))))))))))))))))))))))))) (by kernel_rfl) (by kernel_rfl) (by kernel_rfl) (fun _ _ _ _ _ h => h) ?_
                intro V2 hV2
                iterate 32 (first
                  | (refine ordB_skip rfl rfl ?_; simp only [Act.put, List.setIfInBounds_toArray, List.set_cons_zero, List.set_cons_succ])
                  | (refine ordB_take (v := ?_) rfl rfl ?_ ?_
                     rotate_left 1
                     focus (intro W hW; obtain ⟨hcW, hfW⟩ := bcell hW; (go_simp <;> with_reducible rfl))
                     simp only [Act.put, List.setIfInBounds_toArray, List.set_cons_zero, List.set_cons_succ]))
                refine ordB_nil ?_
                have HB4v := Lib.hid hV2
                clear t0 t1 hbb u0 u1 hb2
                go_wp2_with fail
                go_loopw [22] (fun jv wq => ∃ (j : Nat), j ≤ nc ∧ jv = .int .i64 (j : Int) ∧ Below wv.heap.size wv wq) (fun jv _ => nc - (intOf jv).toNat)
                case atStart => exact ⟨0, by omega, rfl, HB4v.out⟩
                case round =>
                  obtain ⟨wq, rfl⟩ : ∃ W, W = wr := ⟨wr, rfl⟩
                  obtain ⟨j, hj, rfl, hbq⟩ := hrel
                  have HBQ := Lib.hid hbq
                  have hRq := bthen HBV.out hbq
                  obtain ⟨t0, t1, hbb⟩ := HD.out _ hRq
                  obtain ⟨u0, u1, hb2⟩ := HD2.out _ hbq
                  by_cases hlj : j < nc
                  · obtain ⟨bl, ol, n, hAl, hbl, hnn, g0⟩ := (HLK.out.below keeps_int hRq).int (k := j) (by rw [HNC.out]; exact hlj)
                    subst hAl
                    obtain ⟨hn0, hn1⟩ := HCR.out n (List.mem_of_getElem? hnn)
                    obtain ⟨bm, om, a, hAm, hbm, haa, g1⟩ := (HLD.out.below keeps_int hbq).int (k := j) (by rw [HND.out]; exact hlj)
                    subst hAm
                    obtain ⟨ha0, ha1⟩ := HDR.out a (List.mem_of_getElem? haa)
                    have hee2 : edAt y a = edAt la n := by
                      have h1 : (edsL y d.links)[j]? = some (edAt y a) := by unfold edsL; rw [List.getElem?_map, haa]; rfl
                      have h2 : (edsL la c.links)[j]? = some (edAt la n) := by unfold edsL; rw [List.getElem?_map, hnn]; rfl
                      rw [HDE.out, h2] at h1
                      exact (Option.some.inj h1).symm
                    obtain ⟨q, rfl⟩ : ∃ q : Nat, n = (q : Int) := ⟨n.toNat, by omega⟩
                    obtain ⟨r, rfl⟩ : ∃ r : Nat, a = (r : Int) := ⟨a.toNat, by omega⟩
                    obtain ⟨be, oe, e, hAe, hbe, hee, f0, f1, f2, f3⟩ := (HEX.out wq (bthen HBR.out hRq)).ed (k := q) (by omega)
                    subst hAe
                    obtain ⟨bf, of, e', hAf, hbf, hef, k0, k1, k2, k3⟩ := (HEY.out wq (bthen HBR.out hRq)).ed (k := r) (by omega)
                    subst hAf
                    have hed : edAt la (q : Int) = e := edAt_ofX (by rw [Int.toNat_natCast]; exact hee)
                    have hed2 : edAt y (r : Int) = e' := edAt_ofX (by rw [Int.toNat_natCast]; exact hef)
                    obtain rfl : e' = e := by rw [← hed, ← hed2]; exact hee2
                    have hjI : (j : Int) < (nc : Int) := by omega
                    have hj0 : (0 : Int) ≤ (j : Int) := by omega
                    have hqn : ¬ (la.es.length : Int) ≤ (q : Int) := by omega
                    have hrn : ¬ (y.es.length : Int) ≤ (r : Int) := by omega
                    have hq0 : (0 : Int) ≤ (q : Int) := by omega
                    have hr0 : (0 : Int) ≤ (r : Int) := by omega
                    clear hed hed2 hee2 hee hef hnn haa
                    go_upto_region 34 with fail
                    refine ordB_below (.quiet 0 (.quiet 1 (.quiet 2 (.quiet 3 (.quiet 4 (.quiet 5 (.quiet 6 (.quiet 7 (.quiet 8 (.quiet 9 (.quiet 10 (.quiet 11 (.quiet 12 (.quiet 13 (.quiet 14 (.quiet 15 (.quiet 16 (.quiet 17 .done)))))))))))))))))) (by kernel_rfl) (by kernel_rfl) (by kernel_rfl) (fun _ _ _ _ _ h => h) ?_
                    intro V3 hV3
                    iterate 18 (first
                      | (refine ordB_skip rfl rfl ?_; simp only [Act.put, List.setIfInBounds_toArray, List.set_cons_zero, List.set_cons_succ])
                      | (refine ordB_take (v := ?_) rfl rfl ?_ ?_
                         rotate_left 1
                         focus (intro W hW; obtain ⟨hcW, hfW⟩ := bcell hW; (go_simp <;> with_reducible rfl))
                         simp only [Act.put, List.setIfInBounds_toArray, List.set_cons_zero, List.set_cons_succ]))
                    refine ordB_nil ?_
                    have HQ2 := Lib.hid hV3
                    have hc := bcell hV3
                    have t0 := (hc.1 _ _ hbb).trans t0
                    have u0 := (hc.1 _ _ hb2).trans u0
                    have f0 := (hc.1 _ _ hbe).trans f0
                    have f1 := (hc.1 _ _ hbe).trans f1
                    have f2 := (hc.1 _ _ hbe).trans f2
                    have f3 := (hc.1 _ _ hbe).trans f3
                    have k0 := (hc.1 _ _ hbf).trans k0
                    have k1 := (hc.1 _ _ hbf).trans k1
                    have k2 := (hc.1 _ _ hbf).trans k2
                    have k3 := (hc.1 _ _ hbf).trans k3
                    have hbe := Nat.lt_of_lt_of_le hbe hV3.size
                    have hbf := Nat.lt_of_lt_of_le hbf hV3.size
                    clear hc t0 t1 hbb u0 u1 hb2 g0 g1 hbl hbm
                    have hRq2 := bthen hRq hV3
                    obtain ⟨⟨x0, x1, xl⟩, ⟨y0, y1, yl⟩⟩ := HC.out _ (bthen HB9.out (bthen HBR.out hRq2))
                    clear hRq2
                    go_upto_region 35 with fail
                    refine ordB_below (.quiet 0 (.quiet 1 (.quiet 2 (.quiet 3 (.quiet 4 (.quiet 5 (.quiet 6 (.quiet 7 (.quiet 8 (.quiet 9 (.quiet 10 (.quiet 11 (.quiet 12 (.quiet 13 (.quiet 14 (.quiet 15 (.quiet 16 (.quiet 17 (.quiet 18 (.quiet 19 (.quiet 20 (.quiet 21 (.quiet 22 (.quiet 23 (.quiet 24 (.quiet 25 (.quiet 26 (.quiet 27 (.quiet 28 (.quiet 29 (.quiet 30 (.quiet 31 (.quiet 32 .done))))))))))))))))))))))))))))))))) (by kernel_rfl) (by kernel_rfl) (by kernel_rfl) (fun _ _ _ _ _ h => h) ?_
                    intro V4 hV4
                    iterate 33 (first
                      | (refine ordB_skip rfl rfl ?_; simp only [Act.put, List.setIfInBounds_toArray, List.set_cons_zero, List.set_cons_succ])
                      | (refine ordB_take (v := ?_) rfl rfl ?_ ?_
                         rotate_left 1
                         focus (intro W hW; obtain ⟨hcW, hfW⟩ := bcell hW; (go_simp <;> with_reducible rfl))
                         simp only [Act.put, List.setIfInBounds_toArray, List.set_cons_zero, List.set_cons_succ]))
                    refine ordB_nil ?_
                    have HBE := Lib.hid (bthen HBQ.out (bthen HQ2.out hV4))
                    go_wp2_with fail
                    go_roundw
                    case rel => exact ⟨j + 1, by omega, by go_num, HBE.out⟩
                    case measure => simp [intOf]; omega
                  · clear hbq hRq
                    go_wp2_with fail
                    go_roundw
                    case rel => exact ⟨i + 1, at_ + 1, by omega, HNX.out, by omega, by go_num, by go_num, bthen HBR.out (bthen HBV.out HBQ.out)⟩
                    case measure => simp [intOf]; omega
      · obtain rfl : i = CA.length := by omega
        have hat2 : at_ = CB.length := by rw [HAT.out]; exact pin_end HPL.out
        subst hat2
        have HBE := Lib.hid (bthen HBW.out hbr)
        clear hbr HAT
        go_wp2_with fail
        go_ret
        exact ⟨rfl, HBE.out⟩
end Go.Proofs.YtfjkmgjjifhdkaaGreat
