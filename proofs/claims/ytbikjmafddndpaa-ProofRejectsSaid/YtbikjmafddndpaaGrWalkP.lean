/-
  The walks of layers 15 and 16: the reference's ways.
-/
import Derived.Test.YtbikjmafddndpaaGrWaysB
import Derived.Test.YtbikjmafddndpaaGrWalkC
import Derived.Test.YtbikjmafddndpaaBase
import Derived.Deep.DeepCutAuto
namespace Go.Proofs.Ytbikjmafddndpaa
open Go Go.RowKit

theorem can_info : (Try.prog.info? 43).map (fun i => (i.zero, i.size, i.bytes)) = some (some (.agg #[.slice none 0 0, .int .i64 0]), 2, 32) := by kernel_rfl
theorem int_inf2 : (Try.prog.info? 3).map (fun i => (i.zero, i.size, i.bytes)) = some (some (.int .i64 0), 1, 8) := by kernel_rfl
/-- Candidates that a call has made. -/
def IsCans (L : List Can) (w : World) (e : Ending) (w' : World) : Prop := ∃ v ms, e = .returned v ∧ w'.ownsRow w.heap.size 43 2 v ms.length (ms.flatMap encMc) ∧ MsOK w' ms ∧ Hid (ms.map (·.x) = L) ∧ Below w.heap.size w w'
set_option maxRecDepth 100000 in
set_option maxHeartbeats 16000000 in
theorem ways_any (A : Option Addr) (c : Nat) (g : Gr) (N : Nat) (hg : GrOK g) (hN : g.n = (N : Int)) (most : Nat) (hm1 : 1 ≤ most) (hm2 : most ≤ 2000) :
    ∀ (f : Nat) (v : Nat) (w : World), SlR 4 RLk w A g.ls → v < N → N - v ≤ f → f ≤ 2000 →
      Calls Try.prog 44 #[.agg #[.int .i64 (N : Int), .slice A g.ls.length c], .int .i64 (v : Int), .int .i64 (most : Int)] w (IsCans (waysM g most f (v : Int)) w) := by
  intro f
  induction f with
  | zero => intro v w _ h1 h2 _; exfalso; omega
  | succ f ih =>
    intro v0 w hx hvN hf hf2
    have IH := Lib.hid ih
    clear ih
    have hgl := hg.len
    obtain ⟨hn1, hn2⟩ := hg.n
    have HG := Lib.hid hg
    have HN := Lib.hid hN
    have hN2 : N ≤ 2000 := by omega
    obtain ⟨i0, hi, hz0, hz1, hz2⟩ := info_parts can_info
    obtain ⟨i1, hi1, hy0, hy1, hy2⟩ := info_parts int_inf2
    obtain ⟨w1, hw1⟩ : ∃ w1, w.alloc (.cells #[.int .i64 (N : Int), .slice A g.ls.length c] 30) = w1 := ⟨_, rfl⟩
    have hb1 : Below w.heap.size w w1 := by rw [← hw1]; exact nw _ (Below.refl _ _)
    have hB1 : Blk w1 w.heap.size 30 #[.int .i64 (N : Int), .slice A g.ls.length c] := by rw [← hw1]; exact Blk.new _ _ _
    have HW1 := Lib.hid hw1
    obtain ⟨w2, hw2⟩ : ∃ w2, w1.alloc (.cells #[] 43) = w2 := ⟨_, rfl⟩
    have hb2 : Below w1.heap.size w1 w2 := by rw [← hw2]; exact nw _ (Below.refl _ _)
    have ho2 : w2.ownsRow w1.heap.size 43 2 (.slice (some ⟨w1.heap.size, 0, none⟩) 0 0) 0 [] := by rw [← hw2]; exact own_empty w1 _ 2 _ (Nat.le_refl _)
    have HW2 := Lib.hid hw2
    have hs2 : w2.heap.size = w1.heap.size + 1 := by rw [← hw2]; simp
    obtain ⟨b1, hb1e⟩ : ∃ b, w1.heap.size = b := ⟨_, rfl⟩
    have HB1E := Lib.hid hb1e
    have hwb1 : w.heap.size < b1 := by have := hB1.lt; omega
    have hB2 := hB1.below hb2 hB1.lt
    rw [hb1e] at ho2 hs2
    have HS2 := Lib.hid hs2
    have HBW2 := Lib.hid (bthen hb1 hb2)
    have g0 := hB2.cell 0
    have g1 := hB2.cell 1
    simp at g0 g1
    have hwN : IntKind.i64.wrap ((N : Int) - 1) = (N : Int) - 1 := IntWalk.i64_in _ (by omega)
    clear hw1 hw2 hg hN hb1 hb2 hB1 hb1e hs2
    by_cases hlast : v0 + 1 = N
    · have HWM : Hid (waysM g most (f + 1) (v0 : Int) = [⟨[], 0⟩]) := wayLast (by have := HN.out; omega)
      have hvb : ((v0 : Int) == (N : Int) - 1) = true := by simp; omega
      clear hlast
      go_enter Try.func44, Try.ntmps44
      go_upto_region 1 with fail
      rw [HW1.out]
      go_upto_region 2 with fail
      rw [HW2.out, HB1E.out]
      go_wp2_with (at_builtin; go_loud (refine wpList_appS (enc := encMc) (R := RMc) rfl _ _ 32 rfl b1 43 i0 _ 2 32 Try.underlying32 hi hz0 hz1 hz2 rfl (by decide) (.slice (some ⟨b1, 0, none⟩) 0 0) 0 [] rfl (ho2.alloc _) (some ⟨w2.heap.size, 0, none⟩) 1 [⟨none, 0, ⟨[], 0⟩⟩] rfl (slr_blk (enc := encMc) (Blk.new_ rfl) (fun _ => rfl) (fun _ => rfl)) (fun _ _ _ h => h) (fun _ => rfl) (by intro u hu; simp [encMc] at hu; rcases hu with rfl | rfl <;> rfl) (by simp) (by decide) (by have := HS2.out; simp; omega) ?_))
      intro v' w' h1 h2 h3
      have HE := Lib.hid (HBW2.out.trans (((Below.refl w2.heap.size w2).alloc (Nat.le_refl _) (.cells #[.slice none 0 0, .int .i64 0] 43)).mono HBW2.out.size |>.trans (h2.mono (Nat.le_of_lt hwb1))))
      have HO := Lib.hid (own_base h1 (Nat.le_of_lt hwb1))
      clear h1 h2 h3 ho2
      go_wp2_with fail
      go_ret
      exact ⟨v', [⟨none, 0, ⟨[], 0⟩⟩], rfl, by simpa using HO.out, fun m hm => by obtain rfl := List.mem_singleton.1 hm; exact ⟨SlT.nil, Nat.le_refl _, Nat.zero_le _⟩, by show _ = _; rw [HWM.out]; rfl, HE.out⟩
    · have HWM : Hid (waysM g most (f + 1) (v0 : Int) = wayTo g most f (v0 : Int) g.ls.length) := wayTo_all (by have := HN.out; omega)
      have hvb : ((v0 : Int) == (N : Int) - 1) = false := by simp; omega
      have hgm : g.ls.length ≤ 9223372036854775807 := by omega
      clear hlast
      go_enter Try.func44, Try.ntmps44
      go_upto_region 1 with fail
      rw [HW1.out]
      go_upto_region 2 with fail
      rw [HW2.out, HB1E.out]
      go_wp2_with fail
      go_loopw [7, 8] (fun ov i wr => ∃ (j : Nat) (v : Value) (ms : List MC), j ≤ g.ls.length ∧ i = .int .i64 j ∧ v = ov ∧ wr.ownsRow b1 43 2 v ms.length (ms.flatMap encMc) ∧ MsOK wr ms ∧ Hid (ms.map (·.x) = wayTo g most f (v0 : Int) j) ∧ Below b1 w2 wr) (fun _ i _ => g.ls.length - (intOf i).toNat)
      case atStart => exact ⟨0, _, [], by omega, rfl, rfl, ho2, MsOK.nil, rfl, Below.refl _ _⟩
      case round =>
        obtain ⟨j, v, ms, hj, rfl, rfl, hown, hms, HMX, hbr⟩ := hrel
        have hbw : Below w.heap.size w wr := HBW2.out.trans (hbr.mono (Nat.le_of_lt hwb1))
        have hBg := hB2.below hbr hwb1
        have g0 := hBg.cell 0
        have g1 := hBg.cell 1
        simp at g0 g1
        have hszr : b1 < wr.heap.size := by have := hbr.size; have := HS2.out; omega
        by_cases hlt : j < g.ls.length
        · obtain ⟨b, off, l, rfl, hbb, hll, d0, d1, d2, d3⟩ := (hx.below keeps_lk hbw).lk hlt
          obtain ⟨o1, o2, o3, o4, o5⟩ := HG.out.ls l (List.mem_of_getElem? hll)
          have HST := Lib.hid (wayTo_step (most := most) (f := f) (v := (v0 : Int)) hll)
          have hjl : (j : Int) < (g.ls.length : Int) := by omega
          have hbw0 : b < w.heap.size := by obtain ⟨b', o', e, h, _⟩ := hx (by intro e; rw [e] at hlt; simp at hlt); injection e with e; injection e with e; omega
          by_cases hfr : l.fr = (v0 : Int)
          · have HAD : Hid (wayTo g most f (v0 : Int) (j + 1) = addW g most (waysM g most f l.to) (wayTo g most f (v0 : Int) j) (j : Int)) := by show _ = _; rw [HST.out, if_pos hfr]
            have zb : (l.fr != (v0 : Int)) = false := by simp [hfr]
            obtain ⟨tn, htn⟩ : ∃ tn : Nat, l.to = (tn : Int) := ⟨l.to.toNat, by omega⟩
            have htN : tn < N := by have := HN.out; omega
            have htv : v0 < tn := by omega
            have HLA : Hid (lkAt g (j : Int) = l) := lkAt_nat hll
            rw [htn] at d1 HAD
            have HREC : Hid (∀ W, Below wr.heap.size wr W → Calls Try.prog 44 #[.agg #[.int .i64 (N : Int), .slice (some ⟨b, off, none⟩) g.ls.length c], .int .i64 (tn : Int), .int .i64 (most : Int)] W fun e w' => ∃ vr rs, e = .returned vr ∧ w'.ownsRow wr.heap.size 43 2 vr rs.length (rs.flatMap encMc) ∧ MsOK w' rs ∧ Hid (rs.map (·.x) = waysM g most f (tn : Int)) ∧ Below W.heap.size W w') := fun W hW =>
              (IH.out tn W (hx.below keeps_lk (bthen hbw hW)) htN (by omega) (by omega)).mono fun e w' ⟨vr, rs, h1, h2, h3, h4, h5⟩ => ⟨vr, rs, h1, own_base h2 hW.size, h3, h4, h5⟩
            have HOWN := Lib.hid hown
            have HMS := Lib.hid hms
            have HBRR := Lib.hid hbr
            have hwwr : w.heap.size < wr.heap.size := by omega
            have HLL := Lib.hid hll
            clear hll hfr hown hms hbr htn
            go_upto_region 8 with fail
            go_cut [9] (fun s9 W => ∃ vr rs, s9 = vr ∧ W.ownsRow wr.heap.size 43 2 vr rs.length (rs.flatMap encMc) ∧ MsOK W rs ∧ Hid (rs.map (·.x) = waysM g most f (tn : Int)) ∧ Below wr.heap.size wr W)
            case first =>
              refine ordB_below (.quiet 0 (.quiet 1 (.quiet 2 (.quiet 3 (.quiet 4 (.quiet 5 (.quiet 6 (.quiet 7 (.only 8 (.quiet 9 .done)))))))))) (by kernel_rfl) (by kernel_rfl) (by kernel_rfl) (fun _ _ _ _ _ h => h) ?_
              intro V0 hV0
              iterate 8 (first
                | (refine ordB_skip rfl rfl ?_; simp only [Act.put, List.setIfInBounds_toArray, List.set_cons_zero, List.set_cons_succ])
                | (refine ordB_take (v := ?_) rfl rfl ?_ ?_
                   rotate_left 1
                   focus (intro W hW; obtain ⟨hcW, hfW⟩ := bcell hW; (go_simp <;> with_reducible rfl))
                   simp only [Act.put, List.setIfInBounds_toArray, List.set_cons_zero, List.set_cons_succ]))
              refine ordB_only (opB_call rfl rfl (fun K hK => ?_))
              go_simp
              go_at_call 44
              refine (HREC.out V0 hV0).mono ?_
              rintro e V0_1 ⟨vr, rs, rfl, hor, hmr, HRX, hbR⟩
              refine hK.out _ _ (hV0.trans (hbR.mono hV0.size)) (fun hV0_1 => ?_)
              iterate 1 (first
                | (refine ordB_skip rfl rfl ?_; simp only [Act.put, List.setIfInBounds_toArray, List.set_cons_zero, List.set_cons_succ])
                | (refine ordB_take (v := ?_) rfl rfl ?_ ?_
                   rotate_left 1
                   focus (intro W hW; obtain ⟨hcW, hfW⟩ := bcell hW; (go_simp <;> with_reducible rfl))
                   simp only [Act.put, List.setIfInBounds_toArray, List.set_cons_zero, List.set_cons_succ]))
              refine ordB_nil ?_
              go_wp2_with fail
              go_meet
              exact ⟨vr, rs, rfl, hor, hmr, HRX, hV0_1⟩
            case rest =>
              obtain ⟨W5, rfl⟩ : ∃ W, W = wc := ⟨wc, rfl⟩
              obtain ⟨vr, rs, rfl, hor, hmr, HRX, hb5⟩ := hcut
              obtain ⟨Ar, cr, rfl, hcr, hcm, _⟩ := own_slr (R := RMc) hor (fun _ => rfl) (fun _ => rfl) rfl
              have hrl : rs.length ≤ most := by have := congrArg List.length HRX.out; rw [List.length_map] at this; rw [this]; exact waysM_len g hm1 f _
              have hml : ms.length ≤ most := by have := congrArg List.length HMX.out; rw [List.length_map] at this; rw [this]; exact wayTo_len g
              have hbd : ∀ k (m : MC), rs[k]? = some m → WB f m.x := fun k m hk => waysM_bd HG.out most f (tn : Int) m.x (by rw [← HRX.out]; exact List.mem_map.2 ⟨m, List.mem_of_getElem? hk, rfl⟩)
              have HBD := Lib.hid hbd
              have hne0 : ∀ gg, (Value.slice Ar rs.length cr).ownBlock = some gg → v.ownBlock ≠ some gg := fun gg hg e => own_lt HOWN.out (own_block_le hor gg hg) e
              have hown5 := own_below HOWN.out hb5
              have d3w : w.cell? ⟨b, off + j * 4 + 3, none⟩ = some (.int .i64 l.cost) := (hbw.cell (p := ⟨b, _, none⟩) hbw0).symm.trans d3
              have hms5 := HMS.out.below hb5
              have hbr5 : Below b1 w2 W5 := HBRR.out.trans (hb5.mono (Nat.le_of_lt hszr))
              have HNE0 := Lib.hid hne0
              clear hbd hne0 hbr5
              have HBR5 : Hid (Below b1 w2 W5) := HBRR.out.trans (hb5.mono (Nat.le_of_lt hszr))
              clear hb5 g0 g1 d0 d1 d2 d3 hbw hBg hbb
              obtain ⟨br, hbrE⟩ : ∃ b, wr.heap.size = b := ⟨_, rfl⟩
              rw [hbrE] at hor hszr hwwr
              clear hbrE
              have D3W := Lib.hid d3w
              clear d3w
              go_wp2_with fail
              go_loopw [7, 10] (fun ov kv wi => ∃ (k : Nat) (v : Value) (ms2 : List MC), k ≤ rs.length ∧ ms2.length = ms.length + k ∧ ms2.length ≤ most ∧ kv = .int .i64 k ∧ v = ov ∧ wi.ownsRow b1 43 2 v ms2.length (ms2.flatMap encMc) ∧ MsOK wi ms2 ∧
                  Hid (ms2.map (·.x) = ms.map (·.x) ++ ((rs.map (·.x)).take k).map (fun r => (⟨(j : Int) :: r.links, r.cost + l.cost⟩ : Can))) ∧ wi.ownsRow br 43 2 (.slice Ar rs.length cr) rs.length (rs.flatMap encMc) ∧ Hid (∀ gg, (Value.slice Ar rs.length cr).ownBlock = some gg → v.ownBlock ≠ some gg) ∧ MsOK wi rs ∧ Below b1 w2 wi) (fun _ kv _ => rs.length - (intOf kv).toNat)
              case atStart => exact ⟨0, v, ms, by omega, rfl, hml, rfl, rfl, hown5, hms5, by show _ = _; simp, hor, HNE0, hmr, HBR5.out⟩
              case round =>
                obtain ⟨k, v2, ms2, hk, hl2, hm2, rfl, rfl, hown, hms2, HMX2, hor2, HNE, hmr2, hbr2⟩ := hrel
                have hl3 : ms2.length ≤ ms.length + k := by omega
                have hl4 : ms.length + k ≤ ms2.length := by omega
                clear hl2
                have hbw : Below w.heap.size w wr := HBW2.out.trans (hbr2.mono (Nat.le_of_lt hwb1))
                have hBg := hB2.below hbr2 hwb1
                have g0 := hBg.cell 0
                have g1 := hBg.cell 1
                simp at g0 g1
                have hszi : b1 < wr.heap.size := by have := hbr2.size; have := HS2.out; omega
                obtain ⟨Av, cv, rfl, hcv, hcvm, _⟩ := own_slr (R := RMc) hown (fun _ => rfl) (fun _ => rfl) rfl
                have hmsl : ms2.length ≤ 9223372036854775807 := by omega
                by_cases hcc : k < rs.length ∧ ms2.length < most
                · obtain ⟨hk1, hk2⟩ := hcc
                  obtain ⟨A9, c9, he, _, _, hsr⟩ := own_slr (R := RMc) hor2 (fun _ => rfl) (fun _ => rfl) rfl
                  obtain ⟨rfl, rfl⟩ : Ar = A9 ∧ cr = c9 := by injection he with h1 h2 h3; exact ⟨h1, h3⟩
                  obtain ⟨br', off', m, rfl, hbb', hmk, r0, r1⟩ := hsr.mc hk1
                  obtain ⟨hmt, hmc, hmm⟩ := hmr2 m (List.mem_of_getElem? hmk)
                  obtain ⟨wb1, wb2, wb3⟩ := HBD.out k m hmk
                  have d3 := (hbw.cell (p := ⟨b, off + j * 4 + 3, none⟩) hbw0).trans D3W.out
                  have HMK := Lib.hid hmk
                  have z1 : decide (k < rs.length) = true := decide_eq_true hk1
                  have z2 : decide (ms2.length < most) = true := decide_eq_true hk2
                  have z3 : (k : Int) < (rs.length : Int) := by omega
                  have hwc : IntKind.i64.wrap (m.x.cost + l.cost) = m.x.cost + l.cost := IntWalk.i64_in _ (by omega)
                  obtain ⟨W6, hW6⟩ : ∃ W, wr.alloc (.cells #[.int .i64 (j : Int)] 3) = W := ⟨_, rfl⟩
                  have hb6 : Below wr.heap.size wr W6 := by rw [← hW6]; exact nw _ (Below.refl _ _)
                  have hlit : W6.ownsRow wr.heap.size 3 1 (.slice (some ⟨wr.heap.size, 0, none⟩) 1 1) 1 [.int .i64 (j : Int)] := by rw [← hW6]; exact own_lit wr _ _ 1 1 _ _ rfl (Nat.le_refl _) rfl (by unfold maxLen; omega)
                  have hmt6 := (hmt.below hb6).slr
                  have hsz6 : wr.heap.size ≤ W6.heap.size := hb6.size
                  have r0 := (hb6.cell (p := ⟨br', _, none⟩) hbb').trans r0
                  have HB6 := Lib.hid hb6
                  have HOWN2 := Lib.hid hown
                  have HMS2 := Lib.hid hms2
                  have HOR2 := Lib.hid hor2
                  have HMR2 := Lib.hid hmr2
                  have HBR2 := Lib.hid hbr2
                  have HBG := Lib.hid hBg
                  have HNB : Hid (∀ q, (Value.slice Av ms2.length cv).ownBlock = some q → b1 ≤ q) := own_block_le hown
                  have HNR : Hid ((Value.slice Av ms2.length cv).ownBlock ≠ some br') := HNE.out br' rfl
                  clear hmk hown hms2 hor2 hmr2 hbr2 hb6 hBg hsr hmt he
                  go_upto_region 13 with (at_builtin; go_loud (refine wpList_appS (enc := fun x => [.int .i64 x]) (R := RInt) rfl _ _ 36 rfl wr.heap.size 3 i1 _ 1 8 Try.underlying36 hi1 hy0 hy1 hy2 rfl (by decide) (.slice (some ⟨wr.heap.size, 0, none⟩) 1 1) 1 [.int .i64 (j : Int)] rfl hlit m.A m.c m.x.links rfl hmt6 (fun _ _ _ h => h) (fun _ => rfl) (by intro u hu; obtain ⟨y, _, hy⟩ := List.mem_flatMap.1 hu; obtain rfl := List.mem_singleton.1 hy; rfl) (by omega) (by decide) hsz6 ?_; intro v5 W0 h51 h52 h53))
                  have h51' : W0.ownsRow wr.heap.size 3 1 v5 (m.x.links.length + 1) (((j : Int) :: m.x.links).map (Value.int .i64)) := by rw [Nat.add_comm] at h51; rw [flatMap_one] at h51; simpa using h51
                  obtain ⟨Bn, cn, rfl, hcn, hcnm, hst⟩ := own_slt h51' (by simp)
                  have hb60 : Below wr.heap.size wr W0 := HB6.out.trans h52
                  have HO := Lib.hid (own_below HOWN2.out hb60)
                  have HOR := Lib.hid (own_below HOR2.out hb60)
                  have HM2 := Lib.hid (HMS2.out.below hb60)
                  have HMR := Lib.hid (HMR2.out.below hb60)
                  have HBI := Lib.hid (HBR2.out.trans (hb60.mono (Nat.le_of_lt hszi)))
                  have HST0 := Lib.hid hst
                  have g0 := (hb60.cell (p := ⟨w.heap.size, _, none⟩) (by show w.heap.size < wr.heap.size; omega)).trans g0
                  have g1 := (hb60.cell (p := ⟨w.heap.size, _, none⟩) (by show w.heap.size < wr.heap.size; omega)).trans g1
                  have d3 := (hb60.cell (p := ⟨b, _, none⟩) (by show b < wr.heap.size; omega)).trans d3
                  have r1 := (hb60.cell (p := ⟨br', _, none⟩) hbb').trans r1
                  have hs60 := hb60.size
                  have q0 : w.heap.size < W0.heap.size := by omega
                  have q1 : b < W0.heap.size := by omega
                  have q2 : br' < W0.heap.size := by omega
                  have q6 : b1 < W0.heap.size := by omega
                  have q3 : (Value.slice Av ms2.length cv).ownBlock ≠ some w.heap.size := fun e => by have := HNB.out _ e; omega
                  have q4 : (Value.slice Av ms2.length cv).ownBlock ≠ some b := fun e => by have := HNB.out _ e; omega
                  have q5 := HNR.out
                  have HNE' := HNE
                  clear h51 h51' h52 h53 hst hb60 hlit hmt6 r0 hs60 HNE
                  generalize Value.slice Av ms2.length cv = v2 at *
                  refine ordB_start (ButOwn v2 W0) (.quiet 0 (.quiet 1 (.quiet 2 (.quiet 3 (.quiet 4 (.quiet 5 (.quiet 6 (.quiet 7 (.quiet 8 (.quiet 9 (.quiet 10 (.quiet 11 (.quiet 12 (.quiet 13 (.quiet 14 (.only 15 (.only 16 (.quiet 17 .done)))))))))))))))))) (by kernel_rfl) (by kernel_rfl) (by kernel_rfl) (fun _ _ _ _ _ h => h) (ButOwn.of_below (Below.refl _ _).drew) ?_
                  have HD : Below W0.heap.size W0 W0.drew := (Below.refl _ _).drew
                  obtain ⟨Wd, hWd⟩ : ∃ Wd, W0.drew = Wd := ⟨_, rfl⟩
                  rw [hWd] at HD ⊢
                  clear hWd
                  have HS0 := ButOwn.of_below (v := v2) HD
                  iterate 15 (refine ordB_take (v := ?_) rfl rfl ?_ ?_; rotate_left 1; (focus (intro W hW; have hcW := hW.cell; (go_simp <;> with_reducible rfl))); simp only [Act.put, List.setIfInBounds_toArray, List.set_cons_zero, List.set_cons_succ])
                  refine ordB_only (opB_call rfl rfl (fun K hK => ?_))
                  go_simp
                  have HD2 := HD.alloc HD.size (.cells #[.slice Bn (m.x.links.length + 1) cn, .int .i64 (m.x.cost + l.cost)] 43)
                  have HS1 := ButOwn.of_below (v := v2) HD2
                  refine hK.out _ _ HS1 (fun _ => ?_)
                  clear hK K
                  try simp only [Act.put, List.setIfInBounds_toArray, List.set_cons_zero, List.set_cons_succ]
                  refine ordB_only (opB_call rfl rfl (fun K hK => ?_))
                  refine wp_appS (enc := encMc) (R := RMc) _ _ 32 rfl b1 43 i0 _ 2 32 Try.underlying32 hi hz0 hz1 hz2 rfl (by decide) v2 _ _ rfl ((own_below HO.out HD).alloc _) (some ⟨Wd.heap.size, 0, none⟩) 1 [MC.mk Bn cn (Can.mk ((j : Int) :: m.x.links) (m.x.cost + l.cost))] rfl (slr_blk (enc := encMc) (Blk.new_ rfl) (fun _ => rfl) (fun _ => rfl)) (fun _ _ _ h => h) (fun _ => rfl) (by intro u hu; simp [encMc] at hu; rcases hu with rfl | rfl <;> rfl) (by simp; omega) (by decide) (by have := HD.size; simp; omega) ?_
                  intro v4 w4 hown4 hb4 ha4
                  have HS2 := HS1.apps hb4.size ha4
                  refine hK.out _ _ HS2 (fun _ => ?_)
                  clear hK K
                  try simp only [Act.put, List.setIfInBounds_toArray, List.set_cons_zero, List.set_cons_succ]
                  iterate 1 (refine ordB_take (v := ?_) rfl rfl ?_ ?_; rotate_left 1; (focus (intro W hW; have hcW := hW.cell; (go_simp <;> with_reducible rfl))); simp only [Act.put, List.setIfInBounds_toArray, List.set_cons_zero, List.set_cons_succ])
                  refine ordB_nil ?_
                  have HOD := own_below HO.out HD
                  have HRD := own_below HOR.out HD
                  have hbe1 := own_beside (HRD.alloc (.cells #[.slice Bn (m.x.links.length + 1) cn, .int .i64 (m.x.cost + l.cost)] 43)) HNE'.out ha4
                  have hAl : Below Wd.heap.size Wd (Wd.alloc (.cells #[.slice Bn (m.x.links.length + 1) cn, .int .i64 (m.x.cost + l.cost)] 43)) := (Below.refl _ _).alloc (Nat.le_refl _) _
                  have hmn : MOK W0 (MC.mk Bn cn (Can.mk ((j : Int) :: m.x.links) (m.x.cost + l.cost))) := ⟨HST0.out, by show (m.x.links.length + 1) ≤ cn; exact hcn, hcnm⟩
                  have hmA : MsOK W0 (ms2 ++ [MC.mk Bn cn (Can.mk ((j : Int) :: m.x.links) (m.x.cost + l.cost))]) := HM2.out.app fun x hx => by obtain rfl := List.mem_singleton.1 hx; exact hmn
                  have HMA := Lib.hid (((hmA.below HD).below hAl).apps (HOD.alloc _) (by decide) ha4)
                  have HMR4 := Lib.hid (((HMR.out.below HD).below hAl).apps (HOD.alloc _) (by decide) ha4)
                  have HB4 := Lib.hid ((HBI.out.trans ((HD2.mono (by omega)))).trans hb4)
                  have HO4 : Hid (w4.ownsRow b1 43 2 v4 (ms2 ++ [MC.mk Bn cn (Can.mk ((j : Int) :: m.x.links) (m.x.cost + l.cost))]).length ((ms2 ++ [MC.mk Bn cn (Can.mk ((j : Int) :: m.x.links) (m.x.cost + l.cost))]).flatMap encMc)) := by show World.ownsRow _ _ _ _ _ _ _; rw [List.length_append, List.flatMap_append]; exact hown4
                  have HR4 := Lib.hid hbe1.1
                  have HN4 := Lib.hid hbe1.2
                  have HX4 : Hid ((ms2 ++ [(MC.mk Bn cn (Can.mk ((j : Int) :: m.x.links) (m.x.cost + l.cost)) : MC)]).map (·.x) = ms.map (·.x) ++ ((rs.map (·.x)).take (k + 1)).map (fun r => (⟨(j : Int) :: r.links, r.cost + l.cost⟩ : Can))) := by
                    show _ = _
                    rw [List.map_append, HMX2.out, take_succ_of (show (rs.map (·.x))[k]? = some m.x by rw [List.getElem?_map, HMK.out]; rfl), List.map_append, List.append_assoc]
                    rfl
                  clear HOD HRD hbe1 hmn hmA hown4 hb4 ha4
                  go_wp2_with fail
                  go_roundw
                  case rel => exact ⟨k + 1, v4, _, by omega, by rw [List.length_append, List.length_singleton]; omega, by rw [List.length_append, List.length_singleton]; omega, by go_num, rfl, HO4.out, HMA.out, HX4, HR4.out, HN4, HMR4.out, HB4.out⟩
                  case measure => simp [intOf]; omega
                · have hdone : k = rs.length ∨ ms2.length = most := by omega
                  have HN3 : Hid (ms2.map (·.x) = wayTo g most f (v0 : Int) (j + 1)) := by
                    show _ = _
                    rw [HMX2.out, HAD.out, HRX.out, ← HMX.out]
                    unfold addW
                    rw [HLA.out, List.length_map]
                    congr 2
                    have hrx := congrArg List.length HRX.out
                    rw [List.length_map] at hrx
                    rcases hdone with h | h
                    · rw [List.take_of_length_le (by omega), List.take_of_length_le (by omega)]
                    · rw [show most - ms.length = k by omega]
                  have HOWN2 := Lib.hid hown
                  have HMS2 := Lib.hid hms2
                  have HBR2 := Lib.hid hbr2
                  by_cases hk1 : k < rs.length
                  · have z1 : decide (k < rs.length) = true := decide_eq_true hk1
                    have z2 : decide (ms2.length < most) = false := decide_eq_false (by omega)
                    clear hdone hcc hown hms2 hor2 hmr2 hbr2
                    go_wp2_with fail
                    go_roundw
                    case rel => exact ⟨j + 1, _, ms2, by omega, by go_num, rfl, HOWN2.out, HMS2.out, HN3, HBR2.out⟩
                    case measure => simp [intOf]; omega
                  · have z1 : decide (k < rs.length) = false := decide_eq_false hk1
                    clear hdone hcc hown hms2 hor2 hmr2 hbr2
                    go_wp2_with fail
                    go_roundw
                    case rel => exact ⟨j + 1, _, ms2, by omega, by go_num, rfl, HOWN2.out, HMS2.out, HN3, HBR2.out⟩
                    case measure => simp [intOf]; omega
          · have HN2 : Hid (wayTo g most f (v0 : Int) (j + 1) = wayTo g most f (v0 : Int) j) := by show _ = _; rw [HST.out, if_neg hfr]
            have zb : (l.fr != (v0 : Int)) = true := by simp [hfr]
            have HBRR := Lib.hid hbr
            have HOWN := Lib.hid hown
            have HMS := Lib.hid hms
            clear hll hfr hown hms hbr
            go_wp2_with fail
            go_roundw
            case rel => exact ⟨j + 1, v, ms, by omega, by go_num, rfl, HOWN.out, HMS.out, by show _ = _; rw [HMX.out, HN2.out], HBRR.out⟩
            case measure => simp [intOf]; omega
        · have HF : Hid (ms.map (·.x) = waysM g most (f + 1) (v0 : Int)) := by show _ = _; rw [HMX.out, HWM.out, show j = g.ls.length by omega]
          have HO := Lib.hid (own_base hown (Nat.le_of_lt hwb1))
          have HMS := Lib.hid hms
          have HE := Lib.hid hbw
          obtain rfl : j = g.ls.length := by omega
          clear hown hms hbr hbw
          go_wp2_with fail
          go_ret
          exact ⟨v, ms, rfl, HO.out, HMS.out, HF, HE.out⟩
end Go.Proofs.Ytbikjmafddndpaa
