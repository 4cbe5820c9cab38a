/-
  TpWalkK, TpExact, joined. No conditions.
-/
import Derived.Test.YtfjkmgjjifhdkaaGreatR49
import Derived.Test.YtfjkmgjjifhdkaaGreatR47
import Derived.Test.YtfjkmgjjifhdkaaGreatR20
import Derived.Test.YtfjkmgjjifhdkaaGreatR05
import Derived.Deep.DeepCutAuto
/-
  The walk of the reference's Ways: the ways through a lattice from a place on, at most 300.
-/
namespace Go.Proofs.YtfjkmgjjifhdkaaGreat
open Go Go.RowKit

theorem eds_inf : (Tryz.prog.info? 25).map (fun i => (i.zero, i.size, i.bytes)) = some (some (.slice none 0 0), 1, 24) := by kernel_rfl
def wayUpTo (x : La) (f : Nat) (v : Int) (j : Nat) : List (List Ed) := (x.es.take j).foldl (fun out e => if e.fr = v then addWay out e (waysTo x f e.to) else out) []
theorem wayUpTo_step {x : La} {f : Nat} {v : Int} {j : Nat} {e : Ed} (h : x.es[j]? = some e) : wayUpTo x f v (j + 1) = if e.fr = v then addWay (wayUpTo x f v j) e (waysTo x f e.to) else wayUpTo x f v j := by
  unfold wayUpTo
  rw [take_snoc_of h, List.foldl_append]
  rfl
theorem wayUpTo_all {x : La} {f : Nat} {v : Int} (h : v ≠ x.n) : waysTo x (f + 1) v = wayUpTo x f v x.es.length := by
  show (if v = x.n then [[]] else _) = _
  rw [if_neg h]
  unfold wayUpTo
  rw [List.take_length]
theorem addWay_len {out rest : List (List Ed)} {e : Ed} (h : out.length ≤ 300) : (addWay out e rest).length ≤ 300 := by
  unfold addWay
  rw [List.length_append, List.length_map, List.length_take]
  omega
theorem wayUpTo_len {x : La} {f : Nat} {v : Int} : ∀ j, (wayUpTo x f v j).length ≤ 300
  | 0 => by unfold wayUpTo; simp
  | j + 1 => by
    cases h : x.es[j]? with
    | none =>
      have : wayUpTo x f v (j + 1) = wayUpTo x f v j := by
        unfold wayUpTo
        have hj : x.es.length ≤ j := List.getElem?_eq_none_iff.1 h
        rw [List.take_of_length_le (by omega), List.take_of_length_le hj]
      rw [this]; exact wayUpTo_len j
    | some e =>
      rw [wayUpTo_step h]
      split
      · exact addWay_len (wayUpTo_len j)
      · exact wayUpTo_len j
theorem waysAll_long (x : La) : ∀ (f : Nat) (v : Int), ∀ E ∈ waysAll x f v, E.length ≤ f
  | 0, _, _, h => by cases h
  | f + 1, v, E, h => by
    unfold waysAll at h
    split at h
    · rw [List.mem_singleton.1 h]; simp
    · obtain ⟨e, _, h⟩ := List.mem_flatMap.1 h
      split at h
      · obtain ⟨r, hr, rfl⟩ := List.mem_map.1 h
        have := waysAll_long x f e.to r hr
        rw [List.length_cons]; omega
      · cases h
theorem waysTo_long (x : La) (f : Nat) (v : Int) : ∀ E ∈ waysTo x f v, E.length ≤ f := fun E h => by
  rw [waysTo_eq] at h
  exact waysAll_long x f v E (List.mem_of_mem_take h)
/-- Ways that a call has made. -/
def IsWys (L : List (List Ed)) (w : World) (e : Ending) (w' : World) : Prop := ∃ v ms, e = .returned v ∧ w'.ownsRow w.heap.size 25 1 v ms.length (ms.flatMap encWy) ∧ WyOK w' ms ∧ Hid (ms.map (·.E) = L) ∧ Below w.heap.size w w'
set_option maxRecDepth 100000 in
set_option maxHeartbeats 16000000 in
theorem rways_any (x : La) (hx0 : LaOK x) (A : Option Addr) (c : Nat) (hl : x.es.length ≤ 100) :
    ∀ (f : Nat) (v : Int) (w : World), SlR 4 REd w A x.es → 0 ≤ v ∧ v ≤ x.n → x.n - v < (f : Int) → f ≤ 100 →
      Calls Tryz.prog 16 #[.agg #[.int .i64 x.n, .slice A x.es.length c], .int .i64 v] w (IsWys (waysTo x f v) w) := by
  intro f
  induction f with
  | zero => intro v w _ h1 h2 _; exfalso; omega
  | succ f ih =>
    intro v0 w hx hv hf hf2
    have IH := Lib.hid ih
    have HLA := Lib.hid hx0
    have hn := hx0.1
    clear ih
    obtain ⟨i0, hi, hz0, hz1, hz2⟩ := info_parts eds_inf
    obtain ⟨i1, hi1, hy0, hy1, hy2⟩ := info_parts edge_inf
    obtain ⟨w1, hw1⟩ : ∃ w1, w.alloc (.cells #[.int .i64 x.n, .slice A x.es.length c] 27) = w1 := ⟨_, rfl⟩
    have hb1 : Below w.heap.size w w1 := by rw [← hw1]; exact nw _ (Below.refl _ _)
    have hB1 : Blk w1 w.heap.size 27 #[.int .i64 x.n, .slice A x.es.length c] := by rw [← hw1]; exact Blk.new _ _ _
    have HW1 := Lib.hid hw1
    obtain ⟨w2, hw2⟩ : ∃ w2, w1.alloc (.cells #[] 25) = w2 := ⟨_, rfl⟩
    have hb2 : Below w1.heap.size w1 w2 := by rw [← hw2]; exact nw _ (Below.refl _ _)
    have ho2 : w2.ownsRow w1.heap.size 25 1 (.slice (some ⟨w1.heap.size, 0, none⟩) 0 0) 0 [] := by rw [← hw2]; exact own_empty w1 _ 1 _ (Nat.le_refl _)
    have HW2 := Lib.hid hw2
    have hs2 : w2.heap.size = w1.heap.size + 1 := by rw [← hw2]; simp
    obtain ⟨b1, hb1e⟩ : ∃ b, w1.heap.size = b := ⟨_, rfl⟩
    have HB1E := Lib.hid hb1e
    have hwb1 : w.heap.size < b1 := by have := hB1.lt; omega
    have hB2 := hB1.below hb2 hB1.lt
    rw [hb1e] at ho2 hs2
    have HS2 := Lib.hid hs2
    have HBW2 := Lib.hid (bthen hb1 hb2)
    have g0 := hB2.cell 0
    have g1 := hB2.cell 1
    simp at g0 g1
    clear hw1 hw2 hb1 hb2 hB1 hb1e hs2 hx0
    by_cases hlast : v0 = x.n
    · have HWM : Hid (waysTo x (f + 1) v0 = [[]]) := by show _ = _; unfold waysTo; rw [if_pos hlast]
      have hvb : (v0 == x.n) = true := by simpa using hlast
      clear hlast
      go_enter Tryz.func16, Tryz.ntmps16
      go_upto_region 1 with fail
      rw [HW1.out]
      go_upto_region 2 with fail
      rw [HW2.out, HB1E.out]
      go_upto_region 3 with fail
      have hb3 : Below w2.heap.size w2 (w2.alloc (.cells #[] 44)) := nw _ (Below.refl _ _)
      have HO3 := Lib.hid (own_below ho2 hb3)
      have HB3 := Lib.hid hb3
      have hb13 : b1 ≤ (w2.alloc (.cells #[] 44)).heap.size := by have := HS2.out; have := hb3.size; omega
      clear hb3 ho2
      go_wp2_with (at_builtin; go_loud (refine wpList_app1 rfl _ _ 66 rfl b1 25 i0 _ 1 24 Tryz.underlying66 hi hz0 hz1 hz2 rfl (by decide) _ 0 [] rfl (w2.alloc (.cells #[] 44)) [.slice (some ⟨w2.heap.size, 0, none⟩) 0 0] rfl HO3.out _ rfl (by simp) rfl (by simp [Value.oneCell']) (by omega) (by decide) hb13 ?_; intro v' w' h1 h2 h3))
      have HE := Lib.hid (HBW2.out.trans ((HB3.out.mono HBW2.out.size).trans (h2.mono (Nat.le_of_lt hwb1))))
      have HO := Lib.hid (own_base h1 (Nat.le_of_lt hwb1))
      clear h1 h2 h3
      go_wp2_with fail
      go_ret
      exact ⟨v', [⟨some ⟨w2.heap.size, 0, none⟩, 0, []⟩], rfl, HO.out, fun m hm => by obtain rfl := List.mem_singleton.1 hm; exact ⟨SlTE.nil, Nat.le_refl _, Nat.zero_le _⟩, by show _ = _; rw [HWM.out]; rfl, HE.out⟩
    · have HWM : Hid (waysTo x (f + 1) v0 = wayUpTo x f v0 x.es.length) := wayUpTo_all hlast
      have hvb : (v0 == x.n) = false := by simpa using hlast
      have hvn : v0 < x.n := by omega
      clear hlast
      go_enter Tryz.func16, Tryz.ntmps16
      go_upto_region 1 with fail
      rw [HW1.out]
      go_upto_region 2 with fail
      rw [HW2.out, HB1E.out]
      go_wp2_with fail
      go_loopw [5, 6] (fun ov i wr => ∃ (j : Nat) (v : Value) (ms : List WyM), j ≤ x.es.length ∧ i = .int .i64 (j : Int) ∧ v = ov ∧ wr.ownsRow b1 25 1 v ms.length (ms.flatMap encWy) ∧ WyOK wr ms ∧ Hid (ms.map (·.E) = wayUpTo x f v0 j) ∧ Below b1 w2 wr) (fun _ i _ => x.es.length - (intOf i).toNat)
      case atStart => exact ⟨0, _, [], by omega, rfl, rfl, ho2, WyOK.nil, rfl, Below.refl _ _⟩
      case round =>
        obtain ⟨wR, rfl⟩ : ∃ W, W = wr := ⟨wr, rfl⟩
        obtain ⟨j, v, ms, hj, rfl, rfl, hown, hms, HMX, hbr⟩ := hrel
        have hbw : Below w.heap.size w wR := HBW2.out.trans (hbr.mono (Nat.le_of_lt hwb1))
        have hBg := hB2.below hbr hwb1
        have g0 := hBg.cell 0
        have g1 := hBg.cell 1
        have gl := hBg.lt
        simp at g0 g1
        have hszr : b1 < wR.heap.size := by have := hbr.size; have := HS2.out; omega
        by_cases hlt : j < x.es.length
        · obtain ⟨b, off, e, hA, hbb, hee, d0, d1, d2, d3⟩ := (hx.below keeps_ed hbw).ed hlt
          have hbw0 : b < w.heap.size := by obtain ⟨b', o', e, h, _⟩ := hx (by intro e; rw [e] at hlt; simp at hlt); rw [hA] at e; injection e with e; injection e with e; omega
          have heo := (HLA.out.2.2.1 e (List.mem_of_getElem? hee)).1
          have HST := Lib.hid (wayUpTo_step (f := f) (v := v0) hee)
          have hjl : (j : Int) < (x.es.length : Int) := by omega
          have hj0 : (0 : Int) ≤ (j : Int) := by omega
          have HOWN := Lib.hid hown
          have HMS := Lib.hid hms
          have HBRR := Lib.hid hbr
          by_cases hfr : e.fr = v0
          · have HAD : Hid (wayUpTo x f v0 (j + 1) = addWay (wayUpTo x f v0 j) e (waysTo x f e.to)) := by show _ = _; rw [HST.out, if_pos hfr]
            have zb : (e.fr != v0) = false := by simp [hfr]
            have HREC : Hid (∀ W, Below wR.heap.size wR W → Calls Tryz.prog 16 #[.agg #[.int .i64 x.n, .slice A x.es.length c], .int .i64 e.to] W fun r w' => ∃ vr rs, r = .returned vr ∧ w'.ownsRow wR.heap.size 25 1 vr rs.length (rs.flatMap encWy) ∧ WyOK w' rs ∧ Hid (rs.map (·.E) = waysTo x f e.to) ∧ Below W.heap.size W w') := fun W hW =>
              (IH.out e.to W (hx.below keeps_ed (bthen hbw hW)) (by omega) (by omega) (by omega)).mono fun e w' ⟨vr, rs, h1, h2, h3, h4, h5⟩ => ⟨vr, rs, h1, own_base h2 hW.size, h3, h4, h5⟩
            subst hA
            clear hee hfr hown hms hbr heo
            go_upto_region 8 with fail
            go_cut [7] (fun s9 W => ∃ vr rs, s9 = vr ∧ W.ownsRow wR.heap.size 25 1 vr rs.length (rs.flatMap encWy) ∧ WyOK W rs ∧ Hid (rs.map (·.E) = waysTo x f e.to) ∧ Below wR.heap.size wR W)
            case first =>
              refine ordB_below (.quiet 0 (.quiet 1 (.quiet 2 (.quiet 3 (.quiet 4 (.quiet 5 (.quiet 6 (.only 7 (.quiet 8 .done))))))))) (by kernel_rfl) (by kernel_rfl) (by kernel_rfl) (fun _ _ _ _ _ h => h) ?_
              intro V0 hV0
              iterate 7 (first
                | (refine ordB_skip rfl rfl ?_; simp only [Act.put, List.setIfInBounds_toArray, List.set_cons_zero, List.set_cons_succ])
                | (refine ordB_take (v := ?_) rfl rfl ?_ ?_
                   rotate_left 1
                   focus (intro W hW; obtain ⟨hcW, hfW⟩ := bcell hW; (go_simp <;> with_reducible rfl))
                   simp only [Act.put, List.setIfInBounds_toArray, List.set_cons_zero, List.set_cons_succ]))
              refine ordB_only (opB_call rfl rfl (fun K hK => ?_))
              go_simp
              go_at_call 16
              refine (HREC.out V0 hV0).mono ?_
              rintro e V0_1 ⟨vr, rs, rfl, hor, hmr, HRX, hx9⟩
              refine hK.out _ _ (hV0.trans (hx9.mono hV0.size)) (fun hV0_1 => ?_)
              iterate 1 (first
                | (refine ordB_skip rfl rfl ?_; simp only [Act.put, List.setIfInBounds_toArray, List.set_cons_zero, List.set_cons_succ])
                | (refine ordB_take (v := ?_) rfl rfl ?_ ?_
                   rotate_left 1
                   focus (intro W hW; obtain ⟨hcW, hfW⟩ := bcell hW; (go_simp <;> with_reducible rfl))
                   simp only [Act.put, List.setIfInBounds_toArray, List.set_cons_zero, List.set_cons_succ]))
              refine ordB_nil ?_
              go_wp2_with fail
              go_meet
              exact ⟨vr, rs, rfl, hor, hmr, HRX, hV0_1⟩
            case rest =>
              obtain ⟨W5, rfl⟩ : ∃ W, W = wc := ⟨wc, rfl⟩
              obtain ⟨vr, rs, rfl, hor, hmr, HRX, hb5⟩ := hcut
              obtain ⟨Ar, cr, rfl, hcr, hcm, _⟩ := own_slr (R := RWy) hor (fun _ => rfl) (fun _ => rfl) rfl
              have hrl : rs.length ≤ 300 := by have := congrArg List.length HRX.out; rw [List.length_map, waysTo_len] at this; omega
              have hml : ms.length ≤ 300 := by have := congrArg List.length HMX.out; rw [List.length_map] at this; have h3 := wayUpTo_len (x := x) (f := f) (v := v0) j; omega
              have HBD : Hid (∀ k (m : WyM), rs[k]? = some m → m.E.length ≤ f) := fun k m hk => waysTo_long x f e.to m.E (by rw [← HRX.out]; exact List.mem_map.2 ⟨m, List.mem_of_getElem? hk, rfl⟩)
              have HNE0 : Hid (∀ gg, (Value.slice Ar rs.length cr).ownBlock = some gg → v.ownBlock ≠ some gg) := fun gg hg e => own_lt HOWN.out (own_block_le hor gg hg) e
              have hown5 := own_below HOWN.out hb5
              have hms5 := HMS.out.below hb5
              have HDW : Hid (w.cell? ⟨b, off + j * 4, none⟩ = some (.int .i64 e.fr) ∧ w.cell? ⟨b, off + j * 4 + 1, none⟩ = some (.int .i64 e.to) ∧ w.cell? ⟨b, off + j * 4 + 2, none⟩ = some (.int .i64 e.wd) ∧ w.cell? ⟨b, off + j * 4 + 3, none⟩ = some (.int .i64 e.co)) := ⟨(hbw.cell (p := ⟨b, _, none⟩) hbw0).symm.trans d0, (hbw.cell (p := ⟨b, _, none⟩) hbw0).symm.trans d1, (hbw.cell (p := ⟨b, _, none⟩) hbw0).symm.trans d2, (hbw.cell (p := ⟨b, _, none⟩) hbw0).symm.trans d3⟩
              have HBR5 : Hid (Below b1 w2 W5) := HBRR.out.trans (hb5.mono (Nat.le_of_lt hszr))
              clear hb5 g0 g1 gl d0 d1 d2 d3 hbw hBg hbb
              obtain ⟨br, hbrE⟩ : ∃ b, wR.heap.size = b := ⟨_, rfl⟩
              rw [hbrE] at hor hszr
              clear hbrE
              go_wp2_with fail
              go_loopw [5, 8] (fun ov kv wi => ∃ (k : Nat) (v : Value) (ms2 : List WyM), k ≤ rs.length ∧ (ms2.length ≤ ms.length + k ∧ ms.length + k ≤ ms2.length) ∧ ms2.length ≤ 300 ∧ kv = .int .i64 (k : Int) ∧ v = ov ∧ wi.ownsRow b1 25 1 v ms2.length (ms2.flatMap encWy) ∧ WyOK wi ms2 ∧
                  Hid (ms2.map (·.E) = ms.map (·.E) ++ ((rs.map (·.E)).take k).map (fun r => e :: r)) ∧ wi.ownsRow br 25 1 (.slice Ar rs.length cr) rs.length (rs.flatMap encWy) ∧ Hid (∀ gg, (Value.slice Ar rs.length cr).ownBlock = some gg → v.ownBlock ≠ some gg) ∧ WyOK wi rs ∧ Below b1 w2 wi) (fun _ kv _ => rs.length - (intOf kv).toNat)
              case atStart => exact ⟨0, v, ms, by omega, by omega, hml, rfl, rfl, hown5, hms5, by show _ = _; simp, hor, HNE0, hmr, HBR5.out⟩
              case round =>
                obtain ⟨wi, rfl⟩ : ∃ W, W = wr := ⟨wr, rfl⟩
                obtain ⟨k, v2, ms2, hk, hl2, hm2, rfl, rfl, hown, hms2, HMX2, hor2, HNE, hmr2, hbr2⟩ := hrel
                have hbw : Below w.heap.size w wi := HBW2.out.trans (hbr2.mono (Nat.le_of_lt hwb1))
                have hBg := hB2.below hbr2 hwb1
                have hszi : b1 < wi.heap.size := by have := hbr2.size; have := HS2.out; omega
                obtain ⟨Av, cv, rfl, hcv, hcvm, _⟩ := own_slr (R := RWy) hown (fun _ => rfl) (fun _ => rfl) rfl
                have HOWN2 := Lib.hid hown
                have HMS2 := Lib.hid hms2
                have HOR2 := Lib.hid hor2
                have HMR2 := Lib.hid hmr2
                have HBR2 := Lib.hid hbr2
                have HBG := Lib.hid hBg
                by_cases hcc : k < rs.length ∧ ms2.length < 300
                · obtain ⟨hk1, hk2⟩ := hcc
                  obtain ⟨A9, c9, he, _, _, hsr⟩ := own_slr (R := RWy) hor2 (fun _ => rfl) (fun _ => rfl) rfl
                  obtain ⟨rfl, rfl⟩ : Ar = A9 ∧ cr = c9 := by injection he with h1 h2 h3; exact ⟨h1, h3⟩
                  obtain ⟨br', off', m, rfl, hbb', hmk, r0⟩ := hsr.wy hk1
                  obtain ⟨hmt, hmc, hmm⟩ := hmr2 m (List.mem_of_getElem? hmk)
                  have hmf := HBD.out k m hmk
                  have HMK := Lib.hid hmk
                  have HMT := Lib.hid hmt
                  have z1 : decide (k < rs.length) = true := decide_eq_true hk1
                  have z2 : decide (ms2.length < 300) = true := decide_eq_true hk2
                  have z3 : (k : Int) < (rs.length : Int) := by omega
                  have z4 : (ms2.length : Int) < 300 := by omega
                  have z5 : (0 : Int) ≤ (k : Int) := by omega
                  have g0 := hBg.cell 0
                  have g1 := hBg.cell 1
                  have gl := hBg.lt
                  simp at g0 g1
                  have d0 := (hbw.cell (p := ⟨b, off + j * 4, none⟩) hbw0).trans HDW.out.1
                  have d1 := (hbw.cell (p := ⟨b, off + j * 4 + 1, none⟩) hbw0).trans HDW.out.2.1
                  have d2 := (hbw.cell (p := ⟨b, off + j * 4 + 2, none⟩) hbw0).trans HDW.out.2.2.1
                  have d3 := (hbw.cell (p := ⟨b, off + j * 4 + 3, none⟩) hbw0).trans HDW.out.2.2.2
                  have hbb : b < wi.heap.size := by have := hbw.size; omega
                  clear hmk hown hms2 hor2 hmr2 hbr2 hBg hsr hmt he
                  go_upto_region 12 with fail
                  refine ordB_below (.quiet 0 (.quiet 1 (.quiet 2 (.quiet 3 (.quiet 4 (.quiet 6 (.quiet 7 (.quiet 8 (.quiet 9 (.only 5 (.only 10 (.quiet 11 .done)))))))))))) (by kernel_rfl) (by kernel_rfl) (by kernel_rfl) (fun _ _ _ _ _ h => h) ?_
                  intro V1 hV1
                  iterate 9 (first
                    | (refine ordB_skip rfl rfl ?_; simp only [Act.put, List.setIfInBounds_toArray, List.set_cons_zero, List.set_cons_succ])
                    | (refine ordB_take (v := ?_) rfl rfl ?_ ?_
                       rotate_left 1
                       focus (intro W hW; obtain ⟨hcW, hfW⟩ := bcell hW; (go_simp <;> with_reducible rfl))
                       simp only [Act.put, List.setIfInBounds_toArray, List.set_cons_zero, List.set_cons_succ]))
                  refine ordB_only (opB_call rfl rfl (fun K hK => ?_))
                  go_simp
                  refine hK.out _ _ (hV1.alloc hV1.size _) (fun hV1_1 => ?_)
                  have hlit : (V1.alloc (.cells #[.int .i64 e.fr, .int .i64 e.to, .int .i64 e.wd, .int .i64 e.co] 44)).ownsRow V1.heap.size 44 4 (.slice (some ⟨V1.heap.size, 0, none⟩) 1 1) 1 [.int .i64 e.fr, .int .i64 e.to, .int .i64 e.wd, .int .i64 e.co] := own_lit V1 _ _ 4 1 _ _ rfl (Nat.le_refl _) rfl (by unfold maxLen; omega)
                  have hgs := hV1.size
                  have hsl := (Below.refl V1.heap.size V1).alloc (Nat.le_refl _) (.cells #[.int .i64 e.fr, .int .i64 e.to, .int .i64 e.wd, .int .i64 e.co] 44) |>.size
                  obtain ⟨gL, hgL⟩ : ∃ b, V1.heap.size = b := ⟨_, rfl⟩
                  obtain ⟨V1_1, qq⟩ : ∃ W', V1.alloc (.cells #[.int .i64 e.fr, .int .i64 e.to, .int .i64 e.wd, .int .i64 e.co] 44) = W' := ⟨_, rfl⟩
                  rw [qq] at hV1_1 hlit hsl ⊢
                  rw [hgL] at hlit hgs hsl ⊢
                  clear qq hgL
                  refine ordB_only (opB_call rfl rfl (fun K hK => ?_))
                  refine wp_appS (enc := encEd) (R := REd) _ _ 25 rfl gL 44 i1 _ 4 32 Tryz.underlying25 hi1 hy0 hy1 hy2 rfl (by decide) (.slice (some ⟨gL, 0, none⟩) 1 1) 1 [.int .i64 e.fr, .int .i64 e.to, .int .i64 e.wd, .int .i64 e.co] rfl hlit m.A m.c m.E rfl (HMT.out.below hV1_1).slr (fun _ _ _ h => h) (fun _ => rfl) (by intro u hu; obtain ⟨y, _, hy⟩ := List.mem_flatMap.1 hu; simp [encEd] at hy; rcases hy with rfl | rfl | rfl | rfl <;> rfl) (by omega) (by decide) (by omega) ?_
                  intro v5 V1_1_2 h51 h52 h53
                  refine hK.out _ _ (hV1_1.trans (h52.mono hgs)) (fun hV1_1_2 => ?_)
                  iterate 1 (first
                    | (refine ordB_skip rfl rfl ?_; simp only [Act.put, List.setIfInBounds_toArray, List.set_cons_zero, List.set_cons_succ])
                    | (refine ordB_take (v := ?_) rfl rfl ?_ ?_
                       rotate_left 1
                       focus (intro W hW; obtain ⟨hcW, hfW⟩ := bcell hW; (go_simp <;> with_reducible rfl))
                       simp only [Act.put, List.setIfInBounds_toArray, List.set_cons_zero, List.set_cons_succ]))
                  refine ordB_nil ?_
                  have h51' : V1_1_2.ownsRow gL 44 4 v5 (m.E.length + 1) ((e :: m.E).flatMap encEd) := by rw [Nat.add_comm] at h51; simpa [encEd] using h51
                  obtain ⟨Bn, cn, rfl, hcn, hcnm, hst⟩ := own_slte (xs := e :: m.E) h51' (by simp)
                  have HO := Lib.hid (own_below HOWN2.out hV1_1_2)
                  have HOR := Lib.hid (own_below HOR2.out hV1_1_2)
                  have HM2 := Lib.hid (HMS2.out.below hV1_1_2)
                  have HMR := Lib.hid (HMR2.out.below hV1_1_2)
                  have HBI := Lib.hid (HBR2.out.trans (hV1_1_2.mono (Nat.le_of_lt hszi)))
                  have HST0 := Lib.hid hst
                  have hb1s : b1 ≤ V1_1_2.heap.size := by have := hV1_1_2.size; omega
                  clear h51 h51' h52 h53 hst hlit g0 g1 gl d0 d1 d2 d3 hbb r0 hbb'
                  go_wp2_with (at_builtin; go_loud (refine wpList_app1 rfl _ _ 66 rfl b1 25 i0 _ 1 24 Tryz.underlying66 hi hz0 hz1 hz2 rfl (by decide) (.slice Av ms2.length cv) ms2.length _ rfl V1_1_2 [.slice Bn (m.E.length + 1) cn] rfl HO.out _ rfl (by simp) rfl (by simp [Value.oneCell']) (by omega) (by decide) hb1s ?_; intro v4 w4 hown4 hb4 ha4))
                  have hbe1 := own_beside HOR.out HNE.out ha4
                  have hmn : WyOK V1_1_2 [(WyM.mk Bn cn (e :: m.E))] := fun q hq => by obtain rfl := List.mem_singleton.1 hq; exact ⟨HST0.out, hcn, hcnm⟩
                  have HMA := Lib.hid ((HM2.out.app hmn).apps HO.out (by decide) ha4)
                  have HMR4 := Lib.hid (HMR.out.apps HO.out (by decide) ha4)
                  have HB4 := Lib.hid (HBI.out.trans hb4)
                  have HO4 : Hid (w4.ownsRow b1 25 1 v4 (ms2 ++ [(WyM.mk Bn cn (e :: m.E))]).length ((ms2 ++ [(WyM.mk Bn cn (e :: m.E))]).flatMap encWy)) := by show World.ownsRow _ _ _ _ _ _ _; rw [List.length_append, List.flatMap_append]; exact hown4
                  have HR4 := Lib.hid hbe1.1
                  have HN4 := Lib.hid hbe1.2
                  have HX4 : Hid ((ms2 ++ [(WyM.mk Bn cn (e :: m.E))]).map (·.E) = ms.map (·.E) ++ ((rs.map (·.E)).take (k + 1)).map (fun r => e :: r)) := by
                    show _ = _
                    rw [List.map_append, HMX2.out, take_snoc_of (show (rs.map (·.E))[k]? = some m.E by rw [List.getElem?_map, HMK.out]; rfl), List.map_append, List.append_assoc]
                    rfl
                  clear hbe1 hmn hown4 hb4 ha4
                  go_wp2_with fail
                  go_roundw
                  case rel => exact ⟨k + 1, v4, _, by omega, by rw [List.length_append, List.length_singleton]; omega, by rw [List.length_append, List.length_singleton]; omega, by go_num, rfl, HO4.out, HMA.out, HX4, HR4.out, HN4, HMR4.out, HB4.out⟩
                  case measure => simp [intOf]; omega
                · have hdone : k = rs.length ∨ ms2.length = 300 := by omega
                  have HN3 : Hid (ms2.map (·.E) = wayUpTo x f v0 (j + 1)) := by
                    show _ = _
                    rw [HMX2.out, HAD.out, HRX.out, ← HMX.out]
                    unfold addWay
                    rw [List.length_map]
                    congr 2
                    have hrx := congrArg List.length HRX.out
                    rw [List.length_map] at hrx
                    rcases hdone with h | h
                    · rw [List.take_of_length_le (by omega), List.take_of_length_le (by omega)]
                    · rw [show 300 - ms.length = k by omega]
                  clear hown hms2 hor2 hmr2 hbr2 hBg
                  by_cases hk1 : k < rs.length
                  · have z1 : decide (k < rs.length) = true := decide_eq_true hk1
                    have z2 : decide (ms2.length < 300) = false := decide_eq_false (by omega)
                    have z4 : ¬ (ms2.length : Int) < 300 := by omega
                    have z3 : (k : Int) < (rs.length : Int) := by omega
                    clear hdone hcc
                    go_wp2_with fail
                    go_roundw
                    case rel => exact ⟨j + 1, _, ms2, by omega, by go_num, rfl, HOWN2.out, HMS2.out, HN3, HBR2.out⟩
                    case measure => simp [intOf]; omega
                  · have z1 : decide (k < rs.length) = false := decide_eq_false hk1
                    have z3 : ¬ (k : Int) < (rs.length : Int) := by omega
                    clear hdone hcc
                    go_wp2_with fail
                    go_roundw
                    case rel => exact ⟨j + 1, _, ms2, by omega, by go_num, rfl, HOWN2.out, HMS2.out, HN3, HBR2.out⟩
                    case measure => simp [intOf]; omega
          · have HN2 : Hid (wayUpTo x f v0 (j + 1) = wayUpTo x f v0 j) := by show _ = _; rw [HST.out, if_neg hfr]
            have zb : (e.fr != v0) = true := by simp [hfr]
            subst hA
            clear hee hfr hown hms hbr heo
            go_wp2_with fail
            go_roundw
            case rel => exact ⟨j + 1, v, ms, by omega, by go_num, rfl, HOWN.out, HMS.out, by show _ = _; rw [HMX.out, HN2.out], HBRR.out⟩
            case measure => simp [intOf]; omega
        · have HF : Hid (ms.map (·.E) = waysTo x (f + 1) v0) := by show _ = _; rw [HMX.out, HWM.out, show j = x.es.length by omega]
          have HO := Lib.hid (own_base hown (Nat.le_of_lt hwb1))
          have HMS := Lib.hid hms
          have HE := Lib.hid hbw
          obtain rfl : j = x.es.length := by omega
          clear hown hms hbr hbw
          go_wp2_with fail
          go_ret
          exact ⟨v, ms, rfl, HO.out, HMS.out, HF, HE.out⟩
end Go.Proofs.YtfjkmgjjifhdkaaGreat

/-
  What TopPagesAreExact compares: the plain facts. No conditions.
-/
namespace Go.Proofs.YtfjkmgjjifhdkaaGreat
open Go Go.RowKit

theorem waysTo_sub {x : La} {f : Nat} (hx : LaOK x) (hn : x.n < (f : Int)) : ∀ E ∈ waysTo x f 0, ∀ e ∈ E, e ∈ x.es := fun E hE => by
  rw [waysTo_eq] at hE
  have h1 := hx.1
  exact ((waysAll_mem hx f 0 (by omega) (by omega) E).1 (List.mem_of_mem_take hE)).2
/-- What the page's candidates and the ways' costs have to do with each other. -/
structure ExF (x : La) (m : Mo) (prev : Int) (k : Int) : Prop where
  wh : pgWh (grL x m prev) k.toNat = decide (((waysTo x 100 0).length : Int) ≤ ((pgL (grL x m prev) k.toNat).length : Int))
  mn : min k ((waysTo x 100 0).length : Int) = ((pgL (grL x m prev) k.toNat).length : Int)
  len : (waysTo x 100 0).length ≤ 300
  at_ : (waysTo x 100 0).length ≠ 300 → ∀ (j : Nat) (c : Can), (pgL (grL x m prev) k.toNat)[j]? = some c → (sortS ((waysTo x 100 0).map (ctxC m prev)))[j]? = some c.cost
  can : ∀ c ∈ pgL (grL x m prev) k.toNat, c.links.length ≤ 200 ∧ ∀ i ∈ c.links, LkIn x.es (grL x m prev).ls i
  eds : ∀ E ∈ waysTo x 100 0, E.length ≤ 100 ∧ ∀ e ∈ E, e ∈ x.es
theorem exF {x : La} {m : Mo} {prev k : Int} (hg : GrOK (grL x m prev)) (hf : LaOK x) (hn : (nodesL x prev).length ≤ 200) (hk : 0 ≤ k ∧ k ≤ 50) : ExF x m prev k := by
  have hx := hf.1
  have hW := ways_len (m := m) (prev := prev) hg hf (f := 100) (by omega)
  have hWL := waysTo_len x 100 0
  rw [hW] at hWL
  have hL := pgL_len (grL x m prev) k.toNat
  refine ⟨?_, ?_, by omega, fun hne j c hc => ?_, fun c hc => ?_, fun E hE => ⟨waysTo_long x 100 0 E hE, waysTo_sub hf (by omega) E hE⟩⟩
  · rw [pgWh_eq]
    congr 1
    rw [hL, hWL]
    apply propext
    omega
  · rw [hL, hWL]
    omega
  · have hall : waysTo x 100 0 = waysAll x 100 0 := by rw [waysTo_eq, List.take_of_length_le (by omega)]
    rw [hall, costs_all hg hf (by omega), List.getElem?_map]
    unfold pgL at hc
    rw [List.getElem?_take] at hc
    split at hc
    · rw [hc]; rfl
    · cases hc
  · have h1 := canF hg hf hn (((allG_is hg).2 c).1 (List.mem_of_mem_take hc))
    exact ⟨h1.len, h1.lk⟩
theorem sortS_step {m : Mo} {prev : Int} {L : List (List Ed)} {j : Nat} {E : List Ed} (h : L[j]? = some E) : sortS ((L.take (j + 1)).map (ctxC m prev)) = insC_ (sortS ((L.take j).map (ctxC m prev))) (ctxC m prev E) := by
  rw [take_snoc_of h, List.map_append]
  exact sortS_snoc _ _
theorem tpW_at {os : List Int} {c : Int} {T : Nat} (h : (os.takeWhile (fun a => decide (a ≤ c))).length = T) {t : Nat} {y : Int} (ht : t < T) (hy : os[t]? = some y) : y ≤ c := by
  have h1 := takeG_at (p := fun a => decide (a ≤ c)) (ws := os) (t := t) (x := y) (by rw [h]; exact ht) hy
  simpa using h1
theorem tpW_end {os : List Int} {c : Int} {T : Nat} (h : (os.takeWhile (fun a => decide (a ≤ c))).length = T) {y : Int} (hy : os[T]? = some y) : ¬ y ≤ c := by
  have h1 := takeG_end (p := fun a => decide (a ≤ c)) (ws := os) (x := y) (by rw [h]; exact hy)
  simpa using h1
theorem insC_take {os : List Int} {c : Int} {T : Nat} (h : (os.takeWhile (fun a => decide (a ≤ c))).length = T) : os.take T ++ [c] ++ os.drop T = insC_ os c := by
  unfold insC_
  have h1 : os.take T = os.takeWhile (fun a => decide (a ≤ c)) := by rw [← h]; exact takeG_take _
  rw [h, h1, List.append_assoc]
  rfl
theorem tpW_le {os : List Int} {c : Int} {T : Nat} (h : (os.takeWhile (fun a => decide (a ≤ c))).length = T) : T ≤ os.length := by rw [← h]; exact takeG_le _
theorem one_int {ys : List Int} {u : Value} (hu : u ∈ ys.flatMap (fun x => [Value.int .i64 x])) : u.oneCell' = true := by
  obtain ⟨m, _, hm⟩ := List.mem_flatMap.1 hu
  obtain rfl := List.mem_singleton.1 hm
  rfl
end Go.Proofs.YtfjkmgjjifhdkaaGreat
