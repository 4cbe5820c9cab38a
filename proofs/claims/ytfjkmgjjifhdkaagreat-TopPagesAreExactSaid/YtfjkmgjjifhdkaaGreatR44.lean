/-
  The walks of layer 20: the search for an edge; ordered edges with one more.
-/
import Derived.Test.YtfjkmgjjifhdkaaGreatR28
import Derived.Test.YtfjkmgjjifhdkaaGreatR43
import Derived.Deep.DeepCutAuto
namespace Go.Proofs.YtfjkmgjjifhdkaaGreat
open Go Go.RowKit

theorem edge_info : (Tryz.prog.info? 44).map (fun i => (i.zero, i.size, i.bytes)) = some (some (.agg #[.int .i64 0, .int .i64 0, .int .i64 0, .int .i64 0]), 4, 32) := by kernel_rfl
set_option maxRecDepth 100000 in
set_option maxHeartbeats 8000000 in
theorem lfind_any (x : La) (A : Option Addr) (c : Nat) (e : Ed) (w : World) (hx : SlR 4 REd w A x.es) (hl : x.es.length ≤ maxLen) :
    Calls Tryz.prog 26 #[.agg #[.int .i64 x.n, .slice A x.es.length c], vEd e] w fun r w' => r = .returned (.int .i64 (findE x.es e)) ∧ Below w.heap.size w w' := by
  unfold maxLen at hl
  obtain ⟨w2, hw2⟩ : ∃ w2, (w.alloc (.cells #[.int .i64 x.n, .slice A x.es.length c] 27)).alloc (.cells #[.int .i64 e.fr, .int .i64 e.to, .int .i64 e.wd, .int .i64 e.co] 44) = w2 := ⟨_, rfl⟩
  have hb2 : Below w.heap.size w w2 := by rw [← hw2]; exact nw _ (nw _ (Below.refl _ _))
  have hLB : Blk w2 w.heap.size 27 #[.int .i64 x.n, .slice A x.es.length c] := by rw [← hw2]; exact (Blk.new _ _ _).alloc _
  have hEB : Blk w2 (w.heap.size + 1) 44 #[.int .i64 e.fr, .int .i64 e.to, .int .i64 e.wd, .int .i64 e.co] := by rw [← hw2]; exact Blk.new_ (by simp)
  have HW2 := Lib.hid hw2
  have HB2 := Lib.hid hb2
  have HCE : Hid (∀ W, Below w2.heap.size w2 W → W.cell? ⟨w.heap.size, 1, none⟩ = some (.slice A x.es.length c) ∧ (W.cell? ⟨w.heap.size + 1, 0, none⟩ = some (.int .i64 e.fr) ∧ W.cell? ⟨w.heap.size + 1, 1, none⟩ = some (.int .i64 e.to) ∧ W.cell? ⟨w.heap.size + 1, 2, none⟩ = some (.int .i64 e.wd)) ∧ w.heap.size < W.heap.size ∧ w.heap.size + 1 < W.heap.size) := fun W hW => by
    have e1 := hLB.below hW hLB.lt
    have e2 := hEB.below hW hEB.lt
    exact ⟨by rw [e1.cell]; rfl, ⟨by rw [e2.cell]; rfl, by rw [e2.cell]; rfl, by rw [e2.cell]; rfl⟩, e1.lt, e2.lt⟩
  clear hw2 hb2 hLB hEB
  go_enter Tryz.func26, Tryz.ntmps26
  go_upto_region 1 with fail
  rw [HW2.out]
  go_wp2_with fail
  go_loopw [5] (fun i wr => ∃ k : Nat, k ≤ x.es.length ∧ Hid (∀ y ∈ x.es.take k, sameK y e = false) ∧ i = .int .i64 k ∧ Below w2.heap.size w2 wr) (fun i _ => x.es.length - (intOf i).toNat)
  case atStart => exact ⟨0, by omega, (by show ∀ y ∈ x.es.take 0, _; simp), rfl, Below.refl _ _⟩
  case round =>
    obtain ⟨k, hk, HS, rfl, hbr⟩ := hrel
    have HBr := Lib.hid hbr
    obtain ⟨l1, ⟨g0, g1, g2⟩, ll, el⟩ := HCE.out _ hbr
    by_cases hlt : k < x.es.length
    · obtain ⟨b, off, y, rfl, hbb, hyy, d0, d1, d2, d3⟩ := (hx.below keeps_ed (bthen HB2.out hbr)).ed hlt
      have HL := Lib.hid hyy
      obtain ⟨yf, yt, yw, yc⟩ := y
      simp only at d0 d1 d2 d3
      have HNO : Hid (sameK ⟨yf, yt, yw, yc⟩ e = false → ∀ y ∈ x.es.take (k + 1), sameK y e = false) := fun h y hy => by
        rw [take_snoc_of HL.out] at hy
        rcases List.mem_append.1 hy with h1 | h1
        · exact HS.out y h1
        · rw [List.mem_singleton.1 h1]; exact h
      clear hyy hbr
      by_cases h1 : yf = e.fr
      · by_cases h2 : yt = e.to
        · by_cases h3 : yw = e.wd
          · have HR : Hid (findE x.es e = (k : Int)) := findE_at HS.out HL.out (by simp [sameK, h1, h2, h3])
            have z1 : (yf == e.fr) = true := by simpa using h1
            have z2 : (yt == e.to) = true := by simpa using h2
            have z3 : (yw == e.wd) = true := by simpa using h3
            clear h1 h2 h3
            go_wp2_with fail
            go_ret
            exact ⟨by rw [HR.out]; rfl, bthen HB2.out (nw _ HBr.out)⟩
          · have HES := Lib.hid (HNO.out (by simp [sameK, h3]))
            have z1 : (yf == e.fr) = true := by simpa using h1
            have z2 : (yt == e.to) = true := by simpa using h2
            have z3 : (yw == e.wd) = false := by simpa using h3
            clear h1 h2 h3
            go_wp2_with fail
            go_roundw
            case rel => exact ⟨k + 1, by omega, HES.out, by go_num, nw _ HBr.out⟩
            case measure => simp [intOf]; omega
        · have HES := Lib.hid (HNO.out (by simp [sameK, h2]))
          have z1 : (yf == e.fr) = true := by simpa using h1
          have z2 : (yt == e.to) = false := by simpa using h2
          clear h1 h2
          go_wp2_with fail
          go_roundw
          case rel => exact ⟨k + 1, by omega, HES.out, by go_num, nw _ HBr.out⟩
          case measure => simp [intOf]; omega
      · have HES := Lib.hid (HNO.out (by simp [sameK, h1]))
        have z1 : (yf == e.fr) = false := by simpa using h1
        clear h1
        go_wp2_with fail
        go_roundw
        case rel => exact ⟨k + 1, by omega, HES.out, by go_num, nw _ HBr.out⟩
        case measure => simp [intOf]; omega
    · have HR : Hid (findE x.es e = -1) := by
        have := HS.out
        rw [List.take_of_length_le (by omega)] at this
        exact findE_neg this
      go_wp2_with fail
      go_ret
      exact ⟨by rw [HR.out]; rfl, bthen HB2.out HBr.out⟩
/-- A row of edges. -/
def GivesE (L : List Ed) (w : World) (r : Ending) (w' : World) : Prop := ∃ (B : Option Addr) (c : Nat), r = .returned (.slice B L.length c) ∧ w'.ownsRow w.heap.size 44 4 (.slice B L.length c) L.length (L.flatMap encEd) ∧ Below w.heap.size w w'
theorem flat_snocE (L : List Ed) (p : Ed) : (L ++ [p]).flatMap encEd = L.flatMap encEd ++ encEd p := by simp
set_option maxRecDepth 100000 in
set_option maxHeartbeats 8000000 in
theorem linsert_any (A : Option Addr) (es : List Ed) (c : Nat) (e : Ed) (w : World) (hx : SlR 4 REd w A es) (hl : es.length ≤ 1000) :
    Calls Tryz.prog 27 #[.slice A es.length c, vEd e] w (GivesE (insE e es) w) := by
  obtain ⟨i0, hi, hz0, hz1, hz2⟩ := info_parts edge_info
  obtain ⟨w1, hw1⟩ : ∃ w1, w.alloc (.cells #[.int .i64 e.fr, .int .i64 e.to, .int .i64 e.wd, .int .i64 e.co] 44) = w1 := ⟨_, rfl⟩
  have hb1 : Below w.heap.size w w1 := by rw [← hw1]; exact nw _ (Below.refl _ _)
  have hEB : Blk w1 w.heap.size 44 #[.int .i64 e.fr, .int .i64 e.to, .int .i64 e.wd, .int .i64 e.co] := by rw [← hw1]; exact Blk.new _ _ _
  have HW1 := Lib.hid hw1
  obtain ⟨w2, hw2⟩ : ∃ W, w1.alloc (.cells #[] 44) = W := ⟨_, rfl⟩
  have hb2 : Below w1.heap.size w1 w2 := by rw [← hw2]; exact nw _ (Below.refl _ _)
  have hO0 : w2.ownsRow w1.heap.size 44 4 (.slice (some ⟨w1.heap.size, 0, none⟩) 0 0) 0 [] := by rw [← hw2]; exact own_empty w1 44 4 w1.heap.size (Nat.le_refl _)
  have hsz : w2.heap.size = w1.heap.size + 1 := by rw [← hw2]; simp
  have HWW := Lib.hid hw2
  have HBW := Lib.hid (bthen hb1 hb2)
  have hE2 := hEB.below hb2 hEB.lt
  have hLb := hEB.lt
  have hw01 := hb1.size
  obtain ⟨b1, hb1e⟩ : ∃ b, w1.heap.size = b := ⟨_, rfl⟩
  rw [hb1e] at hO0 hLb hsz hw01
  have HSZ := Lib.hid hsz
  have HO0 := Lib.hid hO0
  have HBE := Lib.hid hb1e
  have HX : Hid (∀ W, Below b1 w2 W → SlR 4 REd W A es) := fun W hW => hx.below keeps_ed (HBW.out.trans (hW.mono hw01))
  have HBb : Hid (∀ b off, A = some ⟨b, off, none⟩ → es ≠ [] → b < b1) := fun b off hA hne => by
    obtain ⟨b', off', hA', hb', _⟩ := hx hne
    rw [hA] at hA'
    obtain ⟨rfl, _⟩ : b = b' ∧ off = off' := by simpa using hA'
    omega
  have HCE : Hid (∀ W, Below b1 w2 W → (W.cell? ⟨w.heap.size, 0, none⟩ = some (.int .i64 e.fr) ∧ W.cell? ⟨w.heap.size, 1, none⟩ = some (.int .i64 e.to) ∧ W.cell? ⟨w.heap.size, 2, none⟩ = some (.int .i64 e.wd) ∧ W.cell? ⟨w.heap.size, 3, none⟩ = some (.int .i64 e.co)) ∧ w.heap.size < W.heap.size) := fun W hW => by
    have e1 := hE2.below hW hLb
    exact ⟨⟨by rw [e1.cell]; rfl, by rw [e1.cell]; rfl, by rw [e1.cell]; rfl, by rw [e1.cell]; rfl⟩, e1.lt⟩
  clear hw1 hw2 hb1e hb1 hb2 hO0 hsz hE2 hx
  go_enter Tryz.func27, Tryz.ntmps27
  go_upto_region 1 with fail
  rw [HW1.out]
  go_upto_region 2 with fail
  rw [HWW.out, HBE.out]
  go_wp2_with fail
  go_loopw [5, 6, 7] (fun v dn i wr => ∃ (k : Nat) (d : Bool) (O : List Ed) (V : Value), V = v ∧ dn = .bool d ∧ i = .int .i64 k ∧ k ≤ es.length ∧ ((d = true → (∃ z ∈ es.take k, lessE e z = true) ∧ O = insE e (es.take k)) ∧ (d = false → (∀ z ∈ es.take k, lessE e z = false) ∧ O = es.take k)) ∧ O.length ≤ k + 1 ∧ Hid (wr.ownsRow b1 44 4 V O.length (O.flatMap encEd)) ∧ Below b1 w2 wr) (fun _ _ i _ => es.length - (intOf i).toNat)
  case atStart => exact ⟨0, false, [], _, rfl, rfl, rfl, by omega, ⟨(by intro h; cases h), (by intro _; simp)⟩, by simp, HO0, Below.refl _ _⟩
  case round =>
    obtain ⟨k, d, O, V, rfl, rfl, rfl, hk, hst, hol, HO, hbr⟩ := hrel
    have HS := Lib.hid hst
    have HBr := Lib.hid hbr
    have hs1 : b1 ≤ wr.heap.size := by have := hbr.size; have := HSZ.out; omega
    obtain ⟨⟨e0, e1, e2, e3⟩, el⟩ := HCE.out _ hbr
    have hn1 : O.length ≤ 1000000 := by omega
    by_cases hlt : k < es.length
    · obtain ⟨b, off, y, hA, hbb, hyy, d0, d1, d2, d3⟩ := (HX.out _ hbr).ed hlt
      have hbb1 : b < b1 := HBb.out b off hA (by intro h; subst h; simp at hlt)
      subst hA
      have HTK := Lib.hid (take_snoc_of hyy)
      have hkI : (k : Int) < (es.length : Int) := by omega
      have hk0 : (0 : Int) ≤ (k : Int) := by omega
      clear hyy hst hbr
      cases d with
      | true =>
        obtain ⟨⟨z, hz1', hz2'⟩, hO⟩ := HS.out.1 rfl
        have HNX : Hid (insE e (es.take (k + 1)) = O ++ [y]) := by show _ = _; rw [HTK.out, insE_past ⟨z, hz1', hz2'⟩, hO]
        have HST : Hid ((true = true → (∃ z ∈ es.take (k + 1), lessE e z = true) ∧ insE e (es.take (k + 1)) = insE e (es.take (k + 1))) ∧ (true = false → (∀ z ∈ es.take (k + 1), lessE e z = false) ∧ insE e (es.take (k + 1)) = es.take (k + 1))) := ⟨fun _ => ⟨⟨z, by rw [HTK.out]; exact List.mem_append.2 (.inl hz1'), hz2'⟩, rfl⟩, fun h => by cases h⟩
        clear hO hz1' hz2'
        go_upto_region 5 with fail
        refine ordB_below (.quiet 0 (.quiet 1 (.quiet 2 (.quiet 3 (.quiet 4 (.quiet 5 (.quiet 6 (.quiet 7 (.only 8 (.quiet 9 .done)))))))))) (by kernel_rfl) (by kernel_rfl) (by kernel_rfl) (fun _ _ _ _ _ h => h) ?_
        intro V0 hV0
        iterate 8 (first
          | (refine ordB_skip rfl rfl ?_; simp only [Act.put, List.setIfInBounds_toArray, List.set_cons_zero, List.set_cons_succ])
          | (refine ordB_take (v := ?_) rfl rfl ?_ ?_
             rotate_left 1
             focus (intro W hW; obtain ⟨hcW, hfW⟩ := bcell hW; (go_simp <;> with_reducible rfl))
             simp only [Act.put, List.setIfInBounds_toArray, List.set_cons_zero, List.set_cons_succ]))
        refine ordB_only (opB_cskip rfl rfl hV0 ?_)
        simp only [Act.put, List.setIfInBounds_toArray, List.set_cons_zero, List.set_cons_succ]
        iterate 1 (first
          | (refine ordB_skip rfl rfl ?_; simp only [Act.put, List.setIfInBounds_toArray, List.set_cons_zero, List.set_cons_succ])
          | (refine ordB_take (v := ?_) rfl rfl ?_ ?_
             rotate_left 1
             focus (intro W hW; obtain ⟨hcW, hfW⟩ := bcell hW; (go_simp <;> with_reducible rfl))
             simp only [Act.put, List.setIfInBounds_toArray, List.set_cons_zero, List.set_cons_succ]))
        refine ordB_nil ?_
        have HB3 := Lib.hid (HBr.out.trans (hV0.mono hs1))
        have HO3 := Lib.hid (own_below HO.out hV0)
        have d0 := ((bcell hV0).1 _ _ hbb).trans d0
        have d1 := ((bcell hV0).1 _ _ hbb).trans d1
        have d2 := ((bcell hV0).1 _ _ hbb).trans d2
        have d3 := ((bcell hV0).1 _ _ hbb).trans d3
        have hbb := Nat.lt_of_lt_of_le hbb hV0.size
        have hs3 := Nat.le_trans hs1 hV0.size
        clear e0 e1 e2 e3 el
        obtain ⟨⟨e0, e1, e2, e3⟩, el⟩ := HCE.out _ HB3.out
        go_wp2_with (first | (at_builtin; refine wpList_app1 rfl _ _ 25 rfl (b1) 44 i0 _ 4 32 Tryz.underlying25 hi hz0 hz1 hz2 rfl (by decide) _ _ _ rfl V0 [.int .i64 y.fr, .int .i64 y.to, .int .i64 y.wd, .int .i64 y.co] rfl HO3.out _ rfl (by simp) rfl (by simp [Value.oneCell']) hn1 (by decide) hs3 ?_; intro v6 w6 hown6 hb6 ha6))
        go_roundw
        case rel => exact ⟨k + 1, true, insE e (es.take (k + 1)), _, rfl, rfl, by go_num, by omega, HST.out, by rw [insE_len, List.length_take]; omega, (by show w6.ownsRow _ _ _ _ _ _; rw [HNX.out, List.length_append, flat_snocE]; exact hown6), HB3.out.trans hb6⟩
        case measure => simp [intOf]; omega
      | false =>
        obtain ⟨hno, hO⟩ := HS.out.2 rfl
        have HLS : Hid (∀ W, Calls Tryz.prog 64 #[vEd e, vEd y] W fun r w' => r = .returned (.bool (lessE e y)) ∧ Below W.heap.size W w') := fun W => lessE_any e y W
        obtain ⟨v, hv⟩ : ∃ v, lessE e y = v := ⟨_, rfl⟩
        rw [hv] at HLS
        have HV := Lib.hid hv
        clear hv
        cases v with
        | true =>
          have HNX : Hid (insE e (es.take (k + 1)) = O ++ [e] ++ [y]) := by show _ = _; rw [HTK.out, insE_hit hno HV.out, hO]
          have HST : Hid ((true = true → (∃ z ∈ es.take (k + 1), lessE e z = true) ∧ insE e (es.take (k + 1)) = insE e (es.take (k + 1))) ∧ (true = false → (∀ z ∈ es.take (k + 1), lessE e z = false) ∧ insE e (es.take (k + 1)) = es.take (k + 1))) := ⟨fun _ => ⟨⟨y, by rw [HTK.out]; exact List.mem_append.2 (.inr (List.mem_singleton.2 rfl)), HV.out⟩, rfl⟩, fun h => by cases h⟩
          have hn2 : O.length + 1 ≤ 1000000 := by omega
          clear hO hno
          go_upto_region 5 with fail
          refine ordB_below (.quiet 0 (.quiet 1 (.quiet 2 (.quiet 3 (.quiet 4 (.quiet 5 (.quiet 6 (.quiet 7 (.only 8 (.quiet 9 .done)))))))))) (by kernel_rfl) (by kernel_rfl) (by kernel_rfl) (fun _ _ _ _ _ h => h) ?_
          intro V0 hV0
          iterate 8 (first
            | (refine ordB_skip rfl rfl ?_; simp only [Act.put, List.setIfInBounds_toArray, List.set_cons_zero, List.set_cons_succ])
            | (refine ordB_take (v := ?_) rfl rfl ?_ ?_
               rotate_left 1
               focus (intro W hW; obtain ⟨hcW, hfW⟩ := bcell hW; (go_simp <;> with_reducible rfl))
               simp only [Act.put, List.setIfInBounds_toArray, List.set_cons_zero, List.set_cons_succ]))
          refine ordB_only (opB_call rfl rfl (fun K hK => ?_))
          go_simp
          go_at_call 64
          refine (HLS.out V0).mono ?_
          rintro e V0_1 ⟨rfl, hx9⟩
          refine hK.out _ _ (hV0.trans (hx9.mono hV0.size)) (fun hV0_1 => ?_)
          iterate 1 (first
            | (refine ordB_skip rfl rfl ?_; simp only [Act.put, List.setIfInBounds_toArray, List.set_cons_zero, List.set_cons_succ])
            | (refine ordB_take (v := ?_) rfl rfl ?_ ?_
               rotate_left 1
               focus (intro W hW; obtain ⟨hcW, hfW⟩ := bcell hW; (go_simp <;> with_reducible rfl))
               simp only [Act.put, List.setIfInBounds_toArray, List.set_cons_zero, List.set_cons_succ]))
          refine ordB_nil ?_
          have HB3 := Lib.hid (HBr.out.trans (hV0_1.mono hs1))
          have HO3 := Lib.hid (own_below HO.out hV0_1)
          have d0 := ((bcell hV0_1).1 _ _ hbb).trans d0
          have d1 := ((bcell hV0_1).1 _ _ hbb).trans d1
          have d2 := ((bcell hV0_1).1 _ _ hbb).trans d2
          have d3 := ((bcell hV0_1).1 _ _ hbb).trans d3
          have hbb := Nat.lt_of_lt_of_le hbb hV0_1.size
          have hs3 := Nat.le_trans hs1 hV0_1.size
          clear e0 e1 e2 e3 el
          obtain ⟨⟨e0, e1, e2, e3⟩, el⟩ := HCE.out _ HB3.out
          go_wp2_with (first | (at_builtin; refine wpList_app1 rfl _ _ 25 rfl (b1) 44 i0 _ 4 32 Tryz.underlying25 hi hz0 hz1 hz2 rfl (by decide) _ _ _ rfl V0_1 [.int .i64 e.fr, .int .i64 e.to, .int .i64 e.wd, .int .i64 e.co] rfl HO3.out _ rfl (by simp) rfl (by simp [Value.oneCell']) hn1 (by decide) hs3 ?_; intro v4 w4 hown4 hb4 ha4; have d0 := (hb4.cell (p := ⟨b, off + k * 4, none⟩) hbb1).trans d0; have d1 := (hb4.cell (p := ⟨b, off + k * 4 + 1, none⟩) hbb1).trans d1; have d2 := (hb4.cell (p := ⟨b, off + k * 4 + 2, none⟩) hbb1).trans d2; have d3 := (hb4.cell (p := ⟨b, off + k * 4 + 3, none⟩) hbb1).trans d3; have hbb := Nat.lt_of_lt_of_le hbb hb4.size; have hs5 := Nat.le_trans hs3 hb4.size) | (at_builtin; refine wpList_app1 rfl _ _ 25 rfl (b1) 44 i0 _ 4 32 Tryz.underlying25 hi hz0 hz1 hz2 rfl (by decide) _ _ _ rfl w4 [.int .i64 y.fr, .int .i64 y.to, .int .i64 y.wd, .int .i64 y.co] rfl hown4 _ rfl (by simp) rfl (by simp [Value.oneCell']) hn2 (by decide) hs5 ?_; intro v6 w6 hown6 hb6 ha6))
          go_roundw
          case rel => exact ⟨k + 1, true, insE e (es.take (k + 1)), _, rfl, rfl, by go_num, by omega, HST.out, by rw [insE_len, List.length_take]; omega, (by show w6.ownsRow _ _ _ _ _ _; rw [HNX.out, List.length_append, List.length_append, flat_snocE, flat_snocE]; exact hown6), (HB3.out.trans hb4).trans hb6⟩
          case measure => simp [intOf]; omega
        | false =>
          have HNX : Hid (es.take (k + 1) = O ++ [y]) := by show _ = _; rw [HTK.out, hO]
          have HST : Hid ((false = true → (∃ z ∈ es.take (k + 1), lessE e z = true) ∧ es.take (k + 1) = insE e (es.take (k + 1))) ∧ (false = false → (∀ z ∈ es.take (k + 1), lessE e z = false) ∧ es.take (k + 1) = es.take (k + 1))) := ⟨fun h => (by cases h), fun _ => ⟨fun z hz => (by
            rw [HTK.out] at hz
            rcases List.mem_append.1 hz with h | h
            · exact hno z h
            · rw [List.mem_singleton.1 h]; exact HV.out), rfl⟩⟩
          clear hO hno
          go_upto_region 5 with fail
          refine ordB_below (.quiet 0 (.quiet 1 (.quiet 2 (.quiet 3 (.quiet 4 (.quiet 5 (.quiet 6 (.quiet 7 (.only 8 (.quiet 9 .done)))))))))) (by kernel_rfl) (by kernel_rfl) (by kernel_rfl) (fun _ _ _ _ _ h => h) ?_
          intro V0 hV0
          iterate 8 (first
            | (refine ordB_skip rfl rfl ?_; simp only [Act.put, List.setIfInBounds_toArray, List.set_cons_zero, List.set_cons_succ])
            | (refine ordB_take (v := ?_) rfl rfl ?_ ?_
               rotate_left 1
               focus (intro W hW; obtain ⟨hcW, hfW⟩ := bcell hW; (go_simp <;> with_reducible rfl))
               simp only [Act.put, List.setIfInBounds_toArray, List.set_cons_zero, List.set_cons_succ]))
          refine ordB_only (opB_call rfl rfl (fun K hK => ?_))
          go_simp
          go_at_call 64
          refine (HLS.out V0).mono ?_
          rintro e V0_1 ⟨rfl, hx9⟩
          refine hK.out _ _ (hV0.trans (hx9.mono hV0.size)) (fun hV0_1 => ?_)
          iterate 1 (first
            | (refine ordB_skip rfl rfl ?_; simp only [Act.put, List.setIfInBounds_toArray, List.set_cons_zero, List.set_cons_succ])
            | (refine ordB_take (v := ?_) rfl rfl ?_ ?_
               rotate_left 1
               focus (intro W hW; obtain ⟨hcW, hfW⟩ := bcell hW; (go_simp <;> with_reducible rfl))
               simp only [Act.put, List.setIfInBounds_toArray, List.set_cons_zero, List.set_cons_succ]))
          refine ordB_nil ?_
          have HB3 := Lib.hid (HBr.out.trans (hV0_1.mono hs1))
          have HO3 := Lib.hid (own_below HO.out hV0_1)
          have d0 := ((bcell hV0_1).1 _ _ hbb).trans d0
          have d1 := ((bcell hV0_1).1 _ _ hbb).trans d1
          have d2 := ((bcell hV0_1).1 _ _ hbb).trans d2
          have d3 := ((bcell hV0_1).1 _ _ hbb).trans d3
          have hbb := Nat.lt_of_lt_of_le hbb hV0_1.size
          have hs3 := Nat.le_trans hs1 hV0_1.size
          clear e0 e1 e2 e3 el
          obtain ⟨⟨e0, e1, e2, e3⟩, el⟩ := HCE.out _ HB3.out
          go_wp2_with (first | (at_builtin; refine wpList_app1 rfl _ _ 25 rfl (b1) 44 i0 _ 4 32 Tryz.underlying25 hi hz0 hz1 hz2 rfl (by decide) _ _ _ rfl V0_1 [.int .i64 y.fr, .int .i64 y.to, .int .i64 y.wd, .int .i64 y.co] rfl HO3.out _ rfl (by simp) rfl (by simp [Value.oneCell']) hn1 (by decide) hs3 ?_; intro v6 w6 hown6 hb6 ha6))
          go_roundw
          case rel => exact ⟨k + 1, false, es.take (k + 1), _, rfl, rfl, by go_num, by omega, HST.out, by rw [List.length_take]; omega, (by show w6.ownsRow _ _ _ _ _ _; rw [HNX.out, List.length_append, flat_snocE]; exact hown6), HB3.out.trans hb6⟩
          case measure => simp [intOf]; omega
    · obtain rfl : k = es.length := by omega
      rw [List.take_length] at hst
      cases d with
      | true =>
        have hO := (hst.1 rfl).2
        obtain ⟨B, cB, hV, hcB, hcmB, hs⟩ := own_slr (R := REd) HO.out (fun _ => rfl) (fun _ => rfl) rfl
        subst hV
        clear hs hcB hcmB hst hbr
        go_wp2_with fail
        go_ret
        exact ⟨B, cB, by rw [← hO]; rfl, by rw [← hO]; exact own_base HO.out hw01, HBW.out.trans (HBr.out.mono hw01)⟩
      | false =>
        obtain ⟨hno, hO⟩ := hst.2 rfl
        have HNX : Hid (insE e es = O ++ [e]) := by show _ = _; rw [insE_no hno, hO]
        clear hst hbr hO hno
        go_wp2_with (first | (at_builtin; refine wpList_app1 rfl _ _ 25 rfl (b1) 44 i0 _ 4 32 Tryz.underlying25 hi hz0 hz1 hz2 rfl (by decide) _ _ _ rfl wr [.int .i64 e.fr, .int .i64 e.to, .int .i64 e.wd, .int .i64 e.co] rfl HO.out _ rfl (by simp) rfl (by simp [Value.oneCell']) hn1 (by decide) hs1 ?_; intro v4 w4 hown4 hb4 ha4))
        have hO4 : w4.ownsRow b1 44 4 v4 (insE e es).length ((insE e es).flatMap encEd) := by rw [HNX.out, List.length_append, flat_snocE]; exact hown4
        obtain ⟨B, cB, hV, hcB, hcmB, hs⟩ := own_slr (R := REd) hO4 (fun _ => rfl) (fun _ => rfl) rfl
        subst hV
        go_ret
        exact ⟨B, cB, rfl, own_base hO4 hw01, HBW.out.trans ((HBr.out.trans hb4).mono hw01)⟩
end Go.Proofs.YtfjkmgjjifhdkaaGreat
