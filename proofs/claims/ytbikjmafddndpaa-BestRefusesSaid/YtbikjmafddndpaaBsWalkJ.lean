/-
  The walks of layer 15: the reference's lists of candidates compared; its List.
-/
import Derived.Test.YtbikjmafddndpaaBsWalkI
import Derived.Test.YtbikjmafddndpaaGrWalkQ
namespace Go.Proofs.Ytbikjmafddndpaa
open Go Go.RowKit

set_option maxRecDepth 100000 in
set_option maxHeartbeats 8000000 in
theorem same_any (A B : Option Addr) (xs ys : List Can) (c d : Nat) (w : World) (hx : SlR 2 RCan w A xs) (hy : SlR 2 RCan w B ys) (hl : xs.length ≤ maxLen) (hl2 : ys.length ≤ maxLen) :
    Calls Try.prog 20 #[.slice A xs.length c, .slice B ys.length d] w fun e w' => e = .returned (.bool (decide (xs = ys))) ∧ Below w.heap.size w w' := by
  unfold maxLen at hl hl2
  by_cases hlen : xs.length = ys.length
  · have HL := Lib.hid hlen
    rw [← hlen]
    clear hlen
    go_enter Try.func20, Try.ntmps20
    go_wp2_with fail
    go_loopw [5] (fun i wr => ∃ k : Nat, k ≤ xs.length ∧ Hid (SameTo xs ys k) ∧ i = .int .i64 k ∧ Below w.heap.size w wr) (fun i _ => xs.length - (intOf i).toNat)
    case atStart => exact ⟨0, by omega, rfl, rfl, Below.refl _ _⟩
    case round =>
      obtain ⟨k, hk, HS, rfl, hb⟩ := hrel
      by_cases hlt : k < xs.length
      · obtain ⟨b, off, x, A1, c1, rfl, hbb, hxx, x0, x1, hxs, hxl, hxm⟩ := (hx.below keeps_can hb).can hlt
        obtain ⟨b', off', y, A2, c2, rfl, hbb', hyy, y0, y1, hys, hyl, hym⟩ := (hy.below keeps_can hb).can (k := k) (by have := HL.out; omega)
        have HX := Lib.hid hxx
        have HY := Lib.hid hyy
        have HI : Hid (∀ W, Below wr.heap.size wr W → Calls Try.prog 27 #[.slice A1 x.links.length c1, .slice A2 y.links.length c2] W fun e w' => e = .returned (.bool (decide (x.links = y.links))) ∧ Below W.heap.size W w') := fun W hW => ints_any A1 A2 x.links y.links c1 c2 W (hxs.below keeps_int hW) (hys.below keeps_int hW) (by omega) (by omega)
        clear hxx hyy hxs hys hxl hxm hyl hym
        by_cases hc : x.cost = y.cost
        · have e1 : (x.cost != y.cost) = false := by simpa using hc
          have HC := Lib.hid hc
          clear hc
          cases hll : decide (x.links = y.links) with
          | true =>
            rw [hll] at HI
            have HE : Hid (x = y) := by have h := of_decide_eq_true hll; have h2 := HC.out; cases x; cases y; simp at h h2; show _ = _; rw [h, h2]
            clear hll
            go_wp2_with fail
            refine ordB_below (.quiet 0 (.quiet 1 (.quiet 2 (.quiet 3 (.quiet 4 (.quiet 5 (.quiet 6 (.quiet 7 (.quiet 8 (.quiet 9 (.quiet 10 (.quiet 11 (.quiet 12 (.quiet 13 (.quiet 14 (.quiet 15 (.quiet 16 (.quiet 17 (.quiet 18 (.quiet 19 (.quiet 20 (.quiet 21 (.only 22 (.quiet 23 (.quiet 24 .done))))))))))))))))))))))))) (by kernel_rfl) (by kernel_rfl) (by kernel_rfl) (fun _ _ _ _ _ h => h) ?_
            intro V0 hV0
            iterate 22 (first
              | (refine ordB_skip rfl rfl ?_; simp only [Act.put, List.setIfInBounds_toArray, List.set_cons_zero, List.set_cons_succ])
              | (refine ordB_take (v := ?_) rfl rfl ?_ ?_
                 rotate_left 1
                 focus (intro W hW; obtain ⟨hcW, hfW⟩ := bcell hW; (go_simp <;> with_reducible rfl))
                 simp only [Act.put, List.setIfInBounds_toArray, List.set_cons_zero, List.set_cons_succ]))
            refine ordB_only (opB_call rfl rfl (fun K hK => ?_))
            go_simp
            go_at_call 27
            refine (HI.out _ hV0).mono ?_
            rintro e V0_1 ⟨rfl, hx⟩
            refine hK.out _ _ (hV0.trans (hx.mono hV0.size)) (fun hV0_1 => ?_)
            iterate 2 (first
              | (refine ordB_skip rfl rfl ?_; simp only [Act.put, List.setIfInBounds_toArray, List.set_cons_zero, List.set_cons_succ])
              | (refine ordB_take (v := ?_) rfl rfl ?_ ?_
                 rotate_left 1
                 focus (intro W hW; obtain ⟨hcW, hfW⟩ := bcell hW; (go_simp <;> with_reducible rfl))
                 simp only [Act.put, List.setIfInBounds_toArray, List.set_cons_zero, List.set_cons_succ]))
            refine ordB_nil ?_
            go_wp2_with fail
            go_roundw
            case rel => exact ⟨k + 1, by omega, HS.out.succ HX.out (by rw [HY.out, HE.out]), by go_num, bthen hb hV0_1⟩
            case measure => simp [intOf]; omega
          | false =>
            rw [hll] at HI
            have HE : Hid (x ≠ y) := fun e => (of_decide_eq_false hll) (by rw [e])
            clear hll
            go_wp2_with fail
            refine ordB_below (.quiet 0 (.quiet 1 (.quiet 2 (.quiet 3 (.quiet 4 (.quiet 5 (.quiet 6 (.quiet 7 (.quiet 8 (.quiet 9 (.quiet 10 (.quiet 11 (.quiet 12 (.quiet 13 (.quiet 14 (.quiet 15 (.quiet 16 (.quiet 17 (.quiet 18 (.quiet 19 (.quiet 20 (.quiet 21 (.only 22 (.quiet 23 (.quiet 24 .done))))))))))))))))))))))))) (by kernel_rfl) (by kernel_rfl) (by kernel_rfl) (fun _ _ _ _ _ h => h) ?_
            intro V0 hV0
            iterate 22 (first
              | (refine ordB_skip rfl rfl ?_; simp only [Act.put, List.setIfInBounds_toArray, List.set_cons_zero, List.set_cons_succ])
              | (refine ordB_take (v := ?_) rfl rfl ?_ ?_
                 rotate_left 1
                 focus (intro W hW; obtain ⟨hcW, hfW⟩ := bcell hW; (go_simp <;> with_reducible rfl))
                 simp only [Act.put, List.setIfInBounds_toArray, List.set_cons_zero, List.set_cons_succ]))
            refine ordB_only (opB_call rfl rfl (fun K hK => ?_))
            go_simp
            go_at_call 27
            refine (HI.out _ hV0).mono ?_
            rintro e V0_1 ⟨rfl, hx⟩
            refine hK.out _ _ (hV0.trans (hx.mono hV0.size)) (fun hV0_1 => ?_)
            iterate 2 (first
              | (refine ordB_skip rfl rfl ?_; simp only [Act.put, List.setIfInBounds_toArray, List.set_cons_zero, List.set_cons_succ])
              | (refine ordB_take (v := ?_) rfl rfl ?_ ?_
                 rotate_left 1
                 focus (intro W hW; obtain ⟨hcW, hfW⟩ := bcell hW; (go_simp <;> with_reducible rfl))
                 simp only [Act.put, List.setIfInBounds_toArray, List.set_cons_zero, List.set_cons_succ]))
            refine ordB_nil ?_
            go_wp2_with fail
            go_ret
            exact ⟨ret_bool (by simp [ne_at HX.out HY.out HE.out]), bthen hb hV0_1⟩
        · have e1 : (x.cost != y.cost) = true := by simpa using hc
          have HE : Hid (x ≠ y) := fun e => hc (by rw [e])
          clear hc
          go_wp2_with fail
          refine ordB_below (.quiet 0 (.quiet 1 (.quiet 2 (.quiet 3 (.quiet 4 (.quiet 5 (.quiet 6 (.quiet 7 (.quiet 8 (.quiet 9 (.quiet 10 (.quiet 11 (.quiet 12 (.quiet 13 (.quiet 14 (.quiet 15 (.quiet 16 (.quiet 17 (.quiet 18 (.quiet 19 (.quiet 20 (.quiet 21 (.only 22 (.quiet 23 (.quiet 24 .done))))))))))))))))))))))))) (by kernel_rfl) (by kernel_rfl) (by kernel_rfl) (fun _ _ _ _ _ h => h) ?_
          intro V0 hV0
          iterate 22 (first
            | (refine ordB_skip rfl rfl ?_; simp only [Act.put, List.setIfInBounds_toArray, List.set_cons_zero, List.set_cons_succ])
            | (refine ordB_take (v := ?_) rfl rfl ?_ ?_
               rotate_left 1
               focus (intro W hW; obtain ⟨hcW, hfW⟩ := bcell hW; (go_simp <;> with_reducible rfl))
               simp only [Act.put, List.setIfInBounds_toArray, List.set_cons_zero, List.set_cons_succ]))
          refine ordB_only (opB_cskip rfl rfl hV0 ?_)
          simp only [Act.put, List.setIfInBounds_toArray, List.set_cons_zero, List.set_cons_succ]
          iterate 2 (first
            | (refine ordB_skip rfl rfl ?_; simp only [Act.put, List.setIfInBounds_toArray, List.set_cons_zero, List.set_cons_succ])
            | (refine ordB_take (v := ?_) rfl rfl ?_ ?_
               rotate_left 1
               focus (intro W hW; obtain ⟨hcW, hfW⟩ := bcell hW; (go_simp <;> with_reducible rfl))
               simp only [Act.put, List.setIfInBounds_toArray, List.set_cons_zero, List.set_cons_succ]))
          refine ordB_nil ?_
          go_wp2_with fail
          go_ret
          exact ⟨ret_bool (by simp [ne_at HX.out HY.out HE.out]), bthen hb hV0⟩
      · go_wp2_with fail
        go_ret
        exact ⟨ret_bool (by simp [HS.out.all (by omega) (by have := HL.out; omega)]), hb⟩
  · go_enter Try.func20, Try.ntmps20
    go_wp2_with fail
    go_ret
    exact ⟨ret_bool (by simp; rintro rfl; exact hlen rfl), Below.refl _ _⟩
set_option maxRecDepth 100000 in
set_option maxHeartbeats 8000000 in
theorem has_any (A B : Option Addr) (xs : List Can) (ls : List Int) (c d : Nat) (w : World) (hx : SlR 2 RCan w A xs) (hy : SlR 1 RInt w B ls) (hl : xs.length ≤ maxLen) (hl2 : ls.length ≤ maxLen) :
    Calls Try.prog 26 #[.slice A xs.length c, .slice B ls.length d] w fun e w' => e = .returned (.bool (decide (∃ x ∈ xs, x.links = ls))) ∧ Below w.heap.size w w' := by
  have hl20 := hl2
  unfold maxLen at hl hl2
  go_enter Try.func26, Try.ntmps26
  go_wp2_with fail
  go_loopw [5] (fun i wr => ∃ k : Nat, k ≤ xs.length ∧ Hid (∀ j x, j < k → xs[j]? = some x → x.links ≠ ls) ∧ i = .int .i64 k ∧ Below w.heap.size w wr) (fun i _ => xs.length - (intOf i).toNat)
  case atStart => exact ⟨0, by omega, fun j x h => by omega, rfl, Below.refl _ _⟩
  case round =>
    obtain ⟨k, hk, HS, rfl, hb⟩ := hrel
    by_cases hlt : k < xs.length
    · obtain ⟨b, off, x, A1, c1, rfl, hbb, hxx, x0, x1, hxs, hxl, hxm⟩ := (hx.below keeps_can hb).can hlt
      have HX := Lib.hid hxx
      have HI : Hid (Calls Try.prog 27 #[.slice A1 x.links.length c1, .slice B ls.length d] wr fun e w' => e = .returned (.bool (decide (x.links = ls))) ∧ Below wr.heap.size wr w') := ints_any A1 B x.links ls c1 d wr hxs (hy.below keeps_int hb) (by omega) hl20
      clear hxx hxs hxl hxm
      cases hll : decide (x.links = ls) with
      | true =>
        rw [hll] at HI
        have HE : Hid (∃ x ∈ xs, x.links = ls) := ⟨x, List.mem_of_getElem? HX.out, of_decide_eq_true hll⟩
        clear hll
        go_wp2_with (go_at_call 27; refine HI.out.mono ?_; rintro e w2 ⟨rfl, hb2⟩)
        go_ret
        exact ⟨ret_bool (decide_eq_true HE.out).symm, bthen hb hb2⟩
      | false =>
        rw [hll] at HI
        have HE : Hid (∀ j y, j < k + 1 → xs[j]? = some y → y.links ≠ ls) := fun j y hj hy => by
          rcases Nat.lt_or_ge j k with h | h
          · exact HS.out j y h hy
          · obtain rfl : j = k := by omega
            rw [HX.out] at hy
            rw [← Option.some.inj hy]
            exact of_decide_eq_false hll
        clear hll
        go_wp2_with (go_at_call 27; refine HI.out.mono ?_; rintro e w2 ⟨rfl, hb2⟩)
        go_roundw
        case rel => exact ⟨k + 1, by omega, HE, by go_num, bthen hb hb2⟩
        case measure => simp [intOf]; omega
    · have HE : Hid (¬ ∃ x ∈ xs, x.links = ls) := by
        rintro ⟨x, hx, he⟩
        obtain ⟨j, hj, rfl⟩ := List.getElem_of_mem hx
        exact HS.out j _ (by omega) (List.getElem?_eq_getElem hj) he
      go_wp2_with fail
      go_ret
      exact ⟨ret_bool (decide_eq_false HE.out).symm, hb⟩
theorem slr_preC {α : Type} {s : Nat} {R : World → α → List Value → Prop} {w : World} {A : Option Addr} {xs : List α} (h : SlR s R w A xs) (n : Nat) : SlR s R w A (xs.take n) := fun hne => by
  obtain ⟨b, o, hA, hb, hc⟩ := h (by rintro rfl; simp at hne)
  refine ⟨b, o, hA, hb, fun k x hk => hc k x ?_⟩
  rw [List.getElem?_take] at hk
  split at hk
  · exact hk
  · cases hk
theorem fold_ins_len : ∀ (l out : List Can), (l.foldl insC out).length = out.length + l.length
  | [], out => by simp
  | x :: l, out => by
    rw [List.foldl_cons, fold_ins_len l, (insC_perm out x).length_eq, List.length_cons, List.length_cons]
    omega
theorem ordered_perm_len (l : List Can) : (orderedM l).length = l.length := by
  unfold orderedM
  rw [fold_ins_len]
  simp
def allR (g : Gr) : List Can := orderedM (waysM g 500 g.n.toNat 0)
theorem allR_is {g : Gr} (hg : GrOK g) (h14 : g.ls.length ≤ 14) : IsAll g (allR g) := ref_all hg h14 (by decide)
/-- What the reference's List answers. -/
def IsRefList (g : Gr) (k : Int) (w : World) (e : Ending) (w' : World) : Prop := ∃ (ms : List MC) (A : Option Addr) (c : Nat), e = .returned (.tuple #[.slice A ms.length c, .int .i64 (bestErr g k)]) ∧ SlR 2 RMc w' A ms ∧ MsOK w' ms ∧ ms.length ≤ c ∧ c ≤ maxLen ∧
  (bestErr g k = 0 → ms.map (·.x) = (allR g).take k.toNat) ∧ (bestErr g k ≠ 0 → ms = []) ∧ Below w.heap.size w w'
set_option maxRecDepth 100000 in
set_option maxHeartbeats 8000000 in
theorem reflist_any (A : Option Addr) (c : Nat) (g : Gr) (k : Int) (w : World) (hx : SlR 4 RLk w A g.ls) (hl : g.ls.length ≤ maxLen) :
    Calls Try.prog 17 #[.agg #[.int .i64 g.n, .slice A g.ls.length c], .int .i64 k] w (IsRefList g k w) := by
  have hl0 := hl
  unfold maxLen at hl
  obtain ⟨w1, hw1⟩ : ∃ w1, w.alloc (.cells #[.int .i64 g.n, .slice A g.ls.length c] 30) = w1 := ⟨_, rfl⟩
  have hb1 : Below w.heap.size w w1 := by rw [← hw1]; exact nw _ (Below.refl _ _)
  have hB1 : Blk w1 w.heap.size 30 #[.int .i64 g.n, .slice A g.ls.length c] := by rw [← hw1]; exact Blk.new _ _ _
  have HW1 := Lib.hid hw1
  have c0 := hB1.cell 0
  have c1 := hB1.cell 1
  have lb := hB1.lt
  simp at c0 c1
  have HV : Hid (∀ W, Below w.heap.size w W → Calls Try.prog 29 #[.agg #[.int .i64 g.n, .slice A g.ls.length c]] W fun e w' => e = .returned (.bool (grB g)) ∧ Below W.heap.size W w') := fun W hW => refvalid_any A c g W (hx.below keeps_lk hW) hl0
  clear hw1
  cases hgr : grB g with
  | false =>
    have HP : Hid (bestErr g k = 150) := by show _ = _; unfold bestErr; rw [if_pos hgr]
    rw [hgr] at HV
    clear hgr
    go_enter Try.func17, Try.ntmps17
    go_wp2_with (go_at_call 29; go_loud (rw [HW1.out]; refine (HV.out _ hb1).mono ?_; rintro e w2 ⟨rfl, hb2⟩))
    go_ret2
    exact ⟨[], none, 0, by rw [HP.out]; rfl, SlR.nil, MsOK.nil, Nat.le_refl _, Nat.zero_le _, (fun h => by rw [HP.out] at h; cases h), fun _ => rfl, bthen hb1 hb2⟩
  | true =>
    have hg := grB_iff.1 hgr
    rw [hgr] at HV
    by_cases hk : k < 0 ∨ 50 < k
    · have HP : Hid (bestErr g k = 1) := by show _ = _; unfold bestErr; rw [if_neg (by rw [hgr]; simp), if_pos hk]
      clear hgr hg
      rcases (by omega : k < 0 ∨ (0 ≤ k ∧ 50 < k)) with z1 | ⟨z1, z2⟩
      all_goals
        clear hk
        go_enter Try.func17, Try.ntmps17
        go_wp2_with (go_at_call 29; go_loud (rw [HW1.out]; refine (HV.out _ hb1).mono ?_; rintro e w2 ⟨rfl, hb2⟩))
        go_ret2
        exact ⟨[], none, 0, by rw [HP.out]; rfl, SlR.nil, MsOK.nil, Nat.le_refl _, Nat.zero_le _, (fun h => by rw [HP.out] at h; cases h), fun _ => rfl, bthen hb1 hb2⟩
    · have HP : Hid (bestErr g k = 0) := by show _ = _; unfold bestErr; rw [if_neg (by rw [hgr]; simp), if_neg hk]
      obtain ⟨kn, rfl⟩ : ∃ kn : Nat, k = (kn : Int) := ⟨k.toNat, by omega⟩
      have hk1 : (0 : Int) ≤ (kn : Int) := by omega
      have hk2 : (kn : Int) ≤ 50 := by omega
      obtain ⟨hn1, hn2⟩ := hg.n
      obtain ⟨N, hN⟩ : ∃ N : Nat, g.n = (N : Int) := ⟨g.n.toNat, by omega⟩
      have HAL : Hid (allR g = orderedM (waysM g 500 N 0)) := by show _ = _; unfold allR; rw [hN, Int.toNat_natCast]
      have HWA : Hid (∀ W, Below w.heap.size w W → Calls Try.prog 44 #[.agg #[.int .i64 (N : Int), .slice A g.ls.length c], .int .i64 0, .int .i64 500] W (IsCans (waysM g 500 N 0) W)) := fun W hW => ways_any A c g N hg hN 500 (by decide) (by decide) N 0 W (hx.below keeps_lk hW) (by omega) (by omega) (by omega)
      have HWL : Hid ((waysM g 500 N 0).length ≤ 500) := waysM_len g (by decide) N 0
      rw [hN] at HV c0 hB1 hn1 hn2 HW1 ⊢
      clear hgr hg hN hk
      go_enter Try.func17, Try.ntmps17
      go_upto_region 3 with (go_at_call 29; go_loud (rw [HW1.out]; refine (HV.out _ hb1).mono ?_; rintro e w2 ⟨rfl, hb2⟩))
      have hB2 := hB1.below hb2 lb
      have hbw2 := bthen hb1 hb2
      have k0 := hB2.cell 0
      have k1 := hB2.cell 1
      have kl := hB2.lt
      simp at k0 k1
      clear hb2 c0 c1 hB1
      go_upto_region 6 with (first | (go_at_call 44; go_loud (refine (HWA.out _ hbw2).mono ?_; rintro e w3 ⟨v3, ms3, rfl, ho3, hm3, HM3, hb3⟩; obtain ⟨A3, c3, rfl, hc3, hcm3, hs3⟩ := own_slr (R := RMc) ho3 (fun _ => rfl) (fun _ => rfl) rfl; have hl3 : ms3.length ≤ 500 := (by have := HWL.out; rw [← HM3.out, List.length_map] at this; exact this); have HOR := Lib.hid (reford_any A3 c3 ms3 w3 hs3 hm3 (by omega)); clear ho3 hs3 hm3)) | (go_at_call 43; go_loud (refine HOR.out.mono ?_; rintro e w4 ⟨v4, ms4, rfl, ho4, hm4, HM4, hb4⟩)))
      obtain ⟨A4, c4, rfl, hc4, hcm4, hs4⟩ := own_slr (R := RMc) ho4 (fun _ => rfl) (fun _ => rfl) rfl
      have HMS : Hid (ms4.map (·.x) = allR g) := by show _ = _; rw [HM4.out, HM3.out, HAL.out]
      have hml : ms4.length ≤ 1000000 := by
        have h1 := congrArg List.length HM4.out
        rw [List.length_map, (ordered_perm_len (ms3.map (·.x))), List.length_map] at h1
        omega
      obtain ⟨n, hn⟩ : ∃ n, min kn ms4.length = n := ⟨_, rfl⟩
      have HMI : Hid ((min (kn : Int) (ms4.length : Int)).toNat = n) := by
        show _ = _
        omega
      have hna : n ≤ ms4.length := by omega
      have hna' : (n : Int) ≤ (c4 : Int) := by omega
      have hn0 : (0 : Int) ≤ (n : Int) := by omega
      have HTK : Hid ((ms4.take n).map (·.x) = (allR g).take kn) := by
        show _ = _
        rw [← HMS.out, List.map_take, ← hn]
        rcases Nat.le_total kn ms4.length with h | h
        · rw [Nat.min_eq_left h]
        · rw [Nat.min_eq_right h, List.take_of_length_le (by simp), List.take_of_length_le (by simpa using h)]
      have HS4 := Lib.hid hs4
      have HM := Lib.hid hm4
      have HLN : Hid ((ms4.take n).length = n) := by show _ = _; rw [List.length_take]; omega
      have HBE := Lib.hid (bthen (bthen hbw2 hb3) hb4)
      clear hn hs4 hm4 ho4
      go_wp2_with fail
      rw [HMI.out]
      go_ret2
      exact ⟨ms4.take n, A4, c4, by rw [HP.out, HLN.out]; rfl, slr_preC HS4.out n, HM.out.sub fun m hm => List.mem_of_mem_take hm, by rw [HLN.out]; omega, hcm4, (fun _ => by rw [Int.toNat_natCast]; exact HTK.out), (fun h => absurd HP.out h), HBE.out⟩
end Go.Proofs.Ytbikjmafddndpaa
