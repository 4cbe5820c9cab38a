/-
  TpWalkH, TpWalkI, joined. No conditions.
-/
import Derived.Test.YtfjkmgjjifhdkaaGreatP46
import Derived.Test.YtfjkmgjjifhdkaaGreatP05
/-
  The walks of the reference's pins: whatever is drawn, the list that is made has valid pins alone.
-/
namespace Go.Proofs.YtfjkmgjjifhdkaaGreat
open Go Go.RowKit

/-- A truth value, whichever. -/
def SomeB (w : World) (r : Ending) (w' : World) : Prop := (∃ v, r = .returned (.bool v)) ∧ Below w.heap.size w w'
/-- Whether each pin begins where the one before has ended. -/
def pvB : List Pn → Bool
  | a :: b :: l => decide (a.en ≤ b.fr) && pvB (b :: l)
  | _ => true
theorem pvB_snoc (l : List Pn) (y : Pn) : pvB (l ++ [y]) = (pvB l && match l.getLast? with | none => true | some x => decide (x.en ≤ y.fr)) := by
  induction l with
  | nil => rfl
  | cons a l ih =>
    cases l with
    | nil => simp [pvB]
    | cons b l =>
      show (decide (a.en ≤ b.fr) && pvB (b :: l ++ [y])) = _
      rw [ih]
      show _ = (decide (a.en ≤ b.fr) && pvB (b :: l) && _)
      rw [Bool.and_assoc, List.getLast?_cons_cons]
theorem pvB_app : ∀ {l m : List Pn}, pvB (l ++ m) = true → pvB l = true
  | [], _, _ => rfl
  | [_], _, _ => rfl
  | a :: b :: l, m, h => by
    have h' : (decide (a.en ≤ b.fr) && pvB ((b :: l) ++ m)) = true := h
    rw [Bool.and_eq_true] at h'
    show (decide (a.en ≤ b.fr) && pvB (b :: l)) = true
    rw [Bool.and_eq_true]
    exact ⟨h'.1, pvB_app h'.2⟩
theorem pvB_step {l : List Pn} {k : Nat} {q p : Pn} (hk : 0 < k) (hq : l[k - 1]? = some q) (hp : l[k]? = some p) (h : pvB (l.take k) = true) : pvB (l.take (k + 1)) = decide (q.en ≤ p.fr) := by
  rw [take_snoc_of hp, pvB_snoc, h]
  have := getLast_take hq
  rw [show k - 1 + 1 = k by omega] at this
  rw [this]
  rfl
theorem pvB_no {l : List Pn} {k : Nat} (h : pvB (l.take k) = false) : pvB l = false := by
  cases hl : pvB l with
  | false => rfl
  | true =>
    rw [← List.take_append_drop k l] at hl
    rw [pvB_app hl] at h
    cases h
theorem pin_inf : (Tryz.prog.info? 46).map (fun i => (i.zero, i.size, i.bytes)) = some (some (.agg #[.int .i64 0, .int .i64 0, .int .i64 0]), 3, 24) := by kernel_rfl
set_option maxRecDepth 100000 in
set_option maxHeartbeats 4000000 in
theorem overlap_any (a b : Pn) (w : World) : Calls Tryz.prog 66 #[vPn a, vPn b] w (SomeB w) := by
  obtain ⟨w2, hw2⟩ : ∃ w2, (w.alloc (.cells #[.int .i64 a.fr, .int .i64 a.en, .int .i64 a.wd] 46)).alloc (.cells #[.int .i64 b.fr, .int .i64 b.en, .int .i64 b.wd] 46) = w2 := ⟨_, rfl⟩
  have hb2 : Below w.heap.size w w2 := by rw [← hw2]; exact nw _ (nw _ (Below.refl _ _))
  have hA : Blk w2 w.heap.size 46 #[.int .i64 a.fr, .int .i64 a.en, .int .i64 a.wd] := by rw [← hw2]; exact (Blk.new _ _ _).alloc _
  have hB : Blk w2 (w.heap.size + 1) 46 #[.int .i64 b.fr, .int .i64 b.en, .int .i64 b.wd] := by rw [← hw2]; exact Blk.new_ (by simp)
  have HW2 := Lib.hid hw2
  have a0 := hA.cell 0
  have a1 := hA.cell 1
  have al := hA.lt
  have b0 := hB.cell 0
  have b1 := hB.cell 1
  have bl := hB.lt
  simp at a0 a1 b0 b1
  clear hw2 hA hB
  cases z1 : decide (a.fr < b.en) with
  | false =>
    go_enter Tryz.func66, Tryz.ntmps66
    go_upto_region 1 with fail
    rw [HW2.out]
    go_wp2_with fail
    go_ret
    exact ⟨⟨_, rfl⟩, hb2⟩
  | true =>
    cases z2 : decide (b.fr < a.en) <;>
    (go_enter Tryz.func66, Tryz.ntmps66
     go_upto_region 1 with fail
     rw [HW2.out]
     go_wp2_with fail
     go_ret
     exact ⟨⟨_, rfl⟩, hb2⟩)
set_option maxRecDepth 100000 in
set_option maxHeartbeats 8000000 in
theorem pvalid_any (A : Option Addr) (c : Nat) (l : List Pn) (n : Int) (w : World) (hx : SlR 3 RPn w A l) (hl : l.length ≤ 1000) (hn : 0 ≤ n ∧ n ≤ 40) (hok : ∀ p ∈ l, PnOK n p) :
    Calls Tryz.prog 65 #[.slice A l.length c, .int .i64 n] w fun r w' => r = .returned (.bool (pvB l)) ∧ Below w.heap.size w w' := by
  have y1 : decide (n < 0) = false := decide_eq_false (by omega)
  have y2 : decide (40 < n) = false := decide_eq_false (by omega)
  go_enter Tryz.func65, Tryz.ntmps65
  go_wp2_with fail
  go_loopw [5] (fun i wr => ∃ k : Nat, k ≤ l.length ∧ Hid (pvB (l.take k) = true) ∧ i = .int .i64 k ∧ Below w.heap.size w wr) (fun i _ => l.length - (intOf i).toNat)
  case atStart => exact ⟨0, by omega, (by show pvB (l.take 0) = true; rfl), rfl, Below.refl _ _⟩
  case round =>
    obtain ⟨k, hk, HS, rfl, hbr⟩ := hrel
    by_cases hlt : k < l.length
    · obtain ⟨b, off, p, hA, hbb, hpp, d0, d1, d2⟩ := (hx.below keeps_pn hbr).pn hlt
      subst hA
      obtain ⟨⟨o1, o2, o3⟩, o4, o5⟩ := hok p (List.mem_of_getElem? hpp)
      have z1 : decide (p.fr < 0) = false := decide_eq_false (by omega)
      have z2 : decide (p.en ≤ p.fr) = false := decide_eq_false (by omega)
      have z3 : decide (n < p.en) = false := decide_eq_false (by omega)
      have z4 : decide (p.wd < -1) = false := decide_eq_false (by omega)
      have z5 : decide (200 ≤ p.wd) = false := decide_eq_false (by omega)
      have hkI : (k : Int) < (l.length : Int) := by omega
      have hk0 : (0 : Int) ≤ (k : Int) := by omega
      have hwk : IntKind.i64.wrap ((k : Int) - 1) = (k : Int) - 1 := IntWalk.i64_in _ (by omega)
      have HBr := Lib.hid hbr
      have HX := Lib.hid (hx.below keeps_pn hbr)
      have HPP := Lib.hid hpp
      clear hpp o1 o2 o3 o4 o5 hbr
      by_cases hk1 : k = 0
      · subst hk1
        rw [Nat.zero_mul, Nat.add_zero] at d0 d1 d2
        have HN : Hid (pvB (l.take (0 + 1)) = true) := by show _ = _; rw [take_snoc_of HPP.out]; rfl
        go_upto_region 6 with fail
        refine ordB_below (.quiet 0 (.quiet 1 (.quiet 2 (.quiet 3 (.quiet 4 (.quiet 5 (.quiet 6 (.quiet 7 (.quiet 8 (.quiet 9 (.quiet 10 (.quiet 11 (.quiet 12 (.quiet 13 (.quiet 14 (.quiet 15 (.quiet 16 (.quiet 17 (.quiet 18 (.quiet 19 (.quiet 20 (.quiet 21 (.quiet 22 (.quiet 23 (.quiet 24 (.quiet 25 (.quiet 26 (.quiet 27 (.quiet 28 (.quiet 29 (.quiet 30 (.quiet 31 (.quiet 32 (.quiet 33 (.quiet 34 (.quiet 35 (.quiet 36 (.quiet 37 (.quiet 38 (.quiet 39 (.quiet 40 (.quiet 41 (.quiet 42 (.quiet 43 (.quiet 44 (.quiet 45 (.quiet 46 (.quiet 47 (.quiet 48 (.quiet 49 (.quiet 50 (.quiet 51 (.quiet 52 (.quiet 53 (.quiet 54 (.quiet 55 (.quiet 56 (.quiet 57 (.quiet 58 (.quiet 59 (.quiet 60 (.quiet 61 .done)))))))))))))))))))))))))))))))))))))))))))))))))))))))))))))) (by kernel_rfl) (by kernel_rfl) (by kernel_rfl) (fun _ _ _ _ _ h => h) ?_
        intro V0 hV0
        iterate 62 (first
          | (refine ordB_skip rfl rfl ?_; simp only [Act.put, List.setIfInBounds_toArray, List.set_cons_zero, List.set_cons_succ])
          | (refine ordB_take (v := ?_) rfl rfl ?_ ?_
             rotate_left 1
             focus (intro W hW; obtain ⟨hcW, hfW⟩ := bcell hW; (go_simp <;> with_reducible rfl))
             simp only [Act.put, List.setIfInBounds_toArray, List.set_cons_zero, List.set_cons_succ]))
        refine ordB_nil ?_
        have HBE := Lib.hid (HBr.out.trans (hV0.mono HBr.out.size))
        go_wp2_with fail
        go_roundw
        case rel => exact ⟨0 + 1, by omega, HN.out, by go_num, HBE.out⟩
        case measure => simp [intOf]; omega
      · have hkp : (0 : Int) < (k : Int) := by omega
        have hkN : 0 < k := by omega
        obtain ⟨b', off', q, hA', hbb', hqq, q0, q1, q2⟩ := HX.out.pn (k := k - 1) (by omega)
        injection hA' with hA'
        injection hA' with e1 e2
        subst e1 e2
        have HST : Hid (pvB (l.take (k + 1)) = decide (q.en ≤ p.fr)) := pvB_step hkN hqq HPP.out HS.out
        clear hqq q0 q2 hbb'
        have h1k : (1 : Int) ≤ (k : Int) := by omega
        have hk10 : (0 : Int) ≤ (k : Int) - 1 := by omega
        have hk1I : (k : Int) - 1 < (l.length : Int) := by omega
        cases z6 : decide (p.fr < q.en) with
        | true =>
          have HN : Hid (pvB l = false) := pvB_no (k := k + 1) (by rw [HST.out]; exact decide_eq_false (by have := of_decide_eq_true z6; omega))
          go_upto_region 6 with fail
          refine ordB_below (.quiet 0 (.quiet 1 (.quiet 2 (.quiet 3 (.quiet 4 (.quiet 5 (.quiet 6 (.quiet 7 (.quiet 8 (.quiet 9 (.quiet 10 (.quiet 11 (.quiet 12 (.quiet 13 (.quiet 14 (.quiet 15 (.quiet 16 (.quiet 17 (.quiet 18 (.quiet 19 (.quiet 20 (.quiet 21 (.quiet 22 (.quiet 23 (.quiet 24 (.quiet 25 (.quiet 26 (.quiet 27 (.quiet 28 (.quiet 29 (.quiet 30 (.quiet 31 (.quiet 32 (.quiet 33 (.quiet 34 (.quiet 35 (.quiet 36 (.quiet 37 (.quiet 38 (.quiet 39 (.quiet 40 (.quiet 41 (.quiet 42 (.quiet 43 (.quiet 44 (.quiet 45 (.quiet 46 (.quiet 47 (.quiet 48 (.quiet 49 (.quiet 50 (.quiet 51 (.quiet 52 (.quiet 53 (.quiet 54 (.quiet 55 (.quiet 56 (.quiet 57 (.quiet 58 (.quiet 59 (.quiet 60 (.quiet 61 .done)))))))))))))))))))))))))))))))))))))))))))))))))))))))))))))) (by kernel_rfl) (by kernel_rfl) (by kernel_rfl) (fun _ _ _ _ _ h => h) ?_
          intro V0 hV0
          iterate 62 (first
            | (refine ordB_skip rfl rfl ?_; simp only [Act.put, List.setIfInBounds_toArray, List.set_cons_zero, List.set_cons_succ])
            | (refine ordB_take (v := ?_) rfl rfl ?_ ?_
               rotate_left 1
               focus (intro W hW; obtain ⟨hcW, hfW⟩ := bcell hW; (go_simp <;> with_reducible rfl))
               simp only [Act.put, List.setIfInBounds_toArray, List.set_cons_zero, List.set_cons_succ]))
          refine ordB_nil ?_
          have HBE := Lib.hid (HBr.out.trans (hV0.mono HBr.out.size))
          go_wp2_with fail
          go_ret
          exact ⟨by rw [HN.out]; rfl, HBE.out⟩
        | false =>
          have HN : Hid (pvB (l.take (k + 1)) = true) := by show _ = _; rw [HST.out]; exact decide_eq_true (by have := of_decide_eq_false z6; omega)
          go_upto_region 6 with fail
          refine ordB_below (.quiet 0 (.quiet 1 (.quiet 2 (.quiet 3 (.quiet 4 (.quiet 5 (.quiet 6 (.quiet 7 (.quiet 8 (.quiet 9 (.quiet 10 (.quiet 11 (.quiet 12 (.quiet 13 (.quiet 14 (.quiet 15 (.quiet 16 (.quiet 17 (.quiet 18 (.quiet 19 (.quiet 20 (.quiet 21 (.quiet 22 (.quiet 23 (.quiet 24 (.quiet 25 (.quiet 26 (.quiet 27 (.quiet 28 (.quiet 29 (.quiet 30 (.quiet 31 (.quiet 32 (.quiet 33 (.quiet 34 (.quiet 35 (.quiet 36 (.quiet 37 (.quiet 38 (.quiet 39 (.quiet 40 (.quiet 41 (.quiet 42 (.quiet 43 (.quiet 44 (.quiet 45 (.quiet 46 (.quiet 47 (.quiet 48 (.quiet 49 (.quiet 50 (.quiet 51 (.quiet 52 (.quiet 53 (.quiet 54 (.quiet 55 (.quiet 56 (.quiet 57 (.quiet 58 (.quiet 59 (.quiet 60 (.quiet 61 .done)))))))))))))))))))))))))))))))))))))))))))))))))))))))))))))) (by kernel_rfl) (by kernel_rfl) (by kernel_rfl) (fun _ _ _ _ _ h => h) ?_
          intro V0 hV0
          iterate 62 (first
            | (refine ordB_skip rfl rfl ?_; simp only [Act.put, List.setIfInBounds_toArray, List.set_cons_zero, List.set_cons_succ])
            | (refine ordB_take (v := ?_) rfl rfl ?_ ?_
               rotate_left 1
               focus (intro W hW; obtain ⟨hcW, hfW⟩ := bcell hW; (go_simp <;> with_reducible rfl))
               simp only [Act.put, List.setIfInBounds_toArray, List.set_cons_zero, List.set_cons_succ]))
          refine ordB_nil ?_
          have HBE := Lib.hid (HBr.out.trans (hV0.mono HBr.out.size))
          go_wp2_with fail
          go_roundw
          case rel => exact ⟨k + 1, by omega, HN.out, by go_num, HBE.out⟩
          case measure => simp [intOf]; omega
    · have HN : Hid (pvB l = true) := by show _ = _; have := HS.out; rwa [List.take_of_length_le (by omega)] at this
      go_wp2_with fail
      go_ret
      exact ⟨by rw [HN.out]; rfl, hbr⟩
end Go.Proofs.YtfjkmgjjifhdkaaGreat

/-
  The walks of the reference's pins: a pin, a pin put into a list, and a list that is made.
-/
namespace Go.Proofs.YtfjkmgjjifhdkaaGreat
open Go Go.RowKit

def GivesPn (n : Int) (w : World) (r : Ending) (w' : World) : Prop := ∃ p : Pn, PnOK n p ∧ r = .returned (vPn p) ∧ Below w.heap.size w w'
set_option maxRecDepth 100000 in
set_option maxHeartbeats 8000000 in
theorem rpin_any (u0 u1 u2 n : Int) (w : World) (h0 : 0 ≤ u0 ∧ u0 ≤ 255) (h1 : 0 ≤ u1 ∧ u1 ≤ 255) (h2 : 0 ≤ u2 ∧ u2 ≤ 255) (hn : 1 ≤ n ∧ n ≤ 40) :
    Calls Tryz.prog 29 #[.agg #[.int .u8 u0, .int .u8 u1, .int .u8 u2], .int .i64 n] w (GivesPn n w) := by
  have hwu0 : IntKind.i64.wrap u0 = u0 := IntWalk.i64_in _ (by omega)
  have hwu1 : IntKind.i64.wrap u1 = u1 := IntWalk.i64_in _ (by omega)
  have hwu2 : IntKind.i64.wrap u2 = u2 := IntWalk.i64_in _ (by omega)
  have ht0 : u0.tmod n = u0 % n := Int.tmod_eq_emod_of_nonneg h0.1
  have hf1 := Int.emod_nonneg u0 (show n ≠ 0 by omega)
  have hf2 := Int.emod_lt_of_pos u0 (show 0 < n by omega)
  obtain ⟨f, hf⟩ : ∃ f, u0 % n = f := ⟨_, rfl⟩
  rw [hf] at ht0 hf1 hf2
  have hwf : IntKind.i64.wrap f = f := IntWalk.i64_in _ (by omega)
  have hwf1 : IntKind.i64.wrap (f + 1) = f + 1 := IntWalk.i64_in _ (by omega)
  obtain ⟨d, hd⟩ : ∃ d, n - f = d := ⟨_, rfl⟩
  have hwd : IntKind.i64.wrap (n - f) = d := by rw [hd]; exact IntWalk.i64_in _ (by omega)
  have ht1 : u1.tmod d = u1 % d := Int.tmod_eq_emod_of_nonneg h1.1
  have hr1 := Int.emod_nonneg u1 (show d ≠ 0 by omega)
  have hr2 := Int.emod_lt_of_pos u1 (show 0 < d by omega)
  obtain ⟨r, hr⟩ : ∃ r, u1 % d = r := ⟨_, rfl⟩
  rw [hr] at ht1 hr1 hr2
  have hwr : IntKind.i64.wrap r = r := IntWalk.i64_in _ (by omega)
  obtain ⟨q, hq⟩ : ∃ q, f + 1 + r = q := ⟨_, rfl⟩
  have hwq : IntKind.i64.wrap (f + 1 + r) = q := by rw [hq]; exact IntWalk.i64_in _ (by omega)
  have ht2 : u2.tmod 4 = u2 % 4 := Int.tmod_eq_emod_of_nonneg h2.1
  have hs1 : 0 ≤ u2 % 4 ∧ u2 % 4 < 4 := by omega
  obtain ⟨s, hs⟩ : ∃ s, u2 % 4 = s := ⟨_, rfl⟩
  rw [hs] at ht2 hs1
  have hws : IntKind.i64.wrap s = s := IntWalk.i64_in _ (by omega)
  obtain ⟨t, ht⟩ : ∃ t, s - 1 = t := ⟨_, rfl⟩
  have hwt : IntKind.i64.wrap (s - 1) = t := by rw [ht]; exact IntWalk.i64_in _ (by omega)
  have HOK : Hid (PnOK n ⟨f, q, t⟩) := ⟨⟨hf1, by show f < q; omega, by show q ≤ n; omega⟩, by show -1 ≤ t; omega, by show t < 200; omega⟩
  have hn0 : ¬ n = 0 := by omega
  have hd0 : ¬ d = 0 := by omega
  obtain ⟨w2, hw2⟩ : ∃ w2, (w.alloc (.cells #[.int .u8 u0, .int .u8 u1, .int .u8 u2] 52)).alloc (.cells #[.int .i64 0, .int .i64 0, .int .i64 0] 46) = w2 := ⟨_, rfl⟩
  have hb2 : Below w.heap.size w w2 := by rw [← hw2]; exact nw _ (nw _ (Below.refl _ _))
  have hA : Blk w2 w.heap.size 52 #[.int .u8 u0, .int .u8 u1, .int .u8 u2] := by rw [← hw2]; exact (Blk.new _ _ _).alloc _
  have hP : Blk w2 (w.heap.size + 1) 46 #[.int .i64 0, .int .i64 0, .int .i64 0] := by rw [← hw2]; exact Blk.new_ (by simp)
  have HW2 := Lib.hid hw2
  obtain ⟨b1, hb1e⟩ : ∃ b, w.heap.size + 1 = b := ⟨_, rfl⟩
  rw [hb1e] at hP
  have HE1 := Lib.hid hb1e
  have hlt : w.heap.size < b1 := by omega
  have hne : w.heap.size ≠ b1 := by omega
  have a0 := hA.cell 0
  have a1 := hA.cell 1
  have a2 := hA.cell 2
  have al := hA.lt
  simp at a0 a1 a2
  have HP := Lib.hid hP
  have HBW := Lib.hid hb2
  clear hw2 hb1e hA hP hb2 hf hd hr hq hs ht hf1 hf2 hr1 hr2 hs1
  go_enter Tryz.func29, Tryz.ntmps29
  go_upto_region 1 with fail
  rw [HW2.out, HE1.out]
  go_upto_region 2 with fail
  refine ordB_start (ButB b1 w2) (.quiet 0 (.quiet 1 (.quiet 2 (.quiet 3 (.quiet 4 (.quiet 5 (.quiet 6 (.quiet 7 (.quiet 8 (.quiet 9 (.quiet 10 (.quiet 11 (.quiet 12 (.quiet 13 (.quiet 14 (.quiet 15 (.quiet 16 (.only 17 .done)))))))))))))))))) (by kernel_rfl) (by kernel_rfl) (by kernel_rfl) (fun _ _ _ _ _ h => h) (ButB.of_below (Below.refl _ _).drew) ?_
  have hS : ButB b1 w2 w2.drew := ButB.of_below (Below.refl _ _).drew
  have hT : Below w2.heap.size w2 w2.drew := (Below.refl _ _).drew
  obtain ⟨Wd, qq⟩ : ∃ W', w2.drew = W' := ⟨_, rfl⟩
  rw [qq] at hS hT ⊢
  clear qq
  iterate 17 (first
    | (refine ordB_skip rfl rfl ?_; simp only [Act.put, List.setIfInBounds_toArray, List.set_cons_zero, List.set_cons_succ])
    | (refine ordB_take (v := ?_) rfl rfl ?_ ?_
       rotate_left 1
       focus (intro W hW; have hcW := hW.cell; (go_simp <;> with_reducible rfl))
       simp only [Act.put, List.setIfInBounds_toArray, List.set_cons_zero, List.set_cons_succ]))
  refine ordB_only (opB_call rfl rfl (fun K hK => ?_))
  have hP := HP.out.below hT HP.out.lt
  have p0 := hP.cell 0
  have p1 := hP.cell 1
  have p2 := hP.cell 2
  have pf0 := hP.frozen 0
  have pf1 := hP.frozen 1
  have pf2 := hP.frozen 2
  have pl := hP.lt
  simp at p0 p1 p2
  go_simp
  refine hK.out _ _ (((hS.set_ 0 (.int .i64 f)).set_ 1 (.int .i64 q)).set_ 2 (.int .i64 t)) (fun hS5 => ?_)
  clear hK K
  have hP5 := ((hP.set_ 0 (.int .i64 f)).set_ 1 (.int .i64 q)).set_ 2 (.int .i64 t)
  refine ordB_nil ?_
  go_wp2_with fail
  refine ret_cell (t := 46) (cs := #[.int .i64 f, .int .i64 q, .int .i64 t]) (by simpa using hP5) rfl rfl Tryz.underlying46 rfl (by kernel_rfl) rfl ?_
  exact ⟨⟨f, q, t⟩, HOK.out, rfl, (((HBW.out.trans (hT.mono HBW.out.size)).setCell (p := ⟨b1, 0, none⟩) (by show _ ≤ b1; omega) _).setCell (p := ⟨b1, 1, none⟩) (by show _ ≤ b1; omega) _).setCell (p := ⟨b1, 2, none⟩) (by show _ ≤ b1; omega) _⟩
theorem tp_snocP (L : List Pn) (p : Pn) : (L ++ [p]).flatMap encPn = L.flatMap encPn ++ [.int .i64 p.fr, .int .i64 p.en, .int .i64 p.wd] := by simp [encPn]
def GivesPut (n : Int) (m : Nat) (w : World) (r : Ending) (w' : World) : Prop := ∃ (L : List Pn) (A : Option Addr) (c : Nat) (e : Int), (∀ p ∈ L, PnOK n p) ∧ L.length ≤ m ∧ r = .returned (.tuple #[.slice A L.length c, .int .i64 e]) ∧ SlR 3 RPn w' A L ∧ Below w.heap.size w w'
set_option maxRecDepth 100000 in
set_option maxHeartbeats 16000000 in
theorem rput_any (A : Option Addr) (c : Nat) (l : List Pn) (p : Pn) (n : Int) (w : World) (hx : SlR 3 RPn w A l) (hl : l.length ≤ 100) (hn : 1 ≤ n ∧ n ≤ 40) (hok : ∀ p ∈ l, PnOK n p) (hp : PnOK n p) :
    Calls Tryz.prog 28 #[.slice A l.length c, vPn p, .int .i64 n] w (GivesPut n (l.length + 1) w) := by
  obtain ⟨i0, hi, hz0, hz1, hz2⟩ := info_parts pin_inf
  obtain ⟨w1, hw1⟩ : ∃ w1, w.alloc (.cells #[.int .i64 p.fr, .int .i64 p.en, .int .i64 p.wd] 46) = w1 := ⟨_, rfl⟩
  have hb1 : Below w.heap.size w w1 := by rw [← hw1]; exact nw _ (Below.refl _ _)
  have hP : Blk w1 w.heap.size 46 #[.int .i64 p.fr, .int .i64 p.en, .int .i64 p.wd] := by rw [← hw1]; exact Blk.new _ _ _
  have HW1 := Lib.hid hw1
  have HV1 : Hid (Calls Tryz.prog 65 #[.slice A l.length c, .int .i64 n] w1 fun r w' => r = .returned (.bool (pvB l)) ∧ Below w1.heap.size w1 w') := pvalid_any A c l n w1 (hx.below keeps_pn hb1) (by omega) (by omega) hok
  have HV2 : Hid (∀ W, Calls Tryz.prog 65 #[.slice (some ⟨W.heap.size, 0, none⟩) 1 1, .int .i64 n] (W.alloc (.cells #[.int .i64 p.fr, .int .i64 p.en, .int .i64 p.wd] 46)) fun r w' => r = .returned (.bool true) ∧ Below W.heap.size W w') := fun W => by
    have hs : SlR 3 RPn (W.alloc (.cells #[.int .i64 p.fr, .int .i64 p.en, .int .i64 p.wd] 46)) (some ⟨W.heap.size, 0, none⟩) [p] := slr_blk (enc := encPn) (Blk.new _ _ _) (fun _ => rfl) (fun _ => rfl)
    refine (pvalid_any _ 1 [p] n _ hs (by simp) (by omega) (fun z hz => by rw [List.mem_singleton.1 hz]; exact hp)).mono ?_
    rintro r w' ⟨rfl, hb⟩
    exact ⟨rfl, bthen (nw _ (Below.refl _ _)) hb⟩
  have e0 := hP.cell 0
  have e1 := hP.cell 1
  have e2 := hP.cell 2
  have el := hP.lt
  simp at e0 e1 e2
  have HP := Lib.hid hP
  have HBW := Lib.hid hb1
  have HX : Hid (∀ W, Below w.heap.size w W → SlR 3 RPn W A l) := fun W hW => hx.below keeps_pn hW
  have HLO := Lib.hid hok
  have HPO := Lib.hid hp
  obtain ⟨v1, hv1⟩ : ∃ v, pvB l = v := ⟨_, rfl⟩
  rw [hv1] at HV1
  clear hw1 hb1 hP hx hok hp hv1
  cases v1 with
  | false =>
    go_enter Tryz.func28, Tryz.ntmps28
    go_upto_region 1 with fail
    rw [HW1.out]
    go_wp2_with (go_at_call 65; go_loud (refine HV1.out.mono ?_; rintro r w3 ⟨rfl, hb3⟩))
    go_ret2
    exact ⟨[], none, 0, 180, (fun z hz => by cases hz), by simp, rfl, SlR.nil, bthen HBW.out hb3⟩
  | true =>
  go_enter Tryz.func28, Tryz.ntmps28
  go_upto_region 1 with fail
  rw [HW1.out]
  go_upto_region 3 with (first
    | (go_at_call 65; go_loud (refine (HV2.out w3).mono ?_; rintro r w5 ⟨rfl, hb5⟩))
    | (go_at_call 65; go_loud (refine HV1.out.mono ?_; rintro r w3 ⟨rfl, hb3⟩; have hP3 := HP.out.below hb3 HP.out.lt; have f0 := hP3.cell 0; have f1 := hP3.cell 1; have f2 := hP3.cell 2; have fl := hP3.lt; simp at f0 f1 f2; clear hP3)))
  have hb15 := bthen hb3 hb5
  obtain ⟨w6, hw6⟩ : ∃ W, w5.alloc (.cells #[] 46) = W := ⟨_, rfl⟩
  have hO0 : w6.ownsRow w5.heap.size 46 3 (.slice (some ⟨w5.heap.size, 0, none⟩) 0 0) 0 [] := by rw [← hw6]; exact own_empty w5 46 3 w5.heap.size (Nat.le_refl _)
  have hb6 : Below w5.heap.size w5 w6 := by rw [← hw6]; exact nw _ (Below.refl _ _)
  have hsz : w6.heap.size = w5.heap.size + 1 := by rw [← hw6]; simp
  have hP6 := HP.out.below (bthen hb15 hb6) HP.out.lt
  have hlp : w.heap.size < w5.heap.size := (HP.out.below hb15 HP.out.lt).lt
  have HWW := Lib.hid hw6
  have HBW6 := Lib.hid (bthen HBW.out (bthen hb15 hb6))
  obtain ⟨b1, hb1e⟩ : ∃ b, w5.heap.size = b := ⟨_, rfl⟩
  rw [hb1e] at hO0 hsz hlp
  have HO0 := Lib.hid hO0
  have HBE := Lib.hid hb1e
  have HSZ := Lib.hid hsz
  have hwb : w.heap.size ≤ b1 := by omega
  have HCE : Hid (∀ W, Below b1 w6 W → (W.cell? ⟨w.heap.size, 0, none⟩ = some (.int .i64 p.fr) ∧ W.cell? ⟨w.heap.size, 1, none⟩ = some (.int .i64 p.en) ∧ W.cell? ⟨w.heap.size, 2, none⟩ = some (.int .i64 p.wd)) ∧ w.heap.size < W.heap.size) := fun W hW => by
    have e1 := hP6.below hW hlp
    exact ⟨⟨by rw [e1.cell]; rfl, by rw [e1.cell]; rfl, by rw [e1.cell]; rfl⟩, e1.lt⟩
  have HX6 : Hid (∀ W, Below b1 w6 W → SlR 3 RPn W A l) := fun W hW => HX.out W (HBW6.out.trans (hW.mono hwb))
  have HAb : Hid (∀ b off, A = some ⟨b, off, none⟩ → l ≠ [] → b < w.heap.size) := fun b off hA hne => by
    obtain ⟨b', off', hA', hb', _⟩ := HX.out w (Below.refl _ _) hne
    rw [hA] at hA'
    obtain ⟨rfl, _⟩ : b = b' ∧ off = off' := by simpa using hA'
    exact hb'
  clear hb15 hw6 hO0 hb6 hsz hP6 hb1e f0 f1 f2 fl e0 e1 e2 el hb3 hb5 HV1 HV2 HP
  go_upto_region 4 with fail
  rw [HWW.out, HBE.out]
  go_wp2_with fail
  go_loopw [8, 9, 10] (fun v dn i wr => ∃ (k : Nat) (d : Bool) (O : List Pn) (V : Value), V = v ∧ dn = .bool d ∧ i = .int .i64 k ∧ k ≤ l.length ∧ Hid (∀ z ∈ O, PnOK n z) ∧ O.length ≤ k + (if d = true then 1 else 0) ∧ Hid (wr.ownsRow b1 46 3 V O.length (O.flatMap encPn)) ∧ Below b1 w6 wr) (fun _ _ i _ => l.length - (intOf i).toNat)
  case atStart => exact ⟨0, false, [], _, rfl, rfl, rfl, by omega, (fun z hz => by cases hz), by simp, HO0, Below.refl _ _⟩
  case round =>
    obtain ⟨k, d, O, V, rfl, rfl, rfl, hk, HOK, hol, HO, hbr⟩ := hrel
    have HBr := Lib.hid hbr
    have hs1 : b1 ≤ wr.heap.size := by have := hbr.size; have := HSZ.out; omega
    obtain ⟨⟨e0, e1, e2⟩, el⟩ := HCE.out _ hbr
    have hol1 : O.length ≤ k + 1 := by cases d <;> simp at hol <;> omega
    have hn1 : O.length ≤ 1000000 := by omega
    by_cases hlt : k < l.length
    · obtain ⟨b, off, y, hA, hbb, hyy, d0, d1, d2⟩ := (HX6.out _ hbr).pn hlt
      have hbb1 : b < b1 := by have := HAb.out b off hA (by intro h; subst h; simp at hlt); omega
      have HYO : Hid (PnOK n y) := HLO.out y (List.mem_of_getElem? hyy)
      subst hA
      have hkI : (k : Int) < (l.length : Int) := by omega
      have hk0 : (0 : Int) ≤ (k : Int) := by omega
      have hn2 : O.length ≤ 1000000 := hn1
      clear hyy hbr
      cases d with
      | true =>
        simp only [if_true] at hol
        go_upto_region 7 with fail
        refine ordB_below (.quiet 0 (.quiet 1 (.quiet 2 (.quiet 3 (.quiet 4 (.quiet 5 (.quiet 6 (.quiet 7 (.quiet 8 (.quiet 9 (.quiet 10 (.quiet 11 .done)))))))))))) (by kernel_rfl) (by kernel_rfl) (by kernel_rfl) (fun _ _ _ _ _ h => h) ?_
        intro V0 hV0
        iterate 12 (first
          | (refine ordB_skip rfl rfl ?_; simp only [Act.put, List.setIfInBounds_toArray, List.set_cons_zero, List.set_cons_succ])
          | (refine ordB_take (v := ?_) rfl rfl ?_ ?_
             rotate_left 1
             focus (intro W hW; obtain ⟨hcW, hfW⟩ := bcell hW; (go_simp <;> with_reducible rfl))
             simp only [Act.put, List.setIfInBounds_toArray, List.set_cons_zero, List.set_cons_succ]))
        refine ordB_nil ?_
        have HBc := Lib.hid (HBr.out.trans (hV0.mono hs1))
        have HOc := Lib.hid (own_below HO.out hV0)
        have c0 := ((bcell hV0).1 _ _ hbb).trans d0
        have c1 := ((bcell hV0).1 _ _ hbb).trans d1
        have c2 := ((bcell hV0).1 _ _ hbb).trans d2
        have hcc := Nat.lt_of_lt_of_le hbb hV0.size
        have hsc := Nat.le_trans hs1 hV0.size
        clear d0 d1 d2 hbb
        clear e0 e1 e2 el
        obtain ⟨⟨e0, e1, e2⟩, el⟩ := HCE.out _ HBc.out
        go_upto_region 10 with fail
        refine ordB_below (.quiet 0 (.quiet 1 (.quiet 2 (.quiet 3 (.quiet 4 (.only 5 (.quiet 6 .done))))))) (by kernel_rfl) (by kernel_rfl) (by kernel_rfl) (fun _ _ _ _ _ h => h) ?_
        intro V1 hV1
        iterate 5 (first
          | (refine ordB_skip rfl rfl ?_; simp only [Act.put, List.setIfInBounds_toArray, List.set_cons_zero, List.set_cons_succ])
          | (refine ordB_take (v := ?_) rfl rfl ?_ ?_
             rotate_left 1
             focus (intro W hW; obtain ⟨hcW, hfW⟩ := bcell hW; (go_simp <;> with_reducible rfl))
             simp only [Act.put, List.setIfInBounds_toArray, List.set_cons_zero, List.set_cons_succ]))
        refine ordB_only (opB_call rfl rfl (fun K hK => ?_))
        go_simp
        go_at_call 66
        refine (overlap_any y p V1).mono ?_
        rintro e V1_1 ⟨⟨v, rfl⟩, hx9⟩
        refine hK.out _ _ (hV1.trans (hx9.mono hV1.size)) (fun hV1_1 => ?_)
        iterate 1 (first
          | (refine ordB_skip rfl rfl ?_; simp only [Act.put, List.setIfInBounds_toArray, List.set_cons_zero, List.set_cons_succ])
          | (refine ordB_take (v := ?_) rfl rfl ?_ ?_
             rotate_left 1
             focus (intro W hW; obtain ⟨hcW, hfW⟩ := bcell hW; (go_simp <;> with_reducible rfl))
             simp only [Act.put, List.setIfInBounds_toArray, List.set_cons_zero, List.set_cons_succ]))
        refine ordB_nil ?_
        have HB3 := Lib.hid (HBc.out.trans (hV1_1.mono hsc))
        have HO3 := Lib.hid (own_below HOc.out hV1_1)
        have c0 := ((bcell hV1_1).1 _ _ hcc).trans c0
        have c1 := ((bcell hV1_1).1 _ _ hcc).trans c1
        have c2 := ((bcell hV1_1).1 _ _ hcc).trans c2
        have hcc := Nat.lt_of_lt_of_le hcc hV1_1.size
        have hs3 := Nat.le_trans hsc hV1_1.size
        clear e0 e1 e2 el
        obtain ⟨⟨e0, e1, e2⟩, el⟩ := HCE.out _ HB3.out
        cases v with
        | true =>
          go_wp2_with fail
          go_roundw
          case rel => exact ⟨k + 1, true, O, _, rfl, rfl, by go_num, by omega, HOK.out, (by simp only [if_true]; omega), HO3.out, HB3.out⟩
          case measure => simp [intOf]; omega
        | false =>
          go_wp2_with (first | (at_builtin; refine wpList_app1 rfl _ _ 29 rfl b1 46 i0 _ 3 24 Tryz.underlying29 hi hz0 hz1 hz2 rfl (by decide) _ _ _ rfl V1_1 [.int .i64 y.fr, .int .i64 y.en, .int .i64 y.wd] rfl HO3.out _ rfl (by simp) rfl (by simp [Value.oneCell']) hn2 (by decide) hs3 ?_; intro v8 w8 hown8 hb8 ha8))
          go_roundw
          case rel => exact ⟨k + 1, true, O ++ [y], _, rfl, rfl, by go_num, by omega, (fun z hz => (List.mem_append.1 hz).elim (HOK.out z) (fun h => by rw [List.mem_singleton.1 h]; exact HYO.out)), (by simp only [List.length_append, List.length_singleton, if_true, Bool.false_eq_true, if_false] at *; omega), (by rw [List.length_append, tp_snocP]; exact hown8), HB3.out.trans hb8⟩
          case measure => simp [intOf]; omega
      | false =>
      simp only [Bool.false_eq_true, if_false, Nat.add_zero] at hol
      cases z1 : decide (p.fr ≤ y.fr) with
      | false =>
        go_upto_region 7 with fail
        refine ordB_below (.quiet 0 (.quiet 1 (.quiet 2 (.quiet 3 (.quiet 4 (.quiet 5 (.quiet 6 (.quiet 7 (.quiet 8 (.quiet 9 (.quiet 10 (.quiet 11 .done)))))))))))) (by kernel_rfl) (by kernel_rfl) (by kernel_rfl) (fun _ _ _ _ _ h => h) ?_
        intro V0 hV0
        iterate 12 (first
          | (refine ordB_skip rfl rfl ?_; simp only [Act.put, List.setIfInBounds_toArray, List.set_cons_zero, List.set_cons_succ])
          | (refine ordB_take (v := ?_) rfl rfl ?_ ?_
             rotate_left 1
             focus (intro W hW; obtain ⟨hcW, hfW⟩ := bcell hW; (go_simp <;> with_reducible rfl))
             simp only [Act.put, List.setIfInBounds_toArray, List.set_cons_zero, List.set_cons_succ]))
        refine ordB_nil ?_
        have HBc := Lib.hid (HBr.out.trans (hV0.mono hs1))
        have HOc := Lib.hid (own_below HO.out hV0)
        have c0 := ((bcell hV0).1 _ _ hbb).trans d0
        have c1 := ((bcell hV0).1 _ _ hbb).trans d1
        have c2 := ((bcell hV0).1 _ _ hbb).trans d2
        have hcc := Nat.lt_of_lt_of_le hbb hV0.size
        have hsc := Nat.le_trans hs1 hV0.size
        clear d0 d1 d2 hbb
        clear e0 e1 e2 el
        obtain ⟨⟨e0, e1, e2⟩, el⟩ := HCE.out _ HBc.out
        go_upto_region 10 with fail
        refine ordB_below (.quiet 0 (.quiet 1 (.quiet 2 (.quiet 3 (.quiet 4 (.only 5 (.quiet 6 .done))))))) (by kernel_rfl) (by kernel_rfl) (by kernel_rfl) (fun _ _ _ _ _ h => h) ?_
        intro V1 hV1
        iterate 5 (first
          | (refine ordB_skip rfl rfl ?_; simp only [Act.put, List.setIfInBounds_toArray, List.set_cons_zero, List.set_cons_succ])
          | (refine ordB_take (v := ?_) rfl rfl ?_ ?_
             rotate_left 1
             focus (intro W hW; obtain ⟨hcW, hfW⟩ := bcell hW; (go_simp <;> with_reducible rfl))
             simp only [Act.put, List.setIfInBounds_toArray, List.set_cons_zero, List.set_cons_succ]))
        refine ordB_only (opB_call rfl rfl (fun K hK => ?_))
        go_simp
        go_at_call 66
        refine (overlap_any y p V1).mono ?_
        rintro e V1_1 ⟨⟨v, rfl⟩, hx9⟩
        refine hK.out _ _ (hV1.trans (hx9.mono hV1.size)) (fun hV1_1 => ?_)
        iterate 1 (first
          | (refine ordB_skip rfl rfl ?_; simp only [Act.put, List.setIfInBounds_toArray, List.set_cons_zero, List.set_cons_succ])
          | (refine ordB_take (v := ?_) rfl rfl ?_ ?_
             rotate_left 1
             focus (intro W hW; obtain ⟨hcW, hfW⟩ := bcell hW; (go_simp <;> with_reducible rfl))
             simp only [Act.put, List.setIfInBounds_toArray, List.set_cons_zero, List.set_cons_succ]))
        refine ordB_nil ?_
        have HB3 := Lib.hid (HBc.out.trans (hV1_1.mono hsc))
        have HO3 := Lib.hid (own_below HOc.out hV1_1)
        have c0 := ((bcell hV1_1).1 _ _ hcc).trans c0
        have c1 := ((bcell hV1_1).1 _ _ hcc).trans c1
        have c2 := ((bcell hV1_1).1 _ _ hcc).trans c2
        have hcc := Nat.lt_of_lt_of_le hcc hV1_1.size
        have hs3 := Nat.le_trans hsc hV1_1.size
        clear e0 e1 e2 el
        obtain ⟨⟨e0, e1, e2⟩, el⟩ := HCE.out _ HB3.out
        cases v with
        | true =>
          go_wp2_with fail
          go_roundw
          case rel => exact ⟨k + 1, false, O, _, rfl, rfl, by go_num, by omega, HOK.out, (by simp only [Bool.false_eq_true, if_false]; omega), HO3.out, HB3.out⟩
          case measure => simp [intOf]; omega
        | false =>
          go_wp2_with (first | (at_builtin; refine wpList_app1 rfl _ _ 29 rfl b1 46 i0 _ 3 24 Tryz.underlying29 hi hz0 hz1 hz2 rfl (by decide) _ _ _ rfl V1_1 [.int .i64 y.fr, .int .i64 y.en, .int .i64 y.wd] rfl HO3.out _ rfl (by simp) rfl (by simp [Value.oneCell']) hn2 (by decide) hs3 ?_; intro v8 w8 hown8 hb8 ha8))
          go_roundw
          case rel => exact ⟨k + 1, false, O ++ [y], _, rfl, rfl, by go_num, by omega, (fun z hz => (List.mem_append.1 hz).elim (HOK.out z) (fun h => by rw [List.mem_singleton.1 h]; exact HYO.out)), (by simp only [List.length_append, List.length_singleton, if_true, Bool.false_eq_true, if_false] at *; omega), (by rw [List.length_append, tp_snocP]; exact hown8), HB3.out.trans hb8⟩
          case measure => simp [intOf]; omega
      | true =>
        go_upto_region 7 with fail
        refine ordB_below (.quiet 0 (.quiet 1 (.quiet 2 (.quiet 3 (.quiet 4 (.quiet 5 (.quiet 6 (.quiet 7 (.quiet 8 (.quiet 9 (.quiet 10 (.quiet 11 .done)))))))))))) (by kernel_rfl) (by kernel_rfl) (by kernel_rfl) (fun _ _ _ _ _ h => h) ?_
        intro V0 hV0
        iterate 12 (first
          | (refine ordB_skip rfl rfl ?_; simp only [Act.put, List.setIfInBounds_toArray, List.set_cons_zero, List.set_cons_succ])
          | (refine ordB_take (v := ?_) rfl rfl ?_ ?_
             rotate_left 1
             focus (intro W hW; obtain ⟨hcW, hfW⟩ := bcell hW; (go_simp <;> with_reducible rfl))
             simp only [Act.put, List.setIfInBounds_toArray, List.set_cons_zero, List.set_cons_succ]))
        refine ordB_nil ?_
        have HBc := Lib.hid (HBr.out.trans (hV0.mono hs1))
        have HOc := Lib.hid (own_below HO.out hV0)
        have c0 := ((bcell hV0).1 _ _ hbb).trans d0
        have c1 := ((bcell hV0).1 _ _ hbb).trans d1
        have c2 := ((bcell hV0).1 _ _ hbb).trans d2
        have hcc := Nat.lt_of_lt_of_le hbb hV0.size
        have hsc := Nat.le_trans hs1 hV0.size
        clear d0 d1 d2 hbb
        clear e0 e1 e2 el
        obtain ⟨⟨e0, e1, e2⟩, el⟩ := HCE.out _ HBc.out
        go_upto_region 10 with (first | (at_builtin; refine wpList_app1 rfl _ _ 29 rfl b1 46 i0 _ 3 24 Tryz.underlying29 hi hz0 hz1 hz2 rfl (by decide) _ _ _ rfl V0 [.int .i64 p.fr, .int .i64 p.en, .int .i64 p.wd] rfl HOc.out _ rfl (by simp) rfl (by simp [Value.oneCell']) hn1 (by decide) hsc ?_; intro v7 w7 hown7 hb7 ha7))
        have HBc := Lib.hid (HBc.out.trans hb7)
        have HOc : Hid (w7.ownsRow b1 46 3 v7 (O ++ [p]).length ((O ++ [p]).flatMap encPn)) := by show w7.ownsRow _ _ _ _ _ _; rw [List.length_append, tp_snocP]; exact hown7
        have c0 := (hb7.cell (p := ⟨b, _, none⟩) hbb1).trans c0
        have c1 := (hb7.cell (p := ⟨b, _, none⟩) hbb1).trans c1
        have c2 := (hb7.cell (p := ⟨b, _, none⟩) hbb1).trans c2
        have hcc := Nat.lt_of_lt_of_le hbb1 (Nat.le_trans hsc hb7.size)
        have hsc := Nat.le_trans hsc hb7.size
        clear e0 e1 e2 el hown7 hb7 ha7
        obtain ⟨⟨e0, e1, e2⟩, el⟩ := HCE.out _ HBc.out
        have HOP : Hid (∀ z ∈ O ++ [p], PnOK n z) := fun z hz => (List.mem_append.1 hz).elim (HOK.out z) (fun h => by rw [List.mem_singleton.1 h]; exact HPO.out)
        have hol2 : (O ++ [p]).length ≤ k + 1 := by rw [List.length_append, List.length_singleton]; omega
        have hn2 : (O ++ [p]).length ≤ 1000000 := by omega
        go_upto_region 10 with fail
        refine ordB_below (.quiet 0 (.quiet 1 (.quiet 2 (.quiet 3 (.quiet 4 (.only 5 (.quiet 6 .done))))))) (by kernel_rfl) (by kernel_rfl) (by kernel_rfl) (fun _ _ _ _ _ h => h) ?_
        intro V1 hV1
        iterate 5 (first
          | (refine ordB_skip rfl rfl ?_; simp only [Act.put, List.setIfInBounds_toArray, List.set_cons_zero, List.set_cons_succ])
          | (refine ordB_take (v := ?_) rfl rfl ?_ ?_
             rotate_left 1
             focus (intro W hW; obtain ⟨hcW, hfW⟩ := bcell hW; (go_simp <;> with_reducible rfl))
             simp only [Act.put, List.setIfInBounds_toArray, List.set_cons_zero, List.set_cons_succ]))
        refine ordB_only (opB_call rfl rfl (fun K hK => ?_))
        go_simp
        go_at_call 66
        refine (overlap_any y p V1).mono ?_
        rintro e V1_1 ⟨⟨v, rfl⟩, hx9⟩
        refine hK.out _ _ (hV1.trans (hx9.mono hV1.size)) (fun hV1_1 => ?_)
        iterate 1 (first
          | (refine ordB_skip rfl rfl ?_; simp only [Act.put, List.setIfInBounds_toArray, List.set_cons_zero, List.set_cons_succ])
          | (refine ordB_take (v := ?_) rfl rfl ?_ ?_
             rotate_left 1
             focus (intro W hW; obtain ⟨hcW, hfW⟩ := bcell hW; (go_simp <;> with_reducible rfl))
             simp only [Act.put, List.setIfInBounds_toArray, List.set_cons_zero, List.set_cons_succ]))
        refine ordB_nil ?_
        have HB3 := Lib.hid (HBc.out.trans (hV1_1.mono hsc))
        have HO3 := Lib.hid (own_below HOc.out hV1_1)
        have c0 := ((bcell hV1_1).1 _ _ hcc).trans c0
        have c1 := ((bcell hV1_1).1 _ _ hcc).trans c1
        have c2 := ((bcell hV1_1).1 _ _ hcc).trans c2
        have hcc := Nat.lt_of_lt_of_le hcc hV1_1.size
        have hs3 := Nat.le_trans hsc hV1_1.size
        clear e0 e1 e2 el
        obtain ⟨⟨e0, e1, e2⟩, el⟩ := HCE.out _ HB3.out
        cases v with
        | true =>
          go_wp2_with fail
          go_roundw
          case rel => exact ⟨k + 1, true, (O ++ [p]), _, rfl, rfl, by go_num, by omega, HOP.out, (by simp only [if_true]; omega), HO3.out, HB3.out⟩
          case measure => simp [intOf]; omega
        | false =>
          go_wp2_with (first | (at_builtin; refine wpList_app1 rfl _ _ 29 rfl b1 46 i0 _ 3 24 Tryz.underlying29 hi hz0 hz1 hz2 rfl (by decide) _ _ _ rfl V1_1 [.int .i64 y.fr, .int .i64 y.en, .int .i64 y.wd] rfl HO3.out _ rfl (by simp) rfl (by simp [Value.oneCell']) hn2 (by decide) hs3 ?_; intro v8 w8 hown8 hb8 ha8))
          go_roundw
          case rel => exact ⟨k + 1, true, (O ++ [p]) ++ [y], _, rfl, rfl, by go_num, by omega, (fun z hz => (List.mem_append.1 hz).elim (HOP.out z) (fun h => by rw [List.mem_singleton.1 h]; exact HYO.out)), (by simp only [List.length_append, List.length_singleton, if_true, Bool.false_eq_true, if_false] at *; omega), (by rw [List.length_append, tp_snocP]; exact hown8), HB3.out.trans hb8⟩
          case measure => simp [intOf]; omega
    · obtain rfl : k = l.length := by omega
      cases d with
      | true =>
        simp only [if_true] at hol
        obtain ⟨A3, c3, rfl, _, _, hs⟩ := own_slr (R := RPn) (enc := encPn) HO.out (fun _ => rfl) (fun _ => rfl) rfl
        have HSL := Lib.hid hs
        have HLN := Lib.hid hol
        clear hs hbr hol hol1 hn1
        go_wp2_with fail
        go_ret2
        exact ⟨O, A3, c3, 0, HOK.out, HLN.out, rfl, HSL.out, HBW6.out.trans (HBr.out.mono hwb)⟩
      | false =>
        simp only [Bool.false_eq_true, if_false, Nat.add_zero] at hol
        have HLN := Lib.hid hol
        clear hbr hol hol1
        go_wp2_with (first | (at_builtin; refine wpList_app1 rfl _ _ 29 rfl b1 46 i0 _ 3 24 Tryz.underlying29 hi hz0 hz1 hz2 rfl (by decide) _ _ _ rfl wr [.int .i64 p.fr, .int .i64 p.en, .int .i64 p.wd] rfl HO.out _ rfl (by simp) rfl (by simp [Value.oneCell']) hn1 (by decide) hs1 ?_; intro v7 w7 hown7 hb7 ha7))
        obtain ⟨A3, c3, rfl, _, _, hs⟩ := own_slr (R := RPn) (enc := encPn) (xs := O ++ [p]) (by rw [tp_snocP]; exact hown7) (fun _ => rfl) (fun _ => rfl) (by simp)
        go_ret2
        exact ⟨O ++ [p], A3, c3, 0, fun z hz => (List.mem_append.1 hz).elim (HOK.out z) (fun h => by rw [List.mem_singleton.1 h]; exact HPO.out), by have := HLN.out; rw [List.length_append, List.length_singleton]; omega, by rw [List.length_append, List.length_singleton]; rfl, hs, HBW6.out.trans ((HBr.out.trans hb7).mono hwb)⟩
/-- A list of valid pins, at most m. -/
def GivesPns (n : Int) (m : Nat) (w : World) (r : Ending) (w' : World) : Prop := ∃ (L : List Pn) (A : Option Addr) (c : Nat), (∀ p ∈ L, PnOK n p) ∧ L.length ≤ m ∧ r = .returned (.slice A L.length c) ∧ SlR 3 RPn w' A L ∧ Below w.heap.size w w'
set_option maxRecDepth 100000 in
set_option maxHeartbeats 8000000 in
theorem rmade18_any (A : Option Addr) (c : Nat) (l : List T3) (n : Int) (w : World) (hx : SlR 3 RT3 w A l) (hl : l.length ≤ maxLen) (hn : 1 ≤ n ∧ n ≤ 40) (hok : ∀ p ∈ l, T3OK p) :
    Calls Tryz.prog 8 #[.slice A l.length c, .int .i64 n] w (GivesPns n 5 w) := by
  unfold maxLen at hl
  have HPI : Hid (∀ W p, p ∈ l → Calls Tryz.prog 29 #[.agg #[.int .u8 p.a, .int .u8 p.b, .int .u8 p.c], .int .i64 n] W (GivesPn n W)) := fun W p hp => rpin_any p.a p.b p.c n W (hok p hp).1 (hok p hp).2.1 (hok p hp).2.2 hn
  have HPU : Hid (∀ W (L : List Pn) (B : Option Addr) (d : Nat) (p : Pn), SlR 3 RPn W B L → L.length ≤ 5 → (∀ q ∈ L, PnOK n q) → PnOK n p → Calls Tryz.prog 28 #[.slice B L.length d, vPn p, .int .i64 n] W (GivesPut n (L.length + 1) W)) := fun W L B d p h1 h2 h3 h4 => rput_any B d L p n W h1 (by omega) hn h3 h4
  have HX : Hid (∀ W, Below w.heap.size w W → SlR 3 RT3 W A l) := fun W hW => hx.below keeps_t3 hW
  clear hx hok
  go_enter Tryz.func8, Tryz.ntmps8
  go_upto_region 2 with fail
  obtain ⟨w1, hw1⟩ : ∃ V, w.alloc (.cells #[] 46) = V := ⟨_, rfl⟩
  have hb1 : Below w.heap.size w w1 := by rw [← hw1]; exact nw _ (Below.refl _ _)
  rw [hw1]
  clear hw1
  go_wp2_with fail
  go_loopw [5, 6] (fun v i wr => ∃ (k : Nat) (L : List Pn) (B : Option Addr) (d : Nat), v = .slice B L.length d ∧ i = .int .i64 k ∧ k ≤ l.length ∧ k ≤ 5 ∧ L.length ≤ k ∧ Hid (∀ q ∈ L, PnOK n q) ∧ Hid (SlR 3 RPn wr B L) ∧ Below w1.heap.size w1 wr) (fun _ i _ => 5 - (intOf i).toNat)
  case atStart => exact ⟨0, [], _, _, rfl, rfl, by omega, by omega, by simp, (fun z hz => by cases hz), SlR.nil, Below.refl _ _⟩
  case round =>
    obtain ⟨k, L, B, d, rfl, rfl, hk, hk5, hlk, HOK, HS, hbr⟩ := hrel
    have HBR := Lib.hid (bthen hb1 hbr)
    by_cases hlt : k < l.length
    · have hkI : (k : Int) < (l.length : Int) := by omega
      by_cases h5 : k < 5
      · have h5I : (k : Int) < 5 := by omega
        obtain ⟨b, off, p, hA, hbb, hpp, d0, d1, d2⟩ := (HX.out _ HBR.out).t3 hlt
        subst hA
        have HP1 := Lib.hid (HPI.out wr p (List.mem_of_getElem? hpp))
        have HBr := Lib.hid hbr
        have HLK := Lib.hid hlk
        have hk0 : (0 : Int) ≤ (k : Int) := by omega
        clear hpp hbr hlk
        go_wp2_with (first
          | (go_at_call 28; go_loud (refine (HPU.out w3 L B d q (HS.out.below keeps_pn hb3) (by have := HLK.out; omega) HOK.out hq).mono ?_; rintro r w4 ⟨L2, B2, d2', e2, hL2, hl2, rfl, hs2, hb4⟩))
          | (go_at_call 29; go_loud (refine HP1.out.mono ?_; rintro r w3 ⟨q, hq, rfl, hb3⟩)))
        have hb34 := bthen hb3 hb4
        go_roundw
        case rel => exact ⟨k + 1, L2, B2, d2', rfl, by go_num, by omega, by omega, by have := HLK.out; omega, hL2, hs2, HBr.out.trans (hb34.mono HBr.out.size)⟩
        case measure => simp [intOf]; omega
      · have h5I : ¬ (k : Int) < 5 := by omega
        clear hbr
        go_wp2_with fail
        go_ret
        exact ⟨L, B, d, HOK.out, by omega, rfl, HS.out, HBR.out⟩
    · clear hbr
      go_wp2_with fail
      go_ret
      exact ⟨L, B, d, HOK.out, by omega, rfl, HS.out, HBR.out⟩
end Go.Proofs.YtfjkmgjjifhdkaaGreat
