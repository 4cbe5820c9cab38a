/-
  The walks of layer 19: Prefix and Same of pages, the law's made.
-/
import Derived.Test.YtpajajffkbkeaaaPgWalkC
import Derived.Test.YtpajajffkbkeaaaBsWalkJ
namespace Go.Proofs.Ytpajajffkbkeaaa
open Go Go.RowKit

set_option maxRecDepth 100000 in
set_option maxHeartbeats 4000000 in
theorem pequal_any (a b : Can) (A B : Option Addr) (c d : Nat) (w : World) (hx : SlR 1 RInt w A a.links) (hy : SlR 1 RInt w B b.links) (hl : a.links.length ≤ maxLen) (hl2 : b.links.length ≤ maxLen) :
    Calls Try.prog 35 #[.agg #[.slice A a.links.length c, .int .i64 a.cost], .agg #[.slice B b.links.length d, .int .i64 b.cost]] w fun e w' => e = .returned (.bool (decide (a = b))) ∧ Below w.heap.size w w' := by
  obtain ⟨xs, x⟩ := a
  obtain ⟨ys, y⟩ := b
  simp only at hx hy hl hl2 ⊢
  obtain ⟨w2, hw2⟩ : ∃ w2, (w.alloc (.cells #[.slice A xs.length c, .int .i64 x] 61)).alloc (.cells #[.slice B ys.length d, .int .i64 y] 61) = w2 := ⟨_, rfl⟩
  have hb2 : Below w.heap.size w w2 := by rw [← hw2]; exact nw _ (nw _ (Below.refl _ _))
  have hP : Blk w2 w.heap.size 61 #[.slice A xs.length c, .int .i64 x] := by rw [← hw2]; exact (Blk.new _ _ _).alloc _
  have hQ : Blk w2 (w.heap.size + 1) 61 #[.slice B ys.length d, .int .i64 y] := by rw [← hw2]; exact Blk.new_ (by simp)
  have HW2 := Lib.hid hw2
  have HEQ : Hid (Calls Try.prog 40 #[.slice A xs.length c, .slice B ys.length d] w2 fun e w' => e = .returned (.bool (decide (xs = ys))) ∧ Below w2.heap.size w2 w') := equal_any A B xs ys c d w2 (hx.below keeps_int hb2) (hy.below keeps_int hb2) hl hl2
  have p0 := hP.cell 0
  have p1 := hP.cell 1
  have pl := hP.lt
  have q0 := hQ.cell 0
  have q1 := hQ.cell 1
  have ql := hQ.lt
  simp at p0 p1 q0 q1
  have HD : Hid (decide ((⟨xs, x⟩ : Can) = ⟨ys, y⟩) = ((x == y) && decide (xs = ys))) := by
    show _ = _
    rw [Bool.eq_iff_iff]
    simp
    exact And.comm
  generalize decide (xs = ys) = v at *
  clear hw2 hP hQ hx hy hl hl2
  go_enter Try.func35, Try.ntmps35
  go_upto_region 1 with fail
  rw [HW2.out]
  by_cases hxy : x = y
  · have hz : (x == y) = true := by simp [hxy]
    rw [hz, Bool.true_and] at HD
    clear hxy
    go_wp2_with (go_at_call 40; go_loud (refine HEQ.out.mono ?_; rintro e w3 ⟨rfl, hb3⟩))
    go_ret
    exact ⟨by rw [HD.out]; rfl, bthen hb2 hb3⟩
  · have hz : (x == y) = false := by simp [hxy]
    rw [hz, Bool.false_and] at HD
    clear hxy
    go_wp2_with fail
    go_ret
    exact ⟨by rw [HD.out]; rfl, hb2⟩
set_option maxRecDepth 100000 in
set_option maxHeartbeats 8000000 in
theorem eqfunc_any (A B : Option Addr) (xs ys : List Can) (c d : Nat) (w : World) (hx : SlR 2 RCan w A xs) (hy : SlR 2 RCan w B ys) (hl : xs.length ≤ maxLen) (hlen : xs.length = ys.length) :
    Calls Try.prog 47 #[.slice A xs.length c, .slice B xs.length d, .func (.func 35) #[] #[]] w fun e w' => e = .returned (.bool (decide (xs = ys))) ∧ Below w.heap.size w w' := by
  have HL := Lib.hid hlen
  unfold maxLen at hl
  clear hlen
  go_enter Try.func47, Try.ntmps47
  go_wp2_with fail
  go_loopw [17] (fun iv wr => ∃ k : Nat, k ≤ xs.length ∧ iv = .int .i64 (k : Int) ∧ Hid (xs.take k = ys.take k) ∧ Below w.heap.size w wr) (fun iv _ => xs.length - (intOf iv).toNat)
  case atStart => exact ⟨0, by omega, rfl, by show _ = _; simp, Below.refl _ _⟩
  case round =>
    obtain ⟨k, hk, rfl, HT, hbr⟩ := hrel
    by_cases hlt : k < xs.length
    · obtain ⟨b1, o1, x, A1, c1, rfl, hb1, hxx, x0, x1, hxs, hxl, hxm⟩ := (hx.below keeps_can hbr).can hlt
      obtain ⟨b2, o2, y, A2, c2, rfl, hb2, hyy, y0, y1, hys, hyl, hym⟩ := (hy.below keeps_can hbr).can (k := k) (by have := HL.out; omega)
      have hxx2 := take_succ_of hxx
      have hyy2 := take_succ_of hyy
      have hkI : (k : Int) < (xs.length : Int) := by omega
      have hk0 : (0 : Int) ≤ (k : Int) := by omega
      obtain ⟨wb, hwb⟩ : ∃ V, (wr.alloc (.cells #[.slice A1 x.links.length c1, .int .i64 x.cost] 61)).alloc (.cells #[.slice A2 y.links.length c2, .int .i64 y.cost] 61) = V := ⟨_, rfl⟩
      have hbb : Below wr.heap.size wr wb := by rw [← hwb]; exact nw _ (nw _ (Below.refl _ _))
      have HE := Lib.hid (pequal_any x y A1 A2 c1 c2 wb (hxs.below keeps_int hbb) (hys.below keeps_int hbb) (by omega) (by omega))
      have HWB := Lib.hid hwb
      have HBB := Lib.hid (bthen hbr hbb)
      have HX2 := Lib.hid hxx2
      have HY2 := Lib.hid hyy2
      have HXX := Lib.hid hxx
      have HYY := Lib.hid hyy
      by_cases hxy : x = y
      · rw [decide_eq_true hxy] at HE
        have HT2 : Hid (xs.take (k + 1) = ys.take (k + 1)) := by show _ = _; rw [HX2.out, HY2.out, HT.out, hxy]
        clear hxy hwb hbb hxx2 hyy2 hxx hyy hxs hys hbr
        go_wp2_with (go_at_call 35; go_loud (rw [HWB.out]; refine HE.out.mono ?_; rintro e w5 ⟨rfl, hb5⟩))
        go_roundw
        case rel => exact ⟨k + 1, by omega, by go_num, HT2.out, bthen HBB.out hb5⟩
        case measure => simp [intOf]; omega
      · rw [decide_eq_false hxy] at HE
        have HNE : Hid (¬ xs = ys) := fun h => by
          have h1 := HXX.out
          rw [h, HYY.out] at h1
          exact hxy (Option.some.inj h1).symm
        clear hxy hwb hbb hxx2 hyy2 hxx hyy hxs hys hbr
        go_wp2_with (go_at_call 35; go_loud (rw [HWB.out]; refine HE.out.mono ?_; rintro e w5 ⟨rfl, hb5⟩))
        go_ret
        exact ⟨by rw [decide_eq_false HNE.out]; rfl, bthen HBB.out hb5⟩
    · obtain rfl : k = xs.length := by omega
      have HE : Hid (xs = ys) := by
        have h := HT.out
        rw [List.take_length, HL.out, List.take_length] at h
        exact h
      go_wp2_with fail
      go_ret
      exact ⟨by rw [decide_eq_true HE.out]; rfl, hbr⟩
/-- The first list is a beginning of the second one. -/
def preB (l m : List Can) : Bool := decide (m.take l.length = l)
theorem preB_len {l m : List Can} (h : m.length < l.length) : preB l m = false := by
  unfold preB
  rw [decide_eq_false_iff_not, List.take_of_length_le (by omega)]
  rintro rfl
  exact absurd h (Nat.lt_irrefl _)
set_option maxRecDepth 100000 in
set_option maxHeartbeats 4000000 in
theorem begins_any (A B : Option Addr) (xs ys : List Can) (c d : Nat) (w : World) (hx : SlR 2 RCan w A xs) (hy : SlR 2 RCan w B ys) (hl : xs.length ≤ maxLen) (hl2 : ys.length ≤ d) (hl3 : d ≤ maxLen) :
    Calls Try.prog 34 #[.slice A xs.length c, .slice B ys.length d, .func (.func 35) #[] #[]] w fun e w' => e = .returned (.bool (preB xs ys)) ∧ Below w.heap.size w w' := by
  by_cases hle : xs.length ≤ ys.length
  · have htl : (ys.take xs.length).length = xs.length := by rw [List.length_take]; omega
    have h := eqfunc_any A B xs (ys.take xs.length) c d w hx (slr_preS hy xs.length) hl htl.symm
    have HE : Hid (Calls Try.prog 47 #[.slice A xs.length c, .slice B xs.length d, .func (.func 35) #[] #[]] w fun e w' => e = .returned (.bool (preB xs ys)) ∧ Below w.heap.size w w') := by
      rw [show decide (xs = ys.take xs.length) = preB xs ys by unfold preB; rw [Bool.eq_iff_iff]; simp [eq_comm]] at h
      exact h
    have hleI : (xs.length : Int) ≤ (ys.length : Int) := by omega
    have hld : xs.length ≤ d := by omega
    unfold maxLen at hl hl3
    clear h htl hx hy
    generalize preB xs ys = v at *
    go_enter Try.func34, Try.ntmps34
    go_wp2_with (go_at_call 47; go_loud (refine HE.out.mono ?_; rintro e w5 ⟨rfl, hb5⟩))
    go_ret
    exact ⟨rfl, hb5⟩
  · have HP : Hid (preB xs ys = false) := preB_len (by omega)
    have hleI : ¬ (xs.length : Int) ≤ (ys.length : Int) := by omega
    unfold maxLen at hl hl3
    go_enter Try.func34, Try.ntmps34
    go_wp2_with fail
    go_ret
    exact ⟨by rw [HP.out]; rfl, Below.refl _ _⟩
/-- What Prefix answers. -/
def prefB (l : List Can) (wh : Bool) (m : List Can) (wm : Bool) : Bool := preB l m && (if l.length = m.length then wh == wm else !wh)
set_option maxRecDepth 100000 in
set_option maxHeartbeats 4000000 in
theorem prefix_any (C D : Option Addr) (l m : List Can) (e f : Nat) (wh wm : Bool) (w : World) (hx : SlR 2 RCan w C l) (hy : SlR 2 RCan w D m) (hl : l.length ≤ e) (hl1 : e ≤ maxLen) (hl2 : m.length ≤ f) (hl3 : f ≤ maxLen) :
    Calls Try.prog 15 #[.agg #[.slice C l.length e, .bool wh], .agg #[.slice D m.length f, .bool wm]] w fun r w' => r = .returned (.bool (prefB l wh m wm)) ∧ Below w.heap.size w w' := by
  obtain ⟨w2, hw2⟩ : ∃ w2, (w.alloc (.cells #[.slice C l.length e, .bool wh] 33)).alloc (.cells #[.slice D m.length f, .bool wm] 33) = w2 := ⟨_, rfl⟩
  have hb2 : Below w.heap.size w w2 := by rw [← hw2]; exact nw _ (nw _ (Below.refl _ _))
  have hP : Blk w2 w.heap.size 33 #[.slice C l.length e, .bool wh] := by rw [← hw2]; exact (Blk.new _ _ _).alloc _
  have hQ : Blk w2 (w.heap.size + 1) 33 #[.slice D m.length f, .bool wm] := by rw [← hw2]; exact Blk.new_ (by simp)
  have HW2 := Lib.hid hw2
  obtain ⟨bQ, hbQ⟩ : ∃ b, w.heap.size + 1 = b := ⟨_, rfl⟩
  rw [hbQ] at hQ
  have HBQ := Lib.hid hbQ
  have p0 := hP.cell 0
  have p1 := hP.cell 1
  have pl := hP.lt
  have q0 := hQ.cell 0
  have q1 := hQ.cell 1
  have ql := hQ.lt
  simp at p0 p1 q0 q1
  clear hw2 hbQ
  have HB : Hid (Calls Try.prog 34 #[.slice C l.length e, .slice D m.length f, .func (.func 35) #[] #[]] w2 fun e w' => e = .returned (.bool (preB l m)) ∧ Below w2.heap.size w2 w') := begins_any C D l m e f w2 (hx.below keeps_can hb2) (hy.below keeps_can hb2) (by omega) hl2 hl3
  have HR : Hid (prefB l wh m wm = (preB l m && (if l.length = m.length then wh == wm else !wh))) := rfl
  have HLN : Hid (preB l m = true → l.length ≤ m.length) := fun h => Nat.not_lt.1 fun h2 => by rw [preB_len h2] at h; cases h
  generalize preB l m = v at *
  clear hx hy hP hQ
  go_enter Try.func15, Try.ntmps15
  go_upto_region 1 with fail
  rw [HW2.out, HBQ.out]
  cases v with
  | false =>
    go_wp2_with (go_at_call 34; go_loud (refine HB.out.mono ?_; rintro r w3 ⟨rfl, hb3⟩))
    go_ret
    exact ⟨by rw [HR.out]; rfl, bthen hb2 hb3⟩
  | true =>
    by_cases heq : l.length = m.length
    · have hz : ((l.length : Int) == (m.length : Int)) = true := by simp [heq]
      rw [if_pos heq] at HR
      clear heq
      go_wp2_with (go_at_call 34; go_loud (refine HB.out.mono ?_; rintro r w3 ⟨rfl, hb3⟩; have p0 := ((bcell hb3).1 _ _ pl).trans p0; have p1 := ((bcell hb3).1 _ _ pl).trans p1; have q0 := ((bcell hb3).1 _ _ ql).trans q0; have q1 := ((bcell hb3).1 _ _ ql).trans q1))
      go_ret
      exact ⟨by rw [HR.out]; simp, bthen hb2 hb3⟩
    · have hz : ((l.length : Int) == (m.length : Int)) = false := by simp; omega
      rw [if_neg heq] at HR
      clear heq
      go_wp2_with (go_at_call 34; go_loud (refine HB.out.mono ?_; rintro r w3 ⟨rfl, hb3⟩; have p0 := ((bcell hb3).1 _ _ pl).trans p0; have p1 := ((bcell hb3).1 _ _ pl).trans p1; have q0 := ((bcell hb3).1 _ _ ql).trans q0; have q1 := ((bcell hb3).1 _ _ ql).trans q1))
      go_ret
      exact ⟨by rw [HR.out]; simp, bthen hb2 hb3⟩
set_option maxRecDepth 100000 in
set_option maxHeartbeats 4000000 in
theorem psame_any (C D : Option Addr) (l m : List Can) (e f : Nat) (wh wm : Bool) (w : World) (hx : SlR 2 RCan w C l) (hy : SlR 2 RCan w D m) (hl : l.length ≤ maxLen) (hl2 : m.length ≤ maxLen) :
    Calls Try.prog 18 #[.agg #[.slice C l.length e, .bool wh], .agg #[.slice D m.length f, .bool wm]] w fun r w' => r = .returned (.bool (decide (l = m) && (wh == wm))) ∧ Below w.heap.size w w' := by
  obtain ⟨w2, hw2⟩ : ∃ w2, (w.alloc (.cells #[.slice C l.length e, .bool wh] 33)).alloc (.cells #[.slice D m.length f, .bool wm] 33) = w2 := ⟨_, rfl⟩
  have hb2 : Below w.heap.size w w2 := by rw [← hw2]; exact nw _ (nw _ (Below.refl _ _))
  have hP : Blk w2 w.heap.size 33 #[.slice C l.length e, .bool wh] := by rw [← hw2]; exact (Blk.new _ _ _).alloc _
  have hQ : Blk w2 (w.heap.size + 1) 33 #[.slice D m.length f, .bool wm] := by rw [← hw2]; exact Blk.new_ (by simp)
  have HW2 := Lib.hid hw2
  obtain ⟨bQ, hbQ⟩ : ∃ b, w.heap.size + 1 = b := ⟨_, rfl⟩
  rw [hbQ] at hQ
  have HBQ := Lib.hid hbQ
  have p0 := hP.cell 0
  have p1 := hP.cell 1
  have pl := hP.lt
  have q0 := hQ.cell 0
  have q1 := hQ.cell 1
  have ql := hQ.lt
  simp at p0 p1 q0 q1
  clear hw2 hbQ
  have HB : Hid (Calls Try.prog 36 #[.slice C l.length e, .slice D m.length f] w2 fun e w' => e = .returned (.bool (decide (l = m))) ∧ Below w2.heap.size w2 w') := same_any C D l m e f w2 (hx.below keeps_can hb2) (hy.below keeps_can hb2) hl hl2
  generalize decide (l = m) = v at *
  clear hx hy hP hQ
  go_enter Try.func18, Try.ntmps18
  go_upto_region 1 with fail
  rw [HW2.out, HBQ.out]
  cases v with
  | false =>
    go_wp2_with (go_at_call 36; go_loud (refine HB.out.mono ?_; rintro r w3 ⟨rfl, hb3⟩))
    go_ret
    exact ⟨rfl, bthen hb2 hb3⟩
  | true =>
    go_wp2_with (go_at_call 36; go_loud (refine HB.out.mono ?_; rintro r w3 ⟨rfl, hb3⟩; have p0 := ((bcell hb3).1 _ _ pl).trans p0; have p1 := ((bcell hb3).1 _ _ pl).trans p1; have q0 := ((bcell hb3).1 _ _ ql).trans q0; have q1 := ((bcell hb3).1 _ _ ql).trans q1))
    go_ret
    exact ⟨by simp, bthen hb2 hb3⟩
set_option maxRecDepth 100000 in
set_option maxHeartbeats 4000000 in
theorem refprefix_any (C D : Option Addr) (l m : List Can) (e f : Nat) (wh wm : Bool) (w : World) (hx : SlR 2 RCan w C l) (hy : SlR 2 RCan w D m) (hl : l.length ≤ e) (hl1 : e ≤ maxLen) (hl2 : m.length ≤ f) (hl3 : f ≤ maxLen) :
    Calls Try.prog 16 #[.agg #[.slice C l.length e, .bool wh], .agg #[.slice D m.length f, .bool wm]] w fun r w' => r = .returned (.bool (prefB l wh m wm)) ∧ Below w.heap.size w w' := by
  obtain ⟨w2, hw2⟩ : ∃ w2, (w.alloc (.cells #[.slice C l.length e, .bool wh] 33)).alloc (.cells #[.slice D m.length f, .bool wm] 33) = w2 := ⟨_, rfl⟩
  have hb2 : Below w.heap.size w w2 := by rw [← hw2]; exact nw _ (nw _ (Below.refl _ _))
  have hP : Blk w2 w.heap.size 33 #[.slice C l.length e, .bool wh] := by rw [← hw2]; exact (Blk.new _ _ _).alloc _
  have hQ : Blk w2 (w.heap.size + 1) 33 #[.slice D m.length f, .bool wm] := by rw [← hw2]; exact Blk.new_ (by simp)
  have HW2 := Lib.hid hw2
  obtain ⟨bQ, hbQ⟩ : ∃ b, w.heap.size + 1 = b := ⟨_, rfl⟩
  rw [hbQ] at hQ
  have HBQ := Lib.hid hbQ
  have p0 := hP.cell 0
  have p1 := hP.cell 1
  have pl := hP.lt
  have q0 := hQ.cell 0
  have q1 := hQ.cell 1
  have ql := hQ.lt
  simp at p0 p1 q0 q1
  clear hw2 hbQ
  have HR : Hid (prefB l wh m wm = (preB l m && (if l.length = m.length then wh == wm else !wh))) := rfl
  have hlm : l.length ≤ maxLen := by omega
  unfold maxLen at hl1 hl3
  by_cases hle : l.length ≤ m.length
  · have htl : (m.take l.length).length = l.length := by rw [List.length_take]; omega
    have HSA : Hid (∀ W', Below w2.heap.size w2 W' → Calls Try.prog 36 #[.slice C l.length e, .slice D l.length f] W' fun e w' => e = .returned (.bool (preB l m)) ∧ Below W'.heap.size W' w') := fun W' hW' => by
      have h := same_any C D l (m.take l.length) e f W' ((hx.below keeps_can hb2).below keeps_can hW') (slr_preS ((hy.below keeps_can hb2).below keeps_can hW') l.length) hlm (by rw [htl]; exact hlm)
      rw [htl, show decide (l = m.take l.length) = preB l m by unfold preB; rw [Bool.eq_iff_iff]; simp [eq_comm]] at h
      exact h
    have z11 : decide (m.length < l.length) = false := decide_eq_false (by omega)
    have hlf : l.length ≤ f := by omega
    generalize preB l m = v at *
    clear hx hy hP hQ htl
    go_enter Try.func16, Try.ntmps16
    go_upto_region 1 with fail
    rw [HW2.out, HBQ.out]
    cases v with
    | false =>
      refine ordB_below (.quiet 0 (.quiet 1 (.quiet 2 (.quiet 3 (.quiet 4 (.quiet 5 (.quiet 6 (.quiet 7 (.quiet 8 (.quiet 9 (.quiet 10 (.quiet 11 (.quiet 12 (.quiet 13 (.quiet 14 (.quiet 15 (.only 16 (.quiet 17 (.quiet 18 .done))))))))))))))))))) (by kernel_rfl) (by kernel_rfl) (by kernel_rfl) (fun _ _ _ _ _ h => h) ?_
      intro Wf hWf
      iterate 16 (first
        | (refine ordB_skip rfl rfl ?_; simp only [Act.put, List.setIfInBounds_toArray, List.set_cons_zero, List.set_cons_succ])
        | (refine ordB_take (v := ?_) rfl rfl ?_ ?_
           rotate_left 1
           focus (intro W hW; obtain ⟨hcW, hfW⟩ := bcell hW; (go_simp <;> with_reducible rfl))
           simp only [Act.put, List.setIfInBounds_toArray, List.set_cons_zero, List.set_cons_succ]))
      refine ordB_only (opB_call rfl rfl (fun K hK => ?_))
      go_simp
      go_at_call 36
      refine (HSA.out _ hWf).mono ?_
      rintro e Wf_1 ⟨rfl, hx16⟩
      refine hK.out _ _ (hWf.trans (hx16.mono hWf.size)) (fun hWf_1 => ?_)
      iterate 2 (first
        | (refine ordB_skip rfl rfl ?_; simp only [Act.put, List.setIfInBounds_toArray, List.set_cons_zero, List.set_cons_succ])
        | (refine ordB_take (v := ?_) rfl rfl ?_ ?_
           rotate_left 1
           focus (intro W hW; obtain ⟨hcW, hfW⟩ := bcell hW; (go_simp <;> with_reducible rfl))
           simp only [Act.put, List.setIfInBounds_toArray, List.set_cons_zero, List.set_cons_succ]))
      refine ordB_nil ?_
      have hb3 := hWf_1
      clear hWf_1
      generalize Wf_1 = w3 at *
      have p0 := ((bcell hb3).1 _ _ pl).trans p0
      have p1 := ((bcell hb3).1 _ _ pl).trans p1
      have q0 := ((bcell hb3).1 _ _ ql).trans q0
      have q1 := ((bcell hb3).1 _ _ ql).trans q1
      have pl := Nat.lt_of_lt_of_le pl hb3.size
      have ql := Nat.lt_of_lt_of_le ql hb3.size
      go_wp2_with fail
      go_ret
      exact ⟨by rw [HR.out]; rfl, bthen hb2 hb3⟩
    | true =>
      by_cases heq : l.length = m.length
      · have hz : ((l.length : Int) == (m.length : Int)) = true := by simp [heq]
        rw [if_pos heq] at HR
        clear heq
        refine ordB_below (.quiet 0 (.quiet 1 (.quiet 2 (.quiet 3 (.quiet 4 (.quiet 5 (.quiet 6 (.quiet 7 (.quiet 8 (.quiet 9 (.quiet 10 (.quiet 11 (.quiet 12 (.quiet 13 (.quiet 14 (.quiet 15 (.only 16 (.quiet 17 (.quiet 18 .done))))))))))))))))))) (by kernel_rfl) (by kernel_rfl) (by kernel_rfl) (fun _ _ _ _ _ h => h) ?_
        intro Wf hWf
        iterate 16 (first
          | (refine ordB_skip rfl rfl ?_; simp only [Act.put, List.setIfInBounds_toArray, List.set_cons_zero, List.set_cons_succ])
          | (refine ordB_take (v := ?_) rfl rfl ?_ ?_
             rotate_left 1
             focus (intro W hW; obtain ⟨hcW, hfW⟩ := bcell hW; (go_simp <;> with_reducible rfl))
             simp only [Act.put, List.setIfInBounds_toArray, List.set_cons_zero, List.set_cons_succ]))
        refine ordB_only (opB_call rfl rfl (fun K hK => ?_))
        go_simp
        go_at_call 36
        refine (HSA.out _ hWf).mono ?_
        rintro e Wf_1 ⟨rfl, hx16⟩
        refine hK.out _ _ (hWf.trans (hx16.mono hWf.size)) (fun hWf_1 => ?_)
        iterate 2 (first
          | (refine ordB_skip rfl rfl ?_; simp only [Act.put, List.setIfInBounds_toArray, List.set_cons_zero, List.set_cons_succ])
          | (refine ordB_take (v := ?_) rfl rfl ?_ ?_
             rotate_left 1
             focus (intro W hW; obtain ⟨hcW, hfW⟩ := bcell hW; (go_simp <;> with_reducible rfl))
             simp only [Act.put, List.setIfInBounds_toArray, List.set_cons_zero, List.set_cons_succ]))
        refine ordB_nil ?_
        have hb3 := hWf_1
        clear hWf_1
        generalize Wf_1 = w3 at *
        have p0 := ((bcell hb3).1 _ _ pl).trans p0
        have p1 := ((bcell hb3).1 _ _ pl).trans p1
        have q0 := ((bcell hb3).1 _ _ ql).trans q0
        have q1 := ((bcell hb3).1 _ _ ql).trans q1
        have pl := Nat.lt_of_lt_of_le pl hb3.size
        have ql := Nat.lt_of_lt_of_le ql hb3.size
        go_wp2_with fail
        go_ret
        exact ⟨by rw [HR.out]; simp, bthen hb2 hb3⟩
      · have hz : ((l.length : Int) == (m.length : Int)) = false := by simp; omega
        rw [if_neg heq] at HR
        clear heq
        refine ordB_below (.quiet 0 (.quiet 1 (.quiet 2 (.quiet 3 (.quiet 4 (.quiet 5 (.quiet 6 (.quiet 7 (.quiet 8 (.quiet 9 (.quiet 10 (.quiet 11 (.quiet 12 (.quiet 13 (.quiet 14 (.quiet 15 (.only 16 (.quiet 17 (.quiet 18 .done))))))))))))))))))) (by kernel_rfl) (by kernel_rfl) (by kernel_rfl) (fun _ _ _ _ _ h => h) ?_
        intro Wf hWf
        iterate 16 (first
          | (refine ordB_skip rfl rfl ?_; simp only [Act.put, List.setIfInBounds_toArray, List.set_cons_zero, List.set_cons_succ])
          | (refine ordB_take (v := ?_) rfl rfl ?_ ?_
             rotate_left 1
             focus (intro W hW; obtain ⟨hcW, hfW⟩ := bcell hW; (go_simp <;> with_reducible rfl))
             simp only [Act.put, List.setIfInBounds_toArray, List.set_cons_zero, List.set_cons_succ]))
        refine ordB_only (opB_call rfl rfl (fun K hK => ?_))
        go_simp
        go_at_call 36
        refine (HSA.out _ hWf).mono ?_
        rintro e Wf_1 ⟨rfl, hx16⟩
        refine hK.out _ _ (hWf.trans (hx16.mono hWf.size)) (fun hWf_1 => ?_)
        iterate 2 (first
          | (refine ordB_skip rfl rfl ?_; simp only [Act.put, List.setIfInBounds_toArray, List.set_cons_zero, List.set_cons_succ])
          | (refine ordB_take (v := ?_) rfl rfl ?_ ?_
             rotate_left 1
             focus (intro W hW; obtain ⟨hcW, hfW⟩ := bcell hW; (go_simp <;> with_reducible rfl))
             simp only [Act.put, List.setIfInBounds_toArray, List.set_cons_zero, List.set_cons_succ]))
        refine ordB_nil ?_
        have hb3 := hWf_1
        clear hWf_1
        generalize Wf_1 = w3 at *
        have p0 := ((bcell hb3).1 _ _ pl).trans p0
        have p1 := ((bcell hb3).1 _ _ pl).trans p1
        have q0 := ((bcell hb3).1 _ _ ql).trans q0
        have q1 := ((bcell hb3).1 _ _ ql).trans q1
        have pl := Nat.lt_of_lt_of_le pl hb3.size
        have ql := Nat.lt_of_lt_of_le ql hb3.size
        go_wp2_with fail
        go_ret
        exact ⟨by rw [HR.out]; simp, bthen hb2 hb3⟩
  · have HP0 : Hid (preB l m = false) := preB_len (by omega)
    have z11 : decide (m.length < l.length) = true := decide_eq_true (by omega)
    have HSA : Hid (∀ W', Below w2.heap.size w2 W' → Calls Try.prog 36 #[.slice C l.length e, .slice D l.length f] W' fun e w' => e = .returned (.bool (preB l m)) ∧ Below W'.heap.size W' w') ∨ True := .inr trivial
    clear hx hy hP hQ HSA
    go_enter Try.func16, Try.ntmps16
    go_upto_region 1 with fail
    rw [HW2.out, HBQ.out]
    refine ordB_below (.quiet 0 (.quiet 1 (.quiet 2 (.quiet 3 (.quiet 4 (.quiet 5 (.quiet 6 (.quiet 7 (.quiet 8 (.quiet 9 (.quiet 10 (.quiet 11 (.quiet 12 (.quiet 13 (.quiet 14 (.quiet 15 (.only 16 (.quiet 17 (.quiet 18 .done))))))))))))))))))) (by kernel_rfl) (by kernel_rfl) (by kernel_rfl) (fun _ _ _ _ _ h => h) ?_
    intro Wf hWf
    iterate 16 (first
      | (refine ordB_skip rfl rfl ?_; simp only [Act.put, List.setIfInBounds_toArray, List.set_cons_zero, List.set_cons_succ])
      | (refine ordB_take (v := ?_) rfl rfl ?_ ?_
         rotate_left 1
         focus (intro W hW; obtain ⟨hcW, hfW⟩ := bcell hW; (go_simp <;> with_reducible rfl))
         simp only [Act.put, List.setIfInBounds_toArray, List.set_cons_zero, List.set_cons_succ]))
    refine ordB_only (opB_cskip rfl rfl hWf ?_)
    simp only [Act.put, List.setIfInBounds_toArray, List.set_cons_zero, List.set_cons_succ]
    iterate 2 (first
      | (refine ordB_skip rfl rfl ?_; simp only [Act.put, List.setIfInBounds_toArray, List.set_cons_zero, List.set_cons_succ])
      | (refine ordB_take (v := ?_) rfl rfl ?_ ?_
         rotate_left 1
         focus (intro W hW; obtain ⟨hcW, hfW⟩ := bcell hW; (go_simp <;> with_reducible rfl))
         simp only [Act.put, List.setIfInBounds_toArray, List.set_cons_zero, List.set_cons_succ]))
    refine ordB_nil ?_
    have hb3 := hWf
    clear hWf
    go_wp2_with fail
    go_ret
    exact ⟨by rw [HR.out, HP0.out]; rfl, bthen hb2 hb3⟩
/-- What the law's made answers. -/
def IsMd (M : List Can × Bool × List Int × Int) (w : World) (e : Ending) (w' : World) : Prop := ∃ A c ms base B d, e = .returned (.agg #[.slice A M.1.length c, .bool M.2.1, .slice B M.2.2.1.length d, .int .i64 M.2.2.2]) ∧ SlR 2 RMc w' A ms ∧ MsOK w' ms ∧ Hid (ms.map (·.x) = M.1) ∧ M.1.length ≤ c ∧ c ≤ maxLen ∧
  w'.ownsRow base 61 2 (.slice A ms.length c) ms.length (ms.flatMap encMc) ∧ SlT w' B M.2.2.1 ∧ M.2.2.1.length ≤ d ∧ d ≤ maxLen ∧ Below w.heap.size w w'
set_option maxRecDepth 100000 in
set_option maxHeartbeats 8000000 in
theorem pmade_any (A : Option Addr) (c : Nat) (g : Gr) (k b : Int) (w : World) (hx : SlR 4 RLk w A g.ls) (h14 : g.ls.length ≤ 14) (hbu : b ≤ 1000000) :
    Calls Try.prog 11 #[.agg #[.int .i64 g.n, .slice A g.ls.length c], .int .i64 k, .int .i64 b] w (IsMd (makeM g k b) w) := by
  obtain ⟨w2, hw2⟩ : ∃ w2, (w.alloc (.cells #[.int .i64 g.n, .slice A g.ls.length c] 29)).alloc (.cells #[.slice none 0 0, .bool false, .slice none 0 0, .int .i64 0] 37) = w2 := ⟨_, rfl⟩
  have hb2 : Below w.heap.size w w2 := by rw [← hw2]; exact nw _ (nw _ (Below.refl _ _))
  have hG : Blk w2 w.heap.size 29 #[.int .i64 g.n, .slice A g.ls.length c] := by rw [← hw2]; exact (Blk.new _ _ _).alloc _
  have hP : Blk w2 (w.heap.size + 1) 37 #[.slice none 0 0, .bool false, .slice none 0 0, .int .i64 0] := by rw [← hw2]; exact Blk.new_ (by simp)
  have HW2 := Lib.hid hw2
  obtain ⟨bP, hbP⟩ : ∃ b, w.heap.size + 1 = b := ⟨_, rfl⟩
  rw [hbP] at hP
  have HBP := Lib.hid hbP
  have hwP : w.heap.size ≤ bP := by omega
  have g0 := hG.cell 0
  have g1 := hG.cell 1
  have gl := hG.lt
  simp at g0 g1
  have HM : Hid (Calls Try.prog 23 #[.agg #[.int .i64 g.n, .slice A g.ls.length c], .int .i64 k, .int .i64 b] w2 (IsMk (makeM g k b) w2)) := make_any A c g k b w2 (hx.below keeps_lk hb2) h14 hbu
  obtain ⟨⟨L, wh, ps, er⟩, hM⟩ : ∃ M, makeM g k b = M := ⟨_, rfl⟩
  rw [hM] at HM ⊢
  clear hw2 hbP hx hM
  go_enter Try.func11, Try.ntmps11
  go_upto_region 1 with fail
  rw [HW2.out, HBP.out]
  go_upto_region 2 with (go_at_call 23; go_loud (refine HM.out.mono ?_; rintro e w3 ⟨A5, c5, ms, base, A4, c4, rfl, _, hms, HMX, hml, hmc, hown, hQ, hc4, hcm4, hb3⟩; simp only at hml hQ hc4))
  obtain ⟨w4, hw4⟩ : ∃ V, w3.alloc (.cells #[.slice A5 L.length c5, .bool wh] 33) = V := ⟨_, rfl⟩
  have hb4 : Below w3.heap.size w3 w4 := by rw [← hw4]; exact nw _ (Below.refl _ _)
  have hB4 : Blk w4 w3.heap.size 33 #[.slice A5 L.length c5, .bool wh] := by rw [← hw4]; exact Blk.new _ _ _
  rw [hw4]
  obtain ⟨bT, hbT⟩ : ∃ b, w3.heap.size = b := ⟨_, rfl⟩
  rw [hbT] at hB4 ⊢
  have t0 := hB4.cell 0
  have t1 := hB4.cell 1
  have tl := hB4.lt
  have hP4 := hP.below (bthen hb3 hb4) hP.lt
  have hown4 := own_below hown hb4
  have hms4 := hms.below hb4
  have hQ4 := hQ.below hb4
  have HB4 := Lib.hid (bthen hb2 (bthen hb3 hb4))
  have p0 := hP4.cell 0
  have p1 := hP4.cell 1
  have p2 := hP4.cell 2
  have p3 := hP4.cell 3
  have pf0 := hP4.frozen 0
  have pf1 := hP4.frozen 1
  have pf2 := hP4.frozen 2
  have pf3 := hP4.frozen 3
  have pl := hP4.lt
  simp at t0 t1 p0 p1 p2 p3
  have HP := Lib.hid hP4
  have HO := Lib.hid hown4
  have HMS := Lib.hid hms4
  have HQ := Lib.hid hQ4
  clear hw4 hbT hb3 hb4 hB4 hP hP4 hown hown4 hms hms4 hQ hQ4 hG HM
  go_wp2_with fail
  have hne := own_blk_ne HO.out HP.out (by decide)
  refine ret_cell (t := 37) (cs := #[.slice A5 L.length c5, .bool wh, .slice A4 ps.length c4, .int .i64 er]) (by have := (((HP.out.set_ 0 (.slice A5 L.length c5)).set_ 1 (.bool wh)).set_ 2 (.slice A4 ps.length c4)).set_ 3 (.int .i64 er); simpa using this) rfl rfl Try.underlying37 rfl (by kernel_rfl) rfl ?_
  have hO5 := own_set (own_set (own_set (own_set HO.out (a := ⟨bP, 0, none⟩) hne (.slice A5 L.length c5)) (a := ⟨bP, 1, none⟩) hne (.bool wh)) (a := ⟨bP, 2, none⟩) hne (.slice A4 ps.length c4)) (a := ⟨bP, 3, none⟩) hne (.int .i64 er)
  have hB1 := HP.out.set_ 0 (.slice A5 L.length c5)
  have hB2 := hB1.set_ 1 (.bool wh)
  have hB3 := hB2.set_ 2 (.slice A4 ps.length c4)
  have hM5 := (((HMS.out.set_ (p := ⟨bP, 0, none⟩) HP.out (by decide) (.slice A5 L.length c5)).set_ (p := ⟨bP, 1, none⟩) hB1 (by decide) (.bool wh)).set_ (p := ⟨bP, 2, none⟩) hB2 (by decide) (.slice A4 ps.length c4)).set_ (p := ⟨bP, 3, none⟩) hB3 (by decide) (.int .i64 er)
  have hQ5 := (((HQ.out.set_ (p := ⟨bP, 0, none⟩) HP.out (by decide) (.slice A5 L.length c5)).set_ (p := ⟨bP, 1, none⟩) hB1 (by decide) (.bool wh)).set_ (p := ⟨bP, 2, none⟩) hB2 (by decide) (.slice A4 ps.length c4)).set_ (p := ⟨bP, 3, none⟩) hB3 (by decide) (.int .i64 er)
  obtain ⟨A8, c8, he8, _, _, hs8⟩ := own_slr (R := RMc) hO5 (fun _ => rfl) (fun _ => rfl) rfl
  obtain ⟨rfl, rfl⟩ : A5 = A8 ∧ c5 = c8 := by injection he8 with h1 h2 h3; exact ⟨h1, h3⟩
  exact ⟨A5, c5, ms, base, A4, c4, rfl, hs8, hM5, HMX, hml, hmc, hO5, hQ5, hc4, hcm4, (((HB4.out.setCell (p := ⟨bP, 0, none⟩) hwP _).setCell (p := ⟨bP, 1, none⟩) hwP _).setCell (p := ⟨bP, 2, none⟩) hwP _).setCell (p := ⟨bP, 3, none⟩) hwP _⟩
end Go.Proofs.Ytpajajffkbkeaaa
