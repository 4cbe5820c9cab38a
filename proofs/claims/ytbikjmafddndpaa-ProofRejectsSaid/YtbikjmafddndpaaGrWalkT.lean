/-
  The walks of layer 16: spoilt.
-/
import Derived.Test.YtbikjmafddndpaaGrSpt
import Derived.Test.YtbikjmafddndpaaGrWalkQ
import Derived.Test.YtbikjmafddndpaaBase
import Derived.Deep.DeepCutAuto
namespace Go.Proofs.Ytbikjmafddndpaa
open Go Go.RowKit

theorem one_intv {xs : List Int} {u : Value} (hu : u ∈ xs.flatMap (fun s : Int => [Value.int .i64 s])) : u.oneCell' = true := by
  obtain ⟨y, _, hy⟩ := List.mem_flatMap.1 hu
  rw [List.mem_singleton.1 hy]
  rfl
theorem flat_same {ms : List MC} {i : Nat} {x y : MC} (h : ms[i]? = some x) (he : encMc y = encMc x) : (ms.set i y).flatMap encMc = ms.flatMap encMc := by
  induction ms generalizing i with
  | nil => rfl
  | cons a l ih =>
    cases i with
    | zero =>
      simp at h
      subst h
      rw [List.set_cons_zero, List.flatMap_cons, List.flatMap_cons, he]
    | succ i =>
      rw [List.set_cons_succ, List.flatMap_cons, List.flatMap_cons, ih (by simpa using h)]
/-- A page that spoilt has made: any candidates, at most one more, their links at most one longer. -/
def IsSp (n BB : Nat) (w : World) (r : Ending) (w' : World) : Prop := ∃ A c ms b, r = .returned (.agg #[.slice A (List.length ms) c, .bool b]) ∧ w'.ownsRow w.heap.size 43 2 (.slice A ms.length c) ms.length (ms.flatMap encMc) ∧ MsOK w' ms ∧ ms.length ≤ n + 1 ∧ (∀ m ∈ ms, m.x.links.length ≤ BB + 1) ∧ Below w.heap.size w w'
set_option maxRecDepth 100000 in
set_option maxHeartbeats 16000000 in
theorem spoilt_any (C : Option Addr) (l : List Can) (e : Nat) (whole : Bool) (xw xi xk xb : Int) (BB : Nat) (w : World) (hy : SlR 2 RCan w C l) (hl : l.length ≤ 100) (hBB : BB ≤ 1000) (hll : ∀ y ∈ l, y.links.length ≤ BB) (hw : 0 ≤ xw ∧ xw ≤ 255) (hxi : 0 ≤ xi ∧ xi ≤ 255) (hxk : 0 ≤ xk ∧ xk ≤ 255) (hxb : -128 ≤ xb ∧ xb ≤ 127) :
    Calls Try.prog 32 #[.agg #[.slice C l.length e, .bool whole], .agg #[.int .u8 xw, .int .u8 xi, .int .u8 xk, .int .i8 xb]] w (IsSp l.length BB w) := by
  obtain ⟨i0, hi, hz0, hz1, hz2⟩ := info_parts can_info
  obtain ⟨j0, hj1, hy0, hy1, hy2⟩ := info_parts int_inf2
  obtain ⟨w2, hw2⟩ : ∃ w2, (((w.alloc (.cells #[.slice C l.length e, .bool whole] 69)).alloc (.cells #[.int .u8 xw, .int .u8 xi, .int .u8 xk, .int .i8 xb] 64)).alloc (.cells #[.slice none 0 0, .bool false] 69)) = w2 := ⟨_, rfl⟩
  have hb2 : Below w.heap.size w w2 := by rw [← hw2]; exact nw _ (nw _ (nw _ (Below.refl _ _)))
  have hP : Blk w2 w.heap.size 69 #[.slice C l.length e, .bool whole] := by rw [← hw2]; exact ((Blk.new _ _ _).alloc _).alloc _
  have hX : Blk w2 (w.heap.size + 1) 64 #[.int .u8 xw, .int .u8 xi, .int .u8 xk, .int .i8 xb] := by rw [← hw2]; exact (Blk.new_ (by simp)).alloc _
  have hR : Blk w2 (w.heap.size + 2) 69 #[.slice none 0 0, .bool false] := by rw [← hw2]; exact Blk.new_ (by simp)
  have HW2 := Lib.hid hw2
  obtain ⟨bX, hbX⟩ : ∃ b, w.heap.size + 1 = b := ⟨_, rfl⟩
  obtain ⟨bP, hbP⟩ : ∃ b, bX + 1 = b := ⟨_, rfl⟩
  rw [hbX] at hX
  rw [show w.heap.size + 2 = bP by omega] at hR
  have HBX_ := Lib.hid hbX
  have HBP_ := Lib.hid hbP
  have hwP : w.heap.size ≤ bP := by omega
  have p0 := hP.cell 0
  have p1 := hP.cell 1
  simp at p0 p1
  clear hw2 hbX hbP
  go_enter Try.func32, Try.ntmps32
  go_upto_region 1 with fail
  rw [HW2.out, HBX_.out, HBP_.out]
  go_upto_region 2 with fail
  obtain ⟨w4, hw4⟩ : ∃ W, w2.alloc (.cells #[.slice none 0 0, .bool whole] 69) = W := ⟨_, rfl⟩
  have hb4 : Below w2.heap.size w2 w4 := by rw [← hw4]; exact nw _ (Below.refl _ _)
  have hO : Blk w4 w2.heap.size 69 #[.slice none 0 0, .bool whole] := by rw [← hw4]; exact Blk.new _ _ _
  have h4O : w4.heap.size ≤ w2.heap.size + 1 := by rw [← hw4]; simp
  rw [hw4]
  obtain ⟨bO, hbO⟩ : ∃ b, w2.heap.size = b := ⟨_, rfl⟩
  rw [hbO] at hO h4O ⊢
  have hwO : w2.heap.size ≤ bO := by omega
  have HC2 := Lib.hid (hy.below keeps_can hb2)
  have HBX : Hid (∀ W, Below w2.heap.size w2 W → W.cell? ⟨w.heap.size, 0, none⟩ = some (.slice C l.length e) ∧ W.cell? ⟨w.heap.size, 1, none⟩ = some (.bool whole) ∧ W.cell? ⟨bX, 0, none⟩ = some (.int .u8 xw) ∧ W.cell? ⟨bX, 1, none⟩ = some (.int .u8 xi) ∧ W.cell? ⟨bX, 2, none⟩ = some (.int .u8 xk) ∧ W.cell? ⟨bX, 3, none⟩ = some (.int .i8 xb) ∧ (w.heap.size < W.heap.size ∧ bX < W.heap.size) ∧ Blk W bP 69 #[.slice none 0 0, .bool false]) := fun W hW => by
    have h1 := hP.below hW hP.lt
    have h2 := hX.below hW hX.lt
    exact ⟨by rw [h1.cell]; rfl, by rw [h1.cell]; rfl, by rw [h2.cell]; rfl, by rw [h2.cell]; rfl, by rw [h2.cell]; rfl, by rw [h2.cell]; rfl, ⟨h1.lt, h2.lt⟩, hR.below hW hR.lt⟩
  have HB4 := Lib.hid hb4
  have HB2 := Lib.hid hb2
  have HLL := Lib.hid hll
  have hD24 : w2.heap.size ≤ w4.heap.size := hb4.size
  have hwPs : bP < w2.heap.size := hR.lt
  clear hw4 hbO hP hX hR p0 p1 hy hb4 hb2 hll
  go_wp2_with fail
  go_loopw [6] (fun i wr => ∃ (k : Nat) (v : Value) (ms : List MC), k ≤ l.length ∧ i = .int .i64 k ∧ Blk wr bO 69 #[v, .bool whole] ∧ wr.ownsRow w4.heap.size 43 2 v ms.length (ms.flatMap encMc) ∧ OwnL w4.heap.size wr ms ∧ Hid (ms.length = k) ∧ Hid (∀ m ∈ ms, m.x.links.length ≤ BB) ∧ Below w2.heap.size w2 wr) (fun i _ => l.length - (intOf i).toNat)
  case atStart => exact ⟨0, _, [], by omega, rfl, hO, ⟨rfl, .inl ⟨rfl, rfl⟩⟩, OwnL.nil, rfl, (by show ∀ m ∈ ([] : List MC), _; simp), HB4.out⟩
  case round =>
    obtain ⟨k, v, ms, hk, rfl, hO, hown, hol, HK, HXB, hb⟩ := hrel
    by_cases hlt : k < l.length
    · obtain ⟨b, off, cx, A', cc, rfl, hbb, hxc, d0, d1, hsx, hcx1, hcx2⟩ := HC2.out.can hlt
      have d0 := (hb.cell (p := ⟨b, off + k * 2, none⟩) hbb).trans d0
      have d1 := (hb.cell (p := ⟨b, off + k * 2 + 1, none⟩) hbb).trans d1
      have hsx := hsx.below keeps_int hb
      have hcl := HLL.out cx (List.mem_of_getElem? hxc)
      obtain ⟨p0, p1, _, _, _, _, ⟨pl, _⟩, _⟩ := HBX.out _ hb
      have hOl := hO.lt
      have o0 := hO.cell 0
      simp at o0
      have hlt' : (k : Int) < (l.length : Int) := by omega
      have hk0 : (0 : Int) ≤ (k : Int) := by omega
      have hmk : ms.length ≤ 100 := by have := HK.out; omega
      have hbl := own_block_le hown
      have hDr : w4.heap.size ≤ wr.heap.size := by have := hO.lt; omega
      have hneO : v.ownBlock ≠ some bO := own_blk_ne hown hO (by decide)
      have hneb : v.ownBlock ≠ some b := fun e => by have := hbl _ e; omega
      have hneP : v.ownBlock ≠ some w.heap.size := fun e => by have := hbl _ e; omega
      have hbb2 : b < wr.heap.size := Nat.lt_of_lt_of_le hbb hb.size
      have hlnil : ¬ l = [] := fun e => by rw [e] at hlt; exact absurd hlt (by simp)
      clear hxc
      go_upto_region 5 with fail
      refine ordV_start (ButOwn v wr) (fun _ => True) [20] [(0, some false), (1, some false), (3, some false), (4, some false), (5, some false), (6, some false), (7, some false), (8, some false), (10, some false), (11, some false), (12, some false), (13, some false), (14, some false), (15, some false), (2, some true), (9, some true), (16, none), (17, some true), (18, some true), (19, none), (20, some true)] (by kernel_rfl) (by kernel_rfl) (by kernel_rfl) (fun _ _ _ _ _ h => h) trivial ?_
      have HD : Below wr.heap.size wr wr.drew := (Below.refl _ _).drew
      obtain ⟨Wd, hWd⟩ : ∃ Wd, wr.drew = Wd := ⟨_, rfl⟩
      rw [hWd] at HD ⊢
      clear hWd
      have HS0 := ButOwn.of_below (v := v) HD
      iterate 14 (refine ordV_takeS (v := ?_) rfl rfl HS0 ?_ ?_; rotate_left 1; (focus (intro W hW; have hcW := hW.cell; (go_simp <;> (try with_reducible rfl)))); try simp only [Act.put, List.setIfInBounds_toArray, List.set_cons_zero, List.set_cons_succ])
      refine ordV_call rfl rfl (fun K hK => ?_)
      go_simp
      have HD2 := HD.alloc HD.size (.cells #[] 3)
      have HS1 := ButOwn.of_below (v := v) HD2
      refine hK.out _ _ trivial (fun _ _ => HS1) ?_
      clear hK K
      try simp only [Act.put, List.setIfInBounds_toArray, List.set_cons_zero, List.set_cons_succ]
      refine ordV_call rfl rfl (fun K hK => ?_)
      refine wp_appS (enc := (fun s : Int => [Value.int .i64 s])) (R := RInt) _ _ 36 rfl Wd.heap.size 3 j0 _ 1 8 Try.underlying36 hj1 hy0 hy1 hy2 rfl (by decide) (.slice (some ⟨Wd.heap.size, 0, none⟩) 0 0) _ _ rfl (own_empty Wd 3 1 Wd.heap.size (Nat.le_refl _)) A' cc cx.links rfl (hsx.below keeps_int HD2) (fun _ _ _ h => h) (fun _ => rfl) (fun u hu => one_intv hu) (by omega) (by decide) (by simp) ?_
      intro v9 W9 h91 h92 _
      have HB9 : Below wr.heap.size wr W9 := HD2.trans (h92.mono HD.size)
      have HS2 := ButOwn.of_below (v := v) HB9
      refine hK.out _ _ trivial (fun _ _ => HS2) ?_
      clear hK K
      have hnew : W9.ownsRow Wd.heap.size 3 1 v9 cx.links.length (cx.links.map (Value.int .i64)) := by rw [Nat.zero_add, List.nil_append, flatMap_one] at h91; exact h91
      obtain ⟨B9, d9, rfl, hd9, hdm9, _⟩ := own_ints hnew rfl
      try simp only [Act.put, List.setIfInBounds_toArray, List.set_cons_zero, List.set_cons_succ]
      (refine ordV_takeR (v := ?_) rfl rfl ?_ ?_; rotate_left 1; (focus (intro W hW; (go_simp <;> (try with_reducible rfl)))); try simp only [Act.put, List.setIfInBounds_toArray, List.set_cons_zero, List.set_cons_succ])
      refine ordV_call rfl rfl (fun K hK => ?_)
      go_simp
      have HB10 := HB9.alloc HB9.size (.cells #[.slice B9 cx.links.length d9, .int .i64 cx.cost] 43)
      have HS3 := ButOwn.of_below (v := v) HB10
      refine hK.out _ _ trivial (fun _ _ => HS3) ?_
      clear hK K
      try simp only [Act.put, List.setIfInBounds_toArray, List.set_cons_zero, List.set_cons_succ]
      refine ordV_call rfl rfl (fun K hK => ?_)
      have hownA := (own_below hown HB9).alloc (.cells #[.slice B9 cx.links.length d9, .int .i64 cx.cost] 43)
      have holA := (hol.below HB9).below (nw (.cells #[.slice B9 cx.links.length d9, .int .i64 cx.cost] 43) (Below.refl _ W9))
      have hOA := (hO.below HB9 hO.lt).alloc (.cells #[.slice B9 cx.links.length d9, .int .i64 cx.cost] 43)
      have hnewA := (own_le hnew (Nat.le_trans hDr HD.size)).alloc (.cells #[.slice B9 cx.links.length d9, .int .i64 cx.cost] 43)
      refine wp_appS (enc := encMc) (R := RMc) _ _ 32 rfl w4.heap.size 43 i0 _ 2 32 Try.underlying32 hi hz0 hz1 hz2 rfl (by decide) v _ _ rfl hownA (some ⟨W9.heap.size, 0, none⟩) 1 [(MC.mk B9 d9 (Can.mk cx.links cx.cost))] rfl (slr_blk (enc := encMc) (Blk.new_ rfl) (fun _ => rfl) (fun _ => rfl)) (fun _ _ _ h => h) (fun _ => rfl) (fun u hu => one_mc hu) (by simp; omega) (by decide) (Nat.le_trans hDr HB10.size) ?_
      intro v4 W12 hown4 hb4 ha4
      have HS4 := HS3.apps hb4.size ha4
      refine hK.out _ _ trivial (fun _ _ => HS4) ?_
      clear hK K
      have hown5 : W12.ownsRow w4.heap.size 43 2 v4 (ms ++ [(MC.mk B9 d9 (Can.mk cx.links cx.cost))]).length ((ms ++ [(MC.mk B9 d9 (Can.mk cx.links cx.cost))]).flatMap encMc) := by rw [List.length_append, List.flatMap_append]; exact hown4
      obtain ⟨A10, c10, rfl, hc10, hcm10, _⟩ := own_slr (R := RMc) hown5 (fun _ => rfl) (fun _ => rfl) rfl
      have hO4 := hOA.apps ha4 (own_blk_ne hownA hOA (by decide))
      have hol4 := holA.apps hownA (by decide) ha4
      have hnew4 := own_apps hnewA hownA (by decide) ha4
      have holN : OwnL w4.heap.size W12 (ms ++ [(MC.mk B9 d9 (Can.mk cx.links cx.cost))]) := hol4.snoc (m := (MC.mk B9 d9 (Can.mk cx.links cx.cost))) hnew4 (fun m' hm' b hb hb2 => own_lt (hol.own m' hm') (Nat.le_trans HD.size (own_block_le hnew b hb2)) hb)
      have s0 := hO4.cell 0
      have sf0 := hO4.frozen 0
      have sl := hO4.lt
      simp at s0
      try simp only [Act.put, List.setIfInBounds_toArray, List.set_cons_zero, List.set_cons_succ]
      (refine ordV_takeR (v := ?_) rfl rfl ?_ ?_; rotate_left 1; (focus (intro W hW; (go_simp <;> (try with_reducible rfl)))); try simp only [Act.put, List.setIfInBounds_toArray, List.set_cons_zero, List.set_cons_succ])
      refine ordV_call rfl rfl (fun K hK => ?_)
      go_simp
      refine hK.out _ _ trivial (fun _ h => by cases h) ?_
      clear hK K
      refine ordV_nil ?_
      have hlen1 : (ms ++ [(MC.mk B9 d9 (Can.mk cx.links cx.cost))]).length = ms.length + 1 := by simp
      rw [hlen1] at hown5
      have hne5 := own_blk_ne hown5 hO4 (by decide)
      have hown6 := own_set hown5 (a := ⟨bO, 0, none⟩) hne5 (.slice A10 (ms.length + 1) c10)
      have hO6 := hO4.set_ 0 (.slice A10 (ms.length + 1) c10)
      have hol6 := holN.set_ (p := ⟨bO, 0, none⟩) hO4 (by decide) (.slice A10 (ms.length + 1) c10)
      have hb6 : Below w2.heap.size w2 (W12.setCell ⟨bO, 0, none⟩ (.slice A10 (ms.length + 1) c10)) := ((bthen hb HB10).trans (hb4.mono hD24)).setCell (p := ⟨bO, 0, none⟩) hwO _
      obtain ⟨W13, hW13⟩ : ∃ V, W12.setCell ⟨bO, 0, none⟩ (.slice A10 (ms.length + 1) c10) = V := ⟨_, rfl⟩
      rw [hW13] at hown6 hO6 hol6 hb6 ⊢
      have HLN : Hid ((ms ++ [(MC.mk B9 d9 (Can.mk cx.links cx.cost))]).length = k + 1) := by show _ = _; rw [hlen1, HK.out]
      have HXL : Hid (∀ m ∈ ms ++ [(MC.mk B9 d9 (Can.mk cx.links cx.cost))], m.x.links.length ≤ BB) := fun m hm => (List.mem_append.1 hm).elim (HXB.out m) (fun h => by rw [List.mem_singleton.1 h]; exact hcl)
      clear hW13 hown5 hown4 hO4 hol4 holN hnew4 hnewA holA hownA hOA hne5 h91 h92 ha4 hb4 s0 sf0 sl HS0 HS1 HS2 HS3 HS4
      go_wp2_with fail
      go_roundw
      case rel => exact ⟨k + 1, .slice A10 (ms.length + 1) c10, ms ++ [(MC.mk B9 d9 (Can.mk cx.links cx.cost))], by omega, by go_num, by simpa using hO6, by rw [hlen1]; exact hown6, hol6, HLN.out, HXL.out, hb6⟩
      case measure => simp [intOf]; omega
    · obtain rfl : k = l.length := by omega
      obtain ⟨w5, rfl⟩ : ∃ V, V = wr := ⟨wr, rfl⟩
      obtain ⟨A9, c9, rfl, hc9, hcm9, _⟩ := own_slr (R := RMc) hown (fun _ => rfl) (fun _ => rfl) rfl
      have hnl : ms.length = l.length := HK.out
      have hn100 : ms.length ≤ 100 := by omega
      have o0 := hO.cell 0
      have o1 := hO.cell 1
      have of0 := hO.frozen 0
      have ol := hO.lt
      simp at o0 o1
      obtain ⟨q0, q1, v0, v1, v2, v3, ⟨ql, vl⟩, _⟩ := HBX.out _ hb
      have hwxi : IntKind.i64.wrap xi = xi := IntWalk.i64_in _ (by omega)
      have hwxk : IntKind.i64.wrap xk = xk := IntWalk.i64_in _ (by omega)
      have hwxb : IntKind.i64.wrap xb = xb := IntWalk.i64_in _ (by omega)
      clear hlt hnl
      by_cases hn : ms.length = 0
      · have hnb : ((ms.length : Int) == 0) = true := by simp [hn]
        have hn1 : (ms.length : Int) = 0 := by omega
        have hgx := hO.lt
        go_upto_region 9 with fail
        obtain ⟨b9, hb9_⟩ : ∃ b, w5.heap.size = b := ⟨_, rfl⟩
        try rw [hb9_]
        have hO8 := hO.set_ 0 (.slice (some ⟨b9 + 1, 0, none⟩) 1 1)
        have hb8 := hb.setCell (p := ⟨bO, 0, none⟩) hwO (.slice (some ⟨b9 + 1, 0, none⟩) 1 1)
        obtain ⟨w8, hw8⟩ : ∃ V, w5.setCell ⟨bO, 0, none⟩ (.slice (some ⟨b9 + 1, 0, none⟩) 1 1) = V := ⟨_, rfl⟩
        have hsz8 : w8.heap.size = b9 := by rw [← hw8, ← hb9_]; simp
        have hgx8 : bO < b9 := by omega
        rw [hw8] at hO8 hb8 ⊢
        have hbx : Below w8.heap.size w8 ((w8.alloc (.cells #[.int .i64 xb] 3)).alloc (.cells #[.slice (some ⟨b9, 0, none⟩) 1 1, .int .i64 xk] 43)) := nw _ (nw _ (Below.refl _ _))
        have hRow : Row ((w8.alloc (.cells #[.int .i64 xb] 3)).alloc (.cells #[.slice (some ⟨b9, 0, none⟩) 1 1, .int .i64 xk] 43)) w8.heap.size [xb] := (Row.new w8 [xb]).alloc _
        have hown9 : ((w8.alloc (.cells #[.int .i64 xb] 3)).alloc (.cells #[.slice (some ⟨b9, 0, none⟩) 1 1, .int .i64 xk] 43)).ownsRow w4.heap.size 43 2 (.slice (some ⟨w8.heap.size + 1, 0, none⟩) 1 1) 1 [.slice (some ⟨b9, 0, none⟩) 1 1, .int .i64 xk] := own_lit (w8.alloc (.cells #[.int .i64 xb] 3)) #[.slice (some ⟨b9, 0, none⟩) 1 1, .int .i64 xk] 43 2 1 w4.heap.size (w8.heap.size + 1) (by simp) (by simp; omega) rfl (by decide)
        have hO9 := hO8.below hbx hO8.lt
        have hb9 := bthen hb8 hbx
        rw [hsz8] at hRow hown9
        obtain ⟨wA, hwA⟩ : ∃ V, (w8.alloc (.cells #[.int .i64 xb] 3)).alloc (.cells #[.slice (some ⟨b9, 0, none⟩) 1 1, .int .i64 xk] 43) = V := ⟨_, rfl⟩
        rw [hwA] at hRow hown9 hO9 hb9 ⊢
        have hms9 : MsOK wA [(MC.mk (some ⟨b9, 0, none⟩) 1 (Can.mk [xb] xk))] := fun m hm => by rw [List.mem_singleton.1 hm]; exact ⟨hRow.slt, Nat.le_refl 1, (by decide : 1 ≤ maxLen)⟩
        clear hwA hw8 hbx hRow hO8 hb8 o0 o1 of0 ol q0 q1 v0 v1 v2 v3 ql vl hgx
        obtain ⟨hP0, hP1, hV0, hV1, hV2, hV3, ⟨hVq, hVl⟩, hR⟩ := HBX.out _ hb9
        have hOt := (show Blk wA bO 69 #[.slice (some ⟨b9 + 1, 0, none⟩) 1 1, .bool whole] by simpa using hO9)
        have o0 := hOt.cell 0
        have o1 := hOt.cell 1
        have ol := hOt.lt
        have p0 := hR.cell 0
        have p1 := hR.cell 1
        have pf0 := hR.frozen 0
        have pf1 := hR.frozen 1
        have pl := hR.lt
        simp at o0 o1 p0 p1
        have HRt := Lib.hid hR
        have HOWN := Lib.hid (show wA.ownsRow w4.heap.size 43 2 (.slice (some ⟨b9 + 1, 0, none⟩) 1 1) 1 ([(MC.mk (some ⟨b9, 0, none⟩) 1 (Can.mk [xb] xk))].flatMap encMc) from hown9)
        have HMSt := Lib.hid hms9
        have HBt := Lib.hid hb9
        have HLKt : Hid (∀ m ∈ [(MC.mk (some ⟨b9, 0, none⟩) 1 (Can.mk [xb] xk))], m.x.links.length ≤ BB + 1) := (fun m hm => by rw [List.mem_singleton.1 hm]; show 1 ≤ BB + 1; omega)
        clear hR hOt
        go_wp2_with fail
        refine ret_cell (t := 69) (cs := #[.slice (some ⟨b9 + 1, 0, none⟩) 1 1, .bool whole]) (by have := (HRt.out.set_ 0 (.slice (some ⟨b9 + 1, 0, none⟩) 1 1)).set_ 1 (.bool whole); simpa using this) rfl rfl Try.underlying69 rfl (by kernel_rfl) rfl ?_
        have hne := own_blk_ne HOWN.out HRt.out (by decide)
        have hO5 := own_set (own_set HOWN.out (a := ⟨bP, 0, none⟩) hne (.slice (some ⟨b9 + 1, 0, none⟩) 1 1)) (a := ⟨bP, 1, none⟩) hne (.bool whole)
        have hM5 := (HMSt.out.set_ (p := ⟨bP, 0, none⟩) HRt.out (by decide) (.slice (some ⟨b9 + 1, 0, none⟩) 1 1)).set_ (p := ⟨bP, 1, none⟩) (HRt.out.set_ 0 (.slice (some ⟨b9 + 1, 0, none⟩) 1 1)) (by decide) (.bool whole)
        have hE : Below w.heap.size w ((wA.setCell ⟨bP, 0, none⟩ (.slice (some ⟨b9 + 1, 0, none⟩) 1 1)).setCell ⟨bP, 1, none⟩ (.bool whole)) := ((bthen HB2.out HBt.out).setCell (p := ⟨bP, 0, none⟩) hwP _).setCell (p := ⟨bP, 1, none⟩) hwP _
        exact ⟨(some ⟨b9 + 1, 0, none⟩), 1, [(MC.mk (some ⟨b9, 0, none⟩) 1 (Can.mk [xb] xk))], whole, rfl, own_le hO5 (by have := HB2.out.size; omega), hM5, by show 1 ≤ l.length + 1; omega, HLKt.out, hE⟩
      · have hnb : ((ms.length : Int) == 0) = false := by simp; exact fun e => hn (by rw [e]; rfl)
        have hn0 : ¬ (ms.length : Int) = 0 := by omega
        have hnil : ¬ ms = [] := fun e => hn (by rw [e]; rfl)
        obtain ⟨i, hi_⟩ : ∃ q : Nat, xi % (ms.length : Int) = (q : Int) := ⟨(xi % (ms.length : Int)).toNat, by have := Int.emod_nonneg xi (show (ms.length : Int) ≠ 0 by omega); omega⟩
        have hil : i < ms.length := by have := Int.emod_lt_of_pos xi (show (0 : Int) < (ms.length : Int) by omega); omega
        have hit : xi.tmod (ms.length : Int) = (i : Int) := by rw [Int.tmod_eq_emod_of_nonneg hxi.1]; exact hi_
        have hiw : IntKind.i64.wrap (i : Int) = (i : Int) := IntWalk.i64_in _ (by omega)
        obtain ⟨kk, hk_⟩ : ∃ q : Nat, xk % (ms.length : Int) = (q : Int) := ⟨(xk % (ms.length : Int)).toNat, by have := Int.emod_nonneg xk (show (ms.length : Int) ≠ 0 by omega); omega⟩
        have hkl : kk < ms.length := by have := Int.emod_lt_of_pos xk (show (0 : Int) < (ms.length : Int) by omega); omega
        have hkt : xk.tmod (ms.length : Int) = (kk : Int) := by rw [Int.tmod_eq_emod_of_nonneg hxk.1]; exact hk_
        have hkw : IntKind.i64.wrap (kk : Int) = (kk : Int) := IntWalk.i64_in _ (by omega)
        have hiI : (i : Int) < (ms.length : Int) := by omega
        have hi00 : (0 : Int) ≤ (i : Int) := by omega
        have hkI : (kk : Int) < (ms.length : Int) := by omega
        have hk00 : (0 : Int) ≤ (kk : Int) := by omega
        obtain ⟨g, rfl⟩ := own_form hown (by omega)
        obtain ⟨A8, c8, he8, _, _, hs8⟩ := own_slr (R := RMc) hown (fun _ => rfl) (fun _ => rfl) rfl
        injection he8 with h1 _ h3
        subst h1 h3
        obtain ⟨g', og, m, hAe, hgl, hmm, x0, x1⟩ := hs8.mc hil
        obtain ⟨rfl, rfl⟩ : g = g' ∧ 0 = og := by simpa using hAe
        obtain ⟨g', og, mk, hAe2, _, hmk, y0, y1⟩ := hs8.mc hkl
        obtain ⟨rfl, rfl⟩ : g = g' ∧ 0 = og := by simpa using hAe2
        rw [Nat.zero_add] at x0 x1 y0 y1
        have hgO : g ≠ bO := fun e => own_blk_ne hown hO (by decide) (by rw [e]; rfl)
        have hgb4 : w4.heap.size ≤ g := own_block_le hown g rfl
        have hgb : w2.heap.size ≤ g := by omega
        have HM := Lib.hid hmm
        have HMK := Lib.hid hmk
        obtain ⟨Am, cm, ⟨lm, km⟩⟩ := m
        obtain ⟨Ak, ck, ⟨lk, kc⟩⟩ := mk
        simp only at x0 x1 y0 y1
        clear hi_ hk_ hs8 hAe hAe2 hmm hmk hn
        go_upto_region 13 with fail
        obtain ⟨w6, hw6⟩ : ∃ V, w5.alloc (.cells #[.slice Am lm.length cm, .int .i64 km] 43) = V := ⟨_, rfl⟩
        have hx6 : Below w5.heap.size w5 w6 := by rw [← hw6]; exact nw _ (Below.refl _ _)
        have hC : Blk w6 w5.heap.size 43 #[.slice Am lm.length cm, .int .i64 km] := by rw [← hw6]; exact Blk.new _ _ _
        rw [hw6]
        obtain ⟨bC, hbC⟩ : ∃ b, w5.heap.size = b := ⟨_, rfl⟩
        have hgC : g ≠ bC := by omega
        rw [hbC] at hC ⊢
        have hown := own_below hown hx6
        have hO := hO.below hx6 hO.lt
        have hol := hol.below hx6
        have hb6 := bthen hb hx6
        have x0 := ((bcell hx6).1 _ _ hgl).trans x0
        have x1 := ((bcell hx6).1 _ _ hgl).trans x1
        have y0 := ((bcell hx6).1 _ _ hgl).trans y0
        have y1 := ((bcell hx6).1 _ _ hgl).trans y1
        have hgl := Nat.lt_of_lt_of_le hgl hx6.size
        have xf0 := own_frz hown (i * 2)
        have xf1 := own_frz hown (i * 2 + 1)
        obtain ⟨cur, hGB⟩ : ∃ cs, Blk w6 g 43 cs := by
          rcases hown.2 with ⟨hv, _⟩ | ⟨g', cap, cur, hv, _, hh, _⟩
          · cases hv
          · injection hv with h1 _ _
            injection h1 with h1
            injection h1 with h1
            subst h1
            exact ⟨cur, hh⟩
        clear hw6 hx6 hbC hb o0 o1 of0 ol q0 q1 v0 v1 v2 v3 ql vl hit hkt hiw hkw hwxi
        obtain ⟨t, ht⟩ : ∃ q : Nat, xw % 8 = (q : Int) := ⟨(xw % 8).toNat, by omega⟩
        have ht8 : t < 8 := by omega
        have htt : xw.tmod 8 = (t : Int) := by rw [Int.tmod_eq_emod_of_nonneg hw.1]; exact ht
        clear ht
        have htc : t = 0 ∨ t = 1 ∨ t = 2 ∨ t = 3 ∨ t = 4 ∨ t = 5 ∨ t = 6 ∨ t = 7 := by omega
        rcases htc with rfl | rfl | rfl | rfl | rfl | rfl | rfl | rfl
        · have htt0 : xw.tmod 8 = 0 := by rw [htt]; rfl
          have htw0 : IntKind.u8.wrap 0 = 0 := by decide
          clear htt
          have o0 := hO.cell 0
          have o1 := hO.cell 1
          have of0 := hO.frozen 0
          have of1 := hO.frozen 1
          have ol := hO.lt
          have e0 := hC.cell 0
          have e1 := hC.cell 1
          have el := hC.lt
          simp at o0 o1 e0 e1
          obtain ⟨q0, q1, v0, v1, v2, v3, ⟨ql, vl⟩, _⟩ := HBX.out _ hb6
          go_upto_region 16 with fail
          refine ordV_start (Below w6.heap.size w6) (fun _ => True) [12] [(0, some false), (1, some false), (2, some false), (3, some false), (4, some false), (5, some false), (6, some false), (7, some false), (8, some false), (9, some false), (10, none), (11, some false), (12, some true)] (by kernel_rfl) (by kernel_rfl) (by kernel_rfl) (fun _ _ _ _ _ h => h) trivial ?_
          have hS0 : Below w6.heap.size w6 w6.drew := (Below.refl _ _).drew
          obtain ⟨W0, hWd⟩ : ∃ W0, w6.drew = W0 := ⟨_, rfl⟩
          rw [hWd] at hS0 ⊢
          clear hWd
          (refine ordV_takeS (v := ?_) rfl rfl hS0 ?_ ?_; rotate_left 1; (focus (intro W hW; obtain ⟨hcW, hfW⟩ := bcell hW; (go_simp <;> (try with_reducible rfl)))); try simp only [Act.put, List.setIfInBounds_toArray, List.set_cons_zero, List.set_cons_succ])
          (refine ordV_takeS (v := ?_) rfl rfl hS0 ?_ ?_; rotate_left 1; (focus (intro W hW; obtain ⟨hcW, hfW⟩ := bcell hW; (go_simp <;> (try with_reducible rfl)))); try simp only [Act.put, List.setIfInBounds_toArray, List.set_cons_zero, List.set_cons_succ])
          (refine ordV_takeS (v := ?_) rfl rfl hS0 ?_ ?_; rotate_left 1; (focus (intro W hW; obtain ⟨hcW, hfW⟩ := bcell hW; (go_simp <;> (try with_reducible rfl)))); try simp only [Act.put, List.setIfInBounds_toArray, List.set_cons_zero, List.set_cons_succ])
          (refine ordV_takeS (v := ?_) rfl rfl hS0 ?_ ?_; rotate_left 1; (focus (intro W hW; obtain ⟨hcW, hfW⟩ := bcell hW; (go_simp <;> (try with_reducible rfl)))); try simp only [Act.put, List.setIfInBounds_toArray, List.set_cons_zero, List.set_cons_succ])
          (refine ordV_takeS (v := ?_) rfl rfl hS0 ?_ ?_; rotate_left 1; (focus (intro W hW; obtain ⟨hcW, hfW⟩ := bcell hW; (go_simp <;> (try with_reducible rfl)))); try simp only [Act.put, List.setIfInBounds_toArray, List.set_cons_zero, List.set_cons_succ])
          (refine ordV_takeS (v := ?_) rfl rfl hS0 ?_ ?_; rotate_left 1; (focus (intro W hW; obtain ⟨hcW, hfW⟩ := bcell hW; (go_simp <;> (try with_reducible rfl)))); try simp only [Act.put, List.setIfInBounds_toArray, List.set_cons_zero, List.set_cons_succ])
          (refine ordV_takeS (v := ?_) rfl rfl hS0 ?_ ?_; rotate_left 1; (focus (intro W hW; obtain ⟨hcW, hfW⟩ := bcell hW; (go_simp <;> (try with_reducible rfl)))); try simp only [Act.put, List.setIfInBounds_toArray, List.set_cons_zero, List.set_cons_succ])
          (refine ordV_takeS (v := ?_) rfl rfl hS0 ?_ ?_; rotate_left 1; (focus (intro W hW; obtain ⟨hcW, hfW⟩ := bcell hW; (go_simp <;> (try with_reducible rfl)))); try simp only [Act.put, List.setIfInBounds_toArray, List.set_cons_zero, List.set_cons_succ])
          (refine ordV_takeS (v := ?_) rfl rfl hS0 ?_ ?_; rotate_left 1; (focus (intro W hW; obtain ⟨hcW, hfW⟩ := bcell hW; (go_simp <;> (try with_reducible rfl)))); try simp only [Act.put, List.setIfInBounds_toArray, List.set_cons_zero, List.set_cons_succ])
          (refine ordV_takeS (v := ?_) rfl rfl hS0 ?_ ?_; rotate_left 1; (focus (intro W hW; obtain ⟨hcW, hfW⟩ := bcell hW; (go_simp <;> (try with_reducible rfl)))); try simp only [Act.put, List.setIfInBounds_toArray, List.set_cons_zero, List.set_cons_succ])
          (refine ordV_takeR (v := ?_) rfl rfl ?_ ?_; rotate_left 1; (focus (intro W hW; (go_simp <;> (try with_reducible rfl)))); try simp only [Act.put, List.setIfInBounds_toArray, List.set_cons_zero, List.set_cons_succ])
          (refine ordV_takeS (v := ?_) rfl rfl hS0 ?_ ?_; rotate_left 1; (focus (intro W hW; obtain ⟨hcW, hfW⟩ := bcell hW; (go_simp <;> (try with_reducible rfl)))); try simp only [Act.put, List.setIfInBounds_toArray, List.set_cons_zero, List.set_cons_succ])
          refine ordV_call rfl rfl (fun K hK => ?_)
          obtain ⟨hcS, hfS⟩ := bcell hS0
          go_simp
          refine hK.out _ _ trivial (fun _ h => by cases h) ?_
          clear hK K
          refine ordV_nil ?_
          obtain ⟨z, hz⟩ : ∃ z, IntKind.i64.wrap (km + xb) = z := ⟨_, rfl⟩
          rw [hz]
          have hownA := own_setC (own_below hown hS0) HM.out z
          have hOA := (hO.below hS0 hO.lt).far (p := ⟨g, i * 2 + 1, none⟩) (fun e => hgO e.symm) (.int .i64 z)
          have hgB := hGB.below hS0 hGB.lt
          have hmsA := ((hol.ok.below hS0).setm i (y := ⟨Am, cm, ⟨lm, z⟩⟩) (show MOK W0 ⟨Am, cm, ⟨lm, z⟩⟩ from (hol.ok.below hS0) ⟨Am, cm, ⟨lm, km⟩⟩ (List.mem_of_getElem? HM.out))).set_ (p := ⟨g, i * 2 + 1, none⟩) hgB (by decide) (.int .i64 z)
          have hbA := (bthen hb6 hS0).setCell (p := ⟨g, i * 2 + 1, none⟩) hgb (.int .i64 z)
          obtain ⟨wA, hwA⟩ : ∃ V, W0.setCell ⟨g, i * 2 + 1, none⟩ (.int .i64 z) = V := ⟨_, rfl⟩
          rw [hwA] at hownA hOA hmsA hbA ⊢
          clear hwA hz hcS hfS hS0 hgB x0 x1 y0 y1 o0 o1 of0 of1 ol e0 e1 el q0 q1 v0 v1 v2 v3 ql vl
          obtain ⟨hP0, hP1, hV0, hV1, hV2, hV3, ⟨hVq, hVl⟩, hR⟩ := HBX.out _ hbA
          have hOt := hOA
          have o0 := hOt.cell 0
          have o1 := hOt.cell 1
          have ol := hOt.lt
          have p0 := hR.cell 0
          have p1 := hR.cell 1
          have pf0 := hR.frozen 0
          have pf1 := hR.frozen 1
          have pl := hR.lt
          simp at o0 o1 p0 p1
          have HRt := Lib.hid hR
          have HOWN := Lib.hid hownA
          have HMSt := Lib.hid hmsA
          have HBt := Lib.hid hbA
          have HLKt : Hid (∀ m ∈ (ms.set i ⟨Am, cm, ⟨lm, z⟩⟩), m.x.links.length ≤ BB + 1) := (fun m hm => (List.mem_or_eq_of_mem_set hm).elim (fun h1 => Nat.le_succ_of_le (HXB.out m h1)) (fun h1 => by rw [h1]; exact Nat.le_succ_of_le (HXB.out ⟨Am, cm, ⟨lm, km⟩⟩ (List.mem_of_getElem? HM.out))))
          clear hR hOt
          go_wp2_with fail
          refine ret_cell (t := 69) (cs := #[.slice (some ⟨g, 0, none⟩) ms.length c9, .bool whole]) (by have := (HRt.out.set_ 0 (.slice (some ⟨g, 0, none⟩) ms.length c9)).set_ 1 (.bool whole); simpa using this) rfl rfl Try.underlying69 rfl (by kernel_rfl) rfl ?_
          have hne := own_blk_ne HOWN.out HRt.out (by decide)
          have hO5 := own_set (own_set HOWN.out (a := ⟨bP, 0, none⟩) hne (.slice (some ⟨g, 0, none⟩) ms.length c9)) (a := ⟨bP, 1, none⟩) hne (.bool whole)
          have hM5 := (HMSt.out.set_ (p := ⟨bP, 0, none⟩) HRt.out (by decide) (.slice (some ⟨g, 0, none⟩) ms.length c9)).set_ (p := ⟨bP, 1, none⟩) (HRt.out.set_ 0 (.slice (some ⟨g, 0, none⟩) ms.length c9)) (by decide) (.bool whole)
          have hE : Below w.heap.size w ((wA.setCell ⟨bP, 0, none⟩ (.slice (some ⟨g, 0, none⟩) ms.length c9)).setCell ⟨bP, 1, none⟩ (.bool whole)) := ((bthen HB2.out HBt.out).setCell (p := ⟨bP, 0, none⟩) hwP _).setCell (p := ⟨bP, 1, none⟩) hwP _
          exact ⟨(some ⟨g, 0, none⟩), c9, (ms.set i ⟨Am, cm, ⟨lm, z⟩⟩), whole, by rw [← (by rw [List.length_set] : ms.length = ((ms.set i ⟨Am, cm, ⟨lm, z⟩⟩)).length)], by rw [← (by rw [List.length_set] : ms.length = ((ms.set i ⟨Am, cm, ⟨lm, z⟩⟩)).length)]; exact own_le hO5 (by have := HB2.out.size; omega), hM5, by rw [← (by rw [List.length_set] : ms.length = ((ms.set i ⟨Am, cm, ⟨lm, z⟩⟩)).length)]; have := HK.out; omega, HLKt.out, hE⟩
        · have htt1 : xw.tmod 8 = 1 := by rw [htt]; rfl
          have htw1 : IntKind.u8.wrap 1 = 1 := by decide
          clear htt
          obtain ⟨vm, hvm⟩ : ∃ v, Value.slice Am lm.length cm = v := ⟨_, rfl⟩
          have hlmB : lm.length ≤ BB := HXB.out (MC.mk Am cm (Can.mk lm km)) (List.mem_of_getElem? HM.out)
          have hlm1 : lm.length ≤ 1000 := Nat.le_trans hlmB hBB
          have howl : w6.ownsRow w4.heap.size 3 1 vm lm.length (lm.map (Value.int .i64)) := by rw [← hvm]; exact hol.own (MC.mk Am cm (Can.mk lm km)) (List.mem_of_getElem? HM.out)
          have o0 := hO.cell 0
          have o1 := hO.cell 1
          have of0 := hO.frozen 0
          have of1 := hO.frozen 1
          have ol := hO.lt
          have e0 := hC.cell 0
          have e1 := hC.cell 1
          have el := hC.lt
          simp at o0 o1 e0 e1
          obtain ⟨q0, q1, v0, v1, v2, v3, ⟨ql, vl⟩, _⟩ := HBX.out _ hb6
          rw [hvm] at e0 x0
          have hneO := own_blk_ne howl hO (by decide)
          have hneC := own_blk_ne howl hC (by decide)
          have hneX : vm.ownBlock ≠ some bX := fun e => by have := own_block_le howl _ e; have := HBP_.out; omega
          have HOWL := Lib.hid howl
          have HLM := Lib.hid hlmB
          clear howl hlmB
          go_upto_region 18 with fail
          refine ordV_start (ButOwn (vm) w6) (fun _ => True) [12] [(0, some false), (1, some false), (2, some false), (3, some false), (4, some false), (5, some false), (6, some false), (7, some false), (8, some true), (9, some true), (10, none), (11, none), (12, some true)] (by kernel_rfl) (by kernel_rfl) (by kernel_rfl) (fun _ _ _ _ _ h => h) trivial ?_
          have HD : RowKit.Below w6.heap.size w6 w6.drew := (Below.refl _ _).drew
          obtain ⟨Wd, hWd⟩ : ∃ Wd, w6.drew = Wd := ⟨_, rfl⟩
          rw [hWd] at HD ⊢
          clear hWd
          have HS0 := ButOwn.of_below (v := vm) HD
          iterate 8 (refine ordV_takeS (v := ?_) rfl rfl HS0 ?_ ?_; rotate_left 1; (focus (intro W hW; have hcW := hW.cell; (go_simp <;> (try with_reducible rfl)))); simp only [Act.put, List.setIfInBounds_toArray, List.set_cons_zero, List.set_cons_succ])
          refine ordV_call rfl rfl (fun K hK => ?_)
          go_simp
          have HD2 := HD.alloc HD.size (.cells #[.int .i64 xb] 3)
          have HS1 := ButOwn.of_below (v := vm) HD2
          refine hK.out _ _ trivial (fun _ _ => HS1) ?_
          clear hK K
          try simp only [Act.put, List.setIfInBounds_toArray, List.set_cons_zero, List.set_cons_succ]
          refine ordV_call rfl rfl (fun K hK => ?_)
          refine wp_appS (enc := (fun s : Int => [Value.int .i64 s])) (R := RInt) _ _ 36 rfl (w4.heap.size) 3 j0 _ 1 8 Try.underlying36 hj1 hy0 hy1 hy2 rfl (by decide) (vm) _ _ rfl ((own_below HOWL.out HD).alloc _) (some ⟨Wd.heap.size, 0, none⟩) 1 [xb] rfl (slr_blk (enc := (fun s : Int => [Value.int .i64 s])) (Blk.new_ rfl) (fun _ => rfl) (fun _ => rfl)) (fun _ _ _ h => h) (fun _ => rfl) (fun u hu => by exact one_intv hu) (by simp; omega) (by decide) (by have := HD2.size; omega) ?_
          intro v9 w9 hown9 hb99 ha9
          have HS2 := HS1.apps hb99.size ha9
          refine hK.out _ _ trivial (fun _ _ => HS2) ?_
          clear hK K
          have hown5 : w9.ownsRow w4.heap.size 3 1 v9 (lm ++ [xb]).length ((lm ++ [xb]).map (Value.int .i64)) := by rw [List.length_append, List.map_append]; exact hown9
          have hcA := ((own_below hown HD).alloc (.cells #[.int .i64 xb] 3))
          have hlA := ((own_below HOWL.out HD).alloc (.cells #[.int .i64 xb] 3))
          have hOA := ((hO.below HD hO.lt).alloc (.cells #[.int .i64 xb] 3))
          have hGA := ((hGB.below HD hGB.lt).alloc (.cells #[.int .i64 xb] 3))
          have hown6 := own_apps hcA hlA (by decide) ha9
          have hO9 := hOA.apps ha9 (own_blk_ne hlA hOA (by decide))
          have hG9 := hGA.apps ha9 (own_blk_ne hlA hGA (by decide))
          have hb9 := (bthen hb6 HD2).trans (hb99.mono hD24)
          have hOT : ∀ y : MC, MOK w9 y → MsOK w9 (ms.set i y) := fun y hy => (hol.below HD2).others HM.out (w' := w9) (y := y) (fun b hb hne => ha9.keep b hb (by rw [← hvm]; exact hne)) hy
          obtain ⟨A10, c10, rfl, hc10, hcm10, _⟩ := own_ints hown5 rfl
          have hmsA := hOT (MC.mk A10 c10 (Can.mk (lm ++ [xb]) km)) (mok_own (m := (MC.mk A10 c10 (Can.mk (lm ++ [xb]) km))) hown5)
          have x0 := (hG9.cell (i * 2)).trans ((hGB.cell (i * 2)).symm.trans x0)
          have xf0 := hG9.frozen (i * 2)
          have gl9 := hG9.lt
          try simp only [Act.put, List.setIfInBounds_toArray, List.set_cons_zero, List.set_cons_succ]
          iterate 2 (refine ordV_takeR (v := ?_) rfl rfl ?_ ?_; rotate_left 1; (focus (intro W hW; (go_simp <;> (try with_reducible rfl)))); simp only [Act.put, List.setIfInBounds_toArray, List.set_cons_zero, List.set_cons_succ])
          refine ordV_call rfl rfl (fun K hK => ?_)
          go_simp
          refine hK.out _ _ trivial (fun _ h => by cases h) ?_
          clear hK K
          refine ordV_nil ?_
          have hownA := own_setL hown6 HM.out A10 c10 (lm ++ [xb])
          have hOA := hO9.far (p := ⟨g, i * 2, none⟩) (fun e => hgO e.symm) (.slice A10 (lm ++ [xb]).length c10)
          have hmsA := hmsA.set_ (p := ⟨g, i * 2, none⟩) hG9 (by decide) (.slice A10 (lm ++ [xb]).length c10)
          have hbA := hb9.setCell (p := ⟨g, i * 2, none⟩) hgb (.slice A10 (lm ++ [xb]).length c10)
          obtain ⟨wA, hwA⟩ : ∃ V, w9.setCell ⟨g, i * 2, none⟩ (.slice A10 (lm ++ [xb]).length c10) = V := ⟨_, rfl⟩
          rw [hwA] at hownA hOA hmsA hbA
          rw [show (lm ++ [xb]).length = lm.length + 1 from List.length_append] at hwA
          rw [hwA]
          clear hwA hown5 hcA hlA hGA hown6 hO9 hG9 hb9 hOT gl9 hown9 hb99 ha9 HD HD2 HS0 HS1 HS2 hneO hneC hneX x0 x1 y0 y1 o0 o1 of0 of1 ol e0 e1 el q0 q1 v0 v1 v2 v3 ql vl
          obtain ⟨hP0, hP1, hV0, hV1, hV2, hV3, ⟨hVq, hVl⟩, hR⟩ := HBX.out _ hbA
          have hOt := hOA
          have o0 := hOt.cell 0
          have o1 := hOt.cell 1
          have ol := hOt.lt
          have p0 := hR.cell 0
          have p1 := hR.cell 1
          have pf0 := hR.frozen 0
          have pf1 := hR.frozen 1
          have pl := hR.lt
          simp at o0 o1 p0 p1
          have HRt := Lib.hid hR
          have HOWN := Lib.hid hownA
          have HMSt := Lib.hid hmsA
          have HBt := Lib.hid hbA
          have HLKt : Hid (∀ m ∈ (ms.set i (MC.mk A10 c10 (Can.mk (lm ++ [xb]) km))), m.x.links.length ≤ BB + 1) := (fun m hm => (List.mem_or_eq_of_mem_set hm).elim (fun h1 => Nat.le_succ_of_le (HXB.out m h1)) (fun h1 => by rw [h1]; show (lm ++ [xb]).length ≤ BB + 1; rw [List.length_append]; exact Nat.succ_le_succ HLM.out))
          clear hR hOt
          go_wp2_with fail
          refine ret_cell (t := 69) (cs := #[.slice (some ⟨g, 0, none⟩) ms.length c9, .bool whole]) (by have := (HRt.out.set_ 0 (.slice (some ⟨g, 0, none⟩) ms.length c9)).set_ 1 (.bool whole); simpa using this) rfl rfl Try.underlying69 rfl (by kernel_rfl) rfl ?_
          have hne := own_blk_ne HOWN.out HRt.out (by decide)
          have hO5 := own_set (own_set HOWN.out (a := ⟨bP, 0, none⟩) hne (.slice (some ⟨g, 0, none⟩) ms.length c9)) (a := ⟨bP, 1, none⟩) hne (.bool whole)
          have hM5 := (HMSt.out.set_ (p := ⟨bP, 0, none⟩) HRt.out (by decide) (.slice (some ⟨g, 0, none⟩) ms.length c9)).set_ (p := ⟨bP, 1, none⟩) (HRt.out.set_ 0 (.slice (some ⟨g, 0, none⟩) ms.length c9)) (by decide) (.bool whole)
          have hE : Below w.heap.size w ((wA.setCell ⟨bP, 0, none⟩ (.slice (some ⟨g, 0, none⟩) ms.length c9)).setCell ⟨bP, 1, none⟩ (.bool whole)) := ((bthen HB2.out HBt.out).setCell (p := ⟨bP, 0, none⟩) hwP _).setCell (p := ⟨bP, 1, none⟩) hwP _
          exact ⟨(some ⟨g, 0, none⟩), c9, (ms.set i (MC.mk A10 c10 (Can.mk (lm ++ [xb]) km))), whole, by rw [← (by rw [List.length_set] : ms.length = ((ms.set i (MC.mk A10 c10 (Can.mk (lm ++ [xb]) km)))).length)], by rw [← (by rw [List.length_set] : ms.length = ((ms.set i (MC.mk A10 c10 (Can.mk (lm ++ [xb]) km)))).length)]; exact own_le hO5 (by have := HB2.out.size; omega), hM5, by rw [← (by rw [List.length_set] : ms.length = ((ms.set i (MC.mk A10 c10 (Can.mk (lm ++ [xb]) km)))).length)]; have := HK.out; omega, HLKt.out, hE⟩
        · have htt2 : xw.tmod 8 = 2 := by rw [htt]; rfl
          have htw2 : IntKind.u8.wrap 2 = 2 := by decide
          clear htt
          have o0 := hO.cell 0
          have o1 := hO.cell 1
          have of0 := hO.frozen 0
          have of1 := hO.frozen 1
          have ol := hO.lt
          have e0 := hC.cell 0
          have e1 := hC.cell 1
          have el := hC.lt
          simp at o0 o1 e0 e1
          obtain ⟨q0, q1, v0, v1, v2, v3, ⟨ql, vl⟩, _⟩ := HBX.out _ hb6
          by_cases hlz : lm.length = 0
          · have hlmI : ¬ ((lm.length : Int) > 0) := by omega
            have hlm0 : ¬ ((0 : Int) < (lm.length : Int)) := by omega
            go_upto_region 31 with fail
            clear x0 x1 y0 y1 o0 o1 of0 of1 ol e0 e1 el q0 q1 v0 v1 v2 v3 ql vl
            obtain ⟨hP0, hP1, hV0, hV1, hV2, hV3, ⟨hVq, hVl⟩, hR⟩ := HBX.out _ hb6
            have hOt := hO
            have o0 := hOt.cell 0
            have o1 := hOt.cell 1
            have ol := hOt.lt
            have p0 := hR.cell 0
            have p1 := hR.cell 1
            have pf0 := hR.frozen 0
            have pf1 := hR.frozen 1
            have pl := hR.lt
            simp at o0 o1 p0 p1
            have HRt := Lib.hid hR
            have HOWN := Lib.hid hown
            have HMSt := Lib.hid hol.ok
            have HBt := Lib.hid hb6
            have HLKt : Hid (∀ m ∈ ms, m.x.links.length ≤ BB + 1) := (fun m hm => Nat.le_succ_of_le (HXB.out m hm))
            clear hR hOt
            go_wp2_with fail
            refine ret_cell (t := 69) (cs := #[.slice (some ⟨g, 0, none⟩) ms.length c9, .bool whole]) (by have := (HRt.out.set_ 0 (.slice (some ⟨g, 0, none⟩) ms.length c9)).set_ 1 (.bool whole); simpa using this) rfl rfl Try.underlying69 rfl (by kernel_rfl) rfl ?_
            have hne := own_blk_ne HOWN.out HRt.out (by decide)
            have hO5 := own_set (own_set HOWN.out (a := ⟨bP, 0, none⟩) hne (.slice (some ⟨g, 0, none⟩) ms.length c9)) (a := ⟨bP, 1, none⟩) hne (.bool whole)
            have hM5 := (HMSt.out.set_ (p := ⟨bP, 0, none⟩) HRt.out (by decide) (.slice (some ⟨g, 0, none⟩) ms.length c9)).set_ (p := ⟨bP, 1, none⟩) (HRt.out.set_ 0 (.slice (some ⟨g, 0, none⟩) ms.length c9)) (by decide) (.bool whole)
            have hE : Below w.heap.size w ((w6.setCell ⟨bP, 0, none⟩ (.slice (some ⟨g, 0, none⟩) ms.length c9)).setCell ⟨bP, 1, none⟩ (.bool whole)) := ((bthen HB2.out HBt.out).setCell (p := ⟨bP, 0, none⟩) hwP _).setCell (p := ⟨bP, 1, none⟩) hwP _
            exact ⟨(some ⟨g, 0, none⟩), c9, ms, whole, by rw [← (rfl : ms.length = (ms).length)], by rw [← (rfl : ms.length = (ms).length)]; exact own_le hO5 (by have := HB2.out.size; omega), hM5, by rw [← (rfl : ms.length = (ms).length)]; have := HK.out; omega, HLKt.out, hE⟩
          · have hlmI : ((lm.length : Int) > 0) := by omega
            have hl0 : ¬ (lm.length : Int) = 0 := by omega
            have hln0 : ¬ lm.length = 0 := by omega
            have hlnl : ¬ lm = [] := fun e => hln0 (by rw [e]; rfl)
            have howl := hol.own (MC.mk Am cm (Can.mk lm km)) (List.mem_of_getElem? HM.out)
            have hlmB : lm.length ≤ BB := HXB.out (MC.mk Am cm (Can.mk lm km)) (List.mem_of_getElem? HM.out)
            have hlm1 : lm.length ≤ 1000 := Nat.le_trans hlmB hBB
            obtain ⟨gl, hgl_⟩ : ∃ b, Am = some ⟨b, 0, none⟩ := own_form howl (by show 0 < lm.length; omega)
            subst hgl_
            obtain ⟨A', c', hAe, hlc, hlm_, hsl⟩ := own_ints howl rfl
            unfold lnk at hAe
            injection hAe with h1 _ h3
            subst h1 h3
            obtain ⟨q, hq_⟩ : ∃ q : Nat, xk % (lm.length : Int) = (q : Int) := ⟨(xk % (lm.length : Int)).toNat, by have := Int.emod_nonneg xk (show (lm.length : Int) ≠ 0 by omega); omega⟩
            have hql : q < lm.length := by have := Int.emod_lt_of_pos xk (show (0 : Int) < (lm.length : Int) by omega); omega
            have hqt : xk.tmod (lm.length : Int) = (q : Int) := by rw [Int.tmod_eq_emod_of_nonneg hxk.1]; exact hq_
            have hqw : IntKind.i64.wrap (q : Int) = (q : Int) := IntWalk.i64_in _ (by omega)
            have hqI : (q : Int) < (lm.length : Int) := by omega
            have hq00 : (0 : Int) ≤ (q : Int) := by omega
            obtain ⟨b', o', hAe, hglt, hcl⟩ := hsl (fun e => hln0 (by show lm.length = 0; rw [show lm = [] from e]; rfl))
            obtain ⟨rfl, rfl⟩ : gl = b' ∧ 0 = o' := by simpa using hAe
            obtain ⟨zq, hzq⟩ : ∃ z, lm[q]? = some z := ⟨_, List.getElem?_eq_getElem hql⟩
            have lq : w6.cell? ⟨gl, q, none⟩ = some (.int .i64 zq) := by obtain ⟨vs, hr, _, hv⟩ := hcl q zq hzq; have := hv 0 (.int .i64 zq) (by rw [hr]; rfl); simpa using this
            have hggl : gl ≠ g := fun e => own_blk_ne howl hGB (by decide) (by rw [← e]; rfl)
            have hglO : gl ≠ bO := fun e => own_blk_ne howl hO (by decide) (by rw [← e]; rfl)
            have hlf := own_frz howl q
            have hglb : w2.heap.size ≤ gl := by have := own_block_le howl gl rfl; omega
            obtain ⟨curl, hLB⟩ : ∃ cs, Blk w6 gl 3 cs := by
              rcases howl.2 with ⟨hv, _⟩ | ⟨g', cap, cur, hv, _, hh, _⟩
              · cases hv
              · injection hv with h1 _ _
                injection h1 with h1
                injection h1 with h1
                subst h1
                exact ⟨cur, hh⟩
            have HOWL := Lib.hid howl
            have HLM := Lib.hid hlmB
            clear howl hlmB hsl hcl hzq hq_ hAe hlc hlm_
            go_upto_region 21 with fail
            refine ordV_start (Below w6.heap.size w6) (fun _ => True) [16] [(0, some false), (1, some false), (2, some false), (3, some false), (4, some false), (5, some false), (6, some false), (7, some false), (8, some false), (9, some false), (10, some false), (11, some false), (12, some false), (13, some false), (14, some false), (15, some false), (16, some true)] (by kernel_rfl) (by kernel_rfl) (by kernel_rfl) (fun _ _ _ _ _ h => h) trivial ?_
            have hS0 : Below w6.heap.size w6 w6.drew := (Below.refl _ _).drew
            obtain ⟨W0, hWd⟩ : ∃ W0, w6.drew = W0 := ⟨_, rfl⟩
            rw [hWd] at hS0 ⊢
            clear hWd
            (refine ordV_takeS (v := ?_) rfl rfl hS0 ?_ ?_; rotate_left 1; (focus (intro W hW; obtain ⟨hcW, hfW⟩ := bcell hW; (go_simp <;> (try with_reducible rfl)))); try simp only [Act.put, List.setIfInBounds_toArray, List.set_cons_zero, List.set_cons_succ])
            (refine ordV_takeS (v := ?_) rfl rfl hS0 ?_ ?_; rotate_left 1; (focus (intro W hW; obtain ⟨hcW, hfW⟩ := bcell hW; (go_simp <;> (try with_reducible rfl)))); try simp only [Act.put, List.setIfInBounds_toArray, List.set_cons_zero, List.set_cons_succ])
            (refine ordV_takeS (v := ?_) rfl rfl hS0 ?_ ?_; rotate_left 1; (focus (intro W hW; obtain ⟨hcW, hfW⟩ := bcell hW; (go_simp <;> (try with_reducible rfl)))); try simp only [Act.put, List.setIfInBounds_toArray, List.set_cons_zero, List.set_cons_succ])
            (refine ordV_takeS (v := ?_) rfl rfl hS0 ?_ ?_; rotate_left 1; (focus (intro W hW; obtain ⟨hcW, hfW⟩ := bcell hW; (go_simp <;> (try with_reducible rfl)))); try simp only [Act.put, List.setIfInBounds_toArray, List.set_cons_zero, List.set_cons_succ])
            (refine ordV_takeS (v := ?_) rfl rfl hS0 ?_ ?_; rotate_left 1; (focus (intro W hW; obtain ⟨hcW, hfW⟩ := bcell hW; (go_simp <;> (try with_reducible rfl)))); try simp only [Act.put, List.setIfInBounds_toArray, List.set_cons_zero, List.set_cons_succ])
            (refine ordV_takeS (v := ?_) rfl rfl hS0 ?_ ?_; rotate_left 1; (focus (intro W hW; obtain ⟨hcW, hfW⟩ := bcell hW; (go_simp <;> (try with_reducible rfl)))); try simp only [Act.put, List.setIfInBounds_toArray, List.set_cons_zero, List.set_cons_succ])
            (refine ordV_takeS (v := ?_) rfl rfl hS0 ?_ ?_; rotate_left 1; (focus (intro W hW; obtain ⟨hcW, hfW⟩ := bcell hW; (go_simp <;> (try with_reducible rfl)))); try simp only [Act.put, List.setIfInBounds_toArray, List.set_cons_zero, List.set_cons_succ])
            (refine ordV_takeS (v := ?_) rfl rfl hS0 ?_ ?_; rotate_left 1; (focus (intro W hW; obtain ⟨hcW, hfW⟩ := bcell hW; (go_simp <;> (try with_reducible rfl)))); try simp only [Act.put, List.setIfInBounds_toArray, List.set_cons_zero, List.set_cons_succ])
            (refine ordV_takeS (v := ?_) rfl rfl hS0 ?_ ?_; rotate_left 1; (focus (intro W hW; obtain ⟨hcW, hfW⟩ := bcell hW; (go_simp <;> (try with_reducible rfl)))); try simp only [Act.put, List.setIfInBounds_toArray, List.set_cons_zero, List.set_cons_succ])
            (refine ordV_takeS (v := ?_) rfl rfl hS0 ?_ ?_; rotate_left 1; (focus (intro W hW; obtain ⟨hcW, hfW⟩ := bcell hW; (go_simp <;> (try with_reducible rfl)))); try simp only [Act.put, List.setIfInBounds_toArray, List.set_cons_zero, List.set_cons_succ])
            (refine ordV_takeS (v := ?_) rfl rfl hS0 ?_ ?_; rotate_left 1; (focus (intro W hW; obtain ⟨hcW, hfW⟩ := bcell hW; (go_simp <;> (try with_reducible rfl)))); try simp only [Act.put, List.setIfInBounds_toArray, List.set_cons_zero, List.set_cons_succ])
            (refine ordV_takeS (v := ?_) rfl rfl hS0 ?_ ?_; rotate_left 1; (focus (intro W hW; obtain ⟨hcW, hfW⟩ := bcell hW; (go_simp <;> (try with_reducible rfl)))); try simp only [Act.put, List.setIfInBounds_toArray, List.set_cons_zero, List.set_cons_succ])
            (refine ordV_takeS (v := ?_) rfl rfl hS0 ?_ ?_; rotate_left 1; (focus (intro W hW; obtain ⟨hcW, hfW⟩ := bcell hW; (go_simp <;> (try with_reducible rfl)))); try simp only [Act.put, List.setIfInBounds_toArray, List.set_cons_zero, List.set_cons_succ])
            (refine ordV_takeS (v := ?_) rfl rfl hS0 ?_ ?_; rotate_left 1; (focus (intro W hW; obtain ⟨hcW, hfW⟩ := bcell hW; (go_simp <;> (try with_reducible rfl)))); try simp only [Act.put, List.setIfInBounds_toArray, List.set_cons_zero, List.set_cons_succ])
            (refine ordV_takeS (v := ?_) rfl rfl hS0 ?_ ?_; rotate_left 1; (focus (intro W hW; obtain ⟨hcW, hfW⟩ := bcell hW; (go_simp <;> (try with_reducible rfl)))); try simp only [Act.put, List.setIfInBounds_toArray, List.set_cons_zero, List.set_cons_succ])
            (refine ordV_takeS (v := ?_) rfl rfl hS0 ?_ ?_; rotate_left 1; (focus (intro W hW; obtain ⟨hcW, hfW⟩ := bcell hW; (go_simp <;> (try with_reducible rfl)))); try simp only [Act.put, List.setIfInBounds_toArray, List.set_cons_zero, List.set_cons_succ])
            refine ordV_call rfl rfl (fun K hK => ?_)
            obtain ⟨hcS, hfS⟩ := bcell hS0
            go_simp
            refine hK.out _ _ trivial (fun _ h => by cases h) ?_
            clear hK K
            refine ordV_nil ?_
            obtain ⟨z, hz⟩ : ∃ z, IntKind.i64.wrap (zq + xb) = z := ⟨_, rfl⟩
            rw [hz]
            have hlA := ((own_below HOWL.out hS0).stored q (.int .i64 z)).1
            rw [← List.map_set] at hlA
            have hownA0 := own_set (own_below hown hS0) (a := ⟨gl, q, none⟩) (fun e => hggl (by injection e with e; exact e.symm)) (.int .i64 z)
            have hownA : (W0.setCell ⟨gl, q, none⟩ (.int .i64 z)).ownsRow w4.heap.size 43 2 (.slice (some ⟨g, 0, none⟩) ms.length c9) ms.length ((ms.set i (MC.mk (some ⟨gl, 0, none⟩) cm (Can.mk (lm.set q z) km))).flatMap encMc) := by rw [flat_same (x := (MC.mk (some ⟨gl, 0, none⟩) cm (Can.mk lm km))) HM.out (by show encMc _ = _; unfold encMc; simp)]; exact hownA0
            have hOA := (hO.below hS0 hO.lt).far (p := ⟨gl, q, none⟩) (fun e => hglO e.symm) (.int .i64 z)
            have hmsA : MsOK (W0.setCell ⟨gl, q, none⟩ (.int .i64 z)) (ms.set i (MC.mk (some ⟨gl, 0, none⟩) cm (Can.mk (lm.set q z) km))) := (hol.below hS0).others HM.out (fun b _ hne => Below.heap_setCell _ _ _ _ (fun e => hne (by rw [e]; rfl))) (mok_own (m := (MC.mk (some ⟨gl, 0, none⟩) cm (Can.mk (lm.set q z) km))) (by show World.ownsRow _ _ _ _ (.slice (some ⟨gl, 0, none⟩) (lm.set q z).length cm) (lm.set q z).length _; rw [List.length_set]; exact hlA))
            have hbA := (bthen hb6 hS0).setCell (p := ⟨gl, q, none⟩) hglb (.int .i64 z)
            obtain ⟨wA, hwA⟩ : ∃ V, W0.setCell ⟨gl, q, none⟩ (.int .i64 z) = V := ⟨_, rfl⟩
            rw [hwA] at hownA hOA hmsA hbA ⊢
            clear hwA hz hcS hfS hS0 hlA hownA0 lq hlf hLB x0 x1 y0 y1 o0 o1 of0 of1 ol e0 e1 el q0 q1 v0 v1 v2 v3 ql vl
            obtain ⟨hP0, hP1, hV0, hV1, hV2, hV3, ⟨hVq, hVl⟩, hR⟩ := HBX.out _ hbA
            have hOt := hOA
            have o0 := hOt.cell 0
            have o1 := hOt.cell 1
            have ol := hOt.lt
            have p0 := hR.cell 0
            have p1 := hR.cell 1
            have pf0 := hR.frozen 0
            have pf1 := hR.frozen 1
            have pl := hR.lt
            simp at o0 o1 p0 p1
            have HRt := Lib.hid hR
            have HOWN := Lib.hid hownA
            have HMSt := Lib.hid hmsA
            have HBt := Lib.hid hbA
            have HLKt : Hid (∀ m ∈ (ms.set i (MC.mk (some ⟨gl, 0, none⟩) cm (Can.mk (lm.set q z) km))), m.x.links.length ≤ BB + 1) := (fun m hm => (List.mem_or_eq_of_mem_set hm).elim (fun h1 => Nat.le_succ_of_le (HXB.out m h1)) (fun h1 => by rw [h1]; show (lm.set q z).length ≤ BB + 1; rw [List.length_set]; exact Nat.le_succ_of_le HLM.out))
            clear hR hOt
            go_wp2_with fail
            refine ret_cell (t := 69) (cs := #[.slice (some ⟨g, 0, none⟩) ms.length c9, .bool whole]) (by have := (HRt.out.set_ 0 (.slice (some ⟨g, 0, none⟩) ms.length c9)).set_ 1 (.bool whole); simpa using this) rfl rfl Try.underlying69 rfl (by kernel_rfl) rfl ?_
            have hne := own_blk_ne HOWN.out HRt.out (by decide)
            have hO5 := own_set (own_set HOWN.out (a := ⟨bP, 0, none⟩) hne (.slice (some ⟨g, 0, none⟩) ms.length c9)) (a := ⟨bP, 1, none⟩) hne (.bool whole)
            have hM5 := (HMSt.out.set_ (p := ⟨bP, 0, none⟩) HRt.out (by decide) (.slice (some ⟨g, 0, none⟩) ms.length c9)).set_ (p := ⟨bP, 1, none⟩) (HRt.out.set_ 0 (.slice (some ⟨g, 0, none⟩) ms.length c9)) (by decide) (.bool whole)
            have hE : Below w.heap.size w ((wA.setCell ⟨bP, 0, none⟩ (.slice (some ⟨g, 0, none⟩) ms.length c9)).setCell ⟨bP, 1, none⟩ (.bool whole)) := ((bthen HB2.out HBt.out).setCell (p := ⟨bP, 0, none⟩) hwP _).setCell (p := ⟨bP, 1, none⟩) hwP _
            exact ⟨(some ⟨g, 0, none⟩), c9, (ms.set i (MC.mk (some ⟨gl, 0, none⟩) cm (Can.mk (lm.set q z) km))), whole, by rw [← (by rw [List.length_set] : ms.length = ((ms.set i (MC.mk (some ⟨gl, 0, none⟩) cm (Can.mk (lm.set q z) km)))).length)], by rw [← (by rw [List.length_set] : ms.length = ((ms.set i (MC.mk (some ⟨gl, 0, none⟩) cm (Can.mk (lm.set q z) km)))).length)]; exact own_le hO5 (by have := HB2.out.size; omega), hM5, by rw [← (by rw [List.length_set] : ms.length = ((ms.set i (MC.mk (some ⟨gl, 0, none⟩) cm (Can.mk (lm.set q z) km)))).length)]; have := HK.out; omega, HLKt.out, hE⟩
        · have htt3 : xw.tmod 8 = 3 := by rw [htt]; rfl
          have htw3 : IntKind.u8.wrap 3 = 3 := by decide
          clear htt
          have o0 := hO.cell 0
          have o1 := hO.cell 1
          have of0 := hO.frozen 0
          have of1 := hO.frozen 1
          have ol := hO.lt
          have e0 := hC.cell 0
          have e1 := hC.cell 1
          have el := hC.lt
          simp at o0 o1 e0 e1
          obtain ⟨q0, q1, v0, v1, v2, v3, ⟨ql, vl⟩, _⟩ := HBX.out _ hb6
          have hneO : (Value.slice (some ⟨g, 0, none⟩) i c9).ownBlock ≠ some bO := fun e => hgO (by injection e)
          have hi1w : IntKind.i64.wrap ((i : Int) + 1) = ((i + 1 : Nat) : Int) := by rw [IntWalk.i64_in _ (by omega)]; omega
          have hi1l : ((i + 1 : Nat) : Int) ≤ (ms.length : Int) := by omega
          have hi10 : (0 : Int) ≤ ((i + 1 : Nat) : Int) := by omega
          have hi1l2 : (i : Int) + 1 ≤ (ms.length : Int) := by omega
          have hi102 : (0 : Int) ≤ (i : Int) + 1 := by omega
          have hic : (i : Int) ≤ (c9 : Int) := by omega
          have hil2 : i + 1 ≤ ms.length := by omega
          have hgB := hGB
          have hdl : (ms.drop (i + 1)).length = ms.length - (i + 1) := List.length_drop
          have HDL := Lib.hid hdl
          obtain ⟨A8, c8, he8, _, _, hs8⟩ := own_slr (R := RMc) hown (fun _ => rfl) (fun _ => rfl) rfl
          injection he8 with h1 _ h3
          subst h1 h3
          have HS8 := Lib.hid hs8
          have HEX : Hid (∃ A', (if c9 = i + 1 then some (Addr.mk g 0 none) else some (Addr.mk g ((i + 1) * 2) none)) = A' ∧ ∀ W, SlR 2 RMc W (some ⟨g, 0, none⟩) ms → SlR 2 RMc W A' (ms.drop (i + 1))) := by
            show ∃ _, _
            by_cases hct : c9 = i + 1
            · refine ⟨_, rfl, fun W _ => ?_⟩
              rw [List.drop_eq_nil_of_le (by omega)]
              exact SlR.nil
            · refine ⟨_, rfl, fun W hW => ?_⟩
              rw [if_neg hct]
              have := slr_dropS hW (i + 1)
              rwa [Nat.zero_add] at this
          obtain ⟨A', hA', hsA⟩ := HEX.out
          have HSA := Lib.hid hsA
          clear hdl hs8 hsA HEX hgB
          go_upto_region 23 with fail
          refine ordV_start (ButOwn (Value.slice (some ⟨g, 0, none⟩) i c9) w6) (fun _ => True) [11] [(0, some false), (1, some false), (2, some false), (3, some false), (4, some false), (5, some false), (6, some false), (7, some false), (8, some false), (9, some true), (10, none), (11, some true)] (by kernel_rfl) (by kernel_rfl) (by kernel_rfl) (fun _ _ _ _ _ h => h) trivial ?_
          have HD : Below w6.heap.size w6 w6.drew := (Below.refl _ _).drew
          obtain ⟨Wd, hWd⟩ : ∃ Wd, w6.drew = Wd := ⟨_, rfl⟩
          rw [hWd] at HD ⊢
          clear hWd
          have HS0 := ButOwn.of_below (v := (Value.slice (some ⟨g, 0, none⟩) i c9)) HD
          iterate 9 (refine ordV_takeS (v := ?_) rfl rfl HS0 ?_ ?_; rotate_left 1; (focus (intro W hW; have hcW := hW.cell; (go_simp <;> (try with_reducible rfl)))); try simp only [Act.put, List.setIfInBounds_toArray, List.set_cons_zero, List.set_cons_succ])
          refine ordV_call rfl rfl (fun K hK => ?_)
          have hcA := own_cut (own_below hown HD) (Nat.le_of_lt hil)
          rw [take_mc] at hcA
          have hszd := HD.size
          refine wp_appS (enc := encMc) (R := RMc) _ _ 32 rfl w4.heap.size 43 i0 _ 2 32 Try.underlying32 hi hz0 hz1 hz2 rfl (by decide) (Value.slice (some ⟨g, 0, none⟩) i c9) _ _ rfl hcA A' (c9 - (i + 1)) (ms.drop (i + 1)) (by rw [HDL.out]; rfl) (HSA.out _ (HS8.out.below keeps_mc HD)) (fun _ _ _ h => h) (fun _ => rfl) (fun u hu => one_mc hu) (by rw [HDL.out]; omega) (by decide) (by omega) ?_
          intro v9 w9 h91 h92 h93
          have hownP : w9.ownsRow w4.heap.size 43 2 v9 (ms.take i ++ ms.drop (i + 1)).length ((ms.take i ++ ms.drop (i + 1)).flatMap encMc) := by rw [List.length_append, List.length_take, Nat.min_eq_left (Nat.le_of_lt hil), List.flatMap_append]; exact h91
          have hOd := hO.below HD hO.lt
          have hOP := hOd.apps h93 (own_blk_ne hcA hOd (by decide))
          have hokP := (hol.ok.below HD).apps hcA (by decide) h93
          have hHSP := HS0.apps h92.size h93
          have hM3 : (ms.take i ++ ms.drop (i + 1)).length = ms.length - 1 := by rw [List.length_append, List.length_take, HDL.out]; omega
          have HSUB : Hid (∀ m ∈ (ms.take i ++ ms.drop (i + 1)), m ∈ ms) := fun m hm => (List.mem_append.1 hm).elim (fun h => List.mem_of_mem_take h) (fun h => List.mem_of_mem_drop h)
          have hokQ := hokP.sub HSUB.out
          obtain ⟨M3, hM3_⟩ : ∃ M, (ms.take i ++ ms.drop (i + 1)) = M := ⟨_, rfl⟩
          rw [hM3_] at hownP hokQ hM3 HSUB
          have HLN3 := Lib.hid hM3
          clear hM3
          obtain ⟨A10, c10, rfl, hc10, hcm10, _⟩ := own_slr (R := RMc) hownP (fun _ => rfl) (fun _ => rfl) rfl
          refine hK.out _ _ trivial (fun _ _ => hHSP) ?_
          clear hK K
          have o0 := hOP.cell 0
          have of0 := hOP.frozen 0
          have ol := hOP.lt
          simp at o0
          try simp only [Act.put, List.setIfInBounds_toArray, List.set_cons_zero, List.set_cons_succ]
          (refine ordV_takeR (v := ?_) rfl rfl ?_ ?_; rotate_left 1; (focus (intro W hW; (go_simp <;> (try with_reducible rfl)))); try simp only [Act.put, List.setIfInBounds_toArray, List.set_cons_zero, List.set_cons_succ])
          refine ordV_call rfl rfl (fun K hK => ?_)
          go_simp
          refine hK.out _ _ trivial (fun _ h => by cases h) ?_
          clear hK K
          refine ordV_nil ?_
          have hne2 := own_blk_ne hownP hOP (by decide)
          have hownA := own_set hownP (a := ⟨bO, 0, none⟩) hne2 (.slice A10 M3.length c10)
          have hOA := hOP.set_ 0 (.slice A10 M3.length c10)
          have hmsA := hokQ.set_ (p := ⟨bO, 0, none⟩) hOP (by decide) (.slice A10 M3.length c10)
          have hbA := ((bthen hb6 HD).trans (h92.mono hD24)).setCell (p := ⟨bO, 0, none⟩) hwO (.slice A10 M3.length c10)
          have HXB3 : Hid (∀ m ∈ M3, m.x.links.length ≤ BB + 1) := fun m hm => Nat.le_succ_of_le (HXB.out m (HSUB.out m hm))
          have hnl9 := HK.out
          obtain ⟨wA, hwA⟩ : ∃ V, w9.setCell ⟨bO, 0, none⟩ (.slice A10 M3.length c10) = V := ⟨_, rfl⟩
          rw [hwA] at hownA hOA hmsA hbA ⊢
          clear hwA hownP hOP hokP hokQ hne2 h91 h92 h93 hcA hOd hHSP HS0 HD hM3_ o0 of0 ol x0 x1 y0 y1 o1 of1 e0 e1 el q0 q1 v0 v1 v2 v3 ql vl
          obtain ⟨hP0, hP1, hV0, hV1, hV2, hV3, ⟨hVq, hVl⟩, hR⟩ := HBX.out _ hbA
          have hOt := (show Blk wA bO 69 #[.slice A10 M3.length c10, .bool whole] by simpa using hOA)
          have o0 := hOt.cell 0
          have o1 := hOt.cell 1
          have ol := hOt.lt
          have p0 := hR.cell 0
          have p1 := hR.cell 1
          have pf0 := hR.frozen 0
          have pf1 := hR.frozen 1
          have pl := hR.lt
          simp at o0 o1 p0 p1
          have HRt := Lib.hid hR
          have HOWN := Lib.hid hownA
          have HMSt := Lib.hid hmsA
          have HBt := Lib.hid hbA
          have HLKt : Hid (∀ m ∈ M3, m.x.links.length ≤ BB + 1) := HXB3.out
          clear hR hOt
          go_wp2_with fail
          refine ret_cell (t := 69) (cs := #[.slice A10 M3.length c10, .bool whole]) (by have := (HRt.out.set_ 0 (.slice A10 M3.length c10)).set_ 1 (.bool whole); simpa using this) rfl rfl Try.underlying69 rfl (by kernel_rfl) rfl ?_
          have hne := own_blk_ne HOWN.out HRt.out (by decide)
          have hO5 := own_set (own_set HOWN.out (a := ⟨bP, 0, none⟩) hne (.slice A10 M3.length c10)) (a := ⟨bP, 1, none⟩) hne (.bool whole)
          have hM5 := (HMSt.out.set_ (p := ⟨bP, 0, none⟩) HRt.out (by decide) (.slice A10 M3.length c10)).set_ (p := ⟨bP, 1, none⟩) (HRt.out.set_ 0 (.slice A10 M3.length c10)) (by decide) (.bool whole)
          have hE : Below w.heap.size w ((wA.setCell ⟨bP, 0, none⟩ (.slice A10 M3.length c10)).setCell ⟨bP, 1, none⟩ (.bool whole)) := ((bthen HB2.out HBt.out).setCell (p := ⟨bP, 0, none⟩) hwP _).setCell (p := ⟨bP, 1, none⟩) hwP _
          exact ⟨A10, c10, M3, whole, by rw [← (rfl : M3.length = (M3).length)], by rw [← (rfl : M3.length = (M3).length)]; exact own_le hO5 (by have := HB2.out.size; omega), hM5, by rw [← (rfl : M3.length = (M3).length)]; have := HK.out; have := HLN3.out; omega, HLKt.out, hE⟩
        · have htt4 : xw.tmod 8 = 4 := by rw [htt]; rfl
          have htw4 : IntKind.u8.wrap 4 = 4 := by decide
          clear htt
          have o0 := hO.cell 0
          have o1 := hO.cell 1
          have of0 := hO.frozen 0
          have of1 := hO.frozen 1
          have ol := hO.lt
          have e0 := hC.cell 0
          have e1 := hC.cell 1
          have el := hC.lt
          simp at o0 o1 e0 e1
          obtain ⟨q0, q1, v0, v1, v2, v3, ⟨ql, vl⟩, _⟩ := HBX.out _ hb6
          have yf0 := own_frz hown (kk * 2)
          have yf1 := own_frz hown (kk * 2 + 1)
          go_upto_region 25 with fail
          refine ordV_start (Below w6.heap.size w6) (fun _ => True) [9] [(0, some false), (1, some false), (2, some false), (3, some false), (4, some false), (5, some false), (6, some false), (7, some false), (8, some false), (9, some true)] (by kernel_rfl) (by kernel_rfl) (by kernel_rfl) (fun _ _ _ _ _ h => h) trivial ?_
          have hS0 : Below w6.heap.size w6 w6.drew := (Below.refl _ _).drew
          obtain ⟨W0, hWd⟩ : ∃ W0, w6.drew = W0 := ⟨_, rfl⟩
          rw [hWd] at hS0 ⊢
          clear hWd
          (refine ordV_takeS (v := ?_) rfl rfl hS0 ?_ ?_; rotate_left 1; (focus (intro W hW; obtain ⟨hcW, hfW⟩ := bcell hW; (go_simp <;> (try with_reducible rfl)))); try simp only [Act.put, List.setIfInBounds_toArray, List.set_cons_zero, List.set_cons_succ])
          (refine ordV_takeS (v := ?_) rfl rfl hS0 ?_ ?_; rotate_left 1; (focus (intro W hW; obtain ⟨hcW, hfW⟩ := bcell hW; (go_simp <;> (try with_reducible rfl)))); try simp only [Act.put, List.setIfInBounds_toArray, List.set_cons_zero, List.set_cons_succ])
          (refine ordV_takeS (v := ?_) rfl rfl hS0 ?_ ?_; rotate_left 1; (focus (intro W hW; obtain ⟨hcW, hfW⟩ := bcell hW; (go_simp <;> (try with_reducible rfl)))); try simp only [Act.put, List.setIfInBounds_toArray, List.set_cons_zero, List.set_cons_succ])
          (refine ordV_takeS (v := ?_) rfl rfl hS0 ?_ ?_; rotate_left 1; (focus (intro W hW; obtain ⟨hcW, hfW⟩ := bcell hW; (go_simp <;> (try with_reducible rfl)))); try simp only [Act.put, List.setIfInBounds_toArray, List.set_cons_zero, List.set_cons_succ])
          (refine ordV_takeS (v := ?_) rfl rfl hS0 ?_ ?_; rotate_left 1; (focus (intro W hW; obtain ⟨hcW, hfW⟩ := bcell hW; (go_simp <;> (try with_reducible rfl)))); try simp only [Act.put, List.setIfInBounds_toArray, List.set_cons_zero, List.set_cons_succ])
          (refine ordV_takeS (v := ?_) rfl rfl hS0 ?_ ?_; rotate_left 1; (focus (intro W hW; obtain ⟨hcW, hfW⟩ := bcell hW; (go_simp <;> (try with_reducible rfl)))); try simp only [Act.put, List.setIfInBounds_toArray, List.set_cons_zero, List.set_cons_succ])
          (refine ordV_takeS (v := ?_) rfl rfl hS0 ?_ ?_; rotate_left 1; (focus (intro W hW; obtain ⟨hcW, hfW⟩ := bcell hW; (go_simp <;> (try with_reducible rfl)))); try simp only [Act.put, List.setIfInBounds_toArray, List.set_cons_zero, List.set_cons_succ])
          (refine ordV_takeS (v := ?_) rfl rfl hS0 ?_ ?_; rotate_left 1; (focus (intro W hW; obtain ⟨hcW, hfW⟩ := bcell hW; (go_simp <;> (try with_reducible rfl)))); try simp only [Act.put, List.setIfInBounds_toArray, List.set_cons_zero, List.set_cons_succ])
          (refine ordV_takeS (v := ?_) rfl rfl hS0 ?_ ?_; rotate_left 1; (focus (intro W hW; obtain ⟨hcW, hfW⟩ := bcell hW; (go_simp <;> (try with_reducible rfl)))); try simp only [Act.put, List.setIfInBounds_toArray, List.set_cons_zero, List.set_cons_succ])
          refine ordV_call rfl rfl (fun K hK => ?_)
          obtain ⟨hcS, hfS⟩ := bcell hS0
          go_simp
          refine hK.out _ _ trivial (fun _ h => by cases h) ?_
          clear hK K
          refine ordV_nil ?_
          have hown7 := own_setM (own_below hown hS0) HM.out (MC.mk Ak ck (Can.mk lk kc))
          have hg0 := hGB.below hS0 hGB.lt
          have hg1 := hg0.set_ (i * 2) (.slice Ak lk.length ck)
          have hg2 := hg1.set_ (i * 2 + 1) (.int .i64 kc)
          have hO7 := ((hO.below hS0 hO.lt).far (p := ⟨g, i * 2, none⟩) (fun e => hgO e.symm) (.slice Ak lk.length ck)).far (p := ⟨g, i * 2 + 1, none⟩) (fun e => hgO e.symm) (.int .i64 kc)
          have hC7 := ((hC.below hS0 hC.lt).far (p := ⟨g, i * 2, none⟩) (fun e => hgC e.symm) (.slice Ak lk.length ck)).far (p := ⟨g, i * 2 + 1, none⟩) (fun e => hgC e.symm) (.int .i64 kc)
          have hms7 := (((hol.ok.below hS0).setm i (y := (MC.mk Ak ck (Can.mk lk kc))) ((hol.ok.below hS0) _ (List.mem_of_getElem? HMK.out))).set_ (p := ⟨g, i * 2, none⟩) hg0 (by decide) (.slice Ak lk.length ck)).set_ (p := ⟨g, i * 2 + 1, none⟩) hg1 (by decide) (.int .i64 kc)
          have hmm7 := ((hol.ok.below hS0).set_ (p := ⟨g, i * 2, none⟩) hg0 (by decide) (.slice Ak lk.length ck)).set_ (p := ⟨g, i * 2 + 1, none⟩) hg1 (by decide) (.int .i64 kc)
          have hb7 := ((bthen hb6 hS0).setCell (p := ⟨g, i * 2, none⟩) hgb (.slice Ak lk.length ck)).setCell (p := ⟨g, i * 2 + 1, none⟩) hgb (.int .i64 kc)
          obtain ⟨w7, hw7⟩ : ∃ V, (W0.setCell ⟨g, i * 2, none⟩ (.slice Ak lk.length ck)).setCell ⟨g, i * 2 + 1, none⟩ (.int .i64 kc) = V := ⟨_, rfl⟩
          rw [hw7] at hown7 hO7 hC7 hms7 hmm7 hb7 hg2 ⊢
          clear x0 x1 y0 y1
          obtain ⟨A8, c8, he8, _, _, hs8⟩ := own_slr (R := RMc) hown7 (fun _ => rfl) (fun _ => rfl) (by rw [List.length_set])
          injection he8 with h1 _ h3
          subst h1 h3
          obtain ⟨g', og, mx, hAe, _, hmx, y0, y1⟩ := hs8.mc (k := kk) (by rw [List.length_set]; exact hkl)
          obtain ⟨rfl, rfl⟩ : g = g' ∧ 0 = og := by simpa using hAe
          rw [Nat.zero_add] at y0 y1
          have hown8 := own_setM hown7 hmx (MC.mk Am cm (Can.mk lm km))
          have hg3 := hg2.set_ (kk * 2) (.slice Am lm.length cm)
          clear hw7 hcS hfS hS0 hown7 hg0 hg1 xf0 xf1 yf0 yf1 hb6 hown hol hO hC hGB hs8 hAe hmx o0 o1 of0 of1 ol e0 e1 el q0 q1 v0 v1 v2 v3 ql vl
          have o0 := hO7.cell 0
          have of0 := hO7.frozen 0
          have ol := hO7.lt
          have e0 := hC7.cell 0
          have e1 := hC7.cell 1
          have el := hC7.lt
          simp at o0 e0 e1
          obtain ⟨q0, q1, v0, v1, v2, v3, ⟨ql, vl⟩, _⟩ := HBX.out _ hb7
          have yf0 := hg2.frozen (kk * 2)
          have yf1 := hg2.frozen (kk * 2 + 1)
          have gl7 := hg2.lt
          go_upto_region 31 with fail
          have hOA := (hO7.far (p := ⟨g, kk * 2, none⟩) (fun e => hgO e.symm) (.slice Am lm.length cm)).far (p := ⟨g, kk * 2 + 1, none⟩) (fun e => hgO e.symm) (.int .i64 km)
          have hmsA := ((hms7.setm kk (y := (MC.mk Am cm (Can.mk lm km))) (hmm7 _ (List.mem_of_getElem? HM.out))).set_ (p := ⟨g, kk * 2, none⟩) hg2 (by decide) (.slice Am lm.length cm)).set_ (p := ⟨g, kk * 2 + 1, none⟩) hg3 (by decide) (.int .i64 km)
          have hbA := (hb7.setCell (p := ⟨g, kk * 2, none⟩) hgb (.slice Am lm.length cm)).setCell (p := ⟨g, kk * 2 + 1, none⟩) hgb (.int .i64 km)
          obtain ⟨wA, hwA⟩ : ∃ V, (w7.setCell ⟨g, kk * 2, none⟩ (.slice Am lm.length cm)).setCell ⟨g, kk * 2 + 1, none⟩ (.int .i64 km) = V := ⟨_, rfl⟩
          rw [hwA] at hown8 hOA hmsA hbA ⊢
          clear hwA hO7 hC7 hms7 hmm7 hb7 hg2 hg3 yf0 yf1 gl7 y0 y1 o0 of0 ol e0 e1 el q0 q1 v0 v1 v2 v3 ql vl
          obtain ⟨hP0, hP1, hV0, hV1, hV2, hV3, ⟨hVq, hVl⟩, hR⟩ := HBX.out _ hbA
          have hOt := hOA
          have o0 := hOt.cell 0
          have o1 := hOt.cell 1
          have ol := hOt.lt
          have p0 := hR.cell 0
          have p1 := hR.cell 1
          have pf0 := hR.frozen 0
          have pf1 := hR.frozen 1
          have pl := hR.lt
          simp at o0 o1 p0 p1
          have HRt := Lib.hid hR
          have HOWN := Lib.hid hown8
          have HMSt := Lib.hid hmsA
          have HBt := Lib.hid hbA
          have HLKt : Hid (∀ m ∈ ((ms.set i (MC.mk Ak ck (Can.mk lk kc))).set kk (MC.mk Am cm (Can.mk lm km))), m.x.links.length ≤ BB + 1) := (fun m hm => (List.mem_or_eq_of_mem_set hm).elim (fun h0 => (List.mem_or_eq_of_mem_set h0).elim (fun h1 => Nat.le_succ_of_le (HXB.out m h1)) (fun h1 => by rw [h1]; exact Nat.le_succ_of_le (HXB.out _ (List.mem_of_getElem? HMK.out)))) (fun h1 => by rw [h1]; exact Nat.le_succ_of_le (HXB.out _ (List.mem_of_getElem? HM.out))))
          clear hR hOt
          go_wp2_with fail
          refine ret_cell (t := 69) (cs := #[.slice (some ⟨g, 0, none⟩) ms.length c9, .bool whole]) (by have := (HRt.out.set_ 0 (.slice (some ⟨g, 0, none⟩) ms.length c9)).set_ 1 (.bool whole); simpa using this) rfl rfl Try.underlying69 rfl (by kernel_rfl) rfl ?_
          have hne := own_blk_ne HOWN.out HRt.out (by decide)
          have hO5 := own_set (own_set HOWN.out (a := ⟨bP, 0, none⟩) hne (.slice (some ⟨g, 0, none⟩) ms.length c9)) (a := ⟨bP, 1, none⟩) hne (.bool whole)
          have hM5 := (HMSt.out.set_ (p := ⟨bP, 0, none⟩) HRt.out (by decide) (.slice (some ⟨g, 0, none⟩) ms.length c9)).set_ (p := ⟨bP, 1, none⟩) (HRt.out.set_ 0 (.slice (some ⟨g, 0, none⟩) ms.length c9)) (by decide) (.bool whole)
          have hE : Below w.heap.size w ((wA.setCell ⟨bP, 0, none⟩ (.slice (some ⟨g, 0, none⟩) ms.length c9)).setCell ⟨bP, 1, none⟩ (.bool whole)) := ((bthen HB2.out HBt.out).setCell (p := ⟨bP, 0, none⟩) hwP _).setCell (p := ⟨bP, 1, none⟩) hwP _
          exact ⟨(some ⟨g, 0, none⟩), c9, ((ms.set i (MC.mk Ak ck (Can.mk lk kc))).set kk (MC.mk Am cm (Can.mk lm km))), whole, by rw [← (by rw [List.length_set, List.length_set] : ms.length = (((ms.set i (MC.mk Ak ck (Can.mk lk kc))).set kk (MC.mk Am cm (Can.mk lm km)))).length)], by rw [← (by rw [List.length_set, List.length_set] : ms.length = (((ms.set i (MC.mk Ak ck (Can.mk lk kc))).set kk (MC.mk Am cm (Can.mk lm km)))).length)]; exact own_le hO5 (by have := HB2.out.size; omega), hM5, by rw [← (by rw [List.length_set, List.length_set] : ms.length = (((ms.set i (MC.mk Ak ck (Can.mk lk kc))).set kk (MC.mk Am cm (Can.mk lm km)))).length)]; have := HK.out; omega, HLKt.out, hE⟩
        · have htt5 : xw.tmod 8 = 5 := by rw [htt]; rfl
          have htw5 : IntKind.u8.wrap 5 = 5 := by decide
          clear htt
          obtain ⟨wO, hwO⟩ : ∃ V, w6.alloc (.cells #[.slice Am lm.length cm, .int .i64 km] 43) = V := ⟨_, rfl⟩
          have hownO : wO.ownsRow w4.heap.size 43 2 (.slice (some ⟨g, 0, none⟩) ms.length c9) ms.length (ms.flatMap encMc) := by rw [← hwO]; exact hown.alloc _
          have hOO : Blk wO bO 69 #[.slice (some ⟨g, 0, none⟩) ms.length c9, .bool whole] := by rw [← hwO]; exact hO.alloc _
          have hx7 : Below w6.heap.size w6 wO := by rw [← hwO]; exact nw _ (Below.refl _ _)
          have hsO : SlR 2 RMc wO (some ⟨w6.heap.size, 0, none⟩) [(MC.mk Am cm (Can.mk lm km))] := by rw [← hwO]; exact slr_blk (enc := encMc) (Blk.new_ rfl) (fun _ => rfl) (fun _ => rfl)
          have hokO := hol.ok.below hx7
          have hneO := own_blk_ne hownO hOO (by decide)
          have hszO : w4.heap.size ≤ wO.heap.size := by have := hOO.lt; omega
          have HOWNO := Lib.hid hownO
          have HOO := Lib.hid hOO
          have HBO := Lib.hid (bthen hb6 hx7)
          have HSO := Lib.hid hsO
          have HWO := Lib.hid hwO
          have HOKO := Lib.hid hokO
          have o0 := hO.cell 0
          have o1 := hO.cell 1
          have of0 := hO.frozen 0
          have of1 := hO.frozen 1
          have ol := hO.lt
          have e0 := hC.cell 0
          have e1 := hC.cell 1
          have el := hC.lt
          simp at o0 o1 e0 e1
          obtain ⟨q0, q1, v0, v1, v2, v3, ⟨ql, vl⟩, _⟩ := HBX.out _ hb6
          clear hwO hownO hOO hsO hokO hx7
          go_upto_region 31 with (at_builtin; go_loud (rw [HWO.out]; refine wpList_appS (enc := encMc) (R := RMc) rfl _ _ 32 rfl w4.heap.size 43 i0 _ 2 32 Try.underlying32 hi hz0 hz1 hz2 rfl (by decide) (.slice (some ⟨g, 0, none⟩) ms.length c9) _ _ rfl HOWNO.out (some ⟨w6.heap.size, 0, none⟩) 1 [(MC.mk Am cm (Can.mk lm km))] rfl HSO.out (fun _ _ _ h => h) (fun _ => rfl) (fun u hu => one_mc hu) (by simp; omega) (by decide) hszO ?_; intro v9 w9 h91 h92 h93; have hownP : w9.ownsRow w4.heap.size 43 2 v9 (ms.length + 1) ((ms ++ [(MC.mk Am cm (Can.mk lm km))]).flatMap encMc) := (by rw [List.flatMap_append]; exact h91); obtain ⟨A10, c10, rfl, hc10, hcm10, _⟩ := own_slr (R := RMc) hownP (fun _ => rfl) (fun _ => rfl) (by simp); have hOP := HOO.out.apps h93 hneO; have hokP := HOKO.out.apps HOWNO.out (by decide) h93; have o0 := hOP.cell 0; have of0 := hOP.frozen 0; have o1 := hOP.cell 1; have ol := hOP.lt; simp at o0 o1; clear h91 h93))
          have hne2 := own_blk_ne hownP hOP (by decide)
          have hownA := own_set hownP (a := ⟨bO, 0, none⟩) hne2 (.slice A10 (ms.length + 1) c10)
          have hOA := hOP.set_ 0 (.slice A10 (ms.length + 1) c10)
          have hmsA := (hokP.app (ns := [(MC.mk Am cm (Can.mk lm km))]) (fun m hm => by rw [List.mem_singleton.1 hm]; exact hokP _ (List.mem_of_getElem? HM.out))).set_ (p := ⟨bO, 0, none⟩) hOP (by decide) (.slice A10 (ms.length + 1) c10)
          have hbA := (HBO.out.trans (h92.mono hD24)).setCell (p := ⟨bO, 0, none⟩) hwO (.slice A10 (ms.length + 1) c10)
          obtain ⟨wA, hwA⟩ : ∃ V, w9.setCell ⟨bO, 0, none⟩ (.slice A10 (ms.length + 1) c10) = V := ⟨_, rfl⟩
          rw [hwA] at hownA hOA hmsA hbA ⊢
          clear hwA hownP hOP hokP hne2 h92 x0 x1 y0 y1 o0 o1 of0 of1 ol e0 e1 el q0 q1 v0 v1 v2 v3 ql vl
          obtain ⟨hP0, hP1, hV0, hV1, hV2, hV3, ⟨hVq, hVl⟩, hR⟩ := HBX.out _ hbA
          have hOt := (show Blk wA bO 69 #[.slice A10 (ms.length + 1) c10, .bool whole] by simpa using hOA)
          have o0 := hOt.cell 0
          have o1 := hOt.cell 1
          have ol := hOt.lt
          have p0 := hR.cell 0
          have p1 := hR.cell 1
          have pf0 := hR.frozen 0
          have pf1 := hR.frozen 1
          have pl := hR.lt
          simp at o0 o1 p0 p1
          have HRt := Lib.hid hR
          have HOWN := Lib.hid hownA
          have HMSt := Lib.hid hmsA
          have HBt := Lib.hid hbA
          have HLKt : Hid (∀ m ∈ (ms ++ [(MC.mk Am cm (Can.mk lm km))]), m.x.links.length ≤ BB + 1) := (fun m hm => (List.mem_append.1 hm).elim (fun h => Nat.le_succ_of_le (HXB.out m h)) (fun h => by rw [List.mem_singleton.1 h]; exact Nat.le_succ_of_le (HXB.out _ (List.mem_of_getElem? HM.out))))
          clear hR hOt
          go_wp2_with fail
          refine ret_cell (t := 69) (cs := #[.slice A10 (ms.length + 1) c10, .bool whole]) (by have := (HRt.out.set_ 0 (.slice A10 (ms.length + 1) c10)).set_ 1 (.bool whole); simpa using this) rfl rfl Try.underlying69 rfl (by kernel_rfl) rfl ?_
          have hne := own_blk_ne HOWN.out HRt.out (by decide)
          have hO5 := own_set (own_set HOWN.out (a := ⟨bP, 0, none⟩) hne (.slice A10 (ms.length + 1) c10)) (a := ⟨bP, 1, none⟩) hne (.bool whole)
          have hM5 := (HMSt.out.set_ (p := ⟨bP, 0, none⟩) HRt.out (by decide) (.slice A10 (ms.length + 1) c10)).set_ (p := ⟨bP, 1, none⟩) (HRt.out.set_ 0 (.slice A10 (ms.length + 1) c10)) (by decide) (.bool whole)
          have hE : Below w.heap.size w ((wA.setCell ⟨bP, 0, none⟩ (.slice A10 (ms.length + 1) c10)).setCell ⟨bP, 1, none⟩ (.bool whole)) := ((bthen HB2.out HBt.out).setCell (p := ⟨bP, 0, none⟩) hwP _).setCell (p := ⟨bP, 1, none⟩) hwP _
          exact ⟨A10, c10, (ms ++ [(MC.mk Am cm (Can.mk lm km))]), whole, by rw [← (by simp : (ms.length + 1) = ((ms ++ [(MC.mk Am cm (Can.mk lm km))])).length)], by rw [← (by simp : (ms.length + 1) = ((ms ++ [(MC.mk Am cm (Can.mk lm km))])).length)]; exact own_le hO5 (by have := HB2.out.size; omega), hM5, by rw [← (by simp : (ms.length + 1) = ((ms ++ [(MC.mk Am cm (Can.mk lm km))])).length)]; have := HK.out; omega, HLKt.out, hE⟩
        · have htt6 : xw.tmod 8 = 6 := by rw [htt]; rfl
          have htw6 : IntKind.u8.wrap 6 = 6 := by decide
          clear htt
          have o0 := hO.cell 0
          have o1 := hO.cell 1
          have of0 := hO.frozen 0
          have of1 := hO.frozen 1
          have ol := hO.lt
          have e0 := hC.cell 0
          have e1 := hC.cell 1
          have el := hC.lt
          simp at o0 o1 e0 e1
          obtain ⟨q0, q1, v0, v1, v2, v3, ⟨ql, vl⟩, _⟩ := HBX.out _ hb6
          go_upto_region 31 with fail
          have hne0 := own_blk_ne hown hO (by decide)
          have hownA := own_set hown (a := ⟨bO, 1, none⟩) hne0 (.bool (!whole))
          have hOA := hO.set_ 1 (.bool (!whole))
          have hmsA := hol.ok.set_ (p := ⟨bO, 1, none⟩) hO (by decide) (.bool (!whole))
          have hbA := hb6.setCell (p := ⟨bO, 1, none⟩) hwO (.bool (!whole))
          obtain ⟨wA, hwA⟩ : ∃ V, w6.setCell ⟨bO, 1, none⟩ (.bool (!whole)) = V := ⟨_, rfl⟩
          rw [hwA] at hownA hOA hmsA hbA ⊢
          clear hwA hne0 o0 o1 of0 of1 ol e0 e1 el q0 q1 v0 v1 v2 v3 ql vl
          obtain ⟨hP0, hP1, hV0, hV1, hV2, hV3, ⟨hVq, hVl⟩, hR⟩ := HBX.out _ hbA
          have hOt := (show Blk wA bO 69 #[.slice (some ⟨g, 0, none⟩) ms.length c9, .bool (!whole)] by simpa using hOA)
          have o0 := hOt.cell 0
          have o1 := hOt.cell 1
          have ol := hOt.lt
          have p0 := hR.cell 0
          have p1 := hR.cell 1
          have pf0 := hR.frozen 0
          have pf1 := hR.frozen 1
          have pl := hR.lt
          simp at o0 o1 p0 p1
          have HRt := Lib.hid hR
          have HOWN := Lib.hid hownA
          have HMSt := Lib.hid hmsA
          have HBt := Lib.hid hbA
          have HLKt : Hid (∀ m ∈ ms, m.x.links.length ≤ BB + 1) := (fun m hm => Nat.le_succ_of_le (HXB.out m hm))
          clear hR hOt
          go_wp2_with fail
          refine ret_cell (t := 69) (cs := #[.slice (some ⟨g, 0, none⟩) ms.length c9, .bool (!whole)]) (by have := (HRt.out.set_ 0 (.slice (some ⟨g, 0, none⟩) ms.length c9)).set_ 1 (.bool (!whole)); simpa using this) rfl rfl Try.underlying69 rfl (by kernel_rfl) rfl ?_
          have hne := own_blk_ne HOWN.out HRt.out (by decide)
          have hO5 := own_set (own_set HOWN.out (a := ⟨bP, 0, none⟩) hne (.slice (some ⟨g, 0, none⟩) ms.length c9)) (a := ⟨bP, 1, none⟩) hne (.bool (!whole))
          have hM5 := (HMSt.out.set_ (p := ⟨bP, 0, none⟩) HRt.out (by decide) (.slice (some ⟨g, 0, none⟩) ms.length c9)).set_ (p := ⟨bP, 1, none⟩) (HRt.out.set_ 0 (.slice (some ⟨g, 0, none⟩) ms.length c9)) (by decide) (.bool (!whole))
          have hE : Below w.heap.size w ((wA.setCell ⟨bP, 0, none⟩ (.slice (some ⟨g, 0, none⟩) ms.length c9)).setCell ⟨bP, 1, none⟩ (.bool (!whole))) := ((bthen HB2.out HBt.out).setCell (p := ⟨bP, 0, none⟩) hwP _).setCell (p := ⟨bP, 1, none⟩) hwP _
          exact ⟨(some ⟨g, 0, none⟩), c9, ms, (!whole), by rw [← (rfl : ms.length = (ms).length)], by rw [← (rfl : ms.length = (ms).length)]; exact own_le hO5 (by have := HB2.out.size; omega), hM5, by rw [← (rfl : ms.length = (ms).length)]; have := HK.out; omega, HLKt.out, hE⟩
        · have htt7 : xw.tmod 8 = 7 := by rw [htt]; rfl
          have htw7 : IntKind.u8.wrap 7 = 7 := by decide
          clear htt
          have o0 := hO.cell 0
          have o1 := hO.cell 1
          have of0 := hO.frozen 0
          have of1 := hO.frozen 1
          have ol := hO.lt
          have e0 := hC.cell 0
          have e1 := hC.cell 1
          have el := hC.lt
          simp at o0 o1 e0 e1
          obtain ⟨q0, q1, v0, v1, v2, v3, ⟨ql, vl⟩, _⟩ := HBX.out _ hb6
          obtain ⟨h, hh_⟩ : ∃ q : Nat, lm.length / 2 = q := ⟨_, rfl⟩
          have hhl : h ≤ lm.length := by omega
          have hlmB := HXB.out (MC.mk Am cm (Can.mk lm km)) (List.mem_of_getElem? HM.out)
          have hlm1 : lm.length ≤ 1000 := Nat.le_trans hlmB hBB
          have hmok := hol.ok (MC.mk Am cm (Can.mk lm km)) (List.mem_of_getElem? HM.out)
          have hhc : h ≤ cm := Nat.le_trans hhl hmok.2.1
          have hht : ((lm.length : Int)).tdiv 2 = (h : Int) := by rw [Int.tdiv_eq_ediv_of_nonneg (by omega)]; omega
          have hhw : IntKind.i64.wrap (h : Int) = (h : Int) := IntWalk.i64_in _ (by omega)
          have hhI : (h : Int) ≤ (cm : Int) := by omega
          have htk : (lm.take h).length = h := by rw [List.length_take]; omega
          have HTK := Lib.hid htk
          have HMOK := Lib.hid hmok
          clear hh_ htk hmok hlmB
          go_upto_region 14 with fail
          refine ordV_start (Below w6.heap.size w6) (fun _ => True) [12] [(0, some false), (1, some false), (2, some false), (3, some false), (4, some false), (5, some false), (6, some false), (7, some false), (8, some false), (9, some false), (10, none), (11, some false), (12, some true)] (by kernel_rfl) (by kernel_rfl) (by kernel_rfl) (fun _ _ _ _ _ h => h) trivial ?_
          have hS0 : Below w6.heap.size w6 w6.drew := (Below.refl _ _).drew
          obtain ⟨W0, hWd⟩ : ∃ W0, w6.drew = W0 := ⟨_, rfl⟩
          rw [hWd] at hS0 ⊢
          clear hWd
          (refine ordV_takeS (v := ?_) rfl rfl hS0 ?_ ?_; rotate_left 1; (focus (intro W hW; obtain ⟨hcW, hfW⟩ := bcell hW; (go_simp <;> (try with_reducible rfl)))); try simp only [Act.put, List.setIfInBounds_toArray, List.set_cons_zero, List.set_cons_succ])
          (refine ordV_takeS (v := ?_) rfl rfl hS0 ?_ ?_; rotate_left 1; (focus (intro W hW; obtain ⟨hcW, hfW⟩ := bcell hW; (go_simp <;> (try with_reducible rfl)))); try simp only [Act.put, List.setIfInBounds_toArray, List.set_cons_zero, List.set_cons_succ])
          (refine ordV_takeS (v := ?_) rfl rfl hS0 ?_ ?_; rotate_left 1; (focus (intro W hW; obtain ⟨hcW, hfW⟩ := bcell hW; (go_simp <;> (try with_reducible rfl)))); try simp only [Act.put, List.setIfInBounds_toArray, List.set_cons_zero, List.set_cons_succ])
          (refine ordV_takeS (v := ?_) rfl rfl hS0 ?_ ?_; rotate_left 1; (focus (intro W hW; obtain ⟨hcW, hfW⟩ := bcell hW; (go_simp <;> (try with_reducible rfl)))); try simp only [Act.put, List.setIfInBounds_toArray, List.set_cons_zero, List.set_cons_succ])
          (refine ordV_takeS (v := ?_) rfl rfl hS0 ?_ ?_; rotate_left 1; (focus (intro W hW; obtain ⟨hcW, hfW⟩ := bcell hW; (go_simp <;> (try with_reducible rfl)))); try simp only [Act.put, List.setIfInBounds_toArray, List.set_cons_zero, List.set_cons_succ])
          (refine ordV_takeS (v := ?_) rfl rfl hS0 ?_ ?_; rotate_left 1; (focus (intro W hW; obtain ⟨hcW, hfW⟩ := bcell hW; (go_simp <;> (try with_reducible rfl)))); try simp only [Act.put, List.setIfInBounds_toArray, List.set_cons_zero, List.set_cons_succ])
          (refine ordV_takeS (v := ?_) rfl rfl hS0 ?_ ?_; rotate_left 1; (focus (intro W hW; obtain ⟨hcW, hfW⟩ := bcell hW; (go_simp <;> (try with_reducible rfl)))); try simp only [Act.put, List.setIfInBounds_toArray, List.set_cons_zero, List.set_cons_succ])
          (refine ordV_takeS (v := ?_) rfl rfl hS0 ?_ ?_; rotate_left 1; (focus (intro W hW; obtain ⟨hcW, hfW⟩ := bcell hW; (go_simp <;> (try with_reducible rfl)))); try simp only [Act.put, List.setIfInBounds_toArray, List.set_cons_zero, List.set_cons_succ])
          (refine ordV_takeS (v := ?_) rfl rfl hS0 ?_ ?_; rotate_left 1; (focus (intro W hW; obtain ⟨hcW, hfW⟩ := bcell hW; (go_simp <;> (try with_reducible rfl)))); try simp only [Act.put, List.setIfInBounds_toArray, List.set_cons_zero, List.set_cons_succ])
          (refine ordV_takeS (v := ?_) rfl rfl hS0 ?_ ?_; rotate_left 1; (focus (intro W hW; obtain ⟨hcW, hfW⟩ := bcell hW; (go_simp <;> (try with_reducible rfl)))); try simp only [Act.put, List.setIfInBounds_toArray, List.set_cons_zero, List.set_cons_succ])
          (refine ordV_takeR (v := ?_) rfl rfl ?_ ?_; rotate_left 1; (focus (intro W hW; (go_simp <;> (try with_reducible rfl)))); try simp only [Act.put, List.setIfInBounds_toArray, List.set_cons_zero, List.set_cons_succ])
          (refine ordV_takeS (v := ?_) rfl rfl hS0 ?_ ?_; rotate_left 1; (focus (intro W hW; obtain ⟨hcW, hfW⟩ := bcell hW; (go_simp <;> (try with_reducible rfl)))); try simp only [Act.put, List.setIfInBounds_toArray, List.set_cons_zero, List.set_cons_succ])
          refine ordV_call rfl rfl (fun K hK => ?_)
          obtain ⟨hcS, hfS⟩ := bcell hS0
          go_simp
          refine hK.out _ _ trivial (fun _ h => by cases h) ?_
          clear hK K
          refine ordV_nil ?_
          have hownA := own_setL (own_below hown hS0) HM.out Am cm (lm.take h)
          rw [HTK.out] at hownA
          have hOA := (hO.below hS0 hO.lt).far (p := ⟨g, i * 2, none⟩) (fun e => hgO e.symm) (.slice Am h cm)
          have hgB := hGB.below hS0 hGB.lt
          have hmsA := ((hol.ok.below hS0).setm i (y := ⟨Am, cm, ⟨lm.take h, km⟩⟩) ⟨(HMOK.out.1.below hS0).take h, by show (lm.take h).length ≤ cm; rw [HTK.out]; exact hhc, HMOK.out.2.2⟩).set_ (p := ⟨g, i * 2, none⟩) hgB (by decide) (.slice Am h cm)
          have hbA := (bthen hb6 hS0).setCell (p := ⟨g, i * 2, none⟩) hgb (.slice Am h cm)
          obtain ⟨wA, hwA⟩ : ∃ V, W0.setCell ⟨g, i * 2, none⟩ (.slice Am h cm) = V := ⟨_, rfl⟩
          rw [hwA] at hownA hOA hmsA hbA ⊢
          clear hwA hcS hfS hS0 hgB x0 x1 y0 y1 hht hhw o0 o1 of0 of1 ol e0 e1 el q0 q1 v0 v1 v2 v3 ql vl
          obtain ⟨hP0, hP1, hV0, hV1, hV2, hV3, ⟨hVq, hVl⟩, hR⟩ := HBX.out _ hbA
          have hOt := hOA
          have o0 := hOt.cell 0
          have o1 := hOt.cell 1
          have ol := hOt.lt
          have p0 := hR.cell 0
          have p1 := hR.cell 1
          have pf0 := hR.frozen 0
          have pf1 := hR.frozen 1
          have pl := hR.lt
          simp at o0 o1 p0 p1
          have HRt := Lib.hid hR
          have HOWN := Lib.hid hownA
          have HMSt := Lib.hid hmsA
          have HBt := Lib.hid hbA
          have HLKt : Hid (∀ m ∈ (ms.set i ⟨Am, cm, ⟨lm.take h, km⟩⟩), m.x.links.length ≤ BB + 1) := (fun m hm => (List.mem_or_eq_of_mem_set hm).elim (fun h1 => Nat.le_succ_of_le (HXB.out m h1)) (fun h1 => by rw [h1]; show (lm.take h).length ≤ BB + 1; rw [HTK.out]; have := HXB.out (MC.mk Am cm (Can.mk lm km)) (List.mem_of_getElem? HM.out); have h2 : lm.length ≤ BB := this; omega))
          clear hR hOt
          go_wp2_with fail
          refine ret_cell (t := 69) (cs := #[.slice (some ⟨g, 0, none⟩) ms.length c9, .bool whole]) (by have := (HRt.out.set_ 0 (.slice (some ⟨g, 0, none⟩) ms.length c9)).set_ 1 (.bool whole); simpa using this) rfl rfl Try.underlying69 rfl (by kernel_rfl) rfl ?_
          have hne := own_blk_ne HOWN.out HRt.out (by decide)
          have hO5 := own_set (own_set HOWN.out (a := ⟨bP, 0, none⟩) hne (.slice (some ⟨g, 0, none⟩) ms.length c9)) (a := ⟨bP, 1, none⟩) hne (.bool whole)
          have hM5 := (HMSt.out.set_ (p := ⟨bP, 0, none⟩) HRt.out (by decide) (.slice (some ⟨g, 0, none⟩) ms.length c9)).set_ (p := ⟨bP, 1, none⟩) (HRt.out.set_ 0 (.slice (some ⟨g, 0, none⟩) ms.length c9)) (by decide) (.bool whole)
          have hE : Below w.heap.size w ((wA.setCell ⟨bP, 0, none⟩ (.slice (some ⟨g, 0, none⟩) ms.length c9)).setCell ⟨bP, 1, none⟩ (.bool whole)) := ((bthen HB2.out HBt.out).setCell (p := ⟨bP, 0, none⟩) hwP _).setCell (p := ⟨bP, 1, none⟩) hwP _
          exact ⟨(some ⟨g, 0, none⟩), c9, (ms.set i ⟨Am, cm, ⟨lm.take h, km⟩⟩), whole, by rw [← (by rw [List.length_set] : ms.length = ((ms.set i ⟨Am, cm, ⟨lm.take h, km⟩⟩)).length)], by rw [← (by rw [List.length_set] : ms.length = ((ms.set i ⟨Am, cm, ⟨lm.take h, km⟩⟩)).length)]; exact own_le hO5 (by have := HB2.out.size; omega), hM5, by rw [← (by rw [List.length_set] : ms.length = ((ms.set i ⟨Am, cm, ⟨lm.take h, km⟩⟩)).length)]; have := HK.out; omega, HLKt.out, hE⟩
end Go.Proofs.Ytbikjmafddndpaa
