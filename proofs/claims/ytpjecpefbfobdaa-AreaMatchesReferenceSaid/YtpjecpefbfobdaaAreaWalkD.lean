/-
  The walks of layer 21: coordinates, costs of the reference, searches, comparisons.
-/
import Derived.Test.YtpjecpefbfobdaaAreaWalkC
import Derived.BigQuiet
namespace Go.Proofs.Ytpjecpefbfobdaa
open Go Go.RowKit

def SameTo {α : Type} (xs ys : List α) (k : Nat) : Prop := xs.take k = ys.take k
theorem SameTo.succ {α : Type} {xs ys : List α} {k : Nat} {x : α} (h : SameTo xs ys k) (hx : xs[k]? = some x) (hy : ys[k]? = some x) : SameTo xs ys (k + 1) := by
  unfold SameTo at *
  rw [take_succ_of hx, take_succ_of hy, h]
theorem SameTo.all {α : Type} {xs ys : List α} {k : Nat} (h : SameTo xs ys k) (hx : xs.length ≤ k) (hy : ys.length ≤ k) : xs = ys := by
  unfold SameTo at h
  rwa [List.take_of_length_le hx, List.take_of_length_le hy] at h
theorem ne_at {α : Type} {xs ys : List α} {k : Nat} {x y : α} (hx : xs[k]? = some x) (hy : ys[k]? = some y) (h : x ≠ y) : xs ≠ ys := fun e => by
  subst e; rw [hx] at hy; exact h (Option.some.inj hy)

theorem coordinates_any (A : Option Addr) (xs : List Int) (c : Nat) (w : World) (hx : SlR 1 RInt w A xs) (hl : xs.length ≤ 65536) :
    Calls Try.prog 31 #[.slice A xs.length c] w fun e w' => e = .returned (.bool (xs.all coordB)) ∧ w = w' := by
  go_enter Try.func31, Try.ntmps31
  go_wp2
  go_loop [7] (fun i => ∃ k : Nat, k ≤ xs.length ∧ Hid (xs.all coordB = (xs.drop k).all coordB) ∧ i = .int .i64 k) (fun i => xs.length - (intOf i).toNat)
  case atStart => exact ⟨0, by omega, rfl, rfl⟩
  case round =>
    obtain ⟨k, hk, HS, rfl⟩ := hrel
    by_cases hlt : k < xs.length
    · obtain ⟨b, off, x, rfl, hbb, hxx, hc⟩ := hx.int hlt
      have HD := Lib.hid (drop_of hxx)
      clear hxx
      by_cases h1 : x < 0
      · go_wp2
        go_ret
        exact ⟨ret_bool (by rw [HS.out, HD.out, List.all_cons, show coordB x = false by unfold coordB; simp; omega]; rfl), rfl⟩
      · by_cases h2 : 1000 < x
        · go_wp2
          go_ret
          exact ⟨ret_bool (by rw [HS.out, HD.out, List.all_cons, show coordB x = false by unfold coordB; simp; omega]; rfl), rfl⟩
        · go_wp2
          go_round
          case rel => exact ⟨k + 1, by omega, by show xs.all coordB = _; rw [HS.out, HD.out, List.all_cons, show coordB x = true by unfold coordB; simp; omega]; rfl, by go_num⟩
          case measure => simp [intOf]; omega
    · go_wp2
      go_ret
      exact ⟨ret_bool (by rw [HS.out, drop_end hlt]; rfl), rfl⟩

set_option maxHeartbeats 4000000 in
set_option maxRecDepth 100000 in
theorem refcost_any (a : Ar) (A : Option Addr) (ts : List Tp) (c : Nat) (p : Pt) (w : World) (hx : SlR 4 RTp w A ts) (hl : ts.length ≤ 65536) (hT : ∀ t ∈ ts, TpOK t) (ha : ArOK a) (hp : PtOK p) :
    Calls Try.prog 26 #[vAr a, .slice A ts.length c, vPt p] w fun e w' => e = .returned (.int .i64 (priceOf a (shiftOf ts a.key) p)) ∧ Below w.heap.size w w' := by
  obtain ⟨w2, hw2⟩ : ∃ w2, (w.alloc (.cells #[.int .u8 a.key, .int .i64 a.x0, .int .i64 a.y0, .int .i64 a.x1, .int .i64 a.y1] 57)).alloc (.cells #[.int .i64 p.x, .int .i64 p.y] 36) = w2 := ⟨_, rfl⟩
  have hbw2 : Below w.heap.size w w2 := by rw [← hw2]; exact nw _ (nw _ (Below.refl _ _))
  have HB0 : Hid (Blk w2 w.heap.size 57 #[.int .u8 a.key, .int .i64 a.x0, .int .i64 a.y0, .int .i64 a.x1, .int .i64 a.y1]) := by rw [← hw2]; exact (Blk.new _ _ _).alloc _
  have HB1 : Hid (Blk w2 (w.heap.size + 1) 36 #[.int .i64 p.x, .int .i64 p.y]) := by rw [← hw2]; exact Blk.new_ (by simp)
  have hsz2 : w2.heap.size = w.heap.size + 1 + 1 := by rw [← hw2]; simp
  have HC := Lib.hid (refshift_any A ts c a.key w2 (hx.below keeps_tp hbw2) hl hT)
  have HW2 := Lib.hid hw2
  have hs := shift_small (k := a.key) hT
  clear hw2 hT hx
  generalize shiftOf ts a.key = s at *
  obtain ⟨h1, h2, h3, h4⟩ := ha
  obtain ⟨s1, s2⟩ := hs
  obtain ⟨p1, p2⟩ := hp
  unfold Small at s1 s2 p1 p2
  have bx := bey_bd (v := p.x - s.x) (by omega) h1 h3
  have by_ := bey_bd (v := p.y - s.y) (by omega) h2 h4
  unfold Small at h1 h2 h3 h4
  unfold priceOf
  obtain ⟨dx, hdx⟩ : ∃ d, bey (p.x - s.x) a.x0 a.x1 = d := ⟨_, rfl⟩
  obtain ⟨dy, hdy⟩ : ∃ d, bey (p.y - s.y) a.y0 a.y1 = d := ⟨_, rfl⟩
  rw [hdx] at bx
  rw [hdy] at by_
  rw [hdx, hdy]
  have HX := Lib.hid hdx
  have HY := Lib.hid hdy
  clear hdx hdy
  have sx := sq_bd bx.1 bx.2
  have sy := sq_bd by_.1 by_.2
  have hwx : IntKind.i64.wrap (p.x - s.x) = p.x - s.x := IntWalk.i64_in _ (by omega)
  have hwy : IntKind.i64.wrap (p.y - s.y) = p.y - s.y := IntWalk.i64_in _ (by omega)
  go_enter Try.func26, Try.ntmps26
  go_wp2_with (go_at_call 22; go_loud (rw [HW2.out]); refine HC.out.mono ?_; rintro e w3 ⟨rfl, hb3⟩; have hs3 := hb3.size)
  obtain ⟨W1, hW1⟩ : ∃ W1, w3.alloc (.cells #[.int .i64 s.x, .int .i64 s.y] 36) = W1 := ⟨_, rfl⟩
  have hbW : Below w2.heap.size w2 W1 := by rw [← hW1]; exact nw _ hb3
  have x0 := (HB0.out.below hbW (by omega))
  have x1 := (HB1.out.below hbW (by omega))
  have x2 : Blk W1 w3.heap.size 36 #[.int .i64 s.x, .int .i64 s.y] := by rw [← hW1]; exact Blk.new _ _ _
  have c00 := x0.cell 0
  have c01 := x0.cell 1
  have c02 := x0.cell 2
  have c03 := x0.cell 3
  have c04 := x0.cell 4
  have c10 := x1.cell 0
  have c11 := x1.cell 1
  have c20 := x2.cell 0
  have c21 := x2.cell 1
  have l0 := x0.lt
  have l1 := x1.lt
  have l2 := x2.lt
  simp at c00 c01 c02 c03 c04 c10 c11 c20 c21
  rw [hW1]
  have HbW := Lib.hid (hbw2.trans (hbW.mono hbw2.size))
  clear hW1 x0 x1 x2 hb3 hs3 hbW hbw2 hsz2
  refine ord_below [(0, false), (1, false), (2, false), (3, false), (4, false), (5, false), (6, false), (7, false), (8, false), (10, false), (11, false), (12, false), (13, false), (14, false), (15, false), (16, false), (17, false), (18, false), (9, true), (19, true), (20, false), (21, false)] (by kernel_rfl) (by kernel_rfl) (by kernel_rfl) (fun _ _ _ _ _ h => h) ?_
  intro W0 hS0
  iterate 18 (first
    | (refine ord_skip rfl rfl ?_; simp only [Act.put, List.setIfInBounds_toArray, List.set_cons_zero, List.set_cons_succ])
    | (refine ord_take (v := ?_) rfl rfl ?_ ?_
       rotate_left 1
       focus (intro W hW; obtain ⟨hcW, hfW⟩ := bcell hW; (go_simp <;> with_reducible rfl))
       simp only [Act.put, List.setIfInBounds_toArray, List.set_cons_zero, List.set_cons_succ]))
  refine ord_call rfl rfl (fun K hK => ?_)
  go_simp
  (go_at_call 53; refine (away_any _ _ _ _ (by omega) (by unfold Small; omega) (by unfold Small; omega)).mono ?_; rintro e w' ⟨rfl, rfl⟩; refine hK.out _ _ hS0 (fun hS0 => ?_))
  skip
  refine ord_call rfl rfl (fun K hK => ?_)
  go_simp
  (go_at_call 53; refine (away_any _ _ _ _ (by omega) (by unfold Small; omega) (by unfold Small; omega)).mono ?_; rintro e w' ⟨rfl, rfl⟩; refine hK.out _ _ hS0 (fun hS0 => ?_))
  skip
  iterate 2 (first
    | (refine ord_skip rfl rfl ?_; simp only [Act.put, List.setIfInBounds_toArray, List.set_cons_zero, List.set_cons_succ])
    | (refine ord_take (v := ?_) rfl rfl ?_ ?_
       rotate_left 1
       focus (intro W hW; obtain ⟨hcW, hfW⟩ := bcell hW; (go_simp <;> with_reducible rfl))
       simp only [Act.put, List.setIfInBounds_toArray, List.set_cons_zero, List.set_cons_succ]))
  refine ord_nil ?_
  simp only [HX.out, HY.out]
  go_wp2_with fail
  go_ret
  exact ⟨rfl, HbW.out.trans (hS0.mono HbW.out.size)⟩

set_option maxHeartbeats 4000000 in
set_option maxRecDepth 100000 in
theorem sameSlot_any (A B : Option Addr) (xs ys : List Cho) (c d : Nat) (w : World) (hx : SlR 2 RCho w A xs) (hy : SlR 2 RCho w B ys) (hl : xs.length ≤ 65536) :
    Calls Try.prog 19 #[.slice A xs.length c, .slice B ys.length d] w fun e w' => e = .returned (.bool (decide (xs = ys))) ∧ Below w.heap.size w w' := by
  by_cases hlen : xs.length = ys.length
  · have HL := Lib.hid hlen
    rw [← hlen]
    clear hlen
    go_enter Try.func19, Try.ntmps19
    go_wp2
    go_loopw [5] (fun i wr => ∃ k : Nat, k ≤ xs.length ∧ Hid (SameTo xs ys k) ∧ i = .int .i64 k ∧ Below w.heap.size w wr) (fun i _ => xs.length - (intOf i).toNat)
    case atStart => exact ⟨0, by omega, rfl, rfl, Below.refl _ _⟩
    case round =>
      obtain ⟨k, hk, HS, rfl, hb⟩ := hrel
      by_cases hlt : k < xs.length
      · obtain ⟨b, off, x, rfl, hbb, hxx, hc0, hc1⟩ := (hx.below keeps_cho hb).cho hlt
        obtain ⟨b', off', y, rfl, hbb', hyy, hd0, hd1⟩ := (hy.below keeps_cho hb).cho (k := k) (by have := HL.out; omega)
        have HX := Lib.hid hxx
        have HY := Lib.hid hyy
        clear hxx hyy
        by_cases he : x = y
        · subst he
          go_wp2
          go_quiet (fail)
          go_wp2
          go_roundw
          case rel => exact ⟨k + 1, by omega, HS.out.succ HX.out HY.out, by go_num, below_drewN hb _⟩
          case measure => simp [intOf]; omega
        · have hne : ¬ (x.key = y.key ∧ x.cost = y.cost) := fun h => he (by cases x; cases y; simp_all)
          have HE := Lib.hid he
          clear he
          obtain h0 | h1 : (¬ x.key = y.key) ∨ (x.key = y.key ∧ ¬ x.cost = y.cost) := by omega
          all_goals
            go_wp2
            go_quiet (fail)
            go_wp2
            go_ret
            exact ⟨ret_bool (by simp [ne_at HX.out HY.out HE.out]), below_drewN hb _⟩
      · go_wp2
        go_ret
        exact ⟨ret_bool (by simp [HS.out.all (by omega) (by have := HL.out; omega)]), hb⟩
  · go_enter Try.func19, Try.ntmps19
    go_wp2
    go_ret
    exact ⟨ret_bool (by simp; rintro rfl; exact hlen rfl), Below.refl _ _⟩

set_option maxHeartbeats 4000000 in
set_option maxRecDepth 100000 in
theorem sameTaps_any (A B : Option Addr) (xs ys : List Tp) (c d : Nat) (w : World) (hx : SlR 4 RTp w A xs) (hy : SlR 4 RTp w B ys) (hl : xs.length ≤ 65536) :
    Calls Try.prog 20 #[.slice A xs.length c, .slice B ys.length d] w fun e w' => e = .returned (.bool (decide (xs = ys))) ∧ Below w.heap.size w w' := by
  by_cases hlen : xs.length = ys.length
  · have HL := Lib.hid hlen
    rw [← hlen]
    clear hlen
    go_enter Try.func20, Try.ntmps20
    go_wp2
    go_loopw [5] (fun i wr => ∃ k : Nat, k ≤ xs.length ∧ Hid (SameTo xs ys k) ∧ i = .int .i64 k ∧ Below w.heap.size w wr) (fun i _ => xs.length - (intOf i).toNat)
    case atStart => exact ⟨0, by omega, rfl, rfl, Below.refl _ _⟩
    case round =>
      obtain ⟨k, hk, HS, rfl, hb⟩ := hrel
      by_cases hlt : k < xs.length
      · obtain ⟨b, off, x, rfl, hbb, hxx, hc0, hc1, hc2, hc3⟩ := (hx.below keeps_tp hb).tp hlt
        obtain ⟨b', off', y, rfl, hbb', hyy, hd0, hd1, hd2, hd3⟩ := (hy.below keeps_tp hb).tp (k := k) (by have := HL.out; omega)
        have HX := Lib.hid hxx
        have HY := Lib.hid hyy
        clear hxx hyy
        by_cases he : x = y
        · subst he
          go_wp2
          go_quiet (fail)
          go_wp2
          go_roundw
          case rel => exact ⟨k + 1, by omega, HS.out.succ HX.out HY.out, by go_num, below_drewN hb _⟩
          case measure => simp [intOf]; omega
        · have hne : ¬ (x.key = y.key ∧ x.dx = y.dx ∧ x.dy = y.dy ∧ x.n = y.n) := fun h => he (by cases x; cases y; simp_all)
          have HE := Lib.hid he
          clear he
          obtain h0 | h1 | h2 | h3 : (¬ x.key = y.key) ∨ (x.key = y.key ∧ ¬ x.dx = y.dx) ∨ (x.key = y.key ∧ x.dx = y.dx ∧ ¬ x.dy = y.dy) ∨ (x.key = y.key ∧ x.dx = y.dx ∧ x.dy = y.dy ∧ ¬ x.n = y.n) := by omega
          all_goals
            go_wp2
            go_quiet (fail)
            go_wp2
            go_ret
            exact ⟨ret_bool (by simp [ne_at HX.out HY.out HE.out]), below_drewN hb _⟩
      · go_wp2
        go_ret
        exact ⟨ret_bool (by simp [HS.out.all (by omega) (by have := HL.out; omega)]), hb⟩
  · go_enter Try.func20, Try.ntmps20
    go_wp2
    go_ret
    exact ⟨ret_bool (by simp; rintro rfl; exact hlen rfl), Below.refl _ _⟩
end Go.Proofs.Ytpjecpefbfobdaa
