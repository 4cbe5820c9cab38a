/-
  The walks of layer 21: which areas are valid (the program).
-/
import Derived.Test.YtpjecpefbfobdaaAreaWalkI
namespace Go.Proofs.Ytpjecpefbfobdaa
open Go Go.RowKit Go.Lib

def cellsB (a : Ar) : Bool := [a.x0, a.y0, a.x1, a.y1].all coordB
def straightB (a : Ar) : Bool := decide (a.x0 ≤ a.x1) && decide (a.y0 ≤ a.y1)
def arB (a : Ar) : Bool := letB a.key && (cellsB a && straightB a)
def meetB (a b : Ar) : Bool := decide (a.x0 ≤ b.x1) && decide (b.x0 ≤ a.x1) && decide (a.y0 ≤ b.y1) && decide (b.y0 ≤ a.y1)
def adjB {α : Type} (lt : α → α → Bool) : List α → Bool
  | [] => true
  | [_] => true
  | x :: y :: l => lt x y && adjB lt (y :: l)
def ltA (x y : Ar) : Bool := decide (x.key < y.key)

theorem slr_ints {w : World} {g : Nat} {t : TypeId} {xs : List Int} (h : Blk w g t (xs.map (Value.int .i64)).toArray) : SlR 1 RInt w (some ⟨g, 0, none⟩) xs := fun _ =>
  ⟨g, 0, rfl, h.lt, fun k x hx => ⟨[.int .i64 x], rfl, rfl, fun j v hj => by
    match j, hj with
    | 0, hj =>
      simp at hj
      rw [h.cell, ← hj]
      simp [hx]
    | j + 1, hj => simp at hj⟩⟩

theorem c62_any (x y : Ar) (W : World) : Calls Try.prog 62 #[vAr x, vAr y] W fun e w' => e = .returned (.int .i64 (Lib.compareInt x.key y.key)) ∧ Below W.heap.size W w' := by
  obtain ⟨r, hr⟩ : ∃ r, Lib.compareInt x.key y.key = r := ⟨_, rfl⟩
  have HC := fun W => cmpByte_any x.key y.key W
  rw [hr] at *
  clear hr
  go_enter Try.func62, Try.ntmps62
  go_wp2_with (go_at_call 34; refine (HC _).mono ?_; rintro e w' ⟨rfl, rfl⟩)
  go_ret
  exact ⟨rfl, nw _ (nw _ (Below.refl _ _))⟩
theorem c63_any (a : Ar) (W : World) : Calls Try.prog 63 #[vAr a] W fun e w' => e = .returned (.bool (letB a.key)) ∧ Below W.heap.size W w' := by
  have HC := fun W => letter_any a.key W
  generalize letB a.key = r at *
  go_enter Try.func63, Try.ntmps63
  go_wp2_with (go_at_call 64; refine (HC _).mono ?_; rintro e w' ⟨rfl, rfl⟩)
  go_ret
  exact ⟨rfl, nw _ (Below.refl _ _)⟩
theorem c65_any (a : Ar) (W : World) : Calls Try.prog 65 #[vAr a] W fun e w' => e = .returned (.bool (cellsB a)) ∧ Below W.heap.size W w' := by
  obtain ⟨w3, hw3⟩ : ∃ w3, (W.alloc (.cells #[.int .u8 a.key, .int .i64 a.x0, .int .i64 a.y0, .int .i64 a.x1, .int .i64 a.y1] 57)).alloc (.cells #[.int .i64 a.x0, .int .i64 a.y0, .int .i64 a.x1, .int .i64 a.y1] 3) = w3 := ⟨_, rfl⟩
  have hb3 : Below W.heap.size W w3 := by rw [← hw3]; exact nw _ (nw _ (Below.refl _ _))
  have hB2 : Blk w3 (W.heap.size + 1) 3 (([a.x0, a.y0, a.x1, a.y1]).map (Value.int .i64)).toArray := by rw [← hw3]; exact Blk.new_ (by simp)
  have HI : Hid (Calls Try.prog 31 #[.slice (some ⟨W.heap.size + 1, 0, none⟩) 4 4] w3 fun e w' => e = .returned (.bool (cellsB a)) ∧ w3 = w') :=
    coordinates_any (some ⟨W.heap.size + 1, 0, none⟩) [a.x0, a.y0, a.x1, a.y1] 4 w3 (slr_ints hB2) (by simp)
  have HW3 := Lib.hid hw3
  clear hw3 hB2
  go_enter Try.func65, Try.ntmps65
  go_wp2_with (go_at_call 31; go_loud (rw [HW3.out]; refine HI.out.mono ?_; rintro e w' ⟨rfl, rfl⟩))
  go_ret
  exact ⟨rfl, hb3⟩
theorem c66_any (a : Ar) (W : World) : Calls Try.prog 66 #[vAr a] W fun e w' => e = .returned (.bool (straightB a)) ∧ Below W.heap.size W w' := by
  unfold straightB
  by_cases h1 : a.x0 ≤ a.x1
  · by_cases h2 : a.y0 ≤ a.y1
    all_goals
      go_enter Try.func66, Try.ntmps66
      go_wp2
      go_ret
      exact ⟨ret_bool (Bool.eq_iff_iff.2 (by simp; omega)), nw _ (Below.refl _ _)⟩
  · go_enter Try.func66, Try.ntmps66
    go_wp2
    go_ret
    exact ⟨ret_bool (Bool.eq_iff_iff.2 (by simp; omega)), nw _ (Below.refl _ _)⟩
set_option maxHeartbeats 1000000 in
theorem meet_any (a b : Ar) (W : World) : Calls Try.prog 70 #[vAr a, vAr b] W fun e w' => e = .returned (.bool (meetB a b)) ∧ Below W.heap.size W w' := by
  unfold meetB
  have hc : b.x1 < a.x0 ∨ (a.x0 ≤ b.x1 ∧ a.x1 < b.x0) ∨ ((a.x0 ≤ b.x1 ∧ b.x0 ≤ a.x1) ∧ b.y1 < a.y0) ∨ ((a.x0 ≤ b.x1 ∧ b.x0 ≤ a.x1) ∧ a.y0 ≤ b.y1) := by omega
  rcases hc with h | ⟨h, h'⟩ | ⟨⟨h, h'⟩, h''⟩ | ⟨⟨h, h'⟩, h''⟩
  all_goals
    go_enter Try.func70, Try.ntmps70
    go_wp2
    go_ret
    exact ⟨ret_bool (Bool.eq_iff_iff.2 (by simp; omega)), nw _ (nw _ (Below.refl _ _))⟩
theorem c69_any (a b : Ar) (g : Nat) (W : World) (hB : Blk W g 57 #[.int .u8 a.key, .int .i64 a.x0, .int .i64 a.y0, .int .i64 a.x1, .int .i64 a.y1]) : Calls Try.prog 69 #[vAr b, .pointer (some ⟨g, 0, none⟩)] W fun e w' => e = .returned (.bool (meetB a b)) ∧ Below W.heap.size W w' := by
  have HC := meet_any a b (W.alloc (.cells #[.int .u8 b.key, .int .i64 b.x0, .int .i64 b.y0, .int .i64 b.x1, .int .i64 b.y1] 57))
  generalize meetB a b = r at *
  have hg := hB.lt
  have hne : g ≠ W.heap.size := by omega
  have c0 := hB.cell 0
  have c1 := hB.cell 1
  have c2 := hB.cell 2
  have c3 := hB.cell 3
  have c4 := hB.cell 4
  simp at c0 c1 c2 c3 c4
  clear hB
  go_enter Try.func69, Try.ntmps69
  go_wp2_with (go_at_call 70; refine HC.mono ?_; rintro e w' ⟨rfl, hb'⟩)
  go_ret
  exact ⟨rfl, unbox (bx hb')⟩

set_option maxRecDepth 100000 in
set_option maxHeartbeats 4000000 in
theorem allA_any (A : Option Addr) (us : List Ar) (c g : Nat) (w : World) (hx : SlR 5 RAr w A us) (hl : us.length ≤ 65536) (hG : Blk w g 94 #[.func (.func 63) #[] #[], .func (.func 65) #[] #[], .func (.func 66) #[] #[]]) :
    Calls Try.prog 88 #[.slice A us.length c, .slice (some ⟨g, 0, none⟩) 3 3] w fun e w' => e = .returned (.bool (us.all arB)) ∧ Below w.heap.size w w' := by
  have hglt := hG.lt
  have HG := Lib.hid hG
  clear hG
  go_enter Try.func88, Try.ntmps88
  go_wp2_with fail
  go_loopw [11] (fun i wr => ∃ k : Nat, k ≤ us.length ∧ Hid (us.all arB = (us.drop k).all arB) ∧ i = .int .i64 k ∧ Below w.heap.size w wr) (fun i _ => us.length - (intOf i).toNat)
  case atStart => exact ⟨0, by omega, rfl, rfl, Below.refl _ _⟩
  case round =>
    obtain ⟨k, hk, HS, rfl, hb⟩ := hrel
    have hbs := hb.size
    by_cases hlt : k < us.length
    · obtain ⟨b, off, a, rfl, hbb, haa, d0, d1, d2, d3, d4⟩ := (hx.below keeps_ar hb).ar hlt
      have HD := Lib.hid (drop_of haa)
      clear haa
      have HK : Hid (∀ W, Below (wr.alloc (.cells #[.int .u8 a.key, .int .i64 a.x0, .int .i64 a.y0, .int .i64 a.x1, .int .i64 a.y1] 57)).heap.size (wr.alloc (.cells #[.int .u8 a.key, .int .i64 a.x0, .int .i64 a.y0, .int .i64 a.x1, .int .i64 a.y1] 57)) W → W.cell? ⟨g, 0, none⟩ = some (.func (.func 63) #[] #[]) ∧ W.cell? ⟨g, 1, none⟩ = some (.func (.func 65) #[] #[]) ∧ W.cell? ⟨g, 2, none⟩ = some (.func (.func 66) #[] #[]) ∧
          W.cell? ⟨wr.heap.size, 0, none⟩ = some (.int .u8 a.key) ∧ W.cell? ⟨wr.heap.size, 1, none⟩ = some (.int .i64 a.x0) ∧ W.cell? ⟨wr.heap.size, 2, none⟩ = some (.int .i64 a.y0) ∧ W.cell? ⟨wr.heap.size, 3, none⟩ = some (.int .i64 a.x1) ∧ W.cell? ⟨wr.heap.size, 4, none⟩ = some (.int .i64 a.y1) ∧ Below w.heap.size w W) := fun W hW => by
        have h1 := HG.out.below (hb.trans ((unbox (bx hW)).mono hbs)) hglt
        exact ⟨h1.cell 0, h1.cell 1, h1.cell 2, box_cell (bx hW) 0, box_cell (bx hW) 1, box_cell (bx hW) 2, box_cell (bx hW) 3, box_cell (bx hW) 4, hb.trans ((unbox (bx hW)).mono hbs)⟩
      have h1 := HG.out.below hb hglt
      have g0 := h1.cell 0
      have hg1 := h1.lt
      have hgne : g ≠ wr.heap.size := by omega
      simp at g0
      clear h1
      have C1 := Lib.hid (c63_any a (wr.alloc (.cells #[.int .u8 a.key, .int .i64 a.x0, .int .i64 a.y0, .int .i64 a.x1, .int .i64 a.y1] 57)))
      have C2 : Hid (∀ W, Calls Try.prog 65 #[vAr a] W fun e w' => e = .returned (.bool (cellsB a)) ∧ Below W.heap.size W w') := c65_any a
      have C3 : Hid (∀ W, Calls Try.prog 66 #[vAr a] W fun e w' => e = .returned (.bool (straightB a)) ∧ Below W.heap.size W w') := c66_any a
      have HR : Hid (us.all arB = (letB a.key && (cellsB a && straightB a) && (us.drop (k + 1)).all arB)) := by show us.all arB = _; rw [HS.out, HD.out, List.all_cons]; rfl
      generalize letB a.key = p1 at *
      generalize cellsB a = p2 at *
      generalize straightB a = p3 at *
      cases p1 with
      | false =>
        go_wp2_with fail
        refine wp_loop_rounds 1 ?_
        rw [rounds_succ]
        go_wp2_with (go_at_call 63; go_loud (refine C1.out.mono ?_; rintro e w1 ⟨rfl, hb1⟩; have hbw1 := (HK.out _ hb1).2.2.2.2.2.2.2.2))
        go_ret
        exact ⟨ret_bool (by rw [HR.out]; rfl), hbw1⟩
      | true =>
        cases p2 with
        | false =>
          go_wp2_with fail
          refine wp_loop_rounds 2 ?_
          rw [rounds_succ]
          go_wp2_with (go_at_call 63; go_loud (refine C1.out.mono ?_; rintro e w1 ⟨rfl, hb1⟩; obtain ⟨q0, q1, q2, r0, r1, r2, r3, r4, hbw1⟩ := HK.out _ hb1))
          rw [rounds_succ]
          go_wp2_with (go_at_call 65; go_loud (refine (C2.out _).mono ?_; rintro e w2 ⟨rfl, hb2⟩; have hb12 := hb1.trans (hb2.mono hb1.size); have hbw2 := (HK.out _ hb12).2.2.2.2.2.2.2.2))
          go_ret
          exact ⟨ret_bool (by rw [HR.out]; rfl), hbw2⟩
        | true =>
          cases p3 with
          | false =>
            go_wp2_with fail
            refine wp_loop_rounds 3 ?_
            rw [rounds_succ]
            go_wp2_with (go_at_call 63; go_loud (refine C1.out.mono ?_; rintro e w1 ⟨rfl, hb1⟩; obtain ⟨q0, q1, q2, r0, r1, r2, r3, r4, hbw1⟩ := HK.out _ hb1))
            rw [rounds_succ]
            go_wp2_with (go_at_call 65; go_loud (refine (C2.out _).mono ?_; rintro e w2 ⟨rfl, hb2⟩; have hb12 := hb1.trans (hb2.mono hb1.size); obtain ⟨s0, s1, s2, t0, t1, t2, t3, t4, hbw2⟩ := HK.out _ hb12))
            rw [rounds_succ]
            go_wp2_with (go_at_call 66; go_loud (refine (C3.out _).mono ?_; rintro e w3 ⟨rfl, hb3⟩; have hbw3 := (HK.out _ (hb12.trans (hb3.mono hb12.size))).2.2.2.2.2.2.2.2))
            go_ret
            exact ⟨ret_bool (by rw [HR.out]; rfl), hbw3⟩
          | true =>
            go_wp2_with fail
            refine wp_loop_rounds 4 ?_
            rw [rounds_succ]
            go_wp2_with (go_at_call 63; go_loud (refine C1.out.mono ?_; rintro e w1 ⟨rfl, hb1⟩; obtain ⟨q0, q1, q2, r0, r1, r2, r3, r4, hbw1⟩ := HK.out _ hb1))
            rw [rounds_succ]
            go_wp2_with (go_at_call 65; go_loud (refine (C2.out _).mono ?_; rintro e w2 ⟨rfl, hb2⟩; have hb12 := hb1.trans (hb2.mono hb1.size); obtain ⟨s0, s1, s2, t0, t1, t2, t3, t4, hbw2⟩ := HK.out _ hb12))
            rw [rounds_succ]
            go_wp2_with (go_at_call 66; go_loud (refine (C3.out _).mono ?_; rintro e w3 ⟨rfl, hb3⟩; have hbw3 := (HK.out _ (hb12.trans (hb3.mono hb12.size))).2.2.2.2.2.2.2.2))
            rw [rounds_succ]
            go_wp2_with fail
            go_roundw
            case rel => exact ⟨k + 1, by omega, by show us.all arB = _; rw [HR.out]; rfl, by go_num, hbw3⟩
            case measure => simp [intOf]; omega
    · go_wp2_with fail
      go_ret
      exact ⟨ret_bool (by rw [HS.out, drop_end hlt]; rfl), hb⟩
end Go.Proofs.Ytpjecpefbfobdaa
