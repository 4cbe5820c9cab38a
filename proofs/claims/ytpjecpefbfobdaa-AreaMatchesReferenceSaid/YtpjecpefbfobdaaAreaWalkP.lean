/-
  The walks of layer 21: the boards that the laws draw.
-/
import Derived.Test.YtpjecpefbfobdaaAreaWalkN
namespace Go.Proofs.Ytpjecpefbfobdaa
open Go Go.RowKit

structure B2 where
  a : Int
  b : Int
structure B3 where
  a : Int
  b : Int
  c : Int
def RB2 (_ : World) (x : B2) (vs : List Value) : Prop := vs = [.int .u8 x.a, .int .u8 x.b]
def RB3 (_ : World) (x : B3) (vs : List Value) : Prop := vs = [.int .i8 x.a, .int .i8 x.b, .int .i8 x.c]
theorem keeps_b2 : Keeps RB2 := fun _ _ _ _ _ h => h
theorem keeps_b3 : Keeps RB3 := fun _ _ _ _ _ h => h
def B2OK (x : B2) : Prop := (0 ≤ x.a ∧ x.a ≤ 255) ∧ (0 ≤ x.b ∧ x.b ≤ 255)
def B3OK (x : B3) : Prop := (-128 ≤ x.a ∧ x.a ≤ 127) ∧ (-128 ≤ x.b ∧ x.b ≤ 127) ∧ (-128 ≤ x.c ∧ x.c ≤ 127)
theorem SlR.b2 {w : World} {A : Option Addr} {k : Nat} {xs : List B2} (h : SlR 2 RB2 w A xs) (hk : k < xs.length) : ∃ b off x, A = some ⟨b, off, none⟩ ∧ b < w.heap.size ∧ xs[k]? = some x ∧
    w.cell? ⟨b, off + k * 2, none⟩ = some (.int .u8 x.a) ∧ w.cell? ⟨b, off + k * 2 + 1, none⟩ = some (.int .u8 x.b) := by
  obtain ⟨b, off, x, vs, hA, hlt, hx, hr, _, hv⟩ := h.at_ hk
  exact ⟨b, off, x, hA, hlt, hx, hv 0 _ (by rw [hr]; rfl), hv 1 _ (by rw [hr]; rfl)⟩
theorem SlR.b3 {w : World} {A : Option Addr} {k : Nat} {xs : List B3} (h : SlR 3 RB3 w A xs) (hk : k < xs.length) : ∃ b off x, A = some ⟨b, off, none⟩ ∧ b < w.heap.size ∧ xs[k]? = some x ∧
    w.cell? ⟨b, off + k * 3, none⟩ = some (.int .i8 x.a) ∧ w.cell? ⟨b, off + k * 3 + 1, none⟩ = some (.int .i8 x.b) ∧ w.cell? ⟨b, off + k * 3 + 2, none⟩ = some (.int .i8 x.c) := by
  obtain ⟨b, off, x, vs, hA, hlt, hx, hr, _, hv⟩ := h.at_ hk
  exact ⟨b, off, x, hA, hlt, hx, hv 0 _ (by rw [hr]; rfl), hv 1 _ (by rw [hr]; rfl), hv 2 _ (by rw [hr]; rfl)⟩

structure MSt where
  l : List Ar
  x : Int
  y : Int
def madeStep (k : Nat) (s : MSt) (p : B2) : MSt :=
  ⟨s.l ++ [⟨97 + k, s.x, s.y, s.x + p.a % 21, s.y + p.b % 21⟩], if k % 5 = 4 then 0 else s.x + (p.a % 21 + 1 + p.a / 21 % 9), if k % 5 = 4 then s.y + 22 else s.y⟩
def madeTo (l : List B2) : Nat → MSt
  | 0 => ⟨[], 0, 0⟩
  | k + 1 => match l[k]? with | some p => madeStep k (madeTo l k) p | none => madeTo l k
def madeA (l : List B2) : List Ar := (madeTo l (min l.length 14)).l
theorem made_succ {l : List B2} {k : Nat} {p : B2} (h : l[k]? = some p) : madeTo l (k + 1) = madeStep k (madeTo l k) p := by
  show (match l[k]? with | some p => madeStep k (madeTo l k) p | none => madeTo l k) = _
  rw [h]
/-- What is known of a board while it is made. -/
structure MadeOK (k : Nat) (s : MSt) : Prop where
  len : s.l.length = k
  x0 : 0 ≤ s.x
  x1 : s.x ≤ 29 * (k % 5 : Nat)
  y : s.y = 22 * (k / 5 : Nat)
theorem made_ok {l : List B2} (hl : ∀ p ∈ l, B2OK p) : ∀ k, k ≤ l.length → MadeOK k (madeTo l k) := by
  intro k
  induction k with
  | zero => intro _; exact ⟨rfl, by simp [madeTo], by simp [madeTo], by simp [madeTo]⟩
  | succ k ih =>
    intro hk
    obtain ⟨p, hp⟩ : ∃ p, l[k]? = some p := ⟨l[k], List.getElem?_eq_getElem (by omega)⟩
    obtain ⟨h1, h2, h3, h4⟩ := ih (by omega)
    obtain ⟨⟨p1, p2⟩, p3, p4⟩ := hl p (List.mem_of_getElem? hp)
    rw [made_succ hp]
    unfold madeStep
    refine ⟨by simp [h1], ?_, ?_, ?_⟩
    · show 0 ≤ (if k % 5 = 4 then (0 : Int) else _)
      split <;> omega
    · show (if k % 5 = 4 then (0 : Int) else _) ≤ _
      split <;> omega
    · show (if k % 5 = 4 then _ else _) = (_ : Int)
      split <;> omega
theorem area_info : (Try.prog.info? 57).map (fun i => (i.zero, i.size, i.bytes)) = some (some (.agg #[.int .u8 0, .int .i64 0, .int .i64 0, .int .i64 0, .int .i64 0]), 5, 40) := by kernel_rfl

structure Tm where
  key : Int
  ps : List Pt
structure Ck where
  keys : ByteArray
  key : Int
def encPt (p : Pt) : List Value := [.int .i64 p.x, .int .i64 p.y]
def RTm (w : World) (x : Tm) (vs : List Value) : Prop := ∃ A c, vs = [.int .u8 x.key, .slice A x.ps.length c] ∧ SlR 2 RPt w A x.ps ∧ x.ps.length ≤ c ∧ c ≤ maxLen
def RCk (_ : World) (x : Ck) (vs : List Value) : Prop := vs = [.string x.keys, .int .u8 x.key]
theorem keeps_tm : Keeps RTm := fun _ _ _ _ hb ⟨A, c, h, hs, h1⟩ => ⟨A, c, h, hs.below keeps_pt hb, h1⟩
theorem keeps_ck : Keeps RCk := fun _ _ _ _ _ h => h
def madeT : List Tm := [⟨97, [⟨0, 0⟩, ⟨20, 20⟩]⟩, ⟨98, [⟨20, 0⟩, ⟨0, 20⟩, ⟨20, 40⟩]⟩]
def madeC : List Ck := [⟨⟨#[97, 98]⟩, 99⟩, ⟨⟨#[97, 98, 99]⟩, 97⟩]

def encCk (x : Ck) : List Value := [.string x.keys, .int .u8 x.key]
theorem tm_slr {w : World} {g p0 p1 : Nat} (hT : Blk w g 55 #[.int .u8 97, .slice (some ⟨p0, 0, none⟩) 2 2, .int .u8 98, .slice (some ⟨p1, 0, none⟩) 3 3])
    (h0 : Blk w p0 36 #[.int .i64 0, .int .i64 0, .int .i64 20, .int .i64 20]) (h1 : Blk w p1 36 #[.int .i64 20, .int .i64 0, .int .i64 0, .int .i64 20, .int .i64 20, .int .i64 40]) :
    SlR 2 RTm w (some ⟨g, 0, none⟩) madeT := fun _ => by
  refine ⟨_, 0, rfl, hT.lt, fun k x hx => ?_⟩
  match k, hx with
  | 0, hx =>
    simp [madeT] at hx
    subst hx
    refine ⟨_, ⟨some ⟨p0, 0, none⟩, 2, rfl, slr_blk (enc := encPt) h0 (fun _ => rfl) (fun _ => rfl), by decide, by unfold maxLen; decide⟩, rfl, fun j v hj => ?_⟩
    match j, hj with
    | 0, hj => simp at hj; rw [← hj]; exact hT.cell 0
    | 1, hj => simp at hj; rw [← hj]; exact hT.cell 1
    | j + 2, hj => simp at hj
  | 1, hx =>
    simp [madeT] at hx
    subst hx
    refine ⟨_, ⟨some ⟨p1, 0, none⟩, 3, rfl, slr_blk (enc := encPt) h1 (fun _ => rfl) (fun _ => rfl), by decide, by unfold maxLen; decide⟩, rfl, fun j v hj => ?_⟩
    match j, hj with
    | 0, hj => simp at hj; rw [← hj]; exact hT.cell 2
    | 1, hj => simp at hj; rw [← hj]; exact hT.cell 3
    | j + 2, hj => simp at hj
  | k + 2, hx => simp [madeT] at hx

set_option maxRecDepth 100000 in
set_option maxHeartbeats 8000000 in
theorem made_any (A : Option Addr) (l : List B2) (c : Nat) (w : World) (hx : SlR 2 RB2 w A l) (hl0 : l.length ≤ maxLen) (hok : ∀ p ∈ l, B2OK p) :
    Calls Try.prog 12 #[.slice A l.length c] w fun e w' => ∃ A' c' B C, e = .returned (.agg #[.slice A' (madeA l).length c', .slice B 2 2, .slice C 2 2]) ∧ SlR 5 RAr w' A' (madeA l) ∧ (madeA l).length ≤ c' ∧ c' ≤ maxLen ∧
      SlR 2 RTm w' B madeT ∧ SlR 2 RCk w' C madeC ∧ Below w.heap.size w w' := by
  have hl := hl0
  unfold maxLen at hl
  obtain ⟨i0, hi, hz0, hz1, hz2⟩ := info_parts area_info
  obtain ⟨w3, hw3⟩ : ∃ w3, ((w.alloc (.cells #[.slice none 0 0, .slice none 0 0, .slice none 0 0] 31)).alloc (.cells #[.string ⟨#[97, 98]⟩, .int .u8 99, .string ⟨#[97, 98, 99]⟩, .int .u8 97] 60)).alloc (.cells #[.slice none 0 0, .slice none 0 0, .slice (some ⟨w.heap.size + 1, 0, none⟩) 2 2] 31) = w3 := ⟨_, rfl⟩
  have hbw3 : Below w.heap.size w w3 := by rw [← hw3]; exact nw _ (nw _ (nw _ (Below.refl _ _)))
  have HB0 : Hid (Blk w3 w.heap.size 31 #[.slice none 0 0, .slice none 0 0, .slice none 0 0]) := by rw [← hw3]; exact ((Blk.new _ _ _).alloc _).alloc _
  have HB1 : Hid (Blk w3 (w.heap.size + 1) 60 #[.string ⟨#[97, 98]⟩, .int .u8 99, .string ⟨#[97, 98, 99]⟩, .int .u8 97]) := by rw [← hw3]; exact (Blk.new_ (by simp)).alloc _
  have HB2 : Hid (Blk w3 (w.heap.size + 1 + 1) 31 #[.slice none 0 0, .slice none 0 0, .slice (some ⟨w.heap.size + 1, 0, none⟩) 2 2]) := by rw [← hw3]; exact Blk.new_ (by simp)
  have hsz3 : w3.heap.size = w.heap.size + 1 + 1 + 1 := by rw [← hw3]; simp
  have HW3 := Lib.hid hw3
  clear hw3
  go_enter Try.func12, Try.ntmps12
  go_wp2_with fail
  rw [HW3.out]
  go_loopw [4, 5, 6] (fun x y i wr => ∃ k : Nat, ∃ s : MSt, ∃ v : Value, k ≤ l.length ∧ k ≤ 14 ∧ Hid (madeTo l k = s) ∧ Hid (MadeOK k s) ∧ i = .int .i64 k ∧ x = .int .i64 s.x ∧ y = .int .i64 s.y ∧
      wr.ownsRow (w.heap.size + 3) 57 5 v s.l.length (s.l.flatMap encA) ∧ Blk wr (w.heap.size + 1 + 1) 31 #[v, .slice none 0 0, .slice (some ⟨w.heap.size + 1, 0, none⟩) 2 2] ∧ Below (w.heap.size + 2) w3 wr) (fun _ _ i _ => 14 - (intOf i).toNat)
  case atStart => exact ⟨0, ⟨[], 0, 0⟩, .slice none 0 0, by omega, by omega, rfl, ⟨rfl, by simp, by simp, by simp⟩, rfl, rfl, rfl, own_nil _ _ _ _, HB2.out, Below.refl _ _⟩
  case round =>
    obtain ⟨k, s, v, hk, hk14, HS, HM, rfl, rfl, rfl, hown, hB, hb⟩ := hrel
    have hbs := hb.size
    have hm := HM.out
    have hlen : s.l.length ≤ 14 := by rw [hm.len]; exact hk14
    have hx0 := hm.x0
    have hx1 : s.x ≤ 116 := Int.le_trans hm.x1 (by omega)
    have hy0 : 0 ≤ s.y := by rw [hm.y]; omega
    have hy1 : s.y ≤ 44 := by rw [hm.y]; omega
    have hBl := hB.lt
    have kk0 := hB.cell 0
    simp at kk0
    by_cases hlt : k < l.length
    · by_cases hlt14 : k < 14
      · obtain ⟨b, off, p, rfl, hbb, hpp, d0, d1⟩ := hx.b2 hlt
        have hbw := hbw3.trans (hb.mono (by omega))
        have e0 := (hbw.cell (p := ⟨b, _, none⟩) hbb).trans d0
        have e1 := (hbw.cell (p := ⟨b, _, none⟩) hbb).trans d1
        have hbb1 := Nat.lt_of_lt_of_le hbb hbw.size
        obtain ⟨⟨p1, p2⟩, p3, p4⟩ := hok p (List.mem_of_getElem? hpp)
        have HP := Lib.hid (made_succ hpp)
        have HMN : Hid (MadeOK (k + 1) (madeTo l (k + 1))) := made_ok hok (k + 1) (by omega)
        have hm1 : p.a.tmod 21 = p.a % 21 := Int.tmod_eq_emod_of_nonneg p1
        have hm2 : p.b.tmod 21 = p.b % 21 := Int.tmod_eq_emod_of_nonneg p3
        have hwa : IntKind.i64.wrap p.a = p.a := IntWalk.i64_in _ (by omega)
        have hwb : IntKind.i64.wrap p.b = p.b := IntWalk.i64_in _ (by omega)
        have hwm1 : IntKind.i64.wrap (p.a % 21) = p.a % 21 := IntWalk.i64_in _ (by omega)
        have hwm2 : IntKind.i64.wrap (p.b % 21) = p.b % 21 := IntWalk.i64_in _ (by omega)
        have hneb : b ≠ w.heap.size + 1 + 1 := by omega
        have hvne : v.ownBlock ≠ some (w.heap.size + 1 + 1) := fun e => by have := own_block_le hown _ e; omega
        have HB := Lib.hid hB
        have HBb := Lib.hid hb
        clear hpp d0 d1 hB hb hm
        go_wp2_with fail
        go_quiet (fail)
        obtain ⟨W0, hW0⟩ : ∃ W0, wr.drewN nq = W0 := ⟨_, rfl⟩
        have hn : Below wr.heap.size wr W0 := by rw [← hW0]; exact below_drewN (Below.refl _ _) _
        have hB0 := HB.out.below hn HB.out.lt
        have HO0 := Lib.hid (own_below hown hn)
        have HBb0 := Lib.hid (HBb.out.trans (hn.mono (by omega)))
        have g0 := hB0.cell 0
        have e00 := (hn.cell (p := ⟨b, _, none⟩) hbb1).trans e0
        have e10 := (hn.cell (p := ⟨b, _, none⟩) hbb1).trans e1
        have hs0 := hn.size
        have hl0 := hB0.lt
        have hB0 := Lib.hid hB0
        simp at g0
        rw [hW0]
        clear hW0 hn hown
        have hku : IntKind.u8.wrap (97 + (k : Int)) = 97 + (k : Int) := by rw [IntKind.wrap_u8]; omega
        have hk5 : (k : Int) % 5 = 4 ∨ ¬ (k : Int) % 5 = 4 := by omega
        rcases hk5 with h5 | h5
        · go_wp2_with (first | (at_builtin; refine wpList_app1 rfl _ _ 27 rfl (w.heap.size + 3) 57 i0 _ 5 40 Try.underlying27 hi hz0 hz1 hz2 rfl (by decide) _ _ _ rfl _ [.int .u8 (97 + k), .int .i64 s.x, .int .i64 s.y, .int .i64 (s.x + p.a % 21), .int .i64 (s.y + p.b % 21)] rfl HO0.out _ rfl (by simp) rfl (by simp [Value.oneCell']) (by omega) (by decide) (by omega) ?_; intro v4 w4 hown4 hb4 ha4; have hown5 : w4.ownsRow (w.heap.size + 3) 57 5 v4 (madeStep k s p).l.length ((madeStep k s p).l.flatMap encA) := (by unfold madeStep; rw [List.length_append, enc_snoc]; exact hown4); clear hown4; obtain ⟨A4, c4, rfl, hc4, hcm4, _⟩ := own_slr (R := RAr) hown5 (fun _ => rfl) (fun _ => rfl) rfl; have hB4 := hB0.out.apps ha4 hvne; have q0 := hB4.cell 0; have q1 := hB4.frozen 0; have f0 := (hb4.cell (p := ⟨b, _, none⟩) (by show b < _; omega)).trans e00; have f1 := (hb4.cell (p := ⟨b, _, none⟩) (by show b < _; omega)).trans e10; have HB4 := Lib.hid hB4; have HO5 := Lib.hid hown5; have HBb4 := Lib.hid (HBb0.out.trans (hb4.mono (by omega))); have hl4 := hB4.lt; have hbl4 : b < w4.heap.size := (Nat.lt_trans (by omega) hl4); simp at q0; clear hB4 hown5 ha4 hb4))
          go_roundw
          case rel => exact ⟨k + 1, madeStep k s p, _, by omega, by omega, (by show madeTo l (k + 1) = _; rw [HP.out, HS.out]), (by show MadeOK (k + 1) (madeStep k s p); have := HMN.out; rw [HP.out, HS.out] at this; exact this), by go_num, by unfold madeStep; dsimp only; rw [if_pos (by omega)], by unfold madeStep; dsimp only; rw [if_pos (by omega)], own_set HO5.out (fun e => by have := own_block_le HO5.out _ e; simp at this; omega) _, (by have := HB4.out.set_ 0 (.slice A4 (madeStep k s p).l.length c4); simpa using this), HBb4.out.setCell (by show _ ≤ w.heap.size + 1 + 1; omega) _⟩
          case measure => simp [intOf]; omega
        · go_wp2_with (first | (at_builtin; refine wpList_app1 rfl _ _ 27 rfl (w.heap.size + 3) 57 i0 _ 5 40 Try.underlying27 hi hz0 hz1 hz2 rfl (by decide) _ _ _ rfl _ [.int .u8 (97 + k), .int .i64 s.x, .int .i64 s.y, .int .i64 (s.x + p.a % 21), .int .i64 (s.y + p.b % 21)] rfl HO0.out _ rfl (by simp) rfl (by simp [Value.oneCell']) (by omega) (by decide) (by omega) ?_; intro v4 w4 hown4 hb4 ha4; have hown5 : w4.ownsRow (w.heap.size + 3) 57 5 v4 (madeStep k s p).l.length ((madeStep k s p).l.flatMap encA) := (by unfold madeStep; rw [List.length_append, enc_snoc]; exact hown4); clear hown4; obtain ⟨A4, c4, rfl, hc4, hcm4, _⟩ := own_slr (R := RAr) hown5 (fun _ => rfl) (fun _ => rfl) rfl; have hB4 := hB0.out.apps ha4 hvne; have q0 := hB4.cell 0; have q1 := hB4.frozen 0; have f0 := (hb4.cell (p := ⟨b, _, none⟩) (by show b < _; omega)).trans e00; have f1 := (hb4.cell (p := ⟨b, _, none⟩) (by show b < _; omega)).trans e10; have HB4 := Lib.hid hB4; have HO5 := Lib.hid hown5; have HBb4 := Lib.hid (HBb0.out.trans (hb4.mono (by omega))); have hl4 := hB4.lt; have hbl4 : b < w4.heap.size := (Nat.lt_trans (by omega) hl4); simp at q0; clear hB4 hown5 ha4 hb4))
          go_roundw
          case rel => exact ⟨k + 1, madeStep k s p, _, by omega, by omega, (by show madeTo l (k + 1) = _; rw [HP.out, HS.out]), (by show MadeOK (k + 1) (madeStep k s p); have := HMN.out; rw [HP.out, HS.out] at this; exact this), by go_num, by unfold madeStep; dsimp only; rw [if_neg (by omega)], by unfold madeStep; dsimp only; rw [if_neg (by omega)], own_set HO5.out (fun e => by have := own_block_le HO5.out _ e; simp at this; omega) _, (by have := HB4.out.set_ 0 (.slice A4 (madeStep k s p).l.length c4); simpa using this), HBb4.out.setCell (by show _ ≤ w.heap.size + 1 + 1; omega) _⟩
          case measure => simp [intOf]; omega
      · have HF : Hid (madeA l = s.l) := by
          show madeA l = s.l
          unfold madeA
          rw [show min l.length 14 = k by omega, HS.out]
        have hR := HB0.out.below hb (by omega)
        have kk1 := hB.cell 1
        have kk2 := hB.cell 2
        have qq1 := hB.frozen 1
        have r0 := hR.cell 0
        have r1 := hR.cell 1
        have r2 := hR.cell 2
        have z0 := hR.frozen 0
        have z1 := hR.frozen 1
        have z2 := hR.frozen 2
        have hRl := hR.lt
        obtain ⟨A3, cap, rfl, hcap, hcm, hslr⟩ := own_slr (R := RAr) hown (fun _ => rfl) (fun _ => rfl) rfl
        have hne1 : w.heap.size ≠ w.heap.size + 1 + 1 := by omega
        have m6 : w.heap.size + 1 ≠ wr.heap.size := by omega
        have m0 : w.heap.size ≠ wr.heap.size := by omega
        have m1 : w.heap.size ≠ wr.heap.size + 1 := by omega
        have m2 : w.heap.size ≠ wr.heap.size + 1 + 1 := by omega
        have m3 : w.heap.size + 1 + 1 ≠ wr.heap.size := by omega
        have m4 : w.heap.size + 1 + 1 ≠ wr.heap.size + 1 := by omega
        have m5 : w.heap.size + 1 + 1 ≠ wr.heap.size + 1 + 1 := by omega
        simp at kk1 kk2 r0 r1 r2
        have HB := Lib.hid hB
        have HR := Lib.hid hR
        have HBb := Lib.hid hb
        have HOw := Lib.hid hown
        have HSl := Lib.hid hslr
        clear hB hR hb hm hown hslr m6
        have hne2 : w.heap.size + 1 ≠ w.heap.size + 1 + 1 := by omega
        have hlt3 : w.heap.size + 1 + 1 < w.heap.size + 3 := by omega
        have ht3 : w.heap.size ≤ w.heap.size + 1 + 1 := by omega
        generalize w.heap.size + 1 + 1 = t3 at *
        have hB5 : Blk (((wr.alloc (.cells #[.int .i64 0, .int .i64 0, .int .i64 20, .int .i64 20] 36)).alloc (.cells #[.int .i64 20, .int .i64 0, .int .i64 0, .int .i64 20, .int .i64 20, .int .i64 40] 36)).alloc (.cells #[.int .u8 97, .slice (some ⟨wr.heap.size, 0, none⟩) 2 2, .int .u8 98, .slice (some ⟨wr.heap.size + 1, 0, none⟩) 3 3] 55)) t3 31 _ := ((HB.out.alloc _).alloc _).alloc _
        have hR5 : Blk (((wr.alloc (.cells #[.int .i64 0, .int .i64 0, .int .i64 20, .int .i64 20] 36)).alloc (.cells #[.int .i64 20, .int .i64 0, .int .i64 0, .int .i64 20, .int .i64 20, .int .i64 40] 36)).alloc (.cells #[.int .u8 97, .slice (some ⟨wr.heap.size, 0, none⟩) 2 2, .int .u8 98, .slice (some ⟨wr.heap.size + 1, 0, none⟩) 3 3] 55)) w.heap.size 31 _ := ((HR.out.alloc _).alloc _).alloc _
        have v0 := hB5.cell 0
        have v1 := hB5.cell 1
        have v2 := hB5.cell 2
        have vf := hB5.frozen 1
        have u0' := hR5.cell 0
        have uf0 := hR5.frozen 0
        have u1' := hR5.cell 1
        have uf1 := hR5.frozen 1
        have u2' := hR5.cell 2
        have uf2 := hR5.frozen 2
        have HB5 := Lib.hid hB5
        have HR5 := Lib.hid hR5
        have hs5 : t3 < (((wr.alloc (.cells #[.int .i64 0, .int .i64 0, .int .i64 20, .int .i64 20] 36)).alloc (.cells #[.int .i64 20, .int .i64 0, .int .i64 0, .int .i64 20, .int .i64 20, .int .i64 40] 36)).alloc (.cells #[.int .u8 97, .slice (some ⟨wr.heap.size, 0, none⟩) 2 2, .int .u8 98, .slice (some ⟨wr.heap.size + 1, 0, none⟩) 3 3] 55)).heap.size := hB5.lt
        replace v0 := v0.trans (show _ = some (.slice A3 s.l.length cap) from rfl)
        replace v1 := v1.trans (show _ = some (.slice none 0 0) from rfl)
        replace v2 := v2.trans (show _ = some (.slice (some ⟨w.heap.size + 1, 0, none⟩) 2 2) from rfl)
        replace u0' := u0'.trans (show _ = some (.slice none 0 0) from rfl)
        replace u1' := u1'.trans (show _ = some (.slice none 0 0) from rfl)
        replace u2' := u2'.trans (show _ = some (.slice none 0 0) from rfl)
        clear hB5 hR5 m0 m1 m2 m3 m4 m5 qq1 kk0 kk1 kk2 r0 r1 r2 z0 z1 z2
        go_wp2_with fail
        (try simp only [Exit.inBlock, Exit.then])
        have hC1 := (HB1.out.below HBb.out (by omega))
        have hC5 : Blk (((wr.alloc (.cells #[.int .i64 0, .int .i64 0, .int .i64 20, .int .i64 20] 36)).alloc (.cells #[.int .i64 20, .int .i64 0, .int .i64 0, .int .i64 20, .int .i64 20, .int .i64 40] 36)).alloc (.cells #[.int .u8 97, .slice (some ⟨wr.heap.size, 0, none⟩) 2 2, .int .u8 98, .slice (some ⟨wr.heap.size + 1, 0, none⟩) 3 3] 55)) (w.heap.size + 1) 60 _ := ((hC1.alloc _).alloc _).alloc _
        have hP0 : Blk (((wr.alloc (.cells #[.int .i64 0, .int .i64 0, .int .i64 20, .int .i64 20] 36)).alloc (.cells #[.int .i64 20, .int .i64 0, .int .i64 0, .int .i64 20, .int .i64 20, .int .i64 40] 36)).alloc (.cells #[.int .u8 97, .slice (some ⟨wr.heap.size, 0, none⟩) 2 2, .int .u8 98, .slice (some ⟨wr.heap.size + 1, 0, none⟩) 3 3] 55)) wr.heap.size 36 _ := ((Blk.new _ _ _).alloc _).alloc _
        have hP1 : Blk (((wr.alloc (.cells #[.int .i64 0, .int .i64 0, .int .i64 20, .int .i64 20] 36)).alloc (.cells #[.int .i64 20, .int .i64 0, .int .i64 0, .int .i64 20, .int .i64 20, .int .i64 40] 36)).alloc (.cells #[.int .u8 97, .slice (some ⟨wr.heap.size, 0, none⟩) 2 2, .int .u8 98, .slice (some ⟨wr.heap.size + 1, 0, none⟩) 3 3] 55)) (wr.heap.size + 1) 36 _ := (Blk.new_ (by simp)).alloc _
        have hT5 : Blk (((wr.alloc (.cells #[.int .i64 0, .int .i64 0, .int .i64 20, .int .i64 20] 36)).alloc (.cells #[.int .i64 20, .int .i64 0, .int .i64 0, .int .i64 20, .int .i64 20, .int .i64 40] 36)).alloc (.cells #[.int .u8 97, .slice (some ⟨wr.heap.size, 0, none⟩) 2 2, .int .u8 98, .slice (some ⟨wr.heap.size + 1, 0, none⟩) 3 3] 55)) (wr.heap.size + 1 + 1) 55 _ := Blk.new_ (by simp)
        have hO5 : World.ownsRow (((wr.alloc (.cells #[.int .i64 0, .int .i64 0, .int .i64 20, .int .i64 20] 36)).alloc (.cells #[.int .i64 20, .int .i64 0, .int .i64 0, .int .i64 20, .int .i64 20, .int .i64 40] 36)).alloc (.cells #[.int .u8 97, .slice (some ⟨wr.heap.size, 0, none⟩) 2 2, .int .u8 98, .slice (some ⟨wr.heap.size + 1, 0, none⟩) 3 3] 55)) (w.heap.size + 3) 57 5 (.slice A3 s.l.length cap) s.l.length (s.l.flatMap encA) := ((HOw.out.alloc _).alloc _).alloc _
        have h05 : Below w.heap.size w (((wr.alloc (.cells #[.int .i64 0, .int .i64 0, .int .i64 20, .int .i64 20] 36)).alloc (.cells #[.int .i64 20, .int .i64 0, .int .i64 0, .int .i64 20, .int .i64 20, .int .i64 40] 36)).alloc (.cells #[.int .u8 97, .slice (some ⟨wr.heap.size, 0, none⟩) 2 2, .int .u8 98, .slice (some ⟨wr.heap.size + 1, 0, none⟩) 3 3] 55)) := nw _ (nw _ (nw _ (hbw3.trans (HBb.out.mono ht3))))
        have hR5 := HR5.out
        clear HR5 HB5 v0 v1 v2 vf u0' u1' u2' uf0 uf1 uf2 hs5
        generalize (((wr.alloc (.cells #[.int .i64 0, .int .i64 0, .int .i64 20, .int .i64 20] 36)).alloc (.cells #[.int .i64 20, .int .i64 0, .int .i64 0, .int .i64 20, .int .i64 20, .int .i64 40] 36)).alloc (.cells #[.int .u8 97, .slice (some ⟨wr.heap.size, 0, none⟩) 2 2, .int .u8 98, .slice (some ⟨wr.heap.size + 1, 0, none⟩) 3 3] 55)) = W5 at *
        have hfar : ∀ (g : Nat) (t : TypeId) (cs : Array Value), g ≠ t3 → g ≠ w.heap.size → Blk W5 g t cs → Blk ((((W5.setCell ⟨t3, 1, none⟩ (.slice (some ⟨wr.heap.size + 1 + 1, 0, none⟩) 2 2)).setCell ⟨w.heap.size, 0, none⟩ (.slice A3 s.l.length cap)).setCell ⟨w.heap.size, 1, none⟩ (.slice (some ⟨wr.heap.size + 1 + 1, 0, none⟩) 2 2)).setCell ⟨w.heap.size, 2, none⟩ (.slice (some ⟨w.heap.size + 1, 0, none⟩) 2 2)) g t cs := fun g t cs h1 h2 h =>
          (((h.far (p := ⟨t3, 1, none⟩) h1 _).far (p := ⟨w.heap.size, 0, none⟩) h2 _).far (p := ⟨w.heap.size, 1, none⟩) h2 _).far (p := ⟨w.heap.size, 2, none⟩) h2 _
        have kR : Blk ((((W5.setCell ⟨t3, 1, none⟩ (.slice (some ⟨wr.heap.size + 1 + 1, 0, none⟩) 2 2)).setCell ⟨w.heap.size, 0, none⟩ (.slice A3 s.l.length cap)).setCell ⟨w.heap.size, 1, none⟩ (.slice (some ⟨wr.heap.size + 1 + 1, 0, none⟩) 2 2)).setCell ⟨w.heap.size, 2, none⟩ (.slice (some ⟨w.heap.size + 1, 0, none⟩) 2 2)) w.heap.size 31 #[(.slice A3 s.l.length cap), (.slice (some ⟨wr.heap.size + 1 + 1, 0, none⟩) 2 2), (.slice (some ⟨w.heap.size + 1, 0, none⟩) 2 2)] := (((hR5.far (p := ⟨t3, 1, none⟩) hne1 _).set_ 0 _).set_ 1 _).set_ 2 _
        have kC := hfar _ _ _ hne2 (by omega) hC5
        have kP0 := hfar _ _ _ (by omega) (by omega) hP0
        have kP1 := hfar _ _ _ (by omega) (by omega) hP1
        have kT := hfar _ _ _ (by omega) (by omega) hT5
        have hne3 : ∀ (g : Nat), g < w.heap.size + 3 → (Value.slice A3 s.l.length cap).ownBlock ≠ some g := fun g hg e => by have := own_block_le hO5 _ e; omega
        have kO := own_set (own_set (own_set (own_set hO5 (a := ⟨t3, 1, none⟩) (hne3 t3 hlt3) (.slice (some ⟨wr.heap.size + 1 + 1, 0, none⟩) 2 2)) (a := ⟨w.heap.size, 0, none⟩) (hne3 w.heap.size (by omega)) (.slice A3 s.l.length cap)) (a := ⟨w.heap.size, 1, none⟩) (hne3 w.heap.size (by omega)) (.slice (some ⟨wr.heap.size + 1 + 1, 0, none⟩) 2 2)) (a := ⟨w.heap.size, 2, none⟩) (hne3 w.heap.size (by omega)) (.slice (some ⟨w.heap.size + 1, 0, none⟩) 2 2)
        have k0 := (((h05.setCell (p := ⟨t3, 1, none⟩) ht3 (.slice (some ⟨wr.heap.size + 1 + 1, 0, none⟩) 2 2)).setCell (p := ⟨w.heap.size, 0, none⟩) (Nat.le_refl _) (.slice A3 s.l.length cap)).setCell (p := ⟨w.heap.size, 1, none⟩) (Nat.le_refl _) (.slice (some ⟨wr.heap.size + 1 + 1, 0, none⟩) 2 2)).setCell (p := ⟨w.heap.size, 2, none⟩) (Nat.le_refl _) (.slice (some ⟨w.heap.size + 1, 0, none⟩) 2 2)
        clear hfar hC5 hP0 hP1 hT5 hO5 h05 hR5
        generalize (((W5.setCell ⟨t3, 1, none⟩ (.slice (some ⟨wr.heap.size + 1 + 1, 0, none⟩) 2 2)).setCell ⟨w.heap.size, 0, none⟩ (.slice A3 s.l.length cap)).setCell ⟨w.heap.size, 1, none⟩ (.slice (some ⟨wr.heap.size + 1 + 1, 0, none⟩) 2 2)).setCell ⟨w.heap.size, 2, none⟩ (.slice (some ⟨w.heap.size + 1, 0, none⟩) 2 2) = W6 at *
        refine ret_cell (t := 31) kR rfl rfl Try.underlying31 rfl (by kernel_rfl) rfl ?_
        refine ⟨A3, cap, some ⟨wr.heap.size + 1 + 1, 0, none⟩, some ⟨w.heap.size + 1, 0, none⟩, by rw [HF.out], ?_, by rw [HF.out]; exact hcap, hcm, tm_slr kT kP0 kP1, slr_blk (enc := encCk) kC (fun _ => rfl) (fun _ => rfl), k0⟩
        rw [HF.out]
        obtain ⟨A', cap', e, _, _, h⟩ := own_slr (R := RAr) kO (fun _ => rfl) (fun _ => rfl) rfl
        injection e with e1 _ _
        rw [e1]; exact h
    · have HF : Hid (madeA l = s.l) := by
        show madeA l = s.l
        unfold madeA
        rw [show min l.length 14 = k by omega, HS.out]
      have hR := HB0.out.below hb (by omega)
      have kk1 := hB.cell 1
      have kk2 := hB.cell 2
      have qq1 := hB.frozen 1
      have r0 := hR.cell 0
      have r1 := hR.cell 1
      have r2 := hR.cell 2
      have z0 := hR.frozen 0
      have z1 := hR.frozen 1
      have z2 := hR.frozen 2
      have hRl := hR.lt
      obtain ⟨A3, cap, rfl, hcap, hcm, hslr⟩ := own_slr (R := RAr) hown (fun _ => rfl) (fun _ => rfl) rfl
      have hne1 : w.heap.size ≠ w.heap.size + 1 + 1 := by omega
      have m6 : w.heap.size + 1 ≠ wr.heap.size := by omega
      have m0 : w.heap.size ≠ wr.heap.size := by omega
      have m1 : w.heap.size ≠ wr.heap.size + 1 := by omega
      have m2 : w.heap.size ≠ wr.heap.size + 1 + 1 := by omega
      have m3 : w.heap.size + 1 + 1 ≠ wr.heap.size := by omega
      have m4 : w.heap.size + 1 + 1 ≠ wr.heap.size + 1 := by omega
      have m5 : w.heap.size + 1 + 1 ≠ wr.heap.size + 1 + 1 := by omega
      simp at kk1 kk2 r0 r1 r2
      have HB := Lib.hid hB
      have HR := Lib.hid hR
      have HBb := Lib.hid hb
      have HOw := Lib.hid hown
      have HSl := Lib.hid hslr
      clear hB hR hb hm hown hslr m6
      have hne2 : w.heap.size + 1 ≠ w.heap.size + 1 + 1 := by omega
      have hlt3 : w.heap.size + 1 + 1 < w.heap.size + 3 := by omega
      have ht3 : w.heap.size ≤ w.heap.size + 1 + 1 := by omega
      generalize w.heap.size + 1 + 1 = t3 at *
      have hB5 : Blk (((wr.alloc (.cells #[.int .i64 0, .int .i64 0, .int .i64 20, .int .i64 20] 36)).alloc (.cells #[.int .i64 20, .int .i64 0, .int .i64 0, .int .i64 20, .int .i64 20, .int .i64 40] 36)).alloc (.cells #[.int .u8 97, .slice (some ⟨wr.heap.size, 0, none⟩) 2 2, .int .u8 98, .slice (some ⟨wr.heap.size + 1, 0, none⟩) 3 3] 55)) t3 31 _ := ((HB.out.alloc _).alloc _).alloc _
      have hR5 : Blk (((wr.alloc (.cells #[.int .i64 0, .int .i64 0, .int .i64 20, .int .i64 20] 36)).alloc (.cells #[.int .i64 20, .int .i64 0, .int .i64 0, .int .i64 20, .int .i64 20, .int .i64 40] 36)).alloc (.cells #[.int .u8 97, .slice (some ⟨wr.heap.size, 0, none⟩) 2 2, .int .u8 98, .slice (some ⟨wr.heap.size + 1, 0, none⟩) 3 3] 55)) w.heap.size 31 _ := ((HR.out.alloc _).alloc _).alloc _
      have v0 := hB5.cell 0
      have v1 := hB5.cell 1
      have v2 := hB5.cell 2
      have vf := hB5.frozen 1
      have u0' := hR5.cell 0
      have uf0 := hR5.frozen 0
      have u1' := hR5.cell 1
      have uf1 := hR5.frozen 1
      have u2' := hR5.cell 2
      have uf2 := hR5.frozen 2
      have HB5 := Lib.hid hB5
      have HR5 := Lib.hid hR5
      have hs5 : t3 < (((wr.alloc (.cells #[.int .i64 0, .int .i64 0, .int .i64 20, .int .i64 20] 36)).alloc (.cells #[.int .i64 20, .int .i64 0, .int .i64 0, .int .i64 20, .int .i64 20, .int .i64 40] 36)).alloc (.cells #[.int .u8 97, .slice (some ⟨wr.heap.size, 0, none⟩) 2 2, .int .u8 98, .slice (some ⟨wr.heap.size + 1, 0, none⟩) 3 3] 55)).heap.size := hB5.lt
      replace v0 := v0.trans (show _ = some (.slice A3 s.l.length cap) from rfl)
      replace v1 := v1.trans (show _ = some (.slice none 0 0) from rfl)
      replace v2 := v2.trans (show _ = some (.slice (some ⟨w.heap.size + 1, 0, none⟩) 2 2) from rfl)
      replace u0' := u0'.trans (show _ = some (.slice none 0 0) from rfl)
      replace u1' := u1'.trans (show _ = some (.slice none 0 0) from rfl)
      replace u2' := u2'.trans (show _ = some (.slice none 0 0) from rfl)
      clear hB5 hR5 m0 m1 m2 m3 m4 m5 qq1 kk0 kk1 kk2 r0 r1 r2 z0 z1 z2
      go_wp2_with fail
      (try simp only [Exit.inBlock, Exit.then])
      have hC1 := (HB1.out.below HBb.out (by omega))
      have hC5 : Blk (((wr.alloc (.cells #[.int .i64 0, .int .i64 0, .int .i64 20, .int .i64 20] 36)).alloc (.cells #[.int .i64 20, .int .i64 0, .int .i64 0, .int .i64 20, .int .i64 20, .int .i64 40] 36)).alloc (.cells #[.int .u8 97, .slice (some ⟨wr.heap.size, 0, none⟩) 2 2, .int .u8 98, .slice (some ⟨wr.heap.size + 1, 0, none⟩) 3 3] 55)) (w.heap.size + 1) 60 _ := ((hC1.alloc _).alloc _).alloc _
      have hP0 : Blk (((wr.alloc (.cells #[.int .i64 0, .int .i64 0, .int .i64 20, .int .i64 20] 36)).alloc (.cells #[.int .i64 20, .int .i64 0, .int .i64 0, .int .i64 20, .int .i64 20, .int .i64 40] 36)).alloc (.cells #[.int .u8 97, .slice (some ⟨wr.heap.size, 0, none⟩) 2 2, .int .u8 98, .slice (some ⟨wr.heap.size + 1, 0, none⟩) 3 3] 55)) wr.heap.size 36 _ := ((Blk.new _ _ _).alloc _).alloc _
      have hP1 : Blk (((wr.alloc (.cells #[.int .i64 0, .int .i64 0, .int .i64 20, .int .i64 20] 36)).alloc (.cells #[.int .i64 20, .int .i64 0, .int .i64 0, .int .i64 20, .int .i64 20, .int .i64 40] 36)).alloc (.cells #[.int .u8 97, .slice (some ⟨wr.heap.size, 0, none⟩) 2 2, .int .u8 98, .slice (some ⟨wr.heap.size + 1, 0, none⟩) 3 3] 55)) (wr.heap.size + 1) 36 _ := (Blk.new_ (by simp)).alloc _
      have hT5 : Blk (((wr.alloc (.cells #[.int .i64 0, .int .i64 0, .int .i64 20, .int .i64 20] 36)).alloc (.cells #[.int .i64 20, .int .i64 0, .int .i64 0, .int .i64 20, .int .i64 20, .int .i64 40] 36)).alloc (.cells #[.int .u8 97, .slice (some ⟨wr.heap.size, 0, none⟩) 2 2, .int .u8 98, .slice (some ⟨wr.heap.size + 1, 0, none⟩) 3 3] 55)) (wr.heap.size + 1 + 1) 55 _ := Blk.new_ (by simp)
      have hO5 : World.ownsRow (((wr.alloc (.cells #[.int .i64 0, .int .i64 0, .int .i64 20, .int .i64 20] 36)).alloc (.cells #[.int .i64 20, .int .i64 0, .int .i64 0, .int .i64 20, .int .i64 20, .int .i64 40] 36)).alloc (.cells #[.int .u8 97, .slice (some ⟨wr.heap.size, 0, none⟩) 2 2, .int .u8 98, .slice (some ⟨wr.heap.size + 1, 0, none⟩) 3 3] 55)) (w.heap.size + 3) 57 5 (.slice A3 s.l.length cap) s.l.length (s.l.flatMap encA) := ((HOw.out.alloc _).alloc _).alloc _
      have h05 : Below w.heap.size w (((wr.alloc (.cells #[.int .i64 0, .int .i64 0, .int .i64 20, .int .i64 20] 36)).alloc (.cells #[.int .i64 20, .int .i64 0, .int .i64 0, .int .i64 20, .int .i64 20, .int .i64 40] 36)).alloc (.cells #[.int .u8 97, .slice (some ⟨wr.heap.size, 0, none⟩) 2 2, .int .u8 98, .slice (some ⟨wr.heap.size + 1, 0, none⟩) 3 3] 55)) := nw _ (nw _ (nw _ (hbw3.trans (HBb.out.mono ht3))))
      have hR5 := HR5.out
      clear HR5 HB5 v0 v1 v2 vf u0' u1' u2' uf0 uf1 uf2 hs5
      generalize (((wr.alloc (.cells #[.int .i64 0, .int .i64 0, .int .i64 20, .int .i64 20] 36)).alloc (.cells #[.int .i64 20, .int .i64 0, .int .i64 0, .int .i64 20, .int .i64 20, .int .i64 40] 36)).alloc (.cells #[.int .u8 97, .slice (some ⟨wr.heap.size, 0, none⟩) 2 2, .int .u8 98, .slice (some ⟨wr.heap.size + 1, 0, none⟩) 3 3] 55)) = W5 at *
      have hfar : ∀ (g : Nat) (t : TypeId) (cs : Array Value), g ≠ t3 → g ≠ w.heap.size → Blk W5 g t cs → Blk ((((W5.setCell ⟨t3, 1, none⟩ (.slice (some ⟨wr.heap.size + 1 + 1, 0, none⟩) 2 2)).setCell ⟨w.heap.size, 0, none⟩ (.slice A3 s.l.length cap)).setCell ⟨w.heap.size, 1, none⟩ (.slice (some ⟨wr.heap.size + 1 + 1, 0, none⟩) 2 2)).setCell ⟨w.heap.size, 2, none⟩ (.slice (some ⟨w.heap.size + 1, 0, none⟩) 2 2)) g t cs := fun g t cs h1 h2 h =>
        (((h.far (p := ⟨t3, 1, none⟩) h1 _).far (p := ⟨w.heap.size, 0, none⟩) h2 _).far (p := ⟨w.heap.size, 1, none⟩) h2 _).far (p := ⟨w.heap.size, 2, none⟩) h2 _
      have kR : Blk ((((W5.setCell ⟨t3, 1, none⟩ (.slice (some ⟨wr.heap.size + 1 + 1, 0, none⟩) 2 2)).setCell ⟨w.heap.size, 0, none⟩ (.slice A3 s.l.length cap)).setCell ⟨w.heap.size, 1, none⟩ (.slice (some ⟨wr.heap.size + 1 + 1, 0, none⟩) 2 2)).setCell ⟨w.heap.size, 2, none⟩ (.slice (some ⟨w.heap.size + 1, 0, none⟩) 2 2)) w.heap.size 31 #[(.slice A3 s.l.length cap), (.slice (some ⟨wr.heap.size + 1 + 1, 0, none⟩) 2 2), (.slice (some ⟨w.heap.size + 1, 0, none⟩) 2 2)] := (((hR5.far (p := ⟨t3, 1, none⟩) hne1 _).set_ 0 _).set_ 1 _).set_ 2 _
      have kC := hfar _ _ _ hne2 (by omega) hC5
      have kP0 := hfar _ _ _ (by omega) (by omega) hP0
      have kP1 := hfar _ _ _ (by omega) (by omega) hP1
      have kT := hfar _ _ _ (by omega) (by omega) hT5
      have hne3 : ∀ (g : Nat), g < w.heap.size + 3 → (Value.slice A3 s.l.length cap).ownBlock ≠ some g := fun g hg e => by have := own_block_le hO5 _ e; omega
      have kO := own_set (own_set (own_set (own_set hO5 (a := ⟨t3, 1, none⟩) (hne3 t3 hlt3) (.slice (some ⟨wr.heap.size + 1 + 1, 0, none⟩) 2 2)) (a := ⟨w.heap.size, 0, none⟩) (hne3 w.heap.size (by omega)) (.slice A3 s.l.length cap)) (a := ⟨w.heap.size, 1, none⟩) (hne3 w.heap.size (by omega)) (.slice (some ⟨wr.heap.size + 1 + 1, 0, none⟩) 2 2)) (a := ⟨w.heap.size, 2, none⟩) (hne3 w.heap.size (by omega)) (.slice (some ⟨w.heap.size + 1, 0, none⟩) 2 2)
      have k0 := (((h05.setCell (p := ⟨t3, 1, none⟩) ht3 (.slice (some ⟨wr.heap.size + 1 + 1, 0, none⟩) 2 2)).setCell (p := ⟨w.heap.size, 0, none⟩) (Nat.le_refl _) (.slice A3 s.l.length cap)).setCell (p := ⟨w.heap.size, 1, none⟩) (Nat.le_refl _) (.slice (some ⟨wr.heap.size + 1 + 1, 0, none⟩) 2 2)).setCell (p := ⟨w.heap.size, 2, none⟩) (Nat.le_refl _) (.slice (some ⟨w.heap.size + 1, 0, none⟩) 2 2)
      clear hfar hC5 hP0 hP1 hT5 hO5 h05 hR5
      generalize (((W5.setCell ⟨t3, 1, none⟩ (.slice (some ⟨wr.heap.size + 1 + 1, 0, none⟩) 2 2)).setCell ⟨w.heap.size, 0, none⟩ (.slice A3 s.l.length cap)).setCell ⟨w.heap.size, 1, none⟩ (.slice (some ⟨wr.heap.size + 1 + 1, 0, none⟩) 2 2)).setCell ⟨w.heap.size, 2, none⟩ (.slice (some ⟨w.heap.size + 1, 0, none⟩) 2 2) = W6 at *
      refine ret_cell (t := 31) kR rfl rfl Try.underlying31 rfl (by kernel_rfl) rfl ?_
      refine ⟨A3, cap, some ⟨wr.heap.size + 1 + 1, 0, none⟩, some ⟨w.heap.size + 1, 0, none⟩, by rw [HF.out], ?_, by rw [HF.out]; exact hcap, hcm, tm_slr kT kP0 kP1, slr_blk (enc := encCk) kC (fun _ => rfl) (fun _ => rfl), k0⟩
      rw [HF.out]
      obtain ⟨A', cap', e, _, _, h⟩ := own_slr (R := RAr) kO (fun _ => rfl) (fun _ => rfl) rfl
      injection e with e1 _ _
      rw [e1]; exact h
end Go.Proofs.Ytpjecpefbfobdaa
