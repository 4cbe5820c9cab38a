/-
  The fixed examples of layer 19.
-/
import Derived.Test.YtpajajffkbkeaaaPgThree
import Derived.Test.YtpajajffkbkeaaaPgWalkD
namespace Go.Proofs.Ytpajajffkbkeaaa
open Go Go.RowKit

theorem three_R : allR threeG = [canA, canB_] := isAll_unique (allR_is three_ok (by decide)) three_all
theorem san_m1 : makeM threeG 50 5 = ([canA], false, [2, 1, 0], 0) := by
  unfold makeM pgWh
  rw [if_pos (by decide), three_R, three_pot, show wantN threeG 50 5 = 1 by decide]
  rfl
theorem san_m2 : makeM threeG 50 6 = ([canA, canB_], true, [2, 1, 0], 0) := by
  unfold makeM pgWh
  rw [if_pos (by decide), three_R, three_pot, show wantN threeG 50 6 = 2 by decide]
  rfl
theorem san_m3 : makeM threeG 51 6 = ([], false, [], 1) := by
  unfold makeM
  rw [if_neg (by decide), show pgErr threeG 51 6 = 1 by decide]
theorem san_m4 : makeM threeG 1 (-1) = ([], false, [], 1) := by
  unfold makeM
  rw [if_neg (by decide), show pgErr threeG 1 (-1) = 1 by decide]
theorem san_m5 : makeM ⟨0, []⟩ 51 6 = ([], false, [], 150) := by
  unfold makeM
  rw [if_neg (by decide), show pgErr ⟨0, []⟩ 51 6 = 150 by decide]
theorem san_m6 : moreM threeG [canA] false 1 3 = ([canA, canB_], true, 0) := by
  unfold moreM pgWh
  rw [if_pos (by decide), three_check, if_pos (by decide), three_R, show wantN threeG 1 3 = 1 by decide]
  rfl
theorem san_m7 : moreM threeG [canB_] false 1 3 = ([], false, 160) := by
  unfold moreM
  rw [if_pos (by decide), three_check, if_neg (by decide)]
/-- A page in memory. -/
structure PgIn (W : World) (A : Option Addr) (c : Nat) (L : List Can) : Prop where
  s : SlR 2 RCan W A L
  l : L.length ≤ c
  m : c ≤ maxLen
theorem PgIn.mono {W W' : World} {A : Option Addr} {c : Nat} {L : List Can} (h : PgIn W A c L) (hb : Below W.heap.size W W') : PgIn W' A c L := ⟨h.s.below keeps_can hb, h.l, h.m⟩
theorem IsMk.in_ {M : List Can × Bool × List Int × Int} {w : World} {e : Ending} {w' : World} : IsMk M w e w' → ∃ A c B d, e = .returned (.tuple #[.agg #[.slice A M.1.length c, .bool M.2.1], .slice B M.2.2.1.length d, .int .i64 M.2.2.2]) ∧ PgIn w' A c M.1 ∧ SlR 1 RInt w' B M.2.2.1 ∧ Below w.heap.size w w' :=
  fun ⟨A, c, ms, _, B, d, h1, h2, h3, h4, h5, h6, _, h8, _, _, h11⟩ => ⟨A, c, B, d, h1, ⟨by have := mc_can h2 h3; rwa [h4.out] at this, h5, h6⟩, h8.slr, h11⟩
theorem IsMr.in_ {M : List Can × Bool × Int} {w : World} {e : Ending} {w' : World} : IsMr M w e w' → ∃ A c, e = .returned (.tuple #[.agg #[.slice A M.1.length c, .bool M.2.1], .int .i64 M.2.2]) ∧ PgIn w' A c M.1 ∧ Below w.heap.size w w' :=
  fun ⟨A, c, ms, _, h1, h2, h3, h4, h5, h6, _, h8⟩ => ⟨A, c, h1, ⟨by have := mc_can h2 h3; rwa [h4.out] at this, h5, h6⟩, h8⟩
theorem IsMd.in_ {M : List Can × Bool × List Int × Int} {w : World} {e : Ending} {w' : World} : IsMd M w e w' → ∃ A c B d, e = .returned (.agg #[.slice A M.1.length c, .bool M.2.1, .slice B M.2.2.1.length d, .int .i64 M.2.2.2]) ∧ PgIn w' A c M.1 ∧ SlR 1 RInt w' B M.2.2.1 ∧ M.2.2.1.length ≤ d ∧ d ≤ maxLen ∧ Below w.heap.size w w' :=
  fun ⟨A, c, ms, _, B, d, h1, h2, h3, h4, h5, h6, _, h8, h9, h10, h11⟩ => ⟨A, c, B, d, h1, ⟨by have := mc_can h2 h3; rwa [h4.out] at this, h5, h6⟩, h8.slr, h9, h10, h11⟩
section
variable {bG gl b1 r1 b2 r2 : Nat} {W : World}
theorem san_mk (h : San bG gl b1 r1 b2 r2 W) (k b : Int) (hb : b ≤ 1000000) : Calls Try.prog 23 #[(.agg #[.int .i64 3, .slice (some ⟨gl, 0, none⟩) 3 3]), .int .i64 k, .int .i64 b] W fun e w' => ∃ A c B d, e = .returned (.tuple #[.agg #[.slice A (makeM threeG k b).1.length c, .bool (makeM threeG k b).2.1], .slice B (makeM threeG k b).2.2.1.length d, .int .i64 (makeM threeG k b).2.2.2]) ∧ PgIn w' A c (makeM threeG k b).1 ∧ SlR 1 RInt w' B (makeM threeG k b).2.2.1 ∧ Below W.heap.size W w' :=
  (make_any (some ⟨gl, 0, none⟩) 3 threeG k b W h.links (by decide) hb).mono fun _ _ h => h.in_
theorem san_mk1 (h : San bG gl b1 r1 b2 r2 W) : Calls Try.prog 23 #[(.agg #[.int .i64 3, .slice (some ⟨gl, 0, none⟩) 3 3]), .int .i64 50, .int .i64 5] W fun e w' => ∃ A c B d, e = .returned (.tuple #[.agg #[.slice A 1 c, .bool false], .slice B 3 d, .int .i64 0]) ∧ PgIn w' A c [canA] ∧ SlR 1 RInt w' B [2, 1, 0] ∧ Below W.heap.size W w' := by
  have h := san_mk h 50 5 (by decide)
  rw [san_m1] at h
  exact h
theorem san_mk2 (h : San bG gl b1 r1 b2 r2 W) : Calls Try.prog 23 #[(.agg #[.int .i64 3, .slice (some ⟨gl, 0, none⟩) 3 3]), .int .i64 50, .int .i64 6] W fun e w' => ∃ A c B d, e = .returned (.tuple #[.agg #[.slice A 2 c, .bool true], .slice B 3 d, .int .i64 0]) ∧ PgIn w' A c [canA, canB_] ∧ SlR 1 RInt w' B [2, 1, 0] ∧ Below W.heap.size W w' := by
  have h := san_mk h 50 6 (by decide)
  rw [san_m2] at h
  exact h
theorem san_mk3 (h : San bG gl b1 r1 b2 r2 W) : Calls Try.prog 23 #[(.agg #[.int .i64 3, .slice (some ⟨gl, 0, none⟩) 3 3]), .int .i64 51, .int .i64 6] W fun e w' => ∃ A c B d, e = .returned (.tuple #[.agg #[.slice A 0 c, .bool false], .slice B 0 d, .int .i64 1]) ∧ Below W.heap.size W w' := by
  have h := san_mk h 51 6 (by decide)
  rw [san_m3] at h
  exact h.mono fun e w' ⟨A, c, B, d, h1, _, _, h4⟩ => ⟨A, c, B, d, h1, h4⟩
theorem san_mk4 (h : San bG gl b1 r1 b2 r2 W) : Calls Try.prog 23 #[(.agg #[.int .i64 3, .slice (some ⟨gl, 0, none⟩) 3 3]), .int .i64 1, .int .i64 (-1)] W fun e w' => ∃ A c B d, e = .returned (.tuple #[.agg #[.slice A 0 c, .bool false], .slice B 0 d, .int .i64 1]) ∧ Below W.heap.size W w' := by
  have h := san_mk h 1 (-1) (by decide)
  rw [san_m4] at h
  exact h.mono fun e w' ⟨A, c, B, d, h1, _, _, h4⟩ => ⟨A, c, B, d, h1, h4⟩
theorem san_mk5 (W : World) : Calls Try.prog 23 #[.agg #[.int .i64 0, .slice none 0 0], .int .i64 51, .int .i64 6] W fun e w' => ∃ A c B d, e = .returned (.tuple #[.agg #[.slice A 0 c, .bool false], .slice B 0 d, .int .i64 150]) ∧ Below W.heap.size W w' := by
  have h := (make_any none 0 ⟨0, []⟩ 51 6 W SlR.nil (by decide) (by decide)).mono fun _ _ h => h.in_
  rw [san_m5] at h
  exact h.mono fun e w' ⟨A, c, B, d, h1, _, _, h4⟩ => ⟨A, c, B, d, h1, h4⟩
theorem san_mr1 (h : San bG gl b1 r1 b2 r2 W) {A : Option Addr} {c : Nat} (hp : PgIn W A c [canA]) : Calls Try.prog 14 #[(.agg #[.int .i64 3, .slice (some ⟨gl, 0, none⟩) 3 3]), .agg #[.slice A 1 c, .bool false], .int .i64 1, .int .i64 3] W fun e w' => ∃ A c, e = .returned (.tuple #[.agg #[.slice A 2 c, .bool true], .int .i64 0]) ∧ PgIn w' A c [canA, canB_] ∧ Below W.heap.size W w' := by
  have h := (more_any (some ⟨gl, 0, none⟩) 3 threeG A [canA] c false 1 3 W h.links (by decide) hp.s (by decide) hp.l (by decide)).mono fun _ _ h => h.in_
  rw [san_m6] at h
  exact h
theorem san_mr2 (h : San bG gl b1 r1 b2 r2 W) {A : Option Addr} {c : Nat} (hp : PgIn W A c [canB_]) : Calls Try.prog 14 #[(.agg #[.int .i64 3, .slice (some ⟨gl, 0, none⟩) 3 3]), .agg #[.slice A 1 c, .bool false], .int .i64 1, .int .i64 3] W fun e w' => ∃ A c, e = .returned (.tuple #[.agg #[.slice A 0 c, .bool false], .int .i64 160]) ∧ Below W.heap.size W w' := by
  have h := (more_any (some ⟨gl, 0, none⟩) 3 threeG A [canB_] c false 1 3 W h.links (by decide) hp.s (by decide) hp.l (by decide)).mono fun _ _ h => h.in_
  rw [san_m7] at h
  exact h.mono fun e w' ⟨A, c, h1, _, h4⟩ => ⟨A, c, h1, h4⟩
theorem san_mr2_ (h : San bG gl b1 r1 b2 r2 W) : Calls Try.prog 14 #[(.agg #[.int .i64 3, .slice (some ⟨gl, 0, none⟩) 3 3]), .agg #[.slice (some ⟨W.heap.size, 0, none⟩) 1 1, .bool false], .int .i64 1, .int .i64 3] (W.alloc (.cells #[.slice (some ⟨r2, 0, none⟩) 1 1, .int .i64 5] 61)) fun e w' => ∃ A c, e = .returned (.tuple #[.agg #[.slice A 0 c, .bool false], .int .i64 160]) ∧ Below W.heap.size W w' := by
  obtain ⟨P, hP⟩ : ∃ P, W.alloc (.cells #[.slice (some ⟨r2, 0, none⟩) 1 1, .int .i64 5] 61) = P := ⟨_, rfl⟩
  have hb : Below W.heap.size W P := by rw [← hP]; exact nw _ (Below.refl _ _)
  have hC : Blk P W.heap.size 61 #[.slice (some ⟨r2, 0, none⟩) 1 1, .int .i64 5] := by rw [← hP]; exact Blk.new _ _ _
  rw [hP]
  have h := h.mono hb
  exact (san_mr2 h (A := some ⟨W.heap.size, 0, none⟩) (c := 1) ⟨slr_oneC h.canB__ hC, by decide, by decide⟩).mono fun e w' ⟨A, c, h1, h2⟩ => ⟨A, c, h1, bthen hb h2⟩
end
theorem san_same {W : World} {A B : Option Addr} {c d : Nat} {L M : List Can} (h1 : PgIn W A c L) (h2 : PgIn W B d M) (wh wm : Bool) (he : (decide (L = M) && (wh == wm)) = true) (n m : Nat) (hn : L.length = n) (hm : M.length = m) : Calls Try.prog 18 #[.agg #[.slice A n c, .bool wh], .agg #[.slice B m d, .bool wm]] W fun e w' => e = .returned (.bool true) ∧ Below W.heap.size W w' := by
  subst hn hm
  have h := psame_any A B L M c d wh wm W h1.s h2.s (Nat.le_trans h1.l h1.m) (Nat.le_trans h2.l h2.m)
  rw [he] at h
  exact h
theorem san_pre {W : World} {A B : Option Addr} {c d : Nat} {L M : List Can} (h1 : PgIn W A c L) (h2 : PgIn W B d M) (wh wm v : Bool) (he : prefB L wh M wm = v) (n m : Nat) (hn : L.length = n) (hm : M.length = m) : Calls Try.prog 15 #[.agg #[.slice A n c, .bool wh], .agg #[.slice B m d, .bool wm]] W fun e w' => e = .returned (.bool v) ∧ Below W.heap.size W w' := by
  subst hn hm
  have h := prefix_any A B L M c d wh wm W h1.s h2.s h1.l h1.m h2.l h2.m
  rw [he] at h
  exact h
theorem pgin_nil (W : World) : PgIn W none 0 [] := ⟨SlR.nil, Nat.le_refl _, Nat.zero_le _⟩
set_option maxRecDepth 100000 in
set_option maxHeartbeats 16000000 in
theorem sanity19_any (w : World) : Calls Try.prog 9 #[] w fun e w' => e = .returned (.bool true) ∧ Below w.heap.size w w' := by
  go_enter Try.func9, Try.ntmps9
  go_upto_region 2 with (go_at_call 22; go_loud (refine (three_any w).mono ?_; rintro e w1 ⟨gl, rfl, hgl, hb1⟩))
  obtain ⟨W2, hW2⟩ : ∃ W, w1.alloc (.cells #[.int .i64 3, .slice (some ⟨gl, 0, none⟩) 3 3] 29) = W := ⟨_, rfl⟩
  have hb2 : Below w1.heap.size w1 W2 := by rw [← hW2]; exact nw _ (Below.refl _ _)
  have hG2 : Blk W2 w1.heap.size 29 #[.int .i64 3, .slice (some ⟨gl, 0, none⟩) 3 3] := by rw [← hW2]; exact Blk.new _ _ _
  have hgl2 := hgl.below hb2 hgl.lt
  rw [hW2]
  obtain ⟨bG, hbG⟩ : ∃ b, w1.heap.size = b := ⟨_, rfl⟩
  have hbw2 := bthen hb1 hb2
  rw [hbG] at hG2 ⊢
  clear hW2 hbG hgl hb2 hb1
  have go_ := hG2.lt
  obtain ⟨W6, hW6⟩ : ∃ W, (((W2.alloc (.cells #[.int .i64 0, .int .i64 1] 3)).alloc (.cells #[.slice (some ⟨W2.heap.size, 0, none⟩) 2 2, .int .i64 2] 61)).alloc (.cells #[.int .i64 2] 3)).alloc (.cells #[.slice (some ⟨W2.heap.size + 1 + 1, 0, none⟩) 1 1, .int .i64 5] 61) = W := ⟨_, rfl⟩
  have hb6 : Below W2.heap.size W2 W6 := by rw [← hW6]; exact nw _ (nw _ (nw _ (nw _ (Below.refl _ _))))
  have hS : San bG gl (W2.heap.size + 1) W2.heap.size (W2.heap.size + 1 + 1 + 1) (W2.heap.size + 1 + 1) W6 := by
    refine ⟨hG2.below hb6 hG2.lt, hgl2.below hb6 hgl2.lt, ?_, ?_, ?_, ?_⟩
    · rw [← hW6]; exact ((Blk.new_ (by simp)).alloc _).alloc _
    · rw [← hW6]; exact (((Row.new W2 [0, 1]).alloc _).alloc _).alloc _
    · rw [← hW6]; exact Blk.new_ (by simp)
    · rw [← hW6]
      have : Row (((W2.alloc (.cells #[.int .i64 0, .int .i64 1] 3)).alloc (.cells #[.slice (some ⟨W2.heap.size, 0, none⟩) 2 2, .int .i64 2] 61)).alloc (.cells #[.int .i64 2] 3)) (W2.heap.size + 1 + 1) [2] := Blk.new_ (by simp)
      exact this.alloc _
  have HW6 := Lib.hid hW6
  have hbw6 := bthen hbw2 hb6
  clear hW6 hb6 hgl2 hG2 hbw2
  go_upto_region 4 with fail
  rw [HW6.out]
  obtain ⟨r1, hr1⟩ : ∃ b, W2.heap.size = b := ⟨_, rfl⟩
  rw [hr1] at hS ⊢
  obtain ⟨b1, hb1e⟩ : ∃ b, r1 + 1 = b := ⟨_, rfl⟩
  rw [hb1e] at hS ⊢
  obtain ⟨r2, hr2⟩ : ∃ b, b1 + 1 = b := ⟨_, rfl⟩
  rw [hr2] at hS ⊢
  obtain ⟨b2, hb2e⟩ : ∃ b, r2 + 1 = b := ⟨_, rfl⟩
  rw [hb2e] at hS ⊢
  clear hr1 hb1e hr2 hb2e go_
  obtain ⟨s1, s2, s3, s4, s5, s6, s7, s8⟩ := hS.cells
  obtain ⟨bA, hbA⟩ : ∃ b, W6.heap.size = b := ⟨_, rfl⟩
  obtain ⟨W8, hW8⟩ : ∃ V, (((W6.alloc (.cells #[.slice (some ⟨r1, 0, none⟩) 2 2, .int .i64 2] 61)).alloc (.cells #[.slice (some ⟨W6.heap.size, 0, none⟩) 1 1, .bool false] 33)).alloc (.cells #[.slice (some ⟨r1, 0, none⟩) 2 2, .int .i64 2, .slice (some ⟨r2, 0, none⟩) 1 1, .int .i64 5] 61)).alloc (.cells #[.slice (some ⟨W6.heap.size + 1 + 1, 0, none⟩) 2 2, .bool true] 33) = V := ⟨_, rfl⟩
  have hb8 : Below W6.heap.size W6 W8 := by rw [← hW8]; exact nw _ (nw _ (nw _ (nw _ (Below.refl _ _))))
  have hA8 : Blk W8 W6.heap.size 61 #[.slice (some ⟨r1, 0, none⟩) 2 2, .int .i64 2] := by rw [← hW8]; exact (((Blk.new _ _ _).alloc _).alloc _).alloc _
  have h48 : Blk W8 (W6.heap.size + 1) 33 #[.slice (some ⟨W6.heap.size, 0, none⟩) 1 1, .bool false] := by rw [← hW8]; exact ((Blk.new_ (by simp)).alloc _).alloc _
  have hB8 : Blk W8 (W6.heap.size + 1 + 1) 61 #[.slice (some ⟨r1, 0, none⟩) 2 2, .int .i64 2, .slice (some ⟨r2, 0, none⟩) 1 1, .int .i64 5] := by rw [← hW8]; exact (Blk.new_ (by simp)).alloc _
  have h58 : Blk W8 (W6.heap.size + 1 + 1 + 1) 33 #[.slice (some ⟨W6.heap.size + 1 + 1, 0, none⟩) 2 2, .bool true] := by rw [← hW8]; exact Blk.new_ (by simp)
  have HW8 := Lib.hid hW8
  have hS8 := hS.mono hb8
  have hbw8 := bthen hbw6 hb8
  have hone : PgIn W8 (some ⟨W6.heap.size, 0, none⟩) 1 [canA] := ⟨slr_oneC hS8.canA_ hA8, by decide, by decide⟩
  have hboth : PgIn W8 (some ⟨W6.heap.size + 1 + 1, 0, none⟩) 2 [canA, canB_] := ⟨slr_two hS8.canA_ hS8.canB__ hB8, by decide, by decide⟩
  clear hW8 hbA hA8 hB8 hb8
  go_upto_region 6 with fail
  rw [HW8.out]
  obtain ⟨p4, hp4⟩ : ∃ b, W6.heap.size + 1 = b := ⟨_, rfl⟩
  rw [hp4] at h48 h58 hboth ⊢
  obtain ⟨pB, hpB⟩ : ∃ b, p4 + 1 = b := ⟨_, rfl⟩
  rw [hpB] at h58 hboth ⊢
  obtain ⟨p5, hp5⟩ : ∃ b, pB + 1 = b := ⟨_, rfl⟩
  rw [hp5] at h58 ⊢
  generalize (some ⟨W6.heap.size, 0, none⟩ : Option Addr) = Ao at *
  generalize (some ⟨pB, 0, none⟩ : Option Addr) = Ab at *
  clear hp4 hpB hp5 s1 s2 s3 s4 s5 s6 s7 s8 hS HW6 HW8 hbw6
  obtain ⟨s1, s2, s3, s4, s5, s6, s7, s8⟩ := hS8.cells
  go_upto_region 7 with (go_at_call 23; go_loud (refine (san_mk1 hS8).mono ?_; rintro e V9 ⟨A6, c6, B7, d7, rfl, hp6, hh7, hbv⟩))
  obtain ⟨W9, hW9⟩ : ∃ V, V9.alloc (.cells #[.slice A6 1 c6, .bool false] 33) = V := ⟨_, rfl⟩
  have hbx : Below V9.heap.size V9 W9 := by rw [← hW9]; exact nw _ (Below.refl _ _)
  have hX : Blk W9 V9.heap.size 33 #[.slice A6 1 c6, .bool false] := by rw [← hW9]; exact Blk.new _ _ _
  rw [hW9]
  have hS9 := hS8.mono (bthen hbv hbx)
  have hbw9 := bthen hbw8 (bthen hbv hbx)
  have hone := hone.mono (bthen hbv hbx)
  have hboth := hboth.mono (bthen hbv hbx)
  have h48 := h48.below (bthen hbv hbx) h48.lt
  have h58 := h58.below (bthen hbv hbx) h58.lt
  clear hW9 s1 s2 s3 s4 s5 s6 s7 s8 hS8 hbw8
  obtain ⟨s1, s2, s3, s4, s5, s6, s7, s8⟩ := hS9.cells
  have hp6 := hp6.mono hbx
  have hh7 := hh7.below keeps_int hbx
  obtain ⟨b6, hb6e⟩ : ∃ b, V9.heap.size = b := ⟨_, rfl⟩
  rw [hb6e] at hX ⊢
  have h69 := hX
  clear hbx hbv hX hb6e
  go_upto_region 8 with (go_at_call 23; go_loud (refine (san_mk2 hS9).mono ?_; rintro e V10 ⟨A9, c9, B10, d10, rfl, hp9, _, hbv⟩))
  obtain ⟨W10, hW10⟩ : ∃ V, V10.alloc (.cells #[.slice A9 2 c9, .bool true] 33) = V := ⟨_, rfl⟩
  have hbx : Below V10.heap.size V10 W10 := by rw [← hW10]; exact nw _ (Below.refl _ _)
  have hX : Blk W10 V10.heap.size 33 #[.slice A9 2 c9, .bool true] := by rw [← hW10]; exact Blk.new _ _ _
  rw [hW10]
  have hS10 := hS9.mono (bthen hbv hbx)
  have hbw10 := bthen hbw9 (bthen hbv hbx)
  have hone := hone.mono (bthen hbv hbx)
  have hboth := hboth.mono (bthen hbv hbx)
  have h48 := h48.below (bthen hbv hbx) h48.lt
  have h58 := h58.below (bthen hbv hbx) h58.lt
  clear hW10 s1 s2 s3 s4 s5 s6 s7 s8 hS9 hbw9
  obtain ⟨s1, s2, s3, s4, s5, s6, s7, s8⟩ := hS10.cells
  have hp9 := hp9.mono hbx
  have hp6 := hp6.mono (bthen hbv hbx)
  have hh7 := hh7.below keeps_int (bthen hbv hbx)
  have h69 := h69.below (bthen hbv hbx) h69.lt
  obtain ⟨b9, hb9e⟩ : ∃ b, V10.heap.size = b := ⟨_, rfl⟩
  rw [hb9e] at hX ⊢
  have h99 := hX
  clear hbx hbv hX hb9e
  go_upto_region 9 with (go_at_call 23; go_loud (refine (san_mk3 hS10).mono ?_; rintro e V11 ⟨A_, c_, B_, d_, rfl, hbv⟩))
  obtain ⟨W11, hW11⟩ : ∃ V, V11.alloc (.cells #[.slice A_ 0 c_, .bool false] 33) = V := ⟨_, rfl⟩
  have hbx : Below V11.heap.size V11 W11 := by rw [← hW11]; exact nw _ (Below.refl _ _)
  have hX : Blk W11 V11.heap.size 33 #[.slice A_ 0 c_, .bool false] := by rw [← hW11]; exact Blk.new _ _ _
  rw [hW11]
  have hS11 := hS10.mono (bthen hbv hbx)
  have hbw11 := bthen hbw10 (bthen hbv hbx)
  have hone := hone.mono (bthen hbv hbx)
  have hboth := hboth.mono (bthen hbv hbx)
  have h48 := h48.below (bthen hbv hbx) h48.lt
  have h58 := h58.below (bthen hbv hbx) h58.lt
  clear hW11 s1 s2 s3 s4 s5 s6 s7 s8 hS10 hbw10
  obtain ⟨s1, s2, s3, s4, s5, s6, s7, s8⟩ := hS11.cells
  have hp6 := hp6.mono (bthen hbv hbx)
  have hp9 := hp9.mono (bthen hbv hbx)
  have hh7 := hh7.below keeps_int (bthen hbv hbx)
  have h69 := h69.below (bthen hbv hbx) h69.lt
  have h99 := h99.below (bthen hbv hbx) h99.lt
  clear hbx hbv hX
  go_upto_region 10 with (go_at_call 23; go_loud (refine (san_mk4 hS11).mono ?_; rintro e V12 ⟨A_, c_, B_, d_, rfl, hbv⟩))
  obtain ⟨W12, hW12⟩ : ∃ V, V12.alloc (.cells #[.slice A_ 0 c_, .bool false] 33) = V := ⟨_, rfl⟩
  have hbx : Below V12.heap.size V12 W12 := by rw [← hW12]; exact nw _ (Below.refl _ _)
  have hX : Blk W12 V12.heap.size 33 #[.slice A_ 0 c_, .bool false] := by rw [← hW12]; exact Blk.new _ _ _
  rw [hW12]
  have hS12 := hS11.mono (bthen hbv hbx)
  have hbw12 := bthen hbw11 (bthen hbv hbx)
  have hone := hone.mono (bthen hbv hbx)
  have hboth := hboth.mono (bthen hbv hbx)
  have h48 := h48.below (bthen hbv hbx) h48.lt
  have h58 := h58.below (bthen hbv hbx) h58.lt
  clear hW12 s1 s2 s3 s4 s5 s6 s7 s8 hS11 hbw11
  obtain ⟨s1, s2, s3, s4, s5, s6, s7, s8⟩ := hS12.cells
  have hp6 := hp6.mono (bthen hbv hbx)
  have hp9 := hp9.mono (bthen hbv hbx)
  have hh7 := hh7.below keeps_int (bthen hbv hbx)
  have h69 := h69.below (bthen hbv hbx) h69.lt
  have h99 := h99.below (bthen hbv hbx) h99.lt
  clear hbx hbv hX
  go_upto_region 11 with (go_at_call 23; go_loud (refine (san_mk5 _).mono ?_; rintro e V13 ⟨A_, c_, B_, d_, rfl, hbv⟩))
  obtain ⟨W13, hW13⟩ : ∃ V, V13.alloc (.cells #[.slice A_ 0 c_, .bool false] 33) = V := ⟨_, rfl⟩
  have hbx : Below V13.heap.size V13 W13 := by rw [← hW13]; exact nw _ (Below.refl _ _)
  have hX : Blk W13 V13.heap.size 33 #[.slice A_ 0 c_, .bool false] := by rw [← hW13]; exact Blk.new _ _ _
  rw [hW13]
  have hS13 := hS12.mono (bthen hbv hbx)
  have hbw13 := bthen hbw12 (bthen hbv hbx)
  have hone := hone.mono (bthen hbv hbx)
  have hboth := hboth.mono (bthen hbv hbx)
  have h48 := h48.below (bthen hbv hbx) h48.lt
  have h58 := h58.below (bthen hbv hbx) h58.lt
  clear hW13 s1 s2 s3 s4 s5 s6 s7 s8 hS12 hbw12
  obtain ⟨s1, s2, s3, s4, s5, s6, s7, s8⟩ := hS13.cells
  have hp6 := hp6.mono (bthen hbv hbx)
  have hp9 := hp9.mono (bthen hbv hbx)
  have hh7 := hh7.below keeps_int (bthen hbv hbx)
  have h69 := h69.below (bthen hbv hbx) h69.lt
  have h99 := h99.below (bthen hbv hbx) h99.lt
  clear hbx hbv hX
  have o0 := h48.cell 0
  have o1 := h48.cell 1
  have ol := h48.lt
  simp at o0 o1
  go_upto_region 12 with (go_at_call 14; go_loud (refine (san_mr1 hS13 hone).mono ?_; rintro e V14 ⟨A21, c21, rfl, hp21, hbv⟩))
  obtain ⟨W14, hW14⟩ : ∃ V, V14.alloc (.cells #[.slice A21 2 c21, .bool true] 33) = V := ⟨_, rfl⟩
  have hbx : Below V14.heap.size V14 W14 := by rw [← hW14]; exact nw _ (Below.refl _ _)
  have hX : Blk W14 V14.heap.size 33 #[.slice A21 2 c21, .bool true] := by rw [← hW14]; exact Blk.new _ _ _
  rw [hW14]
  have hS14 := hS13.mono (bthen hbv hbx)
  have hbw14 := bthen hbw13 (bthen hbv hbx)
  have hone := hone.mono (bthen hbv hbx)
  have hboth := hboth.mono (bthen hbv hbx)
  have h48 := h48.below (bthen hbv hbx) h48.lt
  have h58 := h58.below (bthen hbv hbx) h58.lt
  clear hW14 s1 s2 s3 s4 s5 s6 s7 s8 hS13 hbw13
  obtain ⟨s1, s2, s3, s4, s5, s6, s7, s8⟩ := hS14.cells
  have hp21 := hp21.mono hbx
  have hp6 := hp6.mono (bthen hbv hbx)
  have hp9 := hp9.mono (bthen hbv hbx)
  have hh7 := hh7.below keeps_int (bthen hbv hbx)
  have h69 := h69.below (bthen hbv hbx) h69.lt
  have h99 := h99.below (bthen hbv hbx) h99.lt
  obtain ⟨b21, hb21e⟩ : ∃ b, V14.heap.size = b := ⟨_, rfl⟩
  rw [hb21e] at hX ⊢
  have h219 := hX
  clear hbx hbv hX hb21e o0 o1 ol
  go_upto_region 13 with (go_at_call 14; go_loud (refine (san_mr2_ hS14).mono ?_; rintro e V15 ⟨A_, c_, rfl, hbv⟩))
  obtain ⟨W15, hW15⟩ : ∃ V, V15.alloc (.cells #[.slice A_ 0 c_, .bool false] 33) = V := ⟨_, rfl⟩
  have hbx : Below V15.heap.size V15 W15 := by rw [← hW15]; exact nw _ (Below.refl _ _)
  have hX : Blk W15 V15.heap.size 33 #[.slice A_ 0 c_, .bool false] := by rw [← hW15]; exact Blk.new _ _ _
  rw [hW15]
  have hS15 := hS14.mono (bthen hbv hbx)
  have hbw15 := bthen hbw14 (bthen hbv hbx)
  have hone := hone.mono (bthen hbv hbx)
  have hboth := hboth.mono (bthen hbv hbx)
  have h48 := h48.below (bthen hbv hbx) h48.lt
  have h58 := h58.below (bthen hbv hbx) h58.lt
  clear hW15 s1 s2 s3 s4 s5 s6 s7 s8 hS14 hbw14
  obtain ⟨s1, s2, s3, s4, s5, s6, s7, s8⟩ := hS15.cells
  have hp6 := hp6.mono (bthen hbv hbx)
  have hp9 := hp9.mono (bthen hbv hbx)
  have hp21 := hp21.mono (bthen hbv hbx)
  have hh7 := hh7.below keeps_int (bthen hbv hbx)
  have h69 := h69.below (bthen hbv hbx) h69.lt
  have h99 := h99.below (bthen hbv hbx) h99.lt
  have h219 := h219.below (bthen hbv hbx) h219.lt
  clear hbx hbv hX
  go_upto_region 14 with fail
  have HC : Hid (∀ W', Below W15.heap.size W15 W' → W'.cell? ⟨p4, 0, none⟩ = some (.slice Ao 1 1) ∧ W'.cell? ⟨p4, 1, none⟩ = some (.bool false) ∧ p4 < W'.heap.size ∧ W'.cell? ⟨p5, 0, none⟩ = some (.slice Ab 2 2) ∧ W'.cell? ⟨p5, 1, none⟩ = some (.bool true) ∧ p5 < W'.heap.size ∧
      W'.cell? ⟨b6, 0, none⟩ = some (.slice A6 1 c6) ∧ W'.cell? ⟨b6, 1, none⟩ = some (.bool false) ∧ b6 < W'.heap.size ∧ W'.cell? ⟨b9, 0, none⟩ = some (.slice A9 2 c9) ∧ W'.cell? ⟨b9, 1, none⟩ = some (.bool true) ∧ b9 < W'.heap.size ∧ W'.cell? ⟨b21, 0, none⟩ = some (.slice A21 2 c21) ∧ W'.cell? ⟨b21, 1, none⟩ = some (.bool true) ∧ b21 < W'.heap.size) := fun W' hW' => by
    have e1 := h48.below hW' h48.lt
    have e2 := h58.below hW' h58.lt
    have e3 := h69.below hW' h69.lt
    have e4 := h99.below hW' h99.lt
    have e5 := h219.below hW' h219.lt
    exact ⟨by rw [e1.cell]; rfl, by rw [e1.cell]; rfl, e1.lt, by rw [e2.cell]; rfl, by rw [e2.cell]; rfl, e2.lt, by rw [e3.cell]; rfl, by rw [e3.cell]; rfl, e3.lt, by rw [e4.cell]; rfl, by rw [e4.cell]; rfl, e4.lt, by rw [e5.cell]; rfl, by rw [e5.cell]; rfl, e5.lt⟩
  have HONE := Lib.hid hone
  have HBOTH := Lib.hid hboth
  have HP6 := Lib.hid hp6
  have HP9 := Lib.hid hp9
  have HP21 := Lib.hid hp21
  have HH7 := Lib.hid hh7
  have HBW := Lib.hid hbw15
  obtain ⟨c1, c2, c3, c4, c5, c6_, c7, c8, c9_, c10, c11, c12, c13, c14, c15⟩ := HC.out _ (Below.refl _ _)
  clear hone hboth hp6 hp9 hp21 hh7 hbw15 h48 h58 h69 h99 h219 s1 s2 s3 s4 s5 s6 s7 s8 hS15
  have hx0 : Below W15.heap.size W15 W15 := Below.refl _ _
  go_wp2_with (first
    | (go_at_call 18; (with_reducible refine (san_same (HP6.out.mono hx0) (HONE.out.mono hx0) false false (by decide) 1 1 rfl rfl).mono ?_); rintro e X1 ⟨rfl, hy1⟩; have hx1 := bthen hx0 hy1; obtain ⟨c1, c2, c3, c4, c5, c6_, c7, c8, c9_, c10, c11, c12, c13, c14, c15⟩ := HC.out _ hx1)
    | (go_at_call 18; (with_reducible refine (san_same (HP9.out.mono hx1) (HBOTH.out.mono hx1) true true (by decide) 2 2 rfl rfl).mono ?_); rintro e X2 ⟨rfl, hy2⟩; have hx2 := bthen hx1 hy2; obtain ⟨c1, c2, c3, c4, c5, c6_, c7, c8, c9_, c10, c11, c12, c13, c14, c15⟩ := HC.out _ hx2)
    | (go_at_call 18; (with_reducible refine (san_same (HP21.out.mono hx2) (HBOTH.out.mono hx2) true true (by decide) 2 2 rfl rfl).mono ?_); rintro e X3 ⟨rfl, hy3⟩; have hx3 := bthen hx2 hy3; obtain ⟨c1, c2, c3, c4, c5, c6_, c7, c8, c9_, c10, c11, c12, c13, c14, c15⟩ := HC.out _ hx3)
    | (go_at_call 17; (with_reducible refine (san_i (HH7.out.below keeps_int hx3)).mono ?_); rintro e X4 ⟨rfl, hy4⟩; have hx4 := bthen hx3 hy4; obtain ⟨c1, c2, c3, c4, c5, c6_, c7, c8, c9_, c10, c11, c12, c13, c14, c15⟩ := HC.out _ hx4)
    | (go_at_call 15; (with_reducible refine (san_pre (HONE.out.mono hx4) (HBOTH.out.mono hx4) false true true (by decide) 1 2 rfl rfl).mono ?_); rintro e X5 ⟨rfl, hy5⟩; have hx5 := bthen hx4 hy5; obtain ⟨c1, c2, c3, c4, c5, c6_, c7, c8, c9_, c10, c11, c12, c13, c14, c15⟩ := HC.out _ hx5)
    | (go_at_call 15; (with_reducible refine (san_pre (HBOTH.out.mono hx5) (HONE.out.mono hx5) true false false (by decide) 2 1 rfl rfl).mono ?_); rintro e X6 ⟨rfl, hy6⟩; have hx6 := bthen hx5 hy6; obtain ⟨c1, c2, c3, c4, c5, c6_, c7, c8, c9_, c10, c11, c12, c13, c14, c15⟩ := HC.out _ hx6)
    | (go_at_call 15; (with_reducible refine (san_pre (pgin_nil _) (HONE.out.mono hx6) false false true (by decide) 0 1 rfl rfl).mono ?_); rintro e X7 ⟨rfl, hy7⟩; have hx7 := bthen hx6 hy7; obtain ⟨c1, c2, c3, c4, c5, c6_, c7, c8, c9_, c10, c11, c12, c13, c14, c15⟩ := HC.out _ hx7)
    | (go_at_call 15; (with_reducible refine (san_pre (pgin_nil _) (HONE.out.mono hx7) true false false (by decide) 0 1 rfl rfl).mono ?_); rintro e X8 ⟨rfl, hy8⟩; have hx8 := bthen hx7 hy8; obtain ⟨c1, c2, c3, c4, c5, c6_, c7, c8, c9_, c10, c11, c12, c13, c14, c15⟩ := HC.out _ hx8)
    | (go_at_call 15; (with_reducible refine (san_pre (HBOTH.out.mono hx8) (HBOTH.out.mono hx8) true true true (by decide) 2 2 rfl rfl).mono ?_); rintro e X9 ⟨rfl, hy9⟩; have hx9 := bthen hx8 hy9))
  go_ret
  exact ⟨rfl, bthen HBW.out hx9⟩
end Go.Proofs.Ytpajajffkbkeaaa
