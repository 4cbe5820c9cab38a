/-
  OuWalkD, OuWalkE, joined. No conditions.
-/
import Derived.Test.YtkjfdjcagfkdhaaP06
/-
  The walks of layers 05 and 08: schemes that are valid, by the program and by the reference.
-/
namespace Go.Proofs.Ytkjfdjcagfkdhaa
open Go Go.RowKit

set_option maxRecDepth 100000 in
set_option maxHeartbeats 4000000 in
theorem valid05_any (s : Sc) (A : Option Addr) (c : Nat) (w : World) (hs : ScIn w s A c) : Calls Try.prog 58 #[.agg #[.int .i64 s.n, .int .u8 s.acc, .slice A s.rs.length c]] w fun e w' => e = .returned (.bool (decide (ScOK s))) ∧ Below w.heap.size w w' := by
  obtain ⟨w1, hw1⟩ : ∃ w1, w.alloc (.cells #[.int .i64 s.n, .int .u8 s.acc, .slice A s.rs.length c] 30) = w1 := ⟨_, rfl⟩
  have hb1 : Below w.heap.size w w1 := by rw [← hw1]; exact nw _ (Below.refl _ _)
  have hB : Blk w1 w.heap.size 30 #[.int .i64 s.n, .int .u8 s.acc, .slice A s.rs.length c] := by rw [← hw1]; exact Blk.new _ _ _
  have HW1 := Lib.hid hw1
  have HB1 := Lib.hid hb1
  have HCE : Hid (∀ W, Below w1.heap.size w1 W → W.cell? ⟨w.heap.size, 0, none⟩ = some (.int .i64 s.n) ∧ W.cell? ⟨w.heap.size, 1, none⟩ = some (.int .u8 s.acc) ∧ W.cell? ⟨w.heap.size, 2, none⟩ = some (.slice A s.rs.length c) ∧ w.heap.size < W.heap.size) := fun W hW => by
    have e1 := hB.below hW hB.lt
    exact ⟨by rw [e1.cell]; rfl, by rw [e1.cell]; rfl, by rw [e1.cell]; rfl, e1.lt⟩
  obtain ⟨b0, b1, b2, bl⟩ := HCE.out _ (Below.refl _ _)
  clear hw1 hb1 hB
  have HS := Lib.hid (hs.below HB1.out)
  clear hs
  by_cases h : ScOK s
  · have HV := Lib.hid (decide_eq_true h)
    go_enter Try.func58, Try.ntmps58
    go_upto_region 1 with fail
    rw [HW1.out]
    go_wp2_with (go_at_call 69; go_loud (refine (check05_any s A c w1 HS.out).mono ?_; rintro e w2 ⟨⟨i, rfl⟩, hb2⟩; rw [if_pos h]))
    go_ret
    exact ⟨ret_bool HV.out.symm, bthen HB1.out hb2⟩
  · have HV := Lib.hid (decide_eq_false h)
    go_enter Try.func58, Try.ntmps58
    go_upto_region 1 with fail
    rw [HW1.out]
    go_wp2_with (go_at_call 69; go_loud (refine (check05_any s A c w1 HS.out).mono ?_; rintro e w2 ⟨⟨i, rfl⟩, hb2⟩; rw [if_neg h]))
    go_ret
    exact ⟨ret_bool HV.out.symm, bthen HB1.out hb2⟩

theorem ruB_eq (n : Int) (x : Ru) : decide (RuOK n x) = (inB x.fr 0 (n - 1) && inB x.to 0 (n - 1) && decide (x.inp.size ≤ 4) && smallS x.inp && decide (x.out.size ≤ 4) && knownS x.out && inB x.co 0 1000) := by
  unfold inB
  rw [Bool.eq_iff_iff, decide_eq_true_iff]
  unfold RuOK
  simp only [Bool.and_eq_true, decide_eq_true_iff]
  constructor
  · rintro ⟨⟨⟨h1, h2⟩, h3, h4⟩, ⟨h5, h6⟩, ⟨h7, h8⟩, h9, h10⟩
    exact ⟨⟨⟨⟨⟨⟨⟨h1, by omega⟩, h3, by omega⟩, h5⟩, h6⟩, h7⟩, h8⟩, h9, h10⟩
  · rintro ⟨⟨⟨⟨⟨⟨⟨h1, h2⟩, h3, h4⟩, h5⟩, h6⟩, h7⟩, h8⟩, h9, h10⟩
    exact ⟨⟨⟨h1, by omega⟩, h3, by omega⟩, ⟨h5, h6⟩, ⟨h7, h8⟩, h9, h10⟩
set_option maxRecDepth 100000 in
set_option maxHeartbeats 8000000 in
theorem rright_any (s : Sc) (A : Option Addr) (c : Nat) (i : Nat) (x : Ru) (w : World) (hs : ScIn w s A c) (hn : 1 ≤ s.n ∧ s.n ≤ 8) (hx : s.rs[i]? = some x) :
    Calls Try.prog 17 #[.agg #[.int .i64 s.n, .int .u8 s.acc, .slice A s.rs.length c], .int .i64 (i : Int)] w fun e w' => e = .returned (.bool (!decide (x ∈ s.rs.take i) && decide (RuOK s.n x))) ∧ Below w.heap.size w w' := by
  obtain ⟨w1, hw1⟩ : ∃ w1, w.alloc (.cells #[.int .i64 s.n, .int .u8 s.acc, .slice A s.rs.length c] 30) = w1 := ⟨_, rfl⟩
  have hb1 : Below w.heap.size w w1 := by rw [← hw1]; exact nw _ (Below.refl _ _)
  have hB : Blk w1 w.heap.size 30 #[.int .i64 s.n, .int .u8 s.acc, .slice A s.rs.length c] := by rw [← hw1]; exact Blk.new _ _ _
  have HW1 := Lib.hid hw1
  have HB1 := Lib.hid hb1
  have HCE : Hid (∀ W, Below w1.heap.size w1 W → W.cell? ⟨w.heap.size, 0, none⟩ = some (.int .i64 s.n) ∧ W.cell? ⟨w.heap.size, 1, none⟩ = some (.int .u8 s.acc) ∧ W.cell? ⟨w.heap.size, 2, none⟩ = some (.slice A s.rs.length c) ∧ w.heap.size < W.heap.size) := fun W hW => by
    have e1 := hB.below hW hB.lt
    exact ⟨by rw [e1.cell]; rfl, by rw [e1.cell]; rfl, by rw [e1.cell]; rfl, e1.lt⟩
  obtain ⟨b0, b1, b2, bl⟩ := HCE.out _ (Below.refl _ _)
  clear hw1 hb1 hB
  have hl := hs.len
  have hil := (List.getElem?_eq_some_iff.1 hx).1
  obtain ⟨b, off, x', hA, hbb, hxx, d0, d1, d2, d3, d4⟩ := hs.sl.ru hil
  obtain rfl : x = x' := Option.some.inj (hx.symm.trans hxx)
  subst hA
  obtain ⟨ht1, ht2⟩ := hs.txt x (List.mem_of_getElem? hx)
  have HDC : Hid (∀ W, Below w1.heap.size w1 W → W.cell? ⟨b, off + i * 5, none⟩ = some (.int .i64 x.fr) ∧ W.cell? ⟨b, off + i * 5 + 1, none⟩ = some (.int .i64 x.to) ∧ W.cell? ⟨b, off + i * 5 + 2, none⟩ = some (.string x.inp) ∧ W.cell? ⟨b, off + i * 5 + 3, none⟩ = some (.string x.out) ∧ W.cell? ⟨b, off + i * 5 + 4, none⟩ = some (.int .i64 x.co) ∧ b < W.heap.size) := fun W hW => by
    have h := bthen HB1.out hW
    exact ⟨(h.cell (p := ⟨b, _, none⟩) hbb).trans d0, (h.cell (p := ⟨b, _, none⟩) hbb).trans d1, (h.cell (p := ⟨b, _, none⟩) hbb).trans d2, (h.cell (p := ⟨b, _, none⟩) hbb).trans d3, (h.cell (p := ⟨b, _, none⟩) hbb).trans d4, Nat.lt_of_lt_of_le hbb h.size⟩
  have HS := Lib.hid hs
  have HX := Lib.hid hx
  have hwn : IntKind.i64.wrap (s.n - 1) = s.n - 1 := IntWalk.i64_in _ (by omega)
  have hiI : (i : Int) < (s.rs.length : Int) := by omega
  have hi0 : (0 : Int) ≤ (i : Int) := by omega
  clear d0 d1 d2 d3 d4 hbb hxx hx hs
  obtain ⟨d0, d1, d2, d3, d4, hbb⟩ := HDC.out _ (Below.refl _ _)
  go_enter Try.func17, Try.ntmps17
  go_upto_region 1 with fail
  rw [HW1.out]
  go_upto_region 2 with fail
  obtain ⟨W2, hW2⟩ : ∃ W, w1.alloc (.cells #[.int .i64 x.fr, .int .i64 x.to, .string x.inp, .string x.out, .int .i64 x.co] 44) = W := ⟨_, rfl⟩
  have hb2 : Below w1.heap.size w1 W2 := by rw [← hW2]; exact nw _ (Below.refl _ _)
  have hX : Blk W2 w1.heap.size 44 #[.int .i64 x.fr, .int .i64 x.to, .string x.inp, .string x.out, .int .i64 x.co] := by rw [← hW2]; exact Blk.new _ _ _
  rw [hW2]
  obtain ⟨g, hg⟩ : ∃ b, w1.heap.size = b := ⟨_, rfl⟩
  have HB2 := Lib.hid hb2
  rw [hg] at hX ⊢
  have HC2 : Hid (∀ W, Below W2.heap.size W2 W → (W.cell? ⟨g, 0, none⟩ = some (.int .i64 x.fr) ∧ W.cell? ⟨g, 1, none⟩ = some (.int .i64 x.to) ∧ W.cell? ⟨g, 2, none⟩ = some (.string x.inp) ∧ W.cell? ⟨g, 3, none⟩ = some (.string x.out) ∧ W.cell? ⟨g, 4, none⟩ = some (.int .i64 x.co) ∧ g < W.heap.size)) := fun W hW => by
    have e1 := hX.below hW hX.lt
    exact ⟨by rw [e1.cell]; rfl, by rw [e1.cell]; rfl, by rw [e1.cell]; rfl, by rw [e1.cell]; rfl, by rw [e1.cell]; rfl, e1.lt⟩
  clear hW2 hb2 hX hg d0 d1 d2 d3 d4 hbb b0 b1 b2 bl
  go_wp2_with fail
  go_loopw [6] (fun iv wr => ∃ k : Nat, k ≤ i ∧ iv = .int .i64 (k : Int) ∧ Hid (x ∉ s.rs.take k) ∧ Below W2.heap.size W2 wr) (fun iv _ => i - (intOf iv).toNat)
  case atStart => exact ⟨0, by omega, rfl, (by show x ∉ s.rs.take 0; simp), Below.refl _ _⟩
  case round =>
    obtain ⟨k, hk, rfl, HN, hbr⟩ := hrel
    have HBR := Lib.hid (bthen HB1.out (bthen HB2.out hbr))
    have HB2R := Lib.hid hbr
    obtain ⟨b0, b1, b2, bl⟩ := HCE.out _ (bthen HB2.out hbr)
    obtain ⟨x0, x1, x2, x3, x4, xl⟩ := HC2.out _ hbr
    clear hbr
    by_cases hlt : k < i
    · obtain ⟨b', off', y, hA', hbb', hyy, d0, d1, d2, d3, d4⟩ := ((HS.out.below HBR.out).sl).ru (k := k) (by omega)
      obtain ⟨rfl, rfl⟩ : b = b' ∧ off = off' := by injection hA' with hA'; injection hA' with h1 h2; exact ⟨h1, h2⟩
      have HY := Lib.hid hyy
      have hki : (k : Int) < (i : Int) := by omega
      have hkl : (k : Int) < (s.rs.length : Int) := by omega
      have hk0 : (0 : Int) ≤ (k : Int) := by omega
      clear hyy hA'
      by_cases he : y = x
      · have HE := Lib.hid he
        have HEQ := fun W => run_eqRu y x W
        rw [decide_eq_true he] at HEQ
        clear he
        go_wp2_with fail
        go_quiet (fail)
        go_wp2_with fail
        go_ret
        exact ⟨ret_bool (by
          have hm : x ∈ s.rs.take i := by
            rw [← HE.out]
            exact List.mem_take_iff_getElem.2 (by
              obtain ⟨h1, h2⟩ := List.getElem?_eq_some_iff.1 HY.out
              exact ⟨k, by omega, h2⟩)
          simp [hm]), below_drewN HBR.out _⟩
      · have HE := Lib.hid he
        have HEQ := fun W => run_eqRu y x W
        rw [decide_eq_false he] at HEQ
        clear he
        go_wp2_with fail
        go_quiet (fail)
        go_wp2_with fail
        go_roundw
        case rel => exact ⟨k + 1, by omega, by go_num, (by
          show x ∉ s.rs.take (k + 1)
          rw [take_succ_of HY.out]
          intro h
          rcases List.mem_append.1 h with h | h
          · exact HN.out h
          · exact HE.out (List.mem_singleton.1 h).symm), below_drewN HB2R.out _⟩
        case measure => simp [intOf]; omega
    · obtain rfl : k = i := by omega
      have HN2 : Hid (x ∉ s.rs.take k) := HN
      by_cases q0 : inB x.fr 0 (s.n - 1) = true
      · by_cases q1 : inB x.to 0 (s.n - 1) = true
        · by_cases q2 : x.inp.size ≤ 4
          · by_cases q3 : smallS x.inp = true
            · by_cases q4 : x.out.size ≤ 4
              · by_cases q5 : knownS x.out = true
                · by_cases q6 : inB x.co 0 1000 = true
                  · have HR : Hid (decide (RuOK s.n x) = true) := by show _ = _; rw [ruB_eq, q0, q1, decide_eq_true q2, q3, decide_eq_true q4, q5, q6]; rfl
                    have y2 : (x.inp.size : Int) ≤ 4 := by omega
                    have y4 : (x.out.size : Int) ≤ 4 := by omega
                    go_wp2_with (first | (go_at_call 38; go_loud (refine (in_any _ _ _ _).mono ?_; rintro e w' ⟨rfl, rfl⟩)) | (go_at_call 39; go_loud (refine (small_any _ _ ht1).mono ?_; rintro e w' ⟨rfl, rfl⟩)) | (go_at_call 40; go_loud (refine (plain_any _ _ ht2).mono ?_; rintro e w' ⟨rfl, rfl⟩; rw [knownS_plain])))
                    go_ret
                    exact ⟨ret_bool (by rw [decide_eq_false HN2.out, Bool.not_false, Bool.true_and]; first | exact HR.out.symm | (rw [HR.out]; simp; done)), HBR.out⟩
                  · have z6 : inB x.co 0 1000 = false := by simpa using q6
                    clear q6
                    have HR : Hid (decide (RuOK s.n x) = false) := by show _ = _; rw [ruB_eq, q0, q1, decide_eq_true q2, q3, decide_eq_true q4, q5, z6]; simp
                    have y2 : (x.inp.size : Int) ≤ 4 := by omega
                    have y4 : (x.out.size : Int) ≤ 4 := by omega
                    go_wp2_with (first | (go_at_call 38; go_loud (refine (in_any _ _ _ _).mono ?_; rintro e w' ⟨rfl, rfl⟩)) | (go_at_call 39; go_loud (refine (small_any _ _ ht1).mono ?_; rintro e w' ⟨rfl, rfl⟩)) | (go_at_call 40; go_loud (refine (plain_any _ _ ht2).mono ?_; rintro e w' ⟨rfl, rfl⟩; rw [knownS_plain])))
                    go_ret
                    exact ⟨ret_bool (by rw [decide_eq_false HN2.out, Bool.not_false, Bool.true_and]; first | exact HR.out.symm | (rw [HR.out]; simp; done)), HBR.out⟩
                · have z5 : knownS x.out = false := by simpa using q5
                  clear q5
                  have HR : Hid (decide (RuOK s.n x) = false) := by show _ = _; rw [ruB_eq, q0, q1, decide_eq_true q2, q3, decide_eq_true q4, z5]; simp
                  have y2 : (x.inp.size : Int) ≤ 4 := by omega
                  have y4 : (x.out.size : Int) ≤ 4 := by omega
                  go_wp2_with (first | (go_at_call 38; go_loud (refine (in_any _ _ _ _).mono ?_; rintro e w' ⟨rfl, rfl⟩)) | (go_at_call 39; go_loud (refine (small_any _ _ ht1).mono ?_; rintro e w' ⟨rfl, rfl⟩)) | (go_at_call 40; go_loud (refine (plain_any _ _ ht2).mono ?_; rintro e w' ⟨rfl, rfl⟩; rw [knownS_plain])))
                  go_ret
                  exact ⟨ret_bool (by rw [decide_eq_false HN2.out, Bool.not_false, Bool.true_and]; first | exact HR.out.symm | (rw [HR.out]; simp; done)), HBR.out⟩
              · have HR : Hid (decide (RuOK s.n x) = false) := by show _ = _; rw [ruB_eq, q0, q1, decide_eq_true q2, q3, decide_eq_false q4]; simp
                have y2 : (x.inp.size : Int) ≤ 4 := by omega
                have y4 : ¬ (x.out.size : Int) ≤ 4 := by omega
                go_wp2_with (first | (go_at_call 38; go_loud (refine (in_any _ _ _ _).mono ?_; rintro e w' ⟨rfl, rfl⟩)) | (go_at_call 39; go_loud (refine (small_any _ _ ht1).mono ?_; rintro e w' ⟨rfl, rfl⟩)) | (go_at_call 40; go_loud (refine (plain_any _ _ ht2).mono ?_; rintro e w' ⟨rfl, rfl⟩; rw [knownS_plain])))
                go_ret
                exact ⟨ret_bool (by rw [decide_eq_false HN2.out, Bool.not_false, Bool.true_and]; first | exact HR.out.symm | (rw [HR.out]; simp; done)), HBR.out⟩
            · have z3 : smallS x.inp = false := by simpa using q3
              clear q3
              have HR : Hid (decide (RuOK s.n x) = false) := by show _ = _; rw [ruB_eq, q0, q1, decide_eq_true q2, z3]; simp
              have y2 : (x.inp.size : Int) ≤ 4 := by omega
              go_wp2_with (first | (go_at_call 38; go_loud (refine (in_any _ _ _ _).mono ?_; rintro e w' ⟨rfl, rfl⟩)) | (go_at_call 39; go_loud (refine (small_any _ _ ht1).mono ?_; rintro e w' ⟨rfl, rfl⟩)) | (go_at_call 40; go_loud (refine (plain_any _ _ ht2).mono ?_; rintro e w' ⟨rfl, rfl⟩; rw [knownS_plain])))
              go_ret
              exact ⟨ret_bool (by rw [decide_eq_false HN2.out, Bool.not_false, Bool.true_and]; first | exact HR.out.symm | (rw [HR.out]; simp; done)), HBR.out⟩
          · have HR : Hid (decide (RuOK s.n x) = false) := by show _ = _; rw [ruB_eq, q0, q1, decide_eq_false q2]; simp
            have y2 : ¬ (x.inp.size : Int) ≤ 4 := by omega
            go_wp2_with (first | (go_at_call 38; go_loud (refine (in_any _ _ _ _).mono ?_; rintro e w' ⟨rfl, rfl⟩)) | (go_at_call 39; go_loud (refine (small_any _ _ ht1).mono ?_; rintro e w' ⟨rfl, rfl⟩)) | (go_at_call 40; go_loud (refine (plain_any _ _ ht2).mono ?_; rintro e w' ⟨rfl, rfl⟩; rw [knownS_plain])))
            go_ret
            exact ⟨ret_bool (by rw [decide_eq_false HN2.out, Bool.not_false, Bool.true_and]; first | exact HR.out.symm | (rw [HR.out]; simp; done)), HBR.out⟩
        · have z1 : inB x.to 0 (s.n - 1) = false := by simpa using q1
          clear q1
          have HR : Hid (decide (RuOK s.n x) = false) := by show _ = _; rw [ruB_eq, q0, z1]; simp
          go_wp2_with (first | (go_at_call 38; go_loud (refine (in_any _ _ _ _).mono ?_; rintro e w' ⟨rfl, rfl⟩)) | (go_at_call 39; go_loud (refine (small_any _ _ ht1).mono ?_; rintro e w' ⟨rfl, rfl⟩)) | (go_at_call 40; go_loud (refine (plain_any _ _ ht2).mono ?_; rintro e w' ⟨rfl, rfl⟩; rw [knownS_plain])))
          go_ret
          exact ⟨ret_bool (by rw [decide_eq_false HN2.out, Bool.not_false, Bool.true_and]; first | exact HR.out.symm | (rw [HR.out]; simp; done)), HBR.out⟩
      · have z0 : inB x.fr 0 (s.n - 1) = false := by simpa using q0
        clear q0
        have HR : Hid (decide (RuOK s.n x) = false) := by show _ = _; rw [ruB_eq, z0]; simp
        go_wp2_with (first | (go_at_call 38; go_loud (refine (in_any _ _ _ _).mono ?_; rintro e w' ⟨rfl, rfl⟩)) | (go_at_call 39; go_loud (refine (small_any _ _ ht1).mono ?_; rintro e w' ⟨rfl, rfl⟩)) | (go_at_call 40; go_loud (refine (plain_any _ _ ht2).mono ?_; rintro e w' ⟨rfl, rfl⟩; rw [knownS_plain])))
        go_ret
        exact ⟨ret_bool (by rw [decide_eq_false HN2.out, Bool.not_false, Bool.true_and]; first | exact HR.out.symm | (rw [HR.out]; simp; done)), HBR.out⟩
end Go.Proofs.Ytkjfdjcagfkdhaa

/-
  The walks of layers 05 and 08: sets of modes.
-/
namespace Go.Proofs.Ytkjfdjcagfkdhaa
open Go Go.RowKit

/-- A number's bits are a set of modes. -/
def IsB (v : Int) (f : Int → Bool) : Prop := (0 ≤ v ∧ v < 256) ∧ ∀ m : Int, 0 ≤ m → m < 8 → v.toNat.testBit m.toNat = f m
theorem IsB.add {v : Int} {f : Int → Bool} (h : IsB v f) {k : Int} (hk : 0 ≤ k ∧ k < 8) : IsB ((v.toNat ||| 2 ^ k.toNat : Nat) : Int) (addB f k) := by
  obtain ⟨h1, h2⟩ := h
  have hp : 2 ^ k.toNat < 2 ^ 8 := Nat.pow_lt_pow_right (by omega) (by omega)
  have hb : v.toNat ||| 2 ^ k.toNat < 2 ^ 8 := Nat.or_lt_two_pow (by omega) hp
  refine ⟨⟨by omega, by omega⟩, fun m h3 h4 => ?_⟩
  rw [Int.toNat_natCast, Nat.testBit_or, Nat.testBit_two_pow, h2 m h3 h4]
  unfold addB
  by_cases e : m = k
  · subst e; simp
  · have : ¬ k.toNat = m.toNat := by omega
    simp [e, this]
theorem hopB_pos {f : Int → Bool} {e : Int × Int} (h : f e.1 = true) : hopB f e = addB f e.2 := if_pos h
theorem hopB_neg {f : Int → Bool} {e : Int × Int} (h : ¬ f e.1 = true) : hopB f e = f := if_neg h
theorem IsB.step {v : Int} {E : List (Int × Int)} {f : Int → Bool} {k : Nat} {a b : Int} (h : IsB v ((E.take k).foldl hopB f)) (he : E[k]? = some (a, b)) (ha : 0 ≤ a ∧ a < 8) (hb : 0 ≤ b ∧ b < 8) (ht : v.toNat.testBit a.toNat = true) : IsB ((v.toNat ||| 2 ^ b.toNat : Nat) : Int) ((E.take (k + 1)).foldl hopB f) := by
  rw [take_succ_of he, List.foldl_append]
  show IsB _ (hopB ((E.take k).foldl hopB f) (a, b))
  rw [hopB_pos (by rw [← h.2 a ha.1 ha.2]; exact ht)]
  exact h.add hb
theorem IsB.stay {v : Int} {E : List (Int × Int)} {f : Int → Bool} {k : Nat} {a b : Int} (h : IsB v ((E.take k).foldl hopB f)) (he : E[k]? = some (a, b)) (ha : 0 ≤ a ∧ a < 8) (ht : v.toNat.testBit a.toNat = false) : IsB v ((E.take (k + 1)).foldl hopB f) := by
  rw [take_succ_of he, List.foldl_append]
  show IsB _ (hopB ((E.take k).foldl hopB f) (a, b))
  rw [hopB_neg (by rw [← h.2 a ha.1 ha.2, ht]; simp)]
  exact h
theorem pow8 {m : Int} (h : 0 ≤ m ∧ m < 8) : 1 ≤ (2 : Int) ^ m.toNat ∧ (2 : Int) ^ m.toNat ≤ 128 := by
  have : m = 0 ∨ m = 1 ∨ m = 2 ∨ m = 3 ∨ m = 4 ∨ m = 5 ∨ m = 6 ∨ m = 7 := by omega
  rcases this with rfl | rfl | rfl | rfl | rfl | rfl | rfl | rfl <;> decide
theorem pow_toNat (n : Nat) : ((2 : Int) ^ n).toNat = 2 ^ n := by
  have : (2 : Int) ^ n = ((2 ^ n : Nat) : Int) := by simp
  rw [this, Int.toNat_natCast]
set_option maxRecDepth 100000 in
set_option maxHeartbeats 4000000 in
theorem one_any (m : Int) (w : World) (h : 0 ≤ m ∧ m < 8) : Calls Try.prog 70 #[.int .i64 m] w fun e w' => e = .returned (.int .u8 (2 ^ m.toNat)) ∧ w = w' := by
  obtain ⟨h0, h1⟩ := h
  have hp := pow8 ⟨h0, h1⟩
  obtain ⟨q, hq⟩ : ∃ q, (2 : Int) ^ m.toNat = q := ⟨_, rfl⟩
  rw [hq] at hp ⊢
  have hmin : min m.toNat 8 = m.toNat := by omega
  have hwr : IntKind.u8.wrap q = q := by unfold IntKind.wrap; simp [IntKind.bits, IntKind.signed]; omega
  go_enter Try.func70, Try.ntmps70
  go_wp2_with fail
  go_ret
  exact ⟨by first | rfl | (simp; done), rfl⟩
theorem bits_u8 (x y : Int) (hx : 0 ≤ x ∧ x < 256) (hy : 0 ≤ y ∧ y < 256) : bits .and .u8 x y = ((x.toNat &&& y.toNat : Nat) : Int) ∧ bits .or .u8 x y = ((x.toNat ||| y.toNat : Nat) : Int) := by
  have h1 : x.toNat < 2 ^ 8 := by omega
  have h2 : y.toNat < 2 ^ 8 := by omega
  have h3 := (bits_nat .u8 8 (by decide) wraps_u8 x.toNat y.toNat h1 h2)
  rw [Int.toNat_of_nonneg hx.1, Int.toNat_of_nonneg hy.1] at h3
  exact h3
theorem or_pow {u m : Int} (hu : 0 ≤ u ∧ u < 256) (h : 0 ≤ m ∧ m < 8) : bits .or .u8 u (2 ^ m.toNat) = ((u.toNat ||| 2 ^ m.toNat : Nat) : Int) := by
  have hp := pow8 h
  rw [(bits_u8 u _ hu (by omega)).2, pow_toNat]
set_option maxRecDepth 100000 in
set_option maxHeartbeats 4000000 in
theorem has_any (v m : Int) (w : World) (hv : 0 ≤ v ∧ v < 256) (h : 0 ≤ m ∧ m < 8) : Calls Try.prog 60 #[.int .u8 v, .int .i64 m] w fun e w' => e = .returned (.bool (v.toNat.testBit m.toNat)) ∧ w = w' := by
  go_enter Try.func60, Try.ntmps60
  go_wp2_with (go_at_call 70; go_loud (refine (one_any m _ h).mono ?_; rintro e w' ⟨rfl, rfl⟩))
  go_ret
  exact ⟨ret_bool (by
    have hp := pow8 h
    rw [(bits_u8 v _ hv (by omega)).1]
    have h2 := and_two_pow_eq_zero v m.toNat hv.1
    have h3 : v.toNat.testBit m.toNat = decide (v / 2 ^ m.toNat % 2 = 1) := by
      rw [Nat.testBit_eq_decide_div_mod_eq, decide_eq_decide]
      have e : v / 2 ^ m.toNat = ((v.toNat / 2 ^ m.toNat : Nat) : Int) := by
        rw [Int.natCast_ediv, Int.toNat_of_nonneg hv.1]
        congr 1
      rw [e]
      omega
    rw [h3]
    by_cases hz : v.toNat &&& ((2 : Int) ^ m.toNat).toNat = 0
    · have := h2.1 hz
      simp [hz, this]
    · have : v / 2 ^ m.toNat % 2 = 1 := Classical.byContradiction fun h => hz (h2.2 h)
      rw [decide_eq_true this]
      simpa using hz), rfl⟩
theorem isB_acc {s : Sc} (h : 0 ≤ s.acc ∧ s.acc ≤ 255) : IsB s.acc (accB s.acc) := ⟨by omega, fun m h1 _ => by unfold accB; rw [decide_eq_true h1, Bool.true_and]⟩
theorem isB_zero : IsB 1 (fun m => decide (m = 0)) := by
  refine ⟨by decide, fun m h1 h2 => ?_⟩
  have : m = 0 ∨ m = 1 ∨ m = 2 ∨ m = 3 ∨ m = 4 ∨ m = 5 ∨ m = 6 ∨ m = 7 := by omega
  rcases this with rfl | rfl | rfl | rfl | rfl | rfl | rfl | rfl <;> decide

set_option maxRecDepth 100000 in
set_option maxHeartbeats 8000000 in
theorem live05_any (s : Sc) (A : Option Addr) (c : Nat) (w : World) (hs : ScIn w s A c) (hok : ScOK s) :
    Calls Try.prog 59 #[.agg #[.int .i64 s.n, .int .u8 s.acc, .slice A s.rs.length c]] w fun e w' => (∃ v : Int, e = .returned (.int .u8 v) ∧ IsB v (cloN s.backs (accB s.acc) s.n.toNat)) ∧ Below w.heap.size w w' := by
  obtain ⟨w1, hw1⟩ : ∃ w1, w.alloc (.cells #[.int .i64 s.n, .int .u8 s.acc, .slice A s.rs.length c] 30) = w1 := ⟨_, rfl⟩
  have hb1 : Below w.heap.size w w1 := by rw [← hw1]; exact nw _ (Below.refl _ _)
  have hB : Blk w1 w.heap.size 30 #[.int .i64 s.n, .int .u8 s.acc, .slice A s.rs.length c] := by rw [← hw1]; exact Blk.new _ _ _
  have HW1 := Lib.hid hw1
  have HB1 := Lib.hid hb1
  have HCE : Hid (∀ W, Below w1.heap.size w1 W → W.cell? ⟨w.heap.size, 0, none⟩ = some (.int .i64 s.n) ∧ W.cell? ⟨w.heap.size, 1, none⟩ = some (.int .u8 s.acc) ∧ W.cell? ⟨w.heap.size, 2, none⟩ = some (.slice A s.rs.length c) ∧ w.heap.size < W.heap.size) := fun W hW => by
    have e1 := hB.below hW hB.lt
    exact ⟨by rw [e1.cell]; rfl, by rw [e1.cell]; rfl, by rw [e1.cell]; rfl, e1.lt⟩
  obtain ⟨b0, b1, b2, bl⟩ := HCE.out _ (Below.refl _ _)
  clear hw1 hb1 hB
  have HS := Lib.hid hs
  have hl := hs.len
  have hacc := hs.acc
  have hn := hok.1
  have HOK := Lib.hid hok
  clear hs hok
  go_enter Try.func59, Try.ntmps59
  go_upto_region 1 with fail
  rw [HW1.out]
  go_wp2_with fail
  go_loopw [3, 10] (fun lv iv wr => ∃ (v : Int) (j : Nat), j ≤ s.n.toNat ∧ Hid (IsB v (cloN s.backs (accB s.acc) j)) ∧ lv = .int .u8 v ∧ iv = .int .i64 (j : Int) ∧ Below w1.heap.size w1 wr) (fun _ iv _ => s.n.toNat - (intOf iv).toNat)
  case atStart => exact ⟨s.acc, 0, by omega, (by show IsB _ _; exact isB_acc hacc), rfl, rfl, Below.refl _ _⟩
  case round =>
    obtain ⟨wR, rfl⟩ : ∃ W, W = wr := ⟨wr, rfl⟩
    obtain ⟨v, j, hj, HV, rfl, rfl, hbr⟩ := hrel
    have HBR := Lib.hid hbr
    clear hbr
    obtain ⟨b0, b1, b2, bl⟩ := HCE.out _ HBR.out
    by_cases hlt : j < s.n.toNat
    · have hji : (j : Int) < s.n := by omega
      obtain ⟨jn, hjn⟩ : ∃ q, q = j + 1 := ⟨_, rfl⟩
      have HJN := Lib.hid hjn
      clear hjn
      go_wp2_with fail
      go_loopw [3, 15] (fun lv iv wi => ∃ (u : Int) (k : Nat), k ≤ s.rs.length ∧ Hid (IsB u ((s.backs.take k).foldl hopB (cloN s.backs (accB s.acc) j))) ∧ lv = .int .u8 u ∧ iv = .int .i64 (k : Int) ∧ Below w1.heap.size w1 wi) (fun _ iv _ => s.rs.length - (intOf iv).toNat)
      case atStart => exact ⟨v, 0, by omega, HV.out, rfl, rfl, HBR.out⟩
      case round =>
        obtain ⟨wi, rfl⟩ : ∃ W, W = wr := ⟨wr, rfl⟩
        obtain ⟨u, k, hk, HU, rfl, rfl, hbi⟩ := hrel
        have HBI := Lib.hid hbi
        clear hbi
        clear b0 b1 b2 bl
        obtain ⟨b0, b1, b2, bl⟩ := HCE.out _ HBI.out
        by_cases hkl : k < s.rs.length
        · obtain ⟨b, off, x, rfl, hbb, hxx, d0, d1, d2, d3, d4⟩ := ((HS.out.below (bthen HB1.out HBI.out)).sl).ru hkl
          have hru := HOK.out.2.2.2.1 x (List.mem_of_getElem? hxx)
          have HEX : Hid (s.backs[k]? = some (x.to, x.fr)) := by show (s.rs.map _)[k]? = _; rw [List.getElem?_map, hxx]; rfl
          have hki : (k : Int) < (s.rs.length : Int) := by omega
          have hk0 : (0 : Int) ≤ (k : Int) := by omega
          have hm1 : 0 ≤ x.to ∧ x.to < 8 := by have := hru.1; omega
          have hm2 : 0 ≤ x.fr ∧ x.fr < 8 := by have := hru.1; omega
          have hub := HU.out.1
          clear hxx hru
          go_upto_region 7 with fail
          obtain ⟨W2, hW2⟩ : ∃ W, wi.alloc (.cells #[.int .i64 x.fr, .int .i64 x.to, .string x.inp, .string x.out, .int .i64 x.co] 44) = W := ⟨_, rfl⟩
          have hb2 : Below wi.heap.size wi W2 := by rw [← hW2]; exact nw _ (Below.refl _ _)
          have hX : Blk W2 wi.heap.size 44 #[.int .i64 x.fr, .int .i64 x.to, .string x.inp, .string x.out, .int .i64 x.co] := by rw [← hW2]; exact Blk.new _ _ _
          rw [hW2]
          obtain ⟨g, hg⟩ : ∃ b, wi.heap.size = b := ⟨_, rfl⟩
          have HB2 := Lib.hid (bthen HBI.out hb2)
          rw [hg] at hX ⊢
          have x0 := hX.cell 0
          have x1 := hX.cell 1
          have xl := hX.lt
          simp at x0 x1
          clear hW2 hb2 hX hg d0 d1 d2 d3 d4 hbb b0 b1 b2 bl
          by_cases hh : u.toNat.testBit (x.to).toNat = true
          · have HNX : Hid (IsB ((u.toNat ||| 2 ^ (x.fr).toNat : Nat) : Int) ((s.backs.take (k + 1)).foldl hopB (cloN s.backs (accB s.acc) j))) := IsB.step HU.out HEX.out hm1 hm2 hh
            go_wp2_with (first | (go_at_call 60; go_loud (refine (has_any u x.to _ hub hm1).mono ?_; rintro e w' ⟨rfl, rfl⟩)) | (go_at_call 70; go_loud (refine (one_any x.fr _ hm2).mono ?_; rintro e w' ⟨rfl, rfl⟩)))
            rw [or_pow hub hm2]
            go_roundw
            case rel => exact ⟨_, k + 1, by omega, HNX.out, rfl, by go_num, HB2.out⟩
            case measure => simp [intOf]; omega
          · have hh : u.toNat.testBit (x.to).toNat = false := by simpa using hh
            have HNX : Hid (IsB u ((s.backs.take (k + 1)).foldl hopB (cloN s.backs (accB s.acc) j))) := IsB.stay HU.out HEX.out hm1 hh
            go_wp2_with (first | (go_at_call 60; go_loud (refine (has_any u x.to _ hub hm1).mono ?_; rintro e w' ⟨rfl, rfl⟩)))
            go_roundw
            case rel => exact ⟨u, k + 1, by omega, HNX.out, rfl, by go_num, HB2.out⟩
            case measure => simp [intOf]; omega
        · have HUE : Hid (IsB u (cloN s.backs (accB s.acc) jn)) := by
            show IsB _ _
            rw [HJN.out]
            show IsB u (cloB s.backs (cloN s.backs (accB s.acc) j))
            have := HU.out
            rwa [List.take_of_length_le (by show (s.rs.map _).length ≤ _; rw [List.length_map]; omega)] at this
          have hjnI : (jn : Int) = (j : Int) + 1 := by have := HJN.out; omega
          have HJI := Lib.hid hjnI
          have hjl : jn ≤ s.n.toNat := by have := HJN.out; omega
          clear hjnI
          go_wp2_with fail
          go_roundw
          case rel => exact ⟨u, jn, hjl, HUE.out, rfl, by rw [HJI.out], HBI.out⟩
          case measure => have := HJN.out; simp [intOf]; omega
    · obtain rfl : j = s.n.toNat := by omega
      have hji : ¬ ((s.n.toNat : Nat) : Int) < s.n := by omega
      go_wp2_with fail
      go_ret
      exact ⟨⟨v, rfl, HV.out⟩, bthen HB1.out HBR.out⟩

set_option maxRecDepth 100000 in
set_option maxHeartbeats 8000000 in
theorem reached05_any (s : Sc) (A : Option Addr) (c : Nat) (w : World) (hs : ScIn w s A c) (hok : ScOK s) :
    Calls Try.prog 61 #[.agg #[.int .i64 s.n, .int .u8 s.acc, .slice A s.rs.length c]] w fun e w' => (∃ v : Int, e = .returned (.int .u8 v) ∧ IsB v (cloN s.edges (fun m => decide (m = 0)) s.n.toNat)) ∧ Below w.heap.size w w' := by
  obtain ⟨w1, hw1⟩ : ∃ w1, w.alloc (.cells #[.int .i64 s.n, .int .u8 s.acc, .slice A s.rs.length c] 30) = w1 := ⟨_, rfl⟩
  have hb1 : Below w.heap.size w w1 := by rw [← hw1]; exact nw _ (Below.refl _ _)
  have hB : Blk w1 w.heap.size 30 #[.int .i64 s.n, .int .u8 s.acc, .slice A s.rs.length c] := by rw [← hw1]; exact Blk.new _ _ _
  have HW1 := Lib.hid hw1
  have HB1 := Lib.hid hb1
  have HCE : Hid (∀ W, Below w1.heap.size w1 W → W.cell? ⟨w.heap.size, 0, none⟩ = some (.int .i64 s.n) ∧ W.cell? ⟨w.heap.size, 1, none⟩ = some (.int .u8 s.acc) ∧ W.cell? ⟨w.heap.size, 2, none⟩ = some (.slice A s.rs.length c) ∧ w.heap.size < W.heap.size) := fun W hW => by
    have e1 := hB.below hW hB.lt
    exact ⟨by rw [e1.cell]; rfl, by rw [e1.cell]; rfl, by rw [e1.cell]; rfl, e1.lt⟩
  obtain ⟨b0, b1, b2, bl⟩ := HCE.out _ (Below.refl _ _)
  clear hw1 hb1 hB
  have HS := Lib.hid hs
  have hl := hs.len
  have hacc := hs.acc
  have hn := hok.1
  have HOK := Lib.hid hok
  clear hs hok
  go_enter Try.func61, Try.ntmps61
  go_upto_region 1 with fail
  rw [HW1.out]
  go_wp2_with (go_at_call 70; go_loud (refine (one_any 0 _ (by omega)).mono ?_; rintro e w' ⟨rfl, rfl⟩))
  go_loopw [3, 9] (fun lv iv wr => ∃ (v : Int) (j : Nat), j ≤ s.n.toNat ∧ Hid (IsB v (cloN s.edges (fun m => decide (m = 0)) j)) ∧ lv = .int .u8 v ∧ iv = .int .i64 (j : Int) ∧ Below w1.heap.size w1 wr) (fun _ iv _ => s.n.toNat - (intOf iv).toNat)
  case atStart => exact ⟨1, 0, by omega, (by show IsB _ _; exact isB_zero), rfl, rfl, Below.refl _ _⟩
  case round =>
    obtain ⟨wR, rfl⟩ : ∃ W, W = wr := ⟨wr, rfl⟩
    obtain ⟨v, j, hj, HV, rfl, rfl, hbr⟩ := hrel
    have HBR := Lib.hid hbr
    clear hbr
    obtain ⟨b0, b1, b2, bl⟩ := HCE.out _ HBR.out
    by_cases hlt : j < s.n.toNat
    · have hji : (j : Int) < s.n := by omega
      obtain ⟨jn, hjn⟩ : ∃ q, q = j + 1 := ⟨_, rfl⟩
      have HJN := Lib.hid hjn
      clear hjn
      go_wp2_with fail
      go_loopw [3, 14] (fun lv iv wi => ∃ (u : Int) (k : Nat), k ≤ s.rs.length ∧ Hid (IsB u ((s.edges.take k).foldl hopB (cloN s.edges (fun m => decide (m = 0)) j))) ∧ lv = .int .u8 u ∧ iv = .int .i64 (k : Int) ∧ Below w1.heap.size w1 wi) (fun _ iv _ => s.rs.length - (intOf iv).toNat)
      case atStart => exact ⟨v, 0, by omega, HV.out, rfl, rfl, HBR.out⟩
      case round =>
        obtain ⟨wi, rfl⟩ : ∃ W, W = wr := ⟨wr, rfl⟩
        obtain ⟨u, k, hk, HU, rfl, rfl, hbi⟩ := hrel
        have HBI := Lib.hid hbi
        clear hbi
        clear b0 b1 b2 bl
        obtain ⟨b0, b1, b2, bl⟩ := HCE.out _ HBI.out
        by_cases hkl : k < s.rs.length
        · obtain ⟨b, off, x, rfl, hbb, hxx, d0, d1, d2, d3, d4⟩ := ((HS.out.below (bthen HB1.out HBI.out)).sl).ru hkl
          have hru := HOK.out.2.2.2.1 x (List.mem_of_getElem? hxx)
          have HEX : Hid (s.edges[k]? = some (x.fr, x.to)) := by show (s.rs.map _)[k]? = _; rw [List.getElem?_map, hxx]; rfl
          have hki : (k : Int) < (s.rs.length : Int) := by omega
          have hk0 : (0 : Int) ≤ (k : Int) := by omega
          have hm1 : 0 ≤ x.fr ∧ x.fr < 8 := by have := hru.1; omega
          have hm2 : 0 ≤ x.to ∧ x.to < 8 := by have := hru.1; omega
          have hub := HU.out.1
          clear hxx hru
          go_upto_region 7 with fail
          obtain ⟨W2, hW2⟩ : ∃ W, wi.alloc (.cells #[.int .i64 x.fr, .int .i64 x.to, .string x.inp, .string x.out, .int .i64 x.co] 44) = W := ⟨_, rfl⟩
          have hb2 : Below wi.heap.size wi W2 := by rw [← hW2]; exact nw _ (Below.refl _ _)
          have hX : Blk W2 wi.heap.size 44 #[.int .i64 x.fr, .int .i64 x.to, .string x.inp, .string x.out, .int .i64 x.co] := by rw [← hW2]; exact Blk.new _ _ _
          rw [hW2]
          obtain ⟨g, hg⟩ : ∃ b, wi.heap.size = b := ⟨_, rfl⟩
          have HB2 := Lib.hid (bthen HBI.out hb2)
          rw [hg] at hX ⊢
          have x0 := hX.cell 0
          have x1 := hX.cell 1
          have xl := hX.lt
          simp at x0 x1
          clear hW2 hb2 hX hg d0 d1 d2 d3 d4 hbb b0 b1 b2 bl
          by_cases hh : u.toNat.testBit (x.fr).toNat = true
          · have HNX : Hid (IsB ((u.toNat ||| 2 ^ (x.to).toNat : Nat) : Int) ((s.edges.take (k + 1)).foldl hopB (cloN s.edges (fun m => decide (m = 0)) j))) := IsB.step HU.out HEX.out hm1 hm2 hh
            go_wp2_with (first | (go_at_call 60; go_loud (refine (has_any u x.fr _ hub hm1).mono ?_; rintro e w' ⟨rfl, rfl⟩)) | (go_at_call 70; go_loud (refine (one_any x.to _ hm2).mono ?_; rintro e w' ⟨rfl, rfl⟩)))
            rw [or_pow hub hm2]
            go_roundw
            case rel => exact ⟨_, k + 1, by omega, HNX.out, rfl, by go_num, HB2.out⟩
            case measure => simp [intOf]; omega
          · have hh : u.toNat.testBit (x.fr).toNat = false := by simpa using hh
            have HNX : Hid (IsB u ((s.edges.take (k + 1)).foldl hopB (cloN s.edges (fun m => decide (m = 0)) j))) := IsB.stay HU.out HEX.out hm1 hh
            go_wp2_with (first | (go_at_call 60; go_loud (refine (has_any u x.fr _ hub hm1).mono ?_; rintro e w' ⟨rfl, rfl⟩)))
            go_roundw
            case rel => exact ⟨u, k + 1, by omega, HNX.out, rfl, by go_num, HB2.out⟩
            case measure => simp [intOf]; omega
        · have HUE : Hid (IsB u (cloN s.edges (fun m => decide (m = 0)) jn)) := by
            show IsB _ _
            rw [HJN.out]
            show IsB u (cloB s.edges (cloN s.edges (fun m => decide (m = 0)) j))
            have := HU.out
            rwa [List.take_of_length_le (by show (s.rs.map _).length ≤ _; rw [List.length_map]; omega)] at this
          have hjnI : (jn : Int) = (j : Int) + 1 := by have := HJN.out; omega
          have HJI := Lib.hid hjnI
          have hjl : jn ≤ s.n.toNat := by have := HJN.out; omega
          clear hjnI
          go_wp2_with fail
          go_roundw
          case rel => exact ⟨u, jn, hjl, HUE.out, rfl, by rw [HJI.out], HBI.out⟩
          case measure => have := HJN.out; simp [intOf]; omega
    · obtain rfl : j = s.n.toNat := by omega
      have hji : ¬ ((s.n.toNat : Nat) : Int) < s.n := by omega
      go_wp2_with fail
      go_ret
      exact ⟨⟨v, rfl, HV.out⟩, bthen HB1.out HBR.out⟩
end Go.Proofs.Ytkjfdjcagfkdhaa
