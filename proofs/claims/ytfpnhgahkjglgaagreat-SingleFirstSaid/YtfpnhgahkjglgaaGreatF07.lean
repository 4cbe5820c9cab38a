/-
  The walks of layers 05 and 08: schemes that are valid.
-/
import Derived.Test.YtfpnhgahkjglgaaGreatF06
set_option maxRecDepth 100000
namespace Go.Proofs.YtfpnhgahkjglgaaGreat
open Go Go.RowKit
structure ScIn (w : World) (s : Sc) (A : Option Addr) (c : Nat) : Prop where
 sl : SlR 5 RRu w A s.rs
 len : s.rs.length ≤ 65536
 txt : ∀ r ∈ s.rs, RuIn r
 acc : 0 ≤ s.acc ∧ s.acc ≤ 255
 cap : s.rs.length ≤ c ∧ c ≤ maxLen
theorem ScIn.below {w w' : World} {s : Sc} {A : Option Addr} {c : Nat} (h : ScIn w s A c) (hb : Below w.heap.size w w') : ScIn w' s A c := ⟨h.sl.below keeps_ru hb, h.len, h.txt, h.acc, h.cap⟩
theorem slr_pre5 {α : Type} {n : Nat} {R : World → α → List Value → Prop} {w : World} {A : Option Addr} {xs : List α} (h : SlR n R w A xs) (k : Nat) : SlR n R w A (xs.take k) := fun hne => by
 obtain ⟨b, o, hA, hb, hc⟩ := h (by rintro rfl; simp at hne)
 refine ⟨b, o, hA, hb, fun j x hj => hc j x ?_⟩
 rw [List.getElem?_take] at hj
 split at hj
 ·exact hj
 ·cases hj
theorem take_all {α : Type} {p : α → Prop} {xs : List α} {k : Nat} {x : α} (h : ∀ r ∈ xs.take k, p r) (hx : xs[k]? = some x) (hp : p x) : ∀ r ∈ xs.take (k + 1), p r := fun r hr => by
 rw [take_succ_of hx] at hr
 rcases List.mem_append.1 hr with hr | hr
 ·exact h r hr
 ·rw [List.mem_singleton.1 hr]; exact hp
theorem take_nodup {α : Type} {xs : List α} {k : Nat} {x : α} (h : (xs.take k).Nodup) (hx : xs[k]? = some x) (hn : x ∉ xs.take k) : (xs.take (k + 1)).Nodup := by
 rw [take_succ_of hx]
 exact List.nodup_append.2 ⟨h, List.pairwise_singleton _ _, fun a ha b hb e => hn (by rw [← List.mem_singleton.1 hb, ← e]; exact ha)⟩
theorem take_dup {α : Type} {xs : List α} {k : Nat} {x : α} (hx : xs[k]? = some x) (hm : x ∈ xs.take k) : ¬ xs.Nodup := fun hn => by
 have h1 : (xs.take (k + 1)).Nodup := hn.sublist (List.take_sublist _ _)
 rw [take_succ_of hx] at h1
 exact (List.nodup_append.1 h1).2.2 x hm x (List.mem_singleton.2 rfl) rfl
theorem pow_in {n : Int} (h : 1 ≤ n ∧ n ≤ 8) : 2 ≤ (2 : Int) ^ n.toNat ∧ (2 : Int) ^ n.toNat ≤ 256 := by
 have : n = 1 ∨ n = 2 ∨ n = 3 ∨ n = 4 ∨ n = 5 ∨ n = 6 ∨ n = 7 ∨ n = 8 := by omega
 rcases this with rfl | rfl | rfl | rfl | rfl | rfl | rfl | rfl <;> decide
def SaysSc (s : Sc) (w : World) (e : Ending) (w' : World) : Prop := (∃ i : Int, e = .returned (.tuple #[.int .i64 i, .int .i64 (if ScOK s then 0 else 20)])) ∧ Below w.heap.size w w'
theorem says_no {s : Sc} (h : ¬ ScOK s) {w w' : World} (i : Int) (hb : Below w.heap.size w w') : SaysSc s w (.returned (.tuple #[.int .i64 i, .int .i64 20])) w' := ⟨⟨i, by rw [if_neg h]⟩, hb⟩
theorem says_yes {s : Sc} (h : ScOK s) {w w' : World} (i : Int) (hb : Below w.heap.size w w') : SaysSc s w (.returned (.tuple #[.int .i64 i, .int .i64 0])) w' := ⟨⟨i, by rw [if_pos h]⟩, hb⟩
set_option maxHeartbeats 8000000 in
theorem check05_any (s : Sc) (A : Option Addr) (c : Nat) (w : World) (hs : ScIn w s A c) : Calls Tryz.prog 85 #[.agg #[.int .i64 s.n, .int .u8 s.acc, .slice A s.rs.length c]] w (SaysSc s w) := by
 obtain ⟨w1, hw1⟩ : ∃ w1, w.alloc (.cells #[.int .i64 s.n, .int .u8 s.acc, .slice A s.rs.length c] 30) = w1 := ⟨_, rfl⟩
 have hb1 : Below w.heap.size w w1 := by rw [← hw1]; exact nw _ (Below.refl _ _)
 have hB : Blk w1 w.heap.size 30 #[.int .i64 s.n, .int .u8 s.acc, .slice A s.rs.length c] := by rw [← hw1]; exact Blk.new _ _ _
 have HW1 := Lib.hid hw1
 have HB1 := Lib.hid hb1
 have HCE : Hid (∀ W, Below w1.heap.size w1 W → W.cell? ⟨w.heap.size, 0, none⟩ = some (.int .i64 s.n) ∧ W.cell? ⟨w.heap.size, 1, none⟩ = some (.int .u8 s.acc) ∧ W.cell? ⟨w.heap.size, 2, none⟩ = some (.slice A s.rs.length c) ∧ w.heap.size < W.heap.size) := fun W hW => by
  have e1 := hB.below hW hB.lt
  exact ⟨by rw [e1.cell]; rfl, by rw [e1.cell]; rfl, by rw [e1.cell]; rfl, e1.lt⟩
 obtain ⟨b0, b1, b2, bl⟩ := HCE.out _ (Below.refl _ _)
 clear hw1 hb1 hB
 have hl := hs.len
 have hacc := hs.acc
 have HCAP := Lib.hid hs.cap
 by_cases q0 : 1 ≤ s.n
 ·by_cases q1 : s.n ≤ 8
  ·by_cases q2 : s.rs.length ≤ 64
   ·by_cases q3 : 1 ≤ s.acc
    ·obtain ⟨N2, hN2⟩ : ∃ v, (2 : Int) ^ s.n.toNat = v := ⟨_, rfl⟩
     have hN := pow_in ⟨q0, q1⟩
     rw [hN2] at hN
     have hmin : min s.n.toNat 64 = s.n.toNat := by omega
     have hw2 : IntKind.i64.wrap N2 = N2 := IntWalk.i64_in _ (by omega)
     have hwa : IntKind.i64.wrap s.acc = s.acc := IntWalk.i64_in _ (by omega)
     by_cases q4 : s.acc < N2
     ·have HOK : Hid ((∀ r ∈ s.rs, RuOK s.n r) ∧ s.rs.Nodup → ScOK s) := fun h => ⟨⟨q0, q1⟩, q2, ⟨q3, by rw [hN2]; exact q4⟩, h.1, h.2⟩
      go_enter Tryz.func85, Tryz.ntmps85
      go_upto_region 1 with fail
      rw [HW1.out]
      go_wp2_with fail
      go_quiet (fail)
      go_wp2_with fail
      go_loopw [35] (fun iv wr => ∃ k : Nat, k ≤ s.rs.length ∧ iv = .int .i64 (k : Int) ∧ Hid (∀ r ∈ s.rs.take k, RuOK s.n r) ∧ Hid ((s.rs.take k).Nodup) ∧ Below w1.heap.size w1 wr) (fun iv _ => s.rs.length - (intOf iv).toNat)
      case atStart => exact ⟨0, by omega, rfl, (by show ∀ r ∈ s.rs.take 0, RuOK s.n r; simp), (by show (s.rs.take 0).Nodup; simp), below_drewN (Below.refl _ _) _⟩
      case round =>
       obtain ⟨k, hk, rfl, HR, HN, hbr⟩ := hrel
       have HBR := Lib.hid hbr
       have HS := Lib.hid hs
       clear hbr b0 b1 b2 bl hs
       obtain ⟨b0, b1, b2, bl⟩ := HCE.out _ HBR.out
       by_cases hlt : k < s.rs.length
       ·obtain ⟨b, off, x, rfl, hbb, hxx, d0, d1, d2, d3, d4⟩ := ((HS.out.below (bthen HB1.out HBR.out)).sl).ru hlt
        have hki : (k : Int) < (s.rs.length : Int) := by omega
        have hk0 : (0 : Int) ≤ (k : Int) := by omega
        obtain ⟨ht1, ht2⟩ := HS.out.txt x (List.mem_of_getElem? hxx)
        have HX := Lib.hid hxx
        have HMEM := Lib.hid (List.mem_of_getElem? hxx)
        clear hxx
        go_upto_region 8 with fail
        obtain ⟨W2, hW2⟩ : ∃ W, wr.alloc (.cells #[.int .i64 x.fr, .int .i64 x.to, .string x.inp, .string x.out, .int .i64 x.co] 61) = W := ⟨_, rfl⟩
        have hb2 : Below wr.heap.size wr W2 := by rw [← hW2]; exact nw _ (Below.refl _ _)
        have hX : Blk W2 wr.heap.size 61 #[.int .i64 x.fr, .int .i64 x.to, .string x.inp, .string x.out, .int .i64 x.co] := by rw [← hW2]; exact Blk.new _ _ _
        rw [hW2]
        obtain ⟨g, hg⟩ : ∃ b, wr.heap.size = b := ⟨_, rfl⟩
        have HB2 := Lib.hid (bthen HBR.out hb2)
        rw [hg] at hX ⊢
        have HC2 : Hid (∀ W, Below W2.heap.size W2 W → (W.cell? ⟨g, 0, none⟩ = some (.int .i64 x.fr) ∧ W.cell? ⟨g, 1, none⟩ = some (.int .i64 x.to) ∧ W.cell? ⟨g, 2, none⟩ = some (.string x.inp) ∧ W.cell? ⟨g, 3, none⟩ = some (.string x.out) ∧ W.cell? ⟨g, 4, none⟩ = some (.int .i64 x.co) ∧ g < W.heap.size)) := fun W hW => by
         have e1 := hX.below hW hX.lt
         exact ⟨by rw [e1.cell]; rfl, by rw [e1.cell]; rfl, by rw [e1.cell]; rfl, by rw [e1.cell]; rfl, by rw [e1.cell]; rfl, e1.lt⟩
        have HSL2 : Hid (∀ W, Below W2.heap.size W2 W → SlR 5 RRu W (some ⟨b, off, none⟩) (s.rs.take k)) := fun W hW => slr_pre5 (HS.out.below (bthen HB1.out (bthen HB2.out hW))).sl k
        have htl : (s.rs.take k).length = k := by rw [List.length_take]; omega
        have HRI : Hid (∀ W, Below W2.heap.size W2 W → Calls Tryz.prog 111 #[.int .i64 s.n, .agg #[.int .i64 x.fr, .int .i64 x.to, .string x.inp, .string x.out, .int .i64 x.co]] W fun e w' => e = .returned (.bool (decide (RuOK s.n x))) ∧ Below W.heap.size W w') := fun W _ => right_any s.n x W ht1 ht2
        have HCO : Hid (∀ W, Below W2.heap.size W2 W → Calls Tryz.prog 112 #[.slice (some ⟨b, off, none⟩) k c, .agg #[.int .i64 x.fr, .int .i64 x.to, .string x.inp, .string x.out, .int .i64 x.co]] W fun e w' => e = .returned (.bool (decide (x ∈ s.rs.take k))) ∧ Below W.heap.size W w') := fun W hW => by
         have := conRu_any (some ⟨b, off, none⟩) (s.rs.take k) c x W (HSL2.out W hW) (by rw [htl]; omega)
         rwa [htl] at this
        have hkc : (k : Int) ≤ (c : Int) := by have := HCAP.out.1; omega
        clear hW2 hb2 hX hg d0 d1 d2 d3 d4 hbb b0 b1 b2 bl htl ht1 ht2
        obtain ⟨b0, b1, b2, bl⟩ := HCE.out _ HB2.out
        obtain ⟨x0, x1, x2, x3, x4, xl⟩ := HC2.out _ (Below.refl _ _)
        by_cases hr : RuOK s.n x
        ·by_cases hm : x ∈ s.rs.take k
         ·have HM := Lib.hid hm
          rw [decide_eq_true hr] at HRI
          rw [decide_eq_true hm] at HCO
          clear hr hm
          refine ordB_below (.quiet 0 (.quiet 1 (.quiet 2 (.only 3 (.quiet 4 (.quiet 5 (.quiet 6 (.quiet 7 (.quiet 8 (.quiet 9 (.quiet 10 (.only 11 (.quiet 12 .done))))))))))))) (by kernel_rfl) (by kernel_rfl) (by kernel_rfl) (fun _ _ _ _ _ h => h) ?_
          intro V0 hV0
          iterate 3 ((first | refine ordB_skip rfl rfl ?_ | (refine ordB_take (v := ?_) rfl rfl ?_ ?_; rotate_left 1; (focus (intro W hW; obtain ⟨hcW, hfW⟩ := bcell hW; (go_simp <;> with_reducible rfl))))); simp only [Act.put, zA, zB, zC])
          refine ordB_only (opB_call rfl rfl (fun K hK => ?_))
          go_simp
          go_at_call 111
          refine (HRI.out V0 hV0).mono ?_
          rintro e V0_1 ⟨rfl, hx9⟩
          refine hK.out _ _ (hV0.trans (hx9.mono hV0.size)) (fun hV0_1 => ?_)
          iterate 7 ((first | refine ordB_skip rfl rfl ?_ | (refine ordB_take (v := ?_) rfl rfl ?_ ?_; rotate_left 1; (focus (intro W hW; obtain ⟨hcW, hfW⟩ := bcell hW; (go_simp <;> with_reducible rfl))))); simp only [Act.put, zA, zB, zC])
          refine ordB_only (opB_call rfl rfl (fun K hK => ?_))
          go_simp
          go_at_call 112
          refine (HCO.out V0_1 hV0_1).mono ?_
          rintro e V0_1_2 ⟨rfl, hx8⟩
          refine hK.out _ _ (hV0_1.trans (hx8.mono hV0_1.size)) (fun hV0_1_2 => ?_)
          iterate 1 ((first | refine ordB_skip rfl rfl ?_ | (refine ordB_take (v := ?_) rfl rfl ?_ ?_; rotate_left 1; (focus (intro W hW; obtain ⟨hcW, hfW⟩ := bcell hW; (go_simp <;> with_reducible rfl))))); simp only [Act.put, zA, zB, zC])
          refine ordB_nil ?_
          have HBF := Lib.hid (bthen HB1.out (bthen HB2.out hV0_1_2))
          go_wp2_with fail
          go_ret2
          exact says_no (fun h => take_dup HX.out HM.out h.2.2.2.2) _ HBF.out
         ·have HM := Lib.hid hm
          have HRR := Lib.hid hr
          rw [decide_eq_true hr] at HRI
          rw [decide_eq_false hm] at HCO
          clear hr hm
          refine ordB_below (.quiet 0 (.quiet 1 (.quiet 2 (.only 3 (.quiet 4 (.quiet 5 (.quiet 6 (.quiet 7 (.quiet 8 (.quiet 9 (.quiet 10 (.only 11 (.quiet 12 .done))))))))))))) (by kernel_rfl) (by kernel_rfl) (by kernel_rfl) (fun _ _ _ _ _ h => h) ?_
          intro V0 hV0
          iterate 3 ((first | refine ordB_skip rfl rfl ?_ | (refine ordB_take (v := ?_) rfl rfl ?_ ?_; rotate_left 1; (focus (intro W hW; obtain ⟨hcW, hfW⟩ := bcell hW; (go_simp <;> with_reducible rfl))))); simp only [Act.put, zA, zB, zC])
          refine ordB_only (opB_call rfl rfl (fun K hK => ?_))
          go_simp
          go_at_call 111
          refine (HRI.out V0 hV0).mono ?_
          rintro e V0_1 ⟨rfl, hx9⟩
          refine hK.out _ _ (hV0.trans (hx9.mono hV0.size)) (fun hV0_1 => ?_)
          iterate 7 ((first | refine ordB_skip rfl rfl ?_ | (refine ordB_take (v := ?_) rfl rfl ?_ ?_; rotate_left 1; (focus (intro W hW; obtain ⟨hcW, hfW⟩ := bcell hW; (go_simp <;> with_reducible rfl))))); simp only [Act.put, zA, zB, zC])
          refine ordB_only (opB_call rfl rfl (fun K hK => ?_))
          go_simp
          go_at_call 112
          refine (HCO.out V0_1 hV0_1).mono ?_
          rintro e V0_1_2 ⟨rfl, hx8⟩
          refine hK.out _ _ (hV0_1.trans (hx8.mono hV0_1.size)) (fun hV0_1_2 => ?_)
          iterate 1 ((first | refine ordB_skip rfl rfl ?_ | (refine ordB_take (v := ?_) rfl rfl ?_ ?_; rotate_left 1; (focus (intro W hW; obtain ⟨hcW, hfW⟩ := bcell hW; (go_simp <;> with_reducible rfl))))); simp only [Act.put, zA, zB, zC])
          refine ordB_nil ?_
          have HBF := Lib.hid (bthen HB2.out hV0_1_2)
          go_wp2_with fail
          go_roundw
          case rel => exact ⟨k + 1, by omega, by go_num, take_all HR.out HX.out HRR.out, take_nodup HN.out HX.out HM.out, HBF.out⟩
          case measure => simp [intOf]; omega
        ·have HRR := Lib.hid hr
         rw [decide_eq_false hr] at HRI
         clear hr
         refine ordB_below (.quiet 0 (.quiet 1 (.quiet 2 (.only 3 (.quiet 4 (.quiet 5 (.quiet 6 (.quiet 7 (.quiet 8 (.quiet 9 (.quiet 10 (.only 11 (.quiet 12 .done))))))))))))) (by kernel_rfl) (by kernel_rfl) (by kernel_rfl) (fun _ _ _ _ _ h => h) ?_
         intro V0 hV0
         iterate 3 ((first | refine ordB_skip rfl rfl ?_ | (refine ordB_take (v := ?_) rfl rfl ?_ ?_; rotate_left 1; (focus (intro W hW; obtain ⟨hcW, hfW⟩ := bcell hW; (go_simp <;> with_reducible rfl))))); simp only [Act.put, zA, zB, zC])
         refine ordB_only (opB_call rfl rfl (fun K hK => ?_))
         go_simp
         go_at_call 111
         refine (HRI.out V0 hV0).mono ?_
         rintro e V0_1 ⟨rfl, hx9⟩
         refine hK.out _ _ (hV0.trans (hx9.mono hV0.size)) (fun hV0_1 => ?_)
         iterate 7 ((first | refine ordB_skip rfl rfl ?_ | (refine ordB_take (v := ?_) rfl rfl ?_ ?_; rotate_left 1; (focus (intro W hW; obtain ⟨hcW, hfW⟩ := bcell hW; (go_simp <;> with_reducible rfl))))); simp only [Act.put, zA, zB, zC])
         refine ordB_only (opB_cskip rfl rfl hV0_1 ?_)
         simp only [Act.put, zA, zB, zC]
         iterate 1 ((first | refine ordB_skip rfl rfl ?_ | (refine ordB_take (v := ?_) rfl rfl ?_ ?_; rotate_left 1; (focus (intro W hW; obtain ⟨hcW, hfW⟩ := bcell hW; (go_simp <;> with_reducible rfl))))); simp only [Act.put, zA, zB, zC])
         refine ordB_nil ?_
         have HBF := Lib.hid (bthen HB1.out (bthen HB2.out hV0_1))
         go_wp2_with fail
         go_ret2
         exact says_no (fun h => HRR.out (h.2.2.2.1 x HMEM.out)) _ HBF.out
       ·have HOK2 : Hid (ScOK s) := HOK.out ⟨by have := HR.out; rwa [List.take_of_length_le (by omega)] at this, by have := HN.out; rwa [List.take_of_length_le (by omega)] at this⟩
        go_wp2_with fail
        go_ret2
        exact says_yes HOK2.out _ (bthen HB1.out HBR.out)
     ·have HNO : Hid (¬ ScOK s) := fun h => q4 (by have := h.2.2.1.2; rw [hN2] at this; exact this)
      go_enter Tryz.func85, Tryz.ntmps85
      go_upto_region 1 with fail
      rw [HW1.out]
      go_wp2_with fail
      go_quiet (fail)
      go_wp2_with fail
      go_ret2
      exact says_no HNO.out _ (below_drewN HB1.out _)
    ·have HNO : Hid (¬ ScOK s) := fun h => q3 h.2.2.1.1
     go_enter Tryz.func85, Tryz.ntmps85
     go_upto_region 1 with fail
     rw [HW1.out]
     go_wp2_with fail
     go_quiet (fail)
     go_wp2_with fail
     go_ret2
     exact says_no HNO.out _ (below_drewN HB1.out _)
   ·have HNO : Hid (¬ ScOK s) := fun h => q2 h.2.1
    go_enter Tryz.func85, Tryz.ntmps85
    go_upto_region 1 with fail
    rw [HW1.out]
    go_wp2_with fail
    go_ret2
    exact says_no HNO.out _ HB1.out
  ·have HNO : Hid (¬ ScOK s) := fun h => q1 h.1.2
   go_enter Tryz.func85, Tryz.ntmps85
   go_upto_region 1 with fail
   rw [HW1.out]
   go_wp2_with fail
   go_ret2
   exact says_no HNO.out _ HB1.out
 ·have HNO : Hid (¬ ScOK s) := fun h => q0 h.1.1
  go_enter Tryz.func85, Tryz.ntmps85
  go_upto_region 1 with fail
  rw [HW1.out]
  go_wp2_with fail
  go_ret2
  exact says_no HNO.out _ HB1.out
end Go.Proofs.YtfpnhgahkjglgaaGreat
