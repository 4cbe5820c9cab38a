/-
  Layer 20: the reference's Learn, with the capacity of its pairs' row; costs after learning. No conditions.
-/
import Derived.Test.YtcimnkijpifkjaaQ22
import Derived.Test.YtcimnkijpifkjaaQ32
namespace Go.Proofs.Ytcimnkijpifkjaa
open Go Go.RowKit

def GivesRK (o : Option Mo) (w : World) (e : Ending) (w' : World) : Prop :=
  match o with
  | none => e = .returned (.tuple #[.agg #[.slice none 0 0, .slice none 0 0, .slice none 0 0, .int .i64 0], .int .i64 110]) ∧ Below w.heap.size w w'
  | some m => ∃ (B1 B2 B3 : Option Addr) (d1 d2 d3 : Nat), e = .returned (.tuple #[.agg #[.slice B1 m.ws.length d1, .slice B2 m.cs.length d2, .slice B3 m.ps.length d3, .int .i64 m.back], .int .i64 0]) ∧ MoR w' m B1 B2 B3 ∧ (m.ps.length ≤ d3 ∧ d3 ≤ maxLen) ∧ Below w.heap.size w w'
set_option maxRecDepth 100000 in
set_option maxHeartbeats 4000000 in
theorem reflearn_goK (m : Mo) (A1 A3 : Option Addr) (a2 : Addr) (c1 c2 c3 : Nat) (prev n : Int) (j : Nat) (w : World) (h : MoR w m A1 (some a2) A3) (hok : MoOK m) (hj : j < m.cs.length) (g3 : prev < m.ws.length) (g4 : 1 ≤ n) (g5 : n ≤ 1073741824) (hc3K : m.ps.length ≤ c3 ∧ c3 ≤ maxLen) :
    Calls Try.prog 23 #[.agg #[.slice A1 m.ws.length c1, .slice (some a2) m.cs.length c2, .slice A3 m.ps.length c3, .int .i64 m.back], .agg #[.int .i64 prev, .int .i64 (j : Int), .int .i64 n]] w (GivesRK (learnM m prev j n) w) := by
  have hB : Below w.heap.size w (((w.alloc (.cells #[.slice A1 m.ws.length c1, .slice (some a2) m.cs.length c2, .slice A3 m.ps.length c3, .int .i64 m.back] 34)).alloc (.cells #[.int .i64 prev, .int .i64 (j : Int), .int .i64 n] 74)).alloc (.cells #[.slice none 0 0, .slice none 0 0, .slice none 0 0, .int .i64 0] 34)) := (((Below.refl _ _).alloc (Nat.le_refl _) _).alloc (by simp) _).alloc (by simp; omega) _
  have hb0 : Below w.heap.size w ((((w.alloc (.cells #[.slice A1 m.ws.length c1, .slice (some a2) m.cs.length c2, .slice A3 m.ps.length c3, .int .i64 m.back] 34)).alloc (.cells #[.int .i64 prev, .int .i64 (j : Int), .int .i64 n] 74)).alloc (.cells #[.slice none 0 0, .slice none 0 0, .slice none 0 0, .int .i64 0] 34)).alloc (.cells #[.slice A1 m.ws.length c1, .slice (some a2) m.cs.length c2, .slice A3 m.ps.length c3, .int .i64 m.back] 34)) := hB.trans ((Below.refl _ _).alloc (by simp; omega) _)
  have HKC := Lib.hid hc3K
  clear hc3K
  have hwl : 1 ≤ m.ws.length ∧ m.ws.length ≤ 200 := hok.1.1.1.1
  have hcw : m.cs.length = m.ws.length := hok.1.1.2.1
  have hl2 := h.l2
  have i1 : inB j 0 (↑m.ws.length - 1) = true := by unfold inB; simp; omega
  have i2 : inB n 1 1073741824 = true := by unfold inB; simp; omega
  obtain ⟨i0, hi, hz0, hz1, hz2⟩ := info_parts cloneI_info
  have HC := Lib.hid (slr_cells (enc := (fun x => [Value.int .i64 x])) ((h.h2.below keeps_int hb0).below keeps_int ((Below.refl _ _).alloc (Nat.le_refl _) (.cells #[] 3))) (by decide) (fun _ _ _ h => h))
  have HL := Lib.hid (show (m.cs.flatMap (fun x => [Value.int .i64 x])).length = m.cs.length * 1 from flatMap_len (s := 1) (enc := (fun x => [Value.int .i64 x])) (fun _ => rfl) m.cs)
  have HOE := Lib.hid (own_empty_ ((((w.alloc (.cells #[.slice A1 m.ws.length c1, .slice (some a2) m.cs.length c2, .slice A3 m.ps.length c3, .int .i64 m.back] 34)).alloc (.cells #[.int .i64 prev, .int .i64 (j : Int), .int .i64 n] 74)).alloc (.cells #[.slice none 0 0, .slice none 0 0, .slice none 0 0, .int .i64 0] 34)).alloc (.cells #[.slice A1 m.ws.length c1, .slice (some a2) m.cs.length c2, .slice A3 m.ps.length c3, .int .i64 m.back] 34)) 3 1 (w.heap.size + 1 + 1 + 1 + 1) (w.heap.size + 1 + 1 + 1 + 1) (by simp) (by simp))
  have HK3 := Lib.hid ((Blk.new_ (w := (((w.alloc (.cells #[.slice A1 m.ws.length c1, .slice (some a2) m.cs.length c2, .slice A3 m.ps.length c3, .int .i64 m.back] 34)).alloc (.cells #[.int .i64 prev, .int .i64 (j : Int), .int .i64 n] 74)).alloc (.cells #[.slice none 0 0, .slice none 0 0, .slice none 0 0, .int .i64 0] 34))) (t := 34) (cs := #[.slice A1 m.ws.length c1, .slice (some a2) m.cs.length c2, .slice A3 m.ps.length c3, .int .i64 m.back]) (g := w.heap.size + 1 + 1 + 1) (by simp)).alloc (.cells #[] 3))
  have HK2 := Lib.hid (((Blk.new_ (w := ((w.alloc (.cells #[.slice A1 m.ws.length c1, .slice (some a2) m.cs.length c2, .slice A3 m.ps.length c3, .int .i64 m.back] 34)).alloc (.cells #[.int .i64 prev, .int .i64 (j : Int), .int .i64 n] 74))) (t := 34) (cs := #[.slice none 0 0, .slice none 0 0, .slice none 0 0, .int .i64 0]) (g := w.heap.size + 1 + 1) (by simp)).alloc (.cells #[.slice A1 m.ws.length c1, .slice (some a2) m.cs.length c2, .slice A3 m.ps.length c3, .int .i64 m.back] 34)).alloc (.cells #[] 3))
  have HK1 := Lib.hid ((((Blk.new_ (w := (w.alloc (.cells #[.slice A1 m.ws.length c1, .slice (some a2) m.cs.length c2, .slice A3 m.ps.length c3, .int .i64 m.back] 34))) (t := 74) (cs := #[.int .i64 prev, .int .i64 (j : Int), .int .i64 n]) (g := w.heap.size + 1) (by simp)).alloc (.cells #[.slice none 0 0, .slice none 0 0, .slice none 0 0, .int .i64 0] 34)).alloc (.cells #[.slice A1 m.ws.length c1, .slice (some a2) m.cs.length c2, .slice A3 m.ps.length c3, .int .i64 m.back] 34)).alloc (.cells #[] 3))
  have HK0 := Lib.hid (((((Blk.new w 34 #[.slice A1 m.ws.length c1, .slice (some a2) m.cs.length c2, .slice A3 m.ps.length c3, .int .i64 m.back]).alloc (.cells #[.int .i64 prev, .int .i64 (j : Int), .int .i64 n] 74)).alloc (.cells #[.slice none 0 0, .slice none 0 0, .slice none 0 0, .int .i64 0] 34)).alloc (.cells #[.slice A1 m.ws.length c1, .slice (some a2) m.cs.length c2, .slice A3 m.ps.length c3, .int .i64 m.back] 34)).alloc (.cells #[] 3))
  have HM := Lib.hid h
  have HOK := Lib.hid hok
  have HCW := Lib.hid hcw
  have HB := Lib.hid (hb0.trans ((Below.refl _ _).alloc (by simp; omega) (.cells #[] 3)))
  clear h hok hcw hB hb0
  go_enter Try.func23, Try.ntmps23
  go_wp2_with (first | (go_at_call 36; refine (in_any _ _ _ _).mono ?_; rintro e w' ⟨rfl, rfl⟩; simp only [i1, i2]) | (at_builtin; go_loud (refine wpList_appN rfl _ _ 31 rfl (w.heap.size + 1 + 1 + 1 + 1) 3 i0 _ 1 8 Try.underlying31 hi hz0 hz1 hz2 rfl (by decide) (.slice (some ⟨w.heap.size + 1 + 1 + 1 + 1, 0, none⟩) 0 0) 0 [] rfl HOE.out a2 m.cs.length c2 (m.cs.flatMap (fun x => [Value.int .i64 x])) rfl HL.out HC.out (fun u hu => by obtain ⟨x, _, hx⟩ := List.mem_flatMap.1 hu; simp at hx; rcases hx with rfl <;> rfl) (by omega) (by decide) (by simp) ?_; intro v1 w1 hown1 hb1 ha1; simp only [Nat.zero_add, List.nil_append] at hown1; obtain ⟨g2, d2, cur2, rfl, hg2, hblk2, hn2, hm2, hcl2, htk2⟩ := blk_of_own hown1 (by omega); clear htk2; have z3 := HK3.out.below hb1 (by omega); have z31 := z3.cell 1; have z3f := z3.frozen 1)))
  have hs1 := hb1.size
  simp at hs1
  have k0 := (HK0.out.below hb1 (by omega)).far (p := ⟨w.heap.size + 1 + 1 + 1, 1, none⟩) (by simp; omega) (.slice (some ⟨g2, 0, none⟩) m.cs.length d2)
  have k1 := (HK1.out.below hb1 (by omega)).far (p := ⟨w.heap.size + 1 + 1 + 1, 1, none⟩) (by simp) (.slice (some ⟨g2, 0, none⟩) m.cs.length d2)
  have k2 := (HK2.out.below hb1 (by omega)).far (p := ⟨w.heap.size + 1 + 1 + 1, 1, none⟩) (by simp) (.slice (some ⟨g2, 0, none⟩) m.cs.length d2)
  have k3 := z3.set_ 1 (.slice (some ⟨g2, 0, none⟩) m.cs.length d2)
  have o2 := own_set hown1 (a := ⟨w.heap.size + 1 + 1 + 1, 1, none⟩) (fun e => by have := own_block_le hown1 _ e; simp at this; omega) (.slice (some ⟨g2, 0, none⟩) m.cs.length d2)
  have HS := (HB.out.trans (hb1.mono (by omega))).setCell (show w.heap.size ≤ (Addr.mk (w.heap.size + 1 + 1 + 1) 1 none).block by simp; omega) (.slice (some ⟨g2, 0, none⟩) m.cs.length d2)
  clear z3 z31 z3f hown1 hb1 ha1 hblk2 HK0 HK1 HK2 HK3 HB
  generalize w1.setCell ⟨w.heap.size + 1 + 1 + 1, 1, none⟩ (.slice (some ⟨g2, 0, none⟩) m.cs.length d2) = W6 at *
  simp only [List.setIfInBounds_toArray, List.set_cons_zero, List.set_cons_succ] at k3
  have hs6 := k3.lt
  obtain ⟨y, HYJ, hyc, hyf, hg2⟩ : ∃ y, Hid (m.cs[j]? = some y) ∧ W6.cell? ⟨g2, j, none⟩ = some (.int .i64 y) ∧ W6.frozen? ⟨g2, j, none⟩ = false ∧ w.heap.size + 1 + 1 + 1 + 1 ≤ g2 := by
    obtain ⟨_, h1, h2, y, h3, h4⟩ := own_seti o2 j hj 0
    exact ⟨y, h3, h4, h2, h1⟩
  have hyb := HOK.out.1.1.2.2.1 y (List.mem_of_getElem? HYJ.out)
  have hjx : (j : Int) < (m.cs.length : Int) := by omega
  have hyw : IntKind.i64.wrap (y + n) = y + n := by rw [IntKind.wrap_i64]; omega
  have K0 := Lib.hid k0
  have K1 := Lib.hid k1
  have K2 := Lib.hid k2
  have K3 := Lib.hid k3
  have O2 := Lib.hid o2
  have HSS := Lib.hid HS
  clear o2 HS
  have k00 := k0.cell 0
  have k01 := k0.cell 1
  have k02 := k0.cell 2
  have k03 := k0.cell 3
  have k10 := k1.cell 0
  have k11 := k1.cell 1
  have k12 := k1.cell 2
  have k20 := k2.cell 0
  have k21 := k2.cell 1
  have k22 := k2.cell 2
  have k23 := k2.cell 3
  have k30 := k3.cell 0
  have k31 := k3.cell 1
  have k32 := k3.cell 2
  have k33 := k3.cell 3
  simp at k00 k01 k02 k03 k10 k11 k12 k20 k21 k22 k23 k30 k31 k32 k33
  clear k0 k1 k2 k3
  have hk1s : w.heap.size + 1 < W6.heap.size := by omega
  have hk3s : w.heap.size + 1 + 1 + 1 < W6.heap.size := by omega
  have hg2s : g2 < W6.heap.size := (blk_of_own O2.out (by omega)).elim fun g h => by obtain ⟨c, l, h1, h2, h3, _⟩ := h; injection h1 with h1; injection h1 with h1; injection h1 with h1; rw [h1]; exact h3.lt
  refine ordT_below [10] [(0, false), (1, false), (2, false), (3, false), (4, false), (5, false), (6, false), (7, false), (8, false), (9, false), (10, true)] (by kernel_rfl) (by kernel_rfl) (by kernel_rfl) (fun _ _ _ _ _ h => h) ?_
  intro W0 hS0
  repeat (first
    | (refine ordT_skip rfl rfl (by assumption) ?_; simp only [Act.put, List.setIfInBounds_toArray, List.set_cons_zero, List.set_cons_succ])
    | (refine ordT_cskip rfl rfl (by assumption) ?_; simp only [Act.put, List.setIfInBounds_toArray, List.set_cons_zero, List.set_cons_succ])
    | (refine ordT_take (v := ?_) rfl rfl (by assumption) ?_ ?_
       rotate_left 1
       focus (intro W hW; obtain ⟨hcW, hfW⟩ := bcell hW; (go_simp <;> with_reducible rfl))
       simp only [Act.put, List.setIfInBounds_toArray, List.set_cons_zero, List.set_cons_succ])
    | (refine ordT_call rfl rfl (fun K hK => ?_)
       obtain ⟨hcS, hfS⟩ := bcell hS0
       go_simp
       first
         | (refine hK.out _ _ (fun h => by cases h) ?_)))
  refine ordT_nil ?_
  have hs0 := hS0.size
  have k0 := (K0.out.below hS0 (by omega)).far (p := ⟨g2, j, none⟩) (by show _ ≠ g2; omega) (.int .i64 (y + n))
  have k1 := (K1.out.below hS0 (by omega)).far (p := ⟨g2, j, none⟩) (by show _ ≠ g2; omega) (.int .i64 (y + n))
  have k2 := (K2.out.below hS0 (by omega)).far (p := ⟨g2, j, none⟩) (by show _ ≠ g2; omega) (.int .i64 (y + n))
  have k3 := (K3.out.below hS0 (by omega)).far (p := ⟨g2, j, none⟩) (by show _ ≠ g2; omega) (.int .i64 (y + n))
  have O7 := Lib.hid (own_seti (own_below O2.out hS0) j hj (y + n)).1
  have HS7 := Lib.hid ((HSS.out.trans (hS0.mono (by omega))).setCell (show w.heap.size ≤ (Addr.mk g2 j none).block by simp; omega) (.int .i64 (y + n)))
  have hsz7 : (W0.setCell ⟨g2, j, none⟩ (.int .i64 (y + n))).heap.size = W0.heap.size := by simp
  clear hyc hyf k00 k01 k02 k03 k10 k11 k12 k20 k21 k22 k23 k30 k31 k32 k33
  generalize W0.setCell ⟨g2, j, none⟩ (.int .i64 (y + n)) = W7 at *
  have L0 := Lib.hid k0
  have L1 := Lib.hid k1
  have L2 := Lib.hid k2
  have L3 := Lib.hid k3
  clear HSS K0 K1 K2 K3 O2 hS0
  have k00 := k0.cell 0
  have k01 := k0.cell 1
  have k02 := k0.cell 2
  have k03 := k0.cell 3
  have k10 := k1.cell 0
  have k11 := k1.cell 1
  have k12 := k1.cell 2
  have k20 := k2.cell 0
  have k21 := k2.cell 1
  have k22 := k2.cell 2
  have k23 := k2.cell 3
  have k30 := k3.cell 0
  have k31 := k3.cell 1
  have k32 := k3.cell 2
  have k33 := k3.cell 3
  simp at k00 k01 k02 k03 k10 k11 k12 k20 k21 k22 k23 k30 k31 k32 k33
  clear k0 k1 k2 k3
  have HY := Lib.hid (show LearnOK m prev j n from ⟨⟨g4, g5, by omega, by have := HCW.out; omega, g3⟩, HOK.out⟩)
  clear HC HL HOE
  by_cases hp : 0 ≤ prev
  · have HNX := Lib.hid (show nextM m prev j n = ⟨m.ws, m.cs.set j (y + n), addP m.ps ⟨prev, j, n⟩, m.back⟩ by
      unfold nextM
      rw [if_pos hp, show ((j : Int)).toNat = j from rfl, List.getD_eq_getElem?_getD, HYJ.out, countP_eq, ← addP_eq _ HOK.out.1.2.2.2]; rfl)
    have HADD := Lib.hid (add_any (.slice A1 m.ws.length c1) (.slice (some a2) m.cs.length c2) (.int .i64 m.back) A3 m.ps c3 ⟨prev, j, n⟩ W7 (HM.out.h3.below keeps_pr HS7.out) HM.out.l3 HM.out.n (by simp; omega))
    have HLP := Lib.hid (show (addP m.ps ⟨prev, j, n⟩).length ≤ 65536 by rw [addP_eq _ HOK.out.1.2.2.2]; have := (insP_len ⟨prev, j, n⟩ m.ps).2; have := HOK.out.1.2.1; omega)
    have HWN := Lib.hid (show Within 4294967296 ((addP m.ps ⟨prev, j, n⟩).map Pr.n) by rw [addP_eq _ HOK.out.1.2.2.2, ← countP_eq]; exact countP_within (m := 1073741824) m.ps ⟨prev, j, n⟩ (fun p hp => ⟨by have := (HOK.out.1.2.2.1 p hp).1; unfold PRange at this; omega, (HOK.out.1.2.2.1 p hp).2.1⟩) (by simp; omega))
    by_cases hval : MoOK ⟨m.ws, m.cs.set j (y + n), addP m.ps ⟨prev, j, n⟩, m.back⟩
    · have HVAL := Lib.hid hval
      have dv := decide_eq_true hval
      have DV := Lib.hid dv
      clear hval dv
      go_wp2_with (first | (go_at_call 30; go_loud (refine HADD.out.mono ?_; rintro e w3 ⟨v3, rfl, ho3, hb3⟩; obtain ⟨B3, d3, rfl, hkd1, hkd2, _⟩ := own_slr (R := RPr) ho3 (fun _ => rfl) (fun _ => rfl) rfl; have HKD := Lib.hid (And.intro hkd1 hkd2); clear hkd1 hkd2; have hs3 := hb3.size; have r3 := L3.out.below hb3 (by omega); have r30 := r3.cell 0; have r31 := r3.cell 1; have r32 := r3.cell 2; have r33 := r3.cell 3; have r3f := r3.frozen 2)) | (go_at_call 34; go_loud (have HO2V := Lib.hid (own_set (own_below O7.out hb3) (a := ⟨w.heap.size + 1 + 1 + 1, 2, none⟩) (fun e => by have := own_block_le O7.out _ e; simp at this; omega) (.slice B3 (addP m.ps ⟨prev, j, n⟩).length d3)); have HO3V := Lib.hid (own_set ho3 (a := ⟨w.heap.size + 1 + 1 + 1, 2, none⟩) (fun e => by have := own_block_le ho3 _ e; simp at this; omega) (.slice B3 (addP m.ps ⟨prev, j, n⟩).length d3)); have HSV := Lib.hid ((HS7.out.trans (hb3.mono (by omega))).setCell (show w.heap.size ≤ (Addr.mk (w.heap.size + 1 + 1 + 1) 2 none).block by simp; omega) (.slice B3 (addP m.ps ⟨prev, j, n⟩).length d3)); have K2V := Lib.hid ((L2.out.below hb3 (by omega)).far (p := ⟨w.heap.size + 1 + 1 + 1, 2, none⟩) (by simp) (.slice B3 (addP m.ps ⟨prev, j, n⟩).length d3)); have K3V := Lib.hid (r3.set_ 2 (.slice B3 (addP m.ps ⟨prev, j, n⟩).length d3)); have HMN := Lib.hid (mor_mix (cs' := m.cs.set j (y + n)) HM.out HSV.out HO2V.out (by simp) HO3V.out (by simpa using hl2) HLP.out HWN.out); have HVN := Lib.hid (co_refvalid_any ⟨m.ws, m.cs.set j (y + n), addP m.ps ⟨prev, j, n⟩, m.back⟩ A1 (some ⟨g2, 0, none⟩) B3 c1 d2 d3 _ HMN.out); rw [List.length_set, DV.out] at HVN; refine HVN.out.mono ?_; rintro e w2 ⟨rfl, hb2⟩; have hs2 := hb2.size; (try simp at hs2); have e3 := K3V.out.below hb2 (by first | omega | (simp; omega)); have e30 := e3.cell 0; have e31 := e3.cell 1; have e32 := e3.cell 2; have e33 := e3.cell 3; have zz2 := K2V.out.below hb2 (by first | omega | (simp; omega)); have t0 := zz2.cell 0; have t1 := zz2.cell 1; have t2 := zz2.cell 2; have t3 := zz2.cell 3; have u0 := zz2.frozen 0; have u1 := zz2.frozen 1; have u2 := zz2.frozen 2; have u3 := zz2.frozen 3)))
      have hz4 := zz2.co_set4 (.slice A1 m.ws.length c1) (.slice (some ⟨g2, 0, none⟩) m.cs.length d2) (.slice B3 (addP m.ps ⟨prev, j, n⟩).length d3) (.int .i64 m.back)
      obtain ⟨Wf, hWf⟩ : ∃ Wf, Wf = co_set4 w2 (w.heap.size + 1 + 1) (.slice A1 m.ws.length c1) (.slice (some ⟨g2, 0, none⟩) m.cs.length d2) (.slice B3 (addP m.ps ⟨prev, j, n⟩).length d3) (.int .i64 m.back) := ⟨_, rfl⟩
      rw [← hWf] at hz4
      have hWf' := hWf
      unfold co_set4 at hWf'
      rw [← hWf']
      have y0 := hz4.cell 0
      have y1 := hz4.cell 1
      have y2 := hz4.cell 2
      have y3 := hz4.cell 3
      refine bodyPost_ret (v := .tuple #[.agg #[.slice A1 m.ws.length c1, .slice (some ⟨g2, 0, none⟩) m.cs.length d2, .slice B3 (addP m.ps ⟨prev, j, n⟩).length d3, .int .i64 m.back], .int .i64 0]) (by simp [results, Try.results23, go_sem, y0, y1, y2, y3]; done) rfl ?_
      have HSF : Below w.heap.size w Wf := (HSV.out.trans (hb2.mono HSV.out.size)).trans (by rw [hWf]; exact set4_below _ _ _ _ _ _ (by omega))
      rw [show learnM m prev j n = some ⟨m.ws, m.cs.set j (y + n), addP m.ps ⟨prev, j, n⟩, m.back⟩ by unfold learnM; rw [HNX.out, if_pos ⟨HY.out, HVAL.out⟩]]
      have HF2 := own_set4 (g := w.heap.size + 1 + 1) (own_below HO2V.out hb2) (fun e => by have := own_block_le HO2V.out _ e; omega) (.slice A1 m.ws.length c1) (.slice (some ⟨g2, 0, none⟩) m.cs.length d2) (.slice B3 (addP m.ps ⟨prev, j, n⟩).length d3) (.int .i64 m.back)
      have HF3 := own_set4 (g := w.heap.size + 1 + 1) (own_below HO3V.out hb2) (fun e => by have := own_block_le HO3V.out _ e; omega) (.slice A1 m.ws.length c1) (.slice (some ⟨g2, 0, none⟩) m.cs.length d2) (.slice B3 (addP m.ps ⟨prev, j, n⟩).length d3) (.int .i64 m.back)
      exact ⟨A1, some ⟨g2, 0, none⟩, B3, c1, d2, d3, by simp, mor_mix (cs' := m.cs.set j (y + n)) HM.out HSF (by rw [hWf]; exact HF2) (by simp) (by rw [hWf]; exact HF3) (by simpa using hl2) HLP.out HWN.out, HKD.out, HSF⟩
    · have HVAL := Lib.hid hval
      have dv := decide_eq_false hval
      have DV := Lib.hid dv
      clear hval dv
      go_wp2_with (first | (go_at_call 30; go_loud (refine HADD.out.mono ?_; rintro e w3 ⟨v3, rfl, ho3, hb3⟩; obtain ⟨B3, d3, rfl, hkd1, hkd2, _⟩ := own_slr (R := RPr) ho3 (fun _ => rfl) (fun _ => rfl) rfl; have HKD := Lib.hid (And.intro hkd1 hkd2); clear hkd1 hkd2; have hs3 := hb3.size; have r3 := L3.out.below hb3 (by omega); have r30 := r3.cell 0; have r31 := r3.cell 1; have r32 := r3.cell 2; have r33 := r3.cell 3; have r3f := r3.frozen 2)) | (go_at_call 34; go_loud (have HO2V := Lib.hid (own_set (own_below O7.out hb3) (a := ⟨w.heap.size + 1 + 1 + 1, 2, none⟩) (fun e => by have := own_block_le O7.out _ e; simp at this; omega) (.slice B3 (addP m.ps ⟨prev, j, n⟩).length d3)); have HO3V := Lib.hid (own_set ho3 (a := ⟨w.heap.size + 1 + 1 + 1, 2, none⟩) (fun e => by have := own_block_le ho3 _ e; simp at this; omega) (.slice B3 (addP m.ps ⟨prev, j, n⟩).length d3)); have HSV := Lib.hid ((HS7.out.trans (hb3.mono (by omega))).setCell (show w.heap.size ≤ (Addr.mk (w.heap.size + 1 + 1 + 1) 2 none).block by simp; omega) (.slice B3 (addP m.ps ⟨prev, j, n⟩).length d3)); have K2V := Lib.hid ((L2.out.below hb3 (by omega)).far (p := ⟨w.heap.size + 1 + 1 + 1, 2, none⟩) (by simp) (.slice B3 (addP m.ps ⟨prev, j, n⟩).length d3)); have K3V := Lib.hid (r3.set_ 2 (.slice B3 (addP m.ps ⟨prev, j, n⟩).length d3)); have HMN := Lib.hid (mor_mix (cs' := m.cs.set j (y + n)) HM.out HSV.out HO2V.out (by simp) HO3V.out (by simpa using hl2) HLP.out HWN.out); have HVN := Lib.hid (co_refvalid_any ⟨m.ws, m.cs.set j (y + n), addP m.ps ⟨prev, j, n⟩, m.back⟩ A1 (some ⟨g2, 0, none⟩) B3 c1 d2 d3 _ HMN.out); rw [List.length_set, DV.out] at HVN; refine HVN.out.mono ?_; rintro e w2 ⟨rfl, hb2⟩; have hs2 := hb2.size; (try simp at hs2); have e3 := K3V.out.below hb2 (by first | omega | (simp; omega)); have e30 := e3.cell 0; have e31 := e3.cell 1; have e32 := e3.cell 2; have e33 := e3.cell 3; have zz2 := K2V.out.below hb2 (by first | omega | (simp; omega)); have t0 := zz2.cell 0; have t1 := zz2.cell 1; have t2 := zz2.cell 2; have t3 := zz2.cell 3; have u0 := zz2.frozen 0; have u1 := zz2.frozen 1; have u2 := zz2.frozen 2; have u3 := zz2.frozen 3)))
      have hz4 := zz2.co_set4 (.slice none 0 0) (.slice none 0 0) (.slice none 0 0) (.int .i64 0)
      obtain ⟨Wf, hWf⟩ : ∃ Wf, Wf = co_set4 w2 (w.heap.size + 1 + 1) (.slice none 0 0) (.slice none 0 0) (.slice none 0 0) (.int .i64 0) := ⟨_, rfl⟩
      rw [← hWf] at hz4
      have hWf' := hWf
      unfold co_set4 at hWf'
      rw [← hWf']
      have y0 := hz4.cell 0
      have y1 := hz4.cell 1
      have y2 := hz4.cell 2
      have y3 := hz4.cell 3
      refine bodyPost_ret (v := .tuple #[.agg #[.slice none 0 0, .slice none 0 0, .slice none 0 0, .int .i64 0], .int .i64 110]) (by simp [results, Try.results23, go_sem, y0, y1, y2, y3]; done) rfl ?_
      rw [show learnM m prev j n = none by unfold learnM; rw [HNX.out, if_neg (fun h => HVAL.out h.2)]]
      exact ⟨rfl, (HSV.out.trans (hb2.mono HSV.out.size)).trans (by rw [hWf]; exact set4_below _ _ _ _ _ _ (by omega))⟩
  · have HNX := Lib.hid (show nextM m prev j n = ⟨m.ws, m.cs.set j (y + n), m.ps, m.back⟩ by
      unfold nextM
      rw [if_neg hp, show ((j : Int)).toNat = j from rfl, List.getD_eq_getElem?_getD, HYJ.out]; rfl)
    have HMN := Lib.hid (mor_mix0 (cs' := m.cs.set j (y + n)) HM.out HS7.out O7.out (by simp) (by simpa using hl2))
    have K2V := L2
    have K3V := L3
    have HSV := HS7
    by_cases hval : MoOK ⟨m.ws, m.cs.set j (y + n), m.ps, m.back⟩
    · have HVAL := Lib.hid hval
      have dv := decide_eq_true hval
      have DV := Lib.hid dv
      clear hval dv
      go_wp2_with (first | (go_at_call 34; go_loud (have HVN := Lib.hid (co_refvalid_any ⟨m.ws, m.cs.set j (y + n), m.ps, m.back⟩ A1 (some ⟨g2, 0, none⟩) A3 c1 d2 c3 _ HMN.out); rw [List.length_set, DV.out] at HVN; refine HVN.out.mono ?_; rintro e w2 ⟨rfl, hb2⟩; have hs2 := hb2.size; (try simp at hs2); have e3 := K3V.out.below hb2 (by first | omega | (simp; omega)); have e30 := e3.cell 0; have e31 := e3.cell 1; have e32 := e3.cell 2; have e33 := e3.cell 3; have zz2 := K2V.out.below hb2 (by first | omega | (simp; omega)); have t0 := zz2.cell 0; have t1 := zz2.cell 1; have t2 := zz2.cell 2; have t3 := zz2.cell 3; have u0 := zz2.frozen 0; have u1 := zz2.frozen 1; have u2 := zz2.frozen 2; have u3 := zz2.frozen 3)))
      have hz4 := zz2.co_set4 (.slice A1 m.ws.length c1) (.slice (some ⟨g2, 0, none⟩) m.cs.length d2) (.slice A3 m.ps.length c3) (.int .i64 m.back)
      obtain ⟨Wf, hWf⟩ : ∃ Wf, Wf = co_set4 w2 (w.heap.size + 1 + 1) (.slice A1 m.ws.length c1) (.slice (some ⟨g2, 0, none⟩) m.cs.length d2) (.slice A3 m.ps.length c3) (.int .i64 m.back) := ⟨_, rfl⟩
      rw [← hWf] at hz4
      have hWf' := hWf
      unfold co_set4 at hWf'
      rw [← hWf']
      have y0 := hz4.cell 0
      have y1 := hz4.cell 1
      have y2 := hz4.cell 2
      have y3 := hz4.cell 3
      refine bodyPost_ret (v := .tuple #[.agg #[.slice A1 m.ws.length c1, .slice (some ⟨g2, 0, none⟩) m.cs.length d2, .slice A3 m.ps.length c3, .int .i64 m.back], .int .i64 0]) (by simp [results, Try.results23, go_sem, y0, y1, y2, y3]; done) rfl ?_
      have HSF : Below w.heap.size w Wf := (HSV.out.trans (hb2.mono HSV.out.size)).trans (by rw [hWf]; exact set4_below _ _ _ _ _ _ (by omega))
      rw [show learnM m prev j n = some ⟨m.ws, m.cs.set j (y + n), m.ps, m.back⟩ by unfold learnM; rw [HNX.out, if_pos ⟨HY.out, HVAL.out⟩]]
      have HF2 := own_set4 (g := w.heap.size + 1 + 1) (own_below O7.out hb2) (fun e => by have := own_block_le O7.out _ e; omega) (.slice A1 m.ws.length c1) (.slice (some ⟨g2, 0, none⟩) m.cs.length d2) (.slice A3 m.ps.length c3) (.int .i64 m.back)
      exact ⟨A1, some ⟨g2, 0, none⟩, A3, c1, d2, c3, by simp, mor_mix0 (cs' := m.cs.set j (y + n)) HM.out HSF (by rw [hWf]; exact HF2) (by simp) (by simpa using hl2), HKC.out, HSF⟩
    · have HVAL := Lib.hid hval
      have dv := decide_eq_false hval
      have DV := Lib.hid dv
      clear hval dv
      go_wp2_with (first | (go_at_call 34; go_loud (have HVN := Lib.hid (co_refvalid_any ⟨m.ws, m.cs.set j (y + n), m.ps, m.back⟩ A1 (some ⟨g2, 0, none⟩) A3 c1 d2 c3 _ HMN.out); rw [List.length_set, DV.out] at HVN; refine HVN.out.mono ?_; rintro e w2 ⟨rfl, hb2⟩; have hs2 := hb2.size; (try simp at hs2); have e3 := K3V.out.below hb2 (by first | omega | (simp; omega)); have e30 := e3.cell 0; have e31 := e3.cell 1; have e32 := e3.cell 2; have e33 := e3.cell 3; have zz2 := K2V.out.below hb2 (by first | omega | (simp; omega)); have t0 := zz2.cell 0; have t1 := zz2.cell 1; have t2 := zz2.cell 2; have t3 := zz2.cell 3; have u0 := zz2.frozen 0; have u1 := zz2.frozen 1; have u2 := zz2.frozen 2; have u3 := zz2.frozen 3)))
      have hz4 := zz2.co_set4 (.slice none 0 0) (.slice none 0 0) (.slice none 0 0) (.int .i64 0)
      obtain ⟨Wf, hWf⟩ : ∃ Wf, Wf = co_set4 w2 (w.heap.size + 1 + 1) (.slice none 0 0) (.slice none 0 0) (.slice none 0 0) (.int .i64 0) := ⟨_, rfl⟩
      rw [← hWf] at hz4
      have hWf' := hWf
      unfold co_set4 at hWf'
      rw [← hWf']
      have y0 := hz4.cell 0
      have y1 := hz4.cell 1
      have y2 := hz4.cell 2
      have y3 := hz4.cell 3
      refine bodyPost_ret (v := .tuple #[.agg #[.slice none 0 0, .slice none 0 0, .slice none 0 0, .int .i64 0], .int .i64 110]) (by simp [results, Try.results23, go_sem, y0, y1, y2, y3]; done) rfl ?_
      rw [show learnM m prev j n = none by unfold learnM; rw [HNX.out, if_neg (fun h => HVAL.out h.2)]]
      exact ⟨rfl, (HSV.out.trans (hb2.mono HSV.out.size)).trans (by rw [hWf]; exact set4_below _ _ _ _ _ _ (by omega))⟩
theorem next_total_ {m : Mo} (hok : MoOK m) (prev n : Int) {j : Nat} (hj : j < m.cs.length) : total (nextM m prev j n).cs = total m.cs + n := by
  have _ := hok
  unfold nextM
  simp only [Int.toNat_natCast]
  rw [total_set _ hj, List.getD_eq_getElem?_getD, List.getElem?_eq_getElem hj]
  simp; omega
/-- No other word is cheaper after learning. -/
theorem next_lessC {m : Mo} (hok : MoOK m) (prev : Int) {n : Int} (hn : 1 ≤ n) {j : Nat} (hj : j < m.cs.length) : LessC m (nextM m prev j n) (j : Int) := by
  intro a k hk hkj
  have hcs : m.cs.length = m.ws.length := hok.1.1.2.1
  have hkc : k < m.cs.length := by omega
  have hx := List.getElem?_eq_getElem hkc
  have hx' : (nextM m prev j n).cs[k]? = some m.cs[k] := by
    unfold nextM
    simp only [Int.toNat_natCast]
    rw [List.getElem?_set_ne (by omega), hx]
  have hw : wcost m k ≤ wcost (nextM m prev j n) k := by
    rw [wcost_at hx, wcost_at hx', next_total_ hok prev n hj]
    have hws : (nextM m prev j n).ws = m.ws := rfl
    rw [hws]
    have := lg_mono (x := total m.cs + m.ws.length) (y := total m.cs + n + m.ws.length) (by omega)
    omega
  have hb : (nextM m prev j n).back = m.back := rfl
  by_cases h0 : 0 ≤ prev
  · have e : (nextM m prev j n).ps = insP ⟨prev, j, n⟩ m.ps := by unfold nextM; rw [if_pos h0, countP_eq]
    have hk2 := insP_known ⟨prev, j, n⟩ a (k : Int) hok.1.2.2.2
    have hs2 := insP_sum ⟨prev, j, n⟩ a m.ps
    rw [← e] at hk2 hs2
    simp only at hk2 hs2
    rw [if_neg (by omega), Int.add_zero] at hk2
    unfold pcost
    rw [hk2, hb]
    split
    · exact hw
    · split
      · omega
      · rw [hs2]
        split
        · have := lg_mono (x := sumAt m.ps a) (y := sumAt m.ps a + n) (by omega)
          omega
        · rw [Int.add_zero]; omega
  · have e : (nextM m prev j n).ps = m.ps := by unfold nextM; rw [if_neg h0]
    unfold pcost
    rw [e, hb]
    split
    · exact hw
    · split <;> omega
end Go.Proofs.Ytcimnkijpifkjaa
