/-
  CostWalkW, CostWalkX, CostWalkY, joined. No conditions.
-/
import Derived.Test.YtcimnkijpifkjaaQ21
/-
  The walks of layer 11: Learn, any input; the reference's Learn; when two models are the same.
-/
namespace Go.Proofs.Ytcimnkijpifkjaa
open Go Go.RowKit

theorem own_empty_ (w : World) (e : TypeId) (s base g : Nat) (hg : g = w.heap.size) (hb : base ≤ w.heap.size) : (w.alloc (.cells #[] e)).ownsRow base e s (.slice (some ⟨g, 0, none⟩) 0 0) 0 [] := by subst hg; exact own_empty w e s base hb
/-- What the reference's Learn gives back. -/
def GivesR (o : Option Mo) (w : World) (e : Ending) (w' : World) : Prop :=
  match o with
  | none => e = .returned (.tuple #[.agg #[.slice none 0 0, .slice none 0 0, .slice none 0 0, .int .i64 0], .int .i64 110]) ∧ Below w.heap.size w w'
  | some m => ∃ (B1 B2 B3 : Option Addr) (d1 d2 d3 : Nat), e = .returned (.tuple #[.agg #[.slice B1 m.ws.length d1, .slice B2 m.cs.length d2, .slice B3 m.ps.length d3, .int .i64 m.back], .int .i64 0]) ∧ MoR w' m B1 B2 B3 ∧ Below w.heap.size w w'
theorem mor_mix {w W : World} {m : Mo} {A1 A2 A3 B2 B3 : Option Addr} {cs' : List Int} {ps' : List Pr} {d2 d3 n2 base base3 : Nat} (h : MoR w m A1 A2 A3) (hb : Below w.heap.size w W) (o2 : W.ownsRow base 3 1 (.slice B2 n2 d2) n2 (cs'.flatMap (fun x => [Value.int .i64 x]))) (hn2 : n2 = cs'.length)
    (o3 : W.ownsRow base3 87 3 (.slice B3 ps'.length d3) ps'.length (ps'.flatMap encP)) (l2 : cs'.length ≤ 65536) (l3 : ps'.length ≤ 65536) (hn : Within 4294967296 (ps'.map Pr.n)) : MoR W ⟨m.ws, cs', ps', m.back⟩ A1 B2 B3 := by
  subst hn2
  obtain ⟨C2, e2, h2, k2, m2, s2⟩ := own_slr (R := RInt) o2 (fun _ => rfl) (fun _ => rfl) rfl
  obtain ⟨C3, e3, h3, k3, m3, s3⟩ := own_slr (R := RPr) o3 (fun _ => rfl) (fun _ => rfl) rfl
  injection h2 with h2 _ j2
  injection h3 with h3 _ j3
  subst h2 h3 j2 j3
  exact ⟨(h.below hb).h1, s2, s3, h.l1, l2, l3, h.s, hn⟩
theorem mor_mix0 {w W : World} {m : Mo} {A1 A2 A3 B2 : Option Addr} {cs' : List Int} {d2 n2 base : Nat} (h : MoR w m A1 A2 A3) (hb : Below w.heap.size w W) (o2 : W.ownsRow base 3 1 (.slice B2 n2 d2) n2 (cs'.flatMap (fun x => [Value.int .i64 x]))) (hn2 : n2 = cs'.length) (l2 : cs'.length ≤ 65536) : MoR W ⟨m.ws, cs', m.ps, m.back⟩ A1 B2 A3 := by
  subst hn2
  obtain ⟨C2, e2, h2, k2, m2, s2⟩ := own_slr (R := RInt) o2 (fun _ => rfl) (fun _ => rfl) rfl
  injection h2 with h2 _ j2
  subst h2 j2
  exact ⟨(h.below hb).h1, s2, (h.below hb).h3, h.l1, l2, h.l3, h.s, h.n⟩
set_option maxRecDepth 100000 in
set_option maxHeartbeats 4000000 in
theorem reflearn_go (m : Mo) (A1 A3 : Option Addr) (a2 : Addr) (c1 c2 c3 : Nat) (prev n : Int) (j : Nat) (w : World) (h : MoR w m A1 (some a2) A3) (hok : MoOK m) (hj : j < m.cs.length) (g3 : prev < m.ws.length) (g4 : 1 ≤ n) (g5 : n ≤ 1073741824) :
    Calls Try.prog 23 #[.agg #[.slice A1 m.ws.length c1, .slice (some a2) m.cs.length c2, .slice A3 m.ps.length c3, .int .i64 m.back], .agg #[.int .i64 prev, .int .i64 (j : Int), .int .i64 n]] w (GivesR (learnM m prev j n) w) := by
  have hB : Below w.heap.size w (((w.alloc (.cells #[.slice A1 m.ws.length c1, .slice (some a2) m.cs.length c2, .slice A3 m.ps.length c3, .int .i64 m.back] 34)).alloc (.cells #[.int .i64 prev, .int .i64 (j : Int), .int .i64 n] 74)).alloc (.cells #[.slice none 0 0, .slice none 0 0, .slice none 0 0, .int .i64 0] 34)) := (((Below.refl _ _).alloc (Nat.le_refl _) _).alloc (by simp) _).alloc (by simp; omega) _
  have hb0 : Below w.heap.size w ((((w.alloc (.cells #[.slice A1 m.ws.length c1, .slice (some a2) m.cs.length c2, .slice A3 m.ps.length c3, .int .i64 m.back] 34)).alloc (.cells #[.int .i64 prev, .int .i64 (j : Int), .int .i64 n] 74)).alloc (.cells #[.slice none 0 0, .slice none 0 0, .slice none 0 0, .int .i64 0] 34)).alloc (.cells #[.slice A1 m.ws.length c1, .slice (some a2) m.cs.length c2, .slice A3 m.ps.length c3, .int .i64 m.back] 34)) := hB.trans ((Below.refl _ _).alloc (by simp; omega) _)
  have hwl : 1 ≤ m.ws.length ∧ m.ws.length ≤ 200 := hok.1.1.1.1
  have hcw : m.cs.length = m.ws.length := hok.1.1.2.1
  have hl2 := h.l2
  have i1 : inB j 0 (↑m.ws.length - 1) = true := by unfold inB; simp; omega
  have i2 : inB n 1 1073741824 = true := by unfold inB; simp; omega
  obtain ⟨i0, hi, hz0, hz1, hz2⟩ := info_parts cloneI_info
  have HC := Lib.hid (slr_cells (enc := (fun x => [Value.int .i64 x])) ((h.h2.below keeps_int hb0).below keeps_int ((Below.refl _ _).alloc (Nat.le_refl _) (.cells #[] 3))) (by decide) (fun _ _ _ h => h))
  have HL := Lib.hid (show (m.cs.flatMap (fun x => [Value.int .i64 x])).length = m.cs.length * 1 from flatMap_len (s := 1) (enc := (fun x => [Value.int .i64 x])) (fun _ => rfl) m.cs)
  have HOE := Lib.hid (own_empty_ ((((w.alloc (.cells #[.slice A1 m.ws.length c1, .slice (some a2) m.cs.length c2, .slice A3 m.ps.length c3, .int .i64 m.back] 34)).alloc (.cells #[.int .i64 prev, .int .i64 (j : Int), .int .i64 n] 74)).alloc (.cells #[.slice none 0 0, .slice none 0 0, .slice none 0 0, .int .i64 0] 34)).alloc (.cells #[.slice A1 m.ws.length c1, .slice (some a2) m.cs.length c2, .slice A3 m.ps.length c3, .int .i64 m.back] 34)) 3 1 (w.heap.size + 1 + 1 + 1 + 1) (w.heap.size + 1 + 1 + 1 + 1) (by simp) (by simp))
  have HK3 := Lib.hid ((Blk.new_ (w := (((w.alloc (.cells #[.slice A1 m.ws.length c1, .slice (some a2) m.cs.length c2, .slice A3 m.ps.length c3, .int .i64 m.back] 34)).alloc (.cells #[.int .i64 prev, .int .i64 (j : Int), .int .i64 n] 74)).alloc (.cells #[.slice none 0 0, .slice none 0 0, .slice none 0 0, .int .i64 0] 34))) (t := 34) (cs := #[.slice A1 m.ws.length c1, .slice (some a2) m.cs.length c2, .slice A3 m.ps.length c3, .int .i64 m.back]) (g := w.heap.size + 1 + 1 + 1) (by simp)).alloc (.cells #[] 3))
  have HK2 := Lib.hid (((Blk.new_ (w := ((w.alloc (.cells #[.slice A1 m.ws.length c1, .slice (some a2) m.cs.length c2, .slice A3 m.ps.length c3, .int .i64 m.back] 34)).alloc (.cells #[.int .i64 prev, .int .i64 (j : Int), .int .i64 n] 74))) (t := 34) (cs := #[.slice none 0 0, .slice none 0 0, .slice none 0 0, .int .i64 0]) (g := w.heap.size + 1 + 1) (by simp)).alloc (.cells #[.slice A1 m.ws.length c1, .slice (some a2) m.cs.length c2, .slice A3 m.ps.length c3, .int .i64 m.back] 34)).alloc (.cells #[] 3))
  have HK1 := Lib.hid ((((Blk.new_ (w := (w.alloc (.cells #[.slice A1 m.ws.length c1, .slice (some a2) m.cs.length c2, .slice A3 m.ps.length c3, .int .i64 m.back] 34))) (t := 74) (cs := #[.int .i64 prev, .int .i64 (j : Int), .int .i64 n]) (g := w.heap.size + 1) (by simp)).alloc (.cells #[.slice none 0 0, .slice none 0 0, .slice none 0 0, .int .i64 0] 34)).alloc (.cells #[.slice A1 m.ws.length c1, .slice (some a2) m.cs.length c2, .slice A3 m.ps.length c3, .int .i64 m.back] 34)).alloc (.cells #[] 3))
  have HK0 := Lib.hid (((((Blk.new w 34 #[.slice A1 m.ws.length c1, .slice (some a2) m.cs.length c2, .slice A3 m.ps.length c3, .int .i64 m.back]).alloc (.cells #[.int .i64 prev, .int .i64 (j : Int), .int .i64 n] 74)).alloc (.cells #[.slice none 0 0, .slice none 0 0, .slice none 0 0, .int .i64 0] 34)).alloc (.cells #[.slice A1 m.ws.length c1, .slice (some a2) m.cs.length c2, .slice A3 m.ps.length c3, .int .i64 m.back] 34)).alloc (.cells #[] 3))
  have HM := Lib.hid h
  have HOK := Lib.hid hok
  have HCW := Lib.hid hcw
  have HB := Lib.hid (hb0.trans ((Below.refl _ _).alloc (by simp; omega) (.cells #[] 3)))
  clear h hok hcw hB hb0
  go_enter Try.func23, Try.ntmps23
  go_wp2_with (first | (go_at_call 36; refine (in_any _ _ _ _).mono ?_; rintro e w' ⟨rfl, rfl⟩; simp only [i1, i2]) | (at_builtin; go_loud (refine wpList_appN rfl _ _ 31 rfl (w.heap.size + 1 + 1 + 1 + 1) 3 i0 _ 1 8 Try.underlying31 hi hz0 hz1 hz2 rfl (by decide) (.slice (some ⟨w.heap.size + 1 + 1 + 1 + 1, 0, none⟩) 0 0) 0 [] rfl HOE.out a2 m.cs.length c2 (m.cs.flatMap (fun x => [Value.int .i64 x])) rfl HL.out HC.out (fun u hu => by obtain ⟨x, _, hx⟩ := List.mem_flatMap.1 hu; simp at hx; rcases hx with rfl <;> rfl) (by omega) (by decide) (by simp) ?_; intro v1 w1 hown1 hb1 ha1; simp only [Nat.zero_add, List.nil_append] at hown1; obtain ⟨g2, d2, cur2, rfl, hg2, hblk2, hn2, hm2, hcl2, htk2⟩ := blk_of_own hown1 (by omega); clear htk2; have z3 := HK3.out.below hb1 (by omega); have z31 := z3.cell 1; have z3f := z3.frozen 1)))
  have hs1 := hb1.size
  simp at hs1
  have k0 := (HK0.out.below hb1 (by omega)).far (p := ⟨w.heap.size + 1 + 1 + 1, 1, none⟩) (by simp; omega) (.slice (some ⟨g2, 0, none⟩) m.cs.length d2)
  have k1 := (HK1.out.below hb1 (by omega)).far (p := ⟨w.heap.size + 1 + 1 + 1, 1, none⟩) (by simp) (.slice (some ⟨g2, 0, none⟩) m.cs.length d2)
  have k2 := (HK2.out.below hb1 (by omega)).far (p := ⟨w.heap.size + 1 + 1 + 1, 1, none⟩) (by simp) (.slice (some ⟨g2, 0, none⟩) m.cs.length d2)
  have k3 := z3.set_ 1 (.slice (some ⟨g2, 0, none⟩) m.cs.length d2)
  have o2 := own_set hown1 (a := ⟨w.heap.size + 1 + 1 + 1, 1, none⟩) (fun e => by have := own_block_le hown1 _ e; simp at this; omega) (.slice (some ⟨g2, 0, none⟩) m.cs.length d2)
  have HS := (HB.out.trans (hb1.mono (by omega))).setCell (show w.heap.size ≤ (Addr.mk (w.heap.size + 1 + 1 + 1) 1 none).block by simp; omega) (.slice (some ⟨g2, 0, none⟩) m.cs.length d2)
  clear z3 z31 z3f hown1 hb1 ha1 hblk2 HK0 HK1 HK2 HK3 HB
  generalize w1.setCell ⟨w.heap.size + 1 + 1 + 1, 1, none⟩ (.slice (some ⟨g2, 0, none⟩) m.cs.length d2) = W6 at *
  simp only [List.setIfInBounds_toArray, List.set_cons_zero, List.set_cons_succ] at k3
  have hs6 := k3.lt
  obtain ⟨y, HYJ, hyc, hyf, hg2⟩ : ∃ y, Hid (m.cs[j]? = some y) ∧ W6.cell? ⟨g2, j, none⟩ = some (.int .i64 y) ∧ W6.frozen? ⟨g2, j, none⟩ = false ∧ w.heap.size + 1 + 1 + 1 + 1 ≤ g2 := by
    obtain ⟨_, h1, h2, y, h3, h4⟩ := own_seti o2 j hj 0
    exact ⟨y, h3, h4, h2, h1⟩
  have hyb := HOK.out.1.1.2.2.1 y (List.mem_of_getElem? HYJ.out)
  have hjx : (j : Int) < (m.cs.length : Int) := by omega
  have hyw : IntKind.i64.wrap (y + n) = y + n := by rw [IntKind.wrap_i64]; omega
  have K0 := Lib.hid k0
  have K1 := Lib.hid k1
  have K2 := Lib.hid k2
  have K3 := Lib.hid k3
  have O2 := Lib.hid o2
  have HSS := Lib.hid HS
  clear o2 HS
  have k00 := k0.cell 0
  have k01 := k0.cell 1
  have k02 := k0.cell 2
  have k03 := k0.cell 3
  have k10 := k1.cell 0
  have k11 := k1.cell 1
  have k12 := k1.cell 2
  have k20 := k2.cell 0
  have k21 := k2.cell 1
  have k22 := k2.cell 2
  have k23 := k2.cell 3
  have k30 := k3.cell 0
  have k31 := k3.cell 1
  have k32 := k3.cell 2
  have k33 := k3.cell 3
  simp at k00 k01 k02 k03 k10 k11 k12 k20 k21 k22 k23 k30 k31 k32 k33
  clear k0 k1 k2 k3
  have hk1s : w.heap.size + 1 < W6.heap.size := by omega
  have hk3s : w.heap.size + 1 + 1 + 1 < W6.heap.size := by omega
  have hg2s : g2 < W6.heap.size := (blk_of_own O2.out (by omega)).elim fun g h => by obtain ⟨c, l, h1, h2, h3, _⟩ := h; injection h1 with h1; injection h1 with h1; injection h1 with h1; rw [h1]; exact h3.lt
  refine ordT_below [10] [(0, false), (1, false), (2, false), (3, false), (4, false), (5, false), (6, false), (7, false), (8, false), (9, false), (10, true)] (by kernel_rfl) (by kernel_rfl) (by kernel_rfl) (fun _ _ _ _ _ h => h) ?_
  intro W0 hS0
  repeat (first
    | (refine ordT_skip rfl rfl (by assumption) ?_; simp only [Act.put, List.setIfInBounds_toArray, List.set_cons_zero, List.set_cons_succ])
    | (refine ordT_cskip rfl rfl (by assumption) ?_; simp only [Act.put, List.setIfInBounds_toArray, List.set_cons_zero, List.set_cons_succ])
    | (refine ordT_take (v := ?_) rfl rfl (by assumption) ?_ ?_
       rotate_left 1
       focus (intro W hW; obtain ⟨hcW, hfW⟩ := bcell hW; (go_simp <;> with_reducible rfl))
       simp only [Act.put, List.setIfInBounds_toArray, List.set_cons_zero, List.set_cons_succ])
    | (refine ordT_call rfl rfl (fun K hK => ?_)
       obtain ⟨hcS, hfS⟩ := bcell hS0
       go_simp
       first
         | (refine hK.out _ _ (fun h => by cases h) ?_)))
  refine ordT_nil ?_
  have hs0 := hS0.size
  have k0 := (K0.out.below hS0 (by omega)).far (p := ⟨g2, j, none⟩) (by show _ ≠ g2; omega) (.int .i64 (y + n))
  have k1 := (K1.out.below hS0 (by omega)).far (p := ⟨g2, j, none⟩) (by show _ ≠ g2; omega) (.int .i64 (y + n))
  have k2 := (K2.out.below hS0 (by omega)).far (p := ⟨g2, j, none⟩) (by show _ ≠ g2; omega) (.int .i64 (y + n))
  have k3 := (K3.out.below hS0 (by omega)).far (p := ⟨g2, j, none⟩) (by show _ ≠ g2; omega) (.int .i64 (y + n))
  have O7 := Lib.hid (own_seti (own_below O2.out hS0) j hj (y + n)).1
  have HS7 := Lib.hid ((HSS.out.trans (hS0.mono (by omega))).setCell (show w.heap.size ≤ (Addr.mk g2 j none).block by simp; omega) (.int .i64 (y + n)))
  have hsz7 : (W0.setCell ⟨g2, j, none⟩ (.int .i64 (y + n))).heap.size = W0.heap.size := by simp
  clear hyc hyf k00 k01 k02 k03 k10 k11 k12 k20 k21 k22 k23 k30 k31 k32 k33
  generalize W0.setCell ⟨g2, j, none⟩ (.int .i64 (y + n)) = W7 at *
  have L0 := Lib.hid k0
  have L1 := Lib.hid k1
  have L2 := Lib.hid k2
  have L3 := Lib.hid k3
  clear HSS K0 K1 K2 K3 O2 hS0
  have k00 := k0.cell 0
  have k01 := k0.cell 1
  have k02 := k0.cell 2
  have k03 := k0.cell 3
  have k10 := k1.cell 0
  have k11 := k1.cell 1
  have k12 := k1.cell 2
  have k20 := k2.cell 0
  have k21 := k2.cell 1
  have k22 := k2.cell 2
  have k23 := k2.cell 3
  have k30 := k3.cell 0
  have k31 := k3.cell 1
  have k32 := k3.cell 2
  have k33 := k3.cell 3
  simp at k00 k01 k02 k03 k10 k11 k12 k20 k21 k22 k23 k30 k31 k32 k33
  clear k0 k1 k2 k3
  have HY := Lib.hid (show LearnOK m prev j n from ⟨⟨g4, g5, by omega, by have := HCW.out; omega, g3⟩, HOK.out⟩)
  clear HC HL HOE
  by_cases hp : 0 ≤ prev
  · have HNX := Lib.hid (show nextM m prev j n = ⟨m.ws, m.cs.set j (y + n), addP m.ps ⟨prev, j, n⟩, m.back⟩ by
      unfold nextM
      rw [if_pos hp, show ((j : Int)).toNat = j from rfl, List.getD_eq_getElem?_getD, HYJ.out, countP_eq, ← addP_eq _ HOK.out.1.2.2.2]; rfl)
    have HADD := Lib.hid (add_any (.slice A1 m.ws.length c1) (.slice (some a2) m.cs.length c2) (.int .i64 m.back) A3 m.ps c3 ⟨prev, j, n⟩ W7 (HM.out.h3.below keeps_pr HS7.out) HM.out.l3 HM.out.n (by simp; omega))
    have HLP := Lib.hid (show (addP m.ps ⟨prev, j, n⟩).length ≤ 65536 by rw [addP_eq _ HOK.out.1.2.2.2]; have := (insP_len ⟨prev, j, n⟩ m.ps).2; have := HOK.out.1.2.1; omega)
    have HWN := Lib.hid (show Within 4294967296 ((addP m.ps ⟨prev, j, n⟩).map Pr.n) by rw [addP_eq _ HOK.out.1.2.2.2, ← countP_eq]; exact countP_within (m := 1073741824) m.ps ⟨prev, j, n⟩ (fun p hp => ⟨by have := (HOK.out.1.2.2.1 p hp).1; unfold PRange at this; omega, (HOK.out.1.2.2.1 p hp).2.1⟩) (by simp; omega))
    by_cases hval : MoOK ⟨m.ws, m.cs.set j (y + n), addP m.ps ⟨prev, j, n⟩, m.back⟩
    · have HVAL := Lib.hid hval
      have dv := decide_eq_true hval
      have DV := Lib.hid dv
      clear hval dv
      go_wp2_with (first | (go_at_call 30; go_loud (refine HADD.out.mono ?_; rintro e w3 ⟨v3, rfl, ho3, hb3⟩; obtain ⟨B3, d3, rfl, _, _, _⟩ := own_slr (R := RPr) ho3 (fun _ => rfl) (fun _ => rfl) rfl; have hs3 := hb3.size; have r3 := L3.out.below hb3 (by omega); have r30 := r3.cell 0; have r31 := r3.cell 1; have r32 := r3.cell 2; have r33 := r3.cell 3; have r3f := r3.frozen 2)) | (go_at_call 34; go_loud (have HO2V := Lib.hid (own_set (own_below O7.out hb3) (a := ⟨w.heap.size + 1 + 1 + 1, 2, none⟩) (fun e => by have := own_block_le O7.out _ e; simp at this; omega) (.slice B3 (addP m.ps ⟨prev, j, n⟩).length d3)); have HO3V := Lib.hid (own_set ho3 (a := ⟨w.heap.size + 1 + 1 + 1, 2, none⟩) (fun e => by have := own_block_le ho3 _ e; simp at this; omega) (.slice B3 (addP m.ps ⟨prev, j, n⟩).length d3)); have HSV := Lib.hid ((HS7.out.trans (hb3.mono (by omega))).setCell (show w.heap.size ≤ (Addr.mk (w.heap.size + 1 + 1 + 1) 2 none).block by simp; omega) (.slice B3 (addP m.ps ⟨prev, j, n⟩).length d3)); have K2V := Lib.hid ((L2.out.below hb3 (by omega)).far (p := ⟨w.heap.size + 1 + 1 + 1, 2, none⟩) (by simp) (.slice B3 (addP m.ps ⟨prev, j, n⟩).length d3)); have K3V := Lib.hid (r3.set_ 2 (.slice B3 (addP m.ps ⟨prev, j, n⟩).length d3)); have HMN := Lib.hid (mor_mix (cs' := m.cs.set j (y + n)) HM.out HSV.out HO2V.out (by simp) HO3V.out (by simpa using hl2) HLP.out HWN.out); have HVN := Lib.hid (co_refvalid_any ⟨m.ws, m.cs.set j (y + n), addP m.ps ⟨prev, j, n⟩, m.back⟩ A1 (some ⟨g2, 0, none⟩) B3 c1 d2 d3 _ HMN.out); rw [List.length_set, DV.out] at HVN; refine HVN.out.mono ?_; rintro e w2 ⟨rfl, hb2⟩; have hs2 := hb2.size; (try simp at hs2); have e3 := K3V.out.below hb2 (by first | omega | (simp; omega)); have e30 := e3.cell 0; have e31 := e3.cell 1; have e32 := e3.cell 2; have e33 := e3.cell 3; have zz2 := K2V.out.below hb2 (by first | omega | (simp; omega)); have t0 := zz2.cell 0; have t1 := zz2.cell 1; have t2 := zz2.cell 2; have t3 := zz2.cell 3; have u0 := zz2.frozen 0; have u1 := zz2.frozen 1; have u2 := zz2.frozen 2; have u3 := zz2.frozen 3)))
      have hz4 := zz2.co_set4 (.slice A1 m.ws.length c1) (.slice (some ⟨g2, 0, none⟩) m.cs.length d2) (.slice B3 (addP m.ps ⟨prev, j, n⟩).length d3) (.int .i64 m.back)
      obtain ⟨Wf, hWf⟩ : ∃ Wf, Wf = co_set4 w2 (w.heap.size + 1 + 1) (.slice A1 m.ws.length c1) (.slice (some ⟨g2, 0, none⟩) m.cs.length d2) (.slice B3 (addP m.ps ⟨prev, j, n⟩).length d3) (.int .i64 m.back) := ⟨_, rfl⟩
      rw [← hWf] at hz4
      have hWf' := hWf
      unfold co_set4 at hWf'
      rw [← hWf']
      have y0 := hz4.cell 0
      have y1 := hz4.cell 1
      have y2 := hz4.cell 2
      have y3 := hz4.cell 3
      refine bodyPost_ret (v := .tuple #[.agg #[.slice A1 m.ws.length c1, .slice (some ⟨g2, 0, none⟩) m.cs.length d2, .slice B3 (addP m.ps ⟨prev, j, n⟩).length d3, .int .i64 m.back], .int .i64 0]) (by simp [results, Try.results23, go_sem, y0, y1, y2, y3]; done) rfl ?_
      have HSF : Below w.heap.size w Wf := (HSV.out.trans (hb2.mono HSV.out.size)).trans (by rw [hWf]; exact set4_below _ _ _ _ _ _ (by omega))
      rw [show learnM m prev j n = some ⟨m.ws, m.cs.set j (y + n), addP m.ps ⟨prev, j, n⟩, m.back⟩ by unfold learnM; rw [HNX.out, if_pos ⟨HY.out, HVAL.out⟩]]
      have HF2 := own_set4 (g := w.heap.size + 1 + 1) (own_below HO2V.out hb2) (fun e => by have := own_block_le HO2V.out _ e; omega) (.slice A1 m.ws.length c1) (.slice (some ⟨g2, 0, none⟩) m.cs.length d2) (.slice B3 (addP m.ps ⟨prev, j, n⟩).length d3) (.int .i64 m.back)
      have HF3 := own_set4 (g := w.heap.size + 1 + 1) (own_below HO3V.out hb2) (fun e => by have := own_block_le HO3V.out _ e; omega) (.slice A1 m.ws.length c1) (.slice (some ⟨g2, 0, none⟩) m.cs.length d2) (.slice B3 (addP m.ps ⟨prev, j, n⟩).length d3) (.int .i64 m.back)
      exact ⟨A1, some ⟨g2, 0, none⟩, B3, c1, d2, d3, by simp, mor_mix (cs' := m.cs.set j (y + n)) HM.out HSF (by rw [hWf]; exact HF2) (by simp) (by rw [hWf]; exact HF3) (by simpa using hl2) HLP.out HWN.out, HSF⟩
    · have HVAL := Lib.hid hval
      have dv := decide_eq_false hval
      have DV := Lib.hid dv
      clear hval dv
      go_wp2_with (first | (go_at_call 30; go_loud (refine HADD.out.mono ?_; rintro e w3 ⟨v3, rfl, ho3, hb3⟩; obtain ⟨B3, d3, rfl, _, _, _⟩ := own_slr (R := RPr) ho3 (fun _ => rfl) (fun _ => rfl) rfl; have hs3 := hb3.size; have r3 := L3.out.below hb3 (by omega); have r30 := r3.cell 0; have r31 := r3.cell 1; have r32 := r3.cell 2; have r33 := r3.cell 3; have r3f := r3.frozen 2)) | (go_at_call 34; go_loud (have HO2V := Lib.hid (own_set (own_below O7.out hb3) (a := ⟨w.heap.size + 1 + 1 + 1, 2, none⟩) (fun e => by have := own_block_le O7.out _ e; simp at this; omega) (.slice B3 (addP m.ps ⟨prev, j, n⟩).length d3)); have HO3V := Lib.hid (own_set ho3 (a := ⟨w.heap.size + 1 + 1 + 1, 2, none⟩) (fun e => by have := own_block_le ho3 _ e; simp at this; omega) (.slice B3 (addP m.ps ⟨prev, j, n⟩).length d3)); have HSV := Lib.hid ((HS7.out.trans (hb3.mono (by omega))).setCell (show w.heap.size ≤ (Addr.mk (w.heap.size + 1 + 1 + 1) 2 none).block by simp; omega) (.slice B3 (addP m.ps ⟨prev, j, n⟩).length d3)); have K2V := Lib.hid ((L2.out.below hb3 (by omega)).far (p := ⟨w.heap.size + 1 + 1 + 1, 2, none⟩) (by simp) (.slice B3 (addP m.ps ⟨prev, j, n⟩).length d3)); have K3V := Lib.hid (r3.set_ 2 (.slice B3 (addP m.ps ⟨prev, j, n⟩).length d3)); have HMN := Lib.hid (mor_mix (cs' := m.cs.set j (y + n)) HM.out HSV.out HO2V.out (by simp) HO3V.out (by simpa using hl2) HLP.out HWN.out); have HVN := Lib.hid (co_refvalid_any ⟨m.ws, m.cs.set j (y + n), addP m.ps ⟨prev, j, n⟩, m.back⟩ A1 (some ⟨g2, 0, none⟩) B3 c1 d2 d3 _ HMN.out); rw [List.length_set, DV.out] at HVN; refine HVN.out.mono ?_; rintro e w2 ⟨rfl, hb2⟩; have hs2 := hb2.size; (try simp at hs2); have e3 := K3V.out.below hb2 (by first | omega | (simp; omega)); have e30 := e3.cell 0; have e31 := e3.cell 1; have e32 := e3.cell 2; have e33 := e3.cell 3; have zz2 := K2V.out.below hb2 (by first | omega | (simp; omega)); have t0 := zz2.cell 0; have t1 := zz2.cell 1; have t2 := zz2.cell 2; have t3 := zz2.cell 3; have u0 := zz2.frozen 0; have u1 := zz2.frozen 1; have u2 := zz2.frozen 2; have u3 := zz2.frozen 3)))
      have hz4 := zz2.co_set4 (.slice none 0 0) (.slice none 0 0) (.slice none 0 0) (.int .i64 0)
      obtain ⟨Wf, hWf⟩ : ∃ Wf, Wf = co_set4 w2 (w.heap.size + 1 + 1) (.slice none 0 0) (.slice none 0 0) (.slice none 0 0) (.int .i64 0) := ⟨_, rfl⟩
      rw [← hWf] at hz4
      have hWf' := hWf
      unfold co_set4 at hWf'
      rw [← hWf']
      have y0 := hz4.cell 0
      have y1 := hz4.cell 1
      have y2 := hz4.cell 2
      have y3 := hz4.cell 3
      refine bodyPost_ret (v := .tuple #[.agg #[.slice none 0 0, .slice none 0 0, .slice none 0 0, .int .i64 0], .int .i64 110]) (by simp [results, Try.results23, go_sem, y0, y1, y2, y3]; done) rfl ?_
      rw [show learnM m prev j n = none by unfold learnM; rw [HNX.out, if_neg (fun h => HVAL.out h.2)]]
      exact ⟨rfl, (HSV.out.trans (hb2.mono HSV.out.size)).trans (by rw [hWf]; exact set4_below _ _ _ _ _ _ (by omega))⟩
  · have HNX := Lib.hid (show nextM m prev j n = ⟨m.ws, m.cs.set j (y + n), m.ps, m.back⟩ by
      unfold nextM
      rw [if_neg hp, show ((j : Int)).toNat = j from rfl, List.getD_eq_getElem?_getD, HYJ.out]; rfl)
    have HMN := Lib.hid (mor_mix0 (cs' := m.cs.set j (y + n)) HM.out HS7.out O7.out (by simp) (by simpa using hl2))
    have K2V := L2
    have K3V := L3
    have HSV := HS7
    by_cases hval : MoOK ⟨m.ws, m.cs.set j (y + n), m.ps, m.back⟩
    · have HVAL := Lib.hid hval
      have dv := decide_eq_true hval
      have DV := Lib.hid dv
      clear hval dv
      go_wp2_with (first | (go_at_call 34; go_loud (have HVN := Lib.hid (co_refvalid_any ⟨m.ws, m.cs.set j (y + n), m.ps, m.back⟩ A1 (some ⟨g2, 0, none⟩) A3 c1 d2 c3 _ HMN.out); rw [List.length_set, DV.out] at HVN; refine HVN.out.mono ?_; rintro e w2 ⟨rfl, hb2⟩; have hs2 := hb2.size; (try simp at hs2); have e3 := K3V.out.below hb2 (by first | omega | (simp; omega)); have e30 := e3.cell 0; have e31 := e3.cell 1; have e32 := e3.cell 2; have e33 := e3.cell 3; have zz2 := K2V.out.below hb2 (by first | omega | (simp; omega)); have t0 := zz2.cell 0; have t1 := zz2.cell 1; have t2 := zz2.cell 2; have t3 := zz2.cell 3; have u0 := zz2.frozen 0; have u1 := zz2.frozen 1; have u2 := zz2.frozen 2; have u3 := zz2.frozen 3)))
      have hz4 := zz2.co_set4 (.slice A1 m.ws.length c1) (.slice (some ⟨g2, 0, none⟩) m.cs.length d2) (.slice A3 m.ps.length c3) (.int .i64 m.back)
      obtain ⟨Wf, hWf⟩ : ∃ Wf, Wf = co_set4 w2 (w.heap.size + 1 + 1) (.slice A1 m.ws.length c1) (.slice (some ⟨g2, 0, none⟩) m.cs.length d2) (.slice A3 m.ps.length c3) (.int .i64 m.back) := ⟨_, rfl⟩
      rw [← hWf] at hz4
      have hWf' := hWf
      unfold co_set4 at hWf'
      rw [← hWf']
      have y0 := hz4.cell 0
      have y1 := hz4.cell 1
      have y2 := hz4.cell 2
      have y3 := hz4.cell 3
      refine bodyPost_ret (v := .tuple #[.agg #[.slice A1 m.ws.length c1, .slice (some ⟨g2, 0, none⟩) m.cs.length d2, .slice A3 m.ps.length c3, .int .i64 m.back], .int .i64 0]) (by simp [results, Try.results23, go_sem, y0, y1, y2, y3]; done) rfl ?_
      have HSF : Below w.heap.size w Wf := (HSV.out.trans (hb2.mono HSV.out.size)).trans (by rw [hWf]; exact set4_below _ _ _ _ _ _ (by omega))
      rw [show learnM m prev j n = some ⟨m.ws, m.cs.set j (y + n), m.ps, m.back⟩ by unfold learnM; rw [HNX.out, if_pos ⟨HY.out, HVAL.out⟩]]
      have HF2 := own_set4 (g := w.heap.size + 1 + 1) (own_below O7.out hb2) (fun e => by have := own_block_le O7.out _ e; omega) (.slice A1 m.ws.length c1) (.slice (some ⟨g2, 0, none⟩) m.cs.length d2) (.slice A3 m.ps.length c3) (.int .i64 m.back)
      exact ⟨A1, some ⟨g2, 0, none⟩, A3, c1, d2, c3, by simp, mor_mix0 (cs' := m.cs.set j (y + n)) HM.out HSF (by rw [hWf]; exact HF2) (by simp) (by simpa using hl2), HSF⟩
    · have HVAL := Lib.hid hval
      have dv := decide_eq_false hval
      have DV := Lib.hid dv
      clear hval dv
      go_wp2_with (first | (go_at_call 34; go_loud (have HVN := Lib.hid (co_refvalid_any ⟨m.ws, m.cs.set j (y + n), m.ps, m.back⟩ A1 (some ⟨g2, 0, none⟩) A3 c1 d2 c3 _ HMN.out); rw [List.length_set, DV.out] at HVN; refine HVN.out.mono ?_; rintro e w2 ⟨rfl, hb2⟩; have hs2 := hb2.size; (try simp at hs2); have e3 := K3V.out.below hb2 (by first | omega | (simp; omega)); have e30 := e3.cell 0; have e31 := e3.cell 1; have e32 := e3.cell 2; have e33 := e3.cell 3; have zz2 := K2V.out.below hb2 (by first | omega | (simp; omega)); have t0 := zz2.cell 0; have t1 := zz2.cell 1; have t2 := zz2.cell 2; have t3 := zz2.cell 3; have u0 := zz2.frozen 0; have u1 := zz2.frozen 1; have u2 := zz2.frozen 2; have u3 := zz2.frozen 3)))
      have hz4 := zz2.co_set4 (.slice none 0 0) (.slice none 0 0) (.slice none 0 0) (.int .i64 0)
      obtain ⟨Wf, hWf⟩ : ∃ Wf, Wf = co_set4 w2 (w.heap.size + 1 + 1) (.slice none 0 0) (.slice none 0 0) (.slice none 0 0) (.int .i64 0) := ⟨_, rfl⟩
      rw [← hWf] at hz4
      have hWf' := hWf
      unfold co_set4 at hWf'
      rw [← hWf']
      have y0 := hz4.cell 0
      have y1 := hz4.cell 1
      have y2 := hz4.cell 2
      have y3 := hz4.cell 3
      refine bodyPost_ret (v := .tuple #[.agg #[.slice none 0 0, .slice none 0 0, .slice none 0 0, .int .i64 0], .int .i64 110]) (by simp [results, Try.results23, go_sem, y0, y1, y2, y3]; done) rfl ?_
      rw [show learnM m prev j n = none by unfold learnM; rw [HNX.out, if_neg (fun h => HVAL.out h.2)]]
      exact ⟨rfl, (HSV.out.trans (hb2.mono HSV.out.size)).trans (by rw [hWf]; exact set4_below _ _ _ _ _ _ (by omega))⟩
set_option maxRecDepth 100000 in
set_option maxHeartbeats 4000000 in
theorem reflearn_any (m : Mo) (A1 A2 A3 : Option Addr) (c1 c2 c3 : Nat) (prev wd n : Int) (w : World) (h : MoR w m A1 A2 A3) (hok : MoOK m) :
    Calls Try.prog 23 #[.agg #[.slice A1 m.ws.length c1, .slice A2 m.cs.length c2, .slice A3 m.ps.length c3, .int .i64 m.back], .agg #[.int .i64 prev, .int .i64 wd, .int .i64 n]] w (GivesR (learnM m prev wd n) w) := by
  have hwl : 1 ≤ m.ws.length ∧ m.ws.length ≤ 200 := hok.1.1.1.1
  by_cases hg : 0 ≤ wd ∧ wd < m.ws.length ∧ prev < m.ws.length ∧ 1 ≤ n ∧ n ≤ 1073741824
  · obtain ⟨g1, g2, g3, g4, g5⟩ := hg
    obtain ⟨j, rfl⟩ := Int.eq_ofNat_of_zero_le g1
    have hcw : m.cs.length = m.ws.length := hok.1.1.2.1
    obtain ⟨_, _, _, hA2, _⟩ := h.h2.int (show j < m.cs.length by omega)
    subst hA2
    exact reflearn_go m A1 A3 _ c1 c2 c3 prev n j w h hok (by omega) g3 g4 g5
  · have hB : Below w.heap.size w (((w.alloc (.cells #[.slice A1 m.ws.length c1, .slice A2 m.cs.length c2, .slice A3 m.ps.length c3, .int .i64 m.back] 34)).alloc (.cells #[.int .i64 prev, .int .i64 wd, .int .i64 n] 74)).alloc (.cells #[.slice none 0 0, .slice none 0 0, .slice none 0 0, .int .i64 0] 34)) := (((Below.refl _ _).alloc (Nat.le_refl _) _).alloc (by simp) _).alloc (by simp; omega) _
    clear h hok
    have HE := Lib.hid (show learnM m prev wd n = none by unfold learnM; rw [if_neg (fun h => hg (by have := h.1.1; omega))])
    have hE : ∀ (x : World), Below w.heap.size w x → GivesR (learnM m prev wd n) w (.returned (.tuple #[.agg #[.slice none 0 0, .slice none 0 0, .slice none 0 0, .int .i64 0], .int .i64 110])) x := fun x hx => by rw [HE.out]; exact ⟨rfl, hx⟩
    by_cases h1 : 0 ≤ wd ∧ wd < m.ws.length
    · have i1 : inB wd 0 (↑m.ws.length - 1) = true := by unfold inB; simp; omega
      by_cases h2 : prev < m.ws.length
      · have i2 : inB n 1 1073741824 = false := by unfold inB; simp; omega
        clear hg
        go_enter Try.func23, Try.ntmps23
        go_wp2_with (first | (go_at_call 36; refine (in_any _ _ _ _).mono ?_; rintro e w' ⟨rfl, rfl⟩; simp only [i1, i2]))
        refine bodyPost_ret (v := .tuple #[.agg #[.slice none 0 0, .slice none 0 0, .slice none 0 0, .int .i64 0], .int .i64 110]) (by simp [results, Try.results23, go_sem]; done) rfl ?_
        exact hE _ hB
      · clear hg
        go_enter Try.func23, Try.ntmps23
        go_wp2_with (first | (go_at_call 36; refine (in_any _ _ _ _).mono ?_; rintro e w' ⟨rfl, rfl⟩; simp only [i1]))
        refine bodyPost_ret (v := .tuple #[.agg #[.slice none 0 0, .slice none 0 0, .slice none 0 0, .int .i64 0], .int .i64 110]) (by simp [results, Try.results23, go_sem]; done) rfl ?_
        exact hE _ hB
    · have i1 : inB wd 0 (↑m.ws.length - 1) = false := by unfold inB; simp; omega
      clear hg h1
      go_enter Try.func23, Try.ntmps23
      go_wp2_with (first | (go_at_call 36; refine (in_any _ _ _ _).mono ?_; rintro e w' ⟨rfl, rfl⟩; simp only [i1]))
      refine bodyPost_ret (v := .tuple #[.agg #[.slice none 0 0, .slice none 0 0, .slice none 0 0, .int .i64 0], .int .i64 110]) (by simp [results, Try.results23, go_sem]; done) rfl ?_
      exact hE _ hB

end Go.Proofs.Ytcimnkijpifkjaa

/-
  The walks of layer 11: when two models are the same.
-/
namespace Go.Proofs.Ytcimnkijpifkjaa
open Go Go.RowKit

instance : DecidableEq Pr := fun p q =>
  if h : p.a = q.a ∧ p.b = q.b ∧ p.n = q.n then .isTrue (by cases p; cases q; simp at h; obtain ⟨rfl, rfl, rfl⟩ := h; rfl) else .isFalse (fun e => h (by subst e; exact ⟨rfl, rfl, rfl⟩))
def SameM (m o : Mo) : Prop := m.ws = o.ws ∧ m.cs = o.cs ∧ m.ps = o.ps ∧ m.back = o.back
instance (m o : Mo) : Decidable (SameM m o) := by unfold SameM; infer_instance
theorem sameM_iff (m o : Mo) : SameM m o ↔ m = o := by
  cases m; cases o; unfold SameM; simp
end Go.Proofs.Ytcimnkijpifkjaa

/-
  The walks of layer 11: the fixed examples.
-/
namespace Go.Proofs.Ytcimnkijpifkjaa
open Go Go.RowKit

theorem slr_of_blk {α : Type} {s : Nat} {enc : α → List Value} {R : World → α → List Value → Prop} {w : World} {g : Nat} {t : TypeId} {xs : List α} (h : Blk w g t (xs.flatMap enc).toArray) (hl : ∀ x, (enc x).length = s) (hR : ∀ x, R w x (enc x)) (hn : xs.length ≤ 65536) :
    SlR s R w (some ⟨g, 0, none⟩) xs := by
  have h1 := own_of_blk (base := 0) (n := xs.length) (cap := xs.length) h (Nat.zero_le _) (Nat.le_refl _) (by unfold maxLen; omega) (flatMap_len hl xs)
  rw [List.take_of_length_le (by rw [flatMap_len hl xs]; exact Nat.le_refl _)] at h1
  obtain ⟨A, cap, hv, _, _, hs⟩ := own_slr (R := R) h1 hl hR rfl
  injection hv with hv
  subst hv
  exact hs
def sNums : List Int := [1, 2, 3, 4, 5, 7, 8, 1000, 0]
def sLogs : List Int := [0, 8, 12, 16, 18, 22, 24, 79, 0]
theorem logs_ok : ∀ k < 9, lg (sNums.getD k 0) = sLogs.getD k 0 := by decide +kernel
theorem logs_at {k : Nat} {x y : Int} (hx : sNums[k]? = some x) (hy : sLogs[k]? = some y) : lg x = y ∧ x ≤ 1000 := by
  obtain ⟨hk, _⟩ := List.getElem?_eq_some_iff.1 hx
  have h := logs_ok k hk
  rw [List.getD_eq_getElem?_getD, List.getD_eq_getElem?_getD, hx, hy] at h
  refine ⟨h, ?_⟩
  have h2 : ∀ z ∈ sNums, z ≤ 1000 := by decide
  exact h2 x (List.mem_of_getElem? hx)
def sanM : Mo := ⟨ab, [0, 3], [], 10⟩
def sanP : Mo := ⟨ab, [0, 3], [⟨0, 0, 3⟩, ⟨0, 1, 1⟩], 10⟩
def sanA : Mo := ⟨ab, [0, 5], [⟨0, 1, 2⟩], 10⟩
def sanZ : Mo := ⟨[], [], [], 0⟩

/-- What the fixed examples keep in memory. -/
structure co_San (B : Nat) (W : World) : Prop where
  b4 : Blk W (B + 1 + 1) 34 #[.slice (some ⟨B, 0, none⟩) 2 2, .slice (some ⟨B + 1, 0, none⟩) 2 2, .slice none 0 0, .int .i64 10]
  b5 : Blk W (B + 1 + 1 + 1) 34 #[.slice (some ⟨B, 0, none⟩) 2 2, .slice (some ⟨B + 1, 0, none⟩) 2 2, .slice (some ⟨B + 1 + 1 + 1 + 1, 0, none⟩) 2 2, .int .i64 10]
  r4 : MoR W sanM (some ⟨B, 0, none⟩) (some ⟨B + 1, 0, none⟩) none
  r5 : MoR W sanP (some ⟨B, 0, none⟩) (some ⟨B + 1, 0, none⟩) (some ⟨B + 1 + 1 + 1 + 1, 0, none⟩)
theorem co_San.below {B : Nat} {W W' : World} (h : co_San B W) (hb : Below W.heap.size W W') : co_San B W' := ⟨h.b4.below hb h.b4.lt, h.b5.below hb h.b5.lt, h.r4.below hb, h.r5.below hb⟩
theorem co_San.alloc {B : Nat} {W : World} (h : co_San B W) (o : Obj) : co_San B (W.alloc o) := h.below ((Below.refl _ _).alloc (Nat.le_refl _) o)
theorem ok_san : MoOK sanM ∧ MoOK sanP ∧ MoOK sanA := by decide +kernel
section
variable {B : Nat} {W : World}
theorem sanW0 (I : co_San B W) : Calls Try.prog 69 #[.agg #[.slice (some ⟨B, 0, none⟩) 2 2, .slice (some ⟨B + 1, 0, none⟩) 2 2, .slice none 0 0, .int .i64 10], .int .i64 0] W fun e w' => e = .returned (.int .i64 18) ∧ Below W.heap.size W w' := by
  have h := wcost_any sanM _ _ _ 2 2 0 0 W I.r4 ok_san.1.1.1.2 (by decide)
  rw [show wcost sanM 0 = 18 by decide +kernel] at h
  exact h
theorem sanW1 (I : co_San B W) : Calls Try.prog 69 #[.agg #[.slice (some ⟨B, 0, none⟩) 2 2, .slice (some ⟨B + 1, 0, none⟩) 2 2, .slice none 0 0, .int .i64 10], .int .i64 1] W fun e w' => e = .returned (.int .i64 2) ∧ Below W.heap.size W w' := by
  have h := wcost_any sanM _ _ _ 2 2 0 1 W I.r4 ok_san.1.1.1.2 (by decide)
  rw [show wcost sanM 1 = 2 by decide +kernel] at h
  exact h
theorem sanP01 (I : co_San B W) : Calls Try.prog 41 #[.agg #[.slice (some ⟨B, 0, none⟩) 2 2, .slice (some ⟨B + 1, 0, none⟩) 2 2, .slice (some ⟨B + 1 + 1 + 1 + 1, 0, none⟩) 2 2, .int .i64 10], .int .i64 0, .int .i64 1] W fun e w' => e = .returned (.int .i64 16) ∧ Below W.heap.size W w' := by
  have h := pair_any sanP _ _ _ 2 2 2 0 1 W I.r5 ok_san.2.1 (by decide) (by decide) (by decide) (by decide)
  rw [show pcost sanP 0 1 = 16 by decide +kernel] at h
  exact h
theorem sanP00 (I : co_San B W) : Calls Try.prog 41 #[.agg #[.slice (some ⟨B, 0, none⟩) 2 2, .slice (some ⟨B + 1, 0, none⟩) 2 2, .slice (some ⟨B + 1 + 1 + 1 + 1, 0, none⟩) 2 2, .int .i64 10], .int .i64 0, .int .i64 0] W fun e w' => e = .returned (.int .i64 4) ∧ Below W.heap.size W w' := by
  have h := pair_any sanP _ _ _ 2 2 2 0 0 W I.r5 ok_san.2.1 (by decide) (by decide) (by decide) (by decide)
  rw [show pcost sanP 0 0 = 4 by decide +kernel] at h
  exact h
theorem sanP10 (I : co_San B W) : Calls Try.prog 41 #[.agg #[.slice (some ⟨B, 0, none⟩) 2 2, .slice (some ⟨B + 1, 0, none⟩) 2 2, .slice (some ⟨B + 1 + 1 + 1 + 1, 0, none⟩) 2 2, .int .i64 10], .int .i64 1, .int .i64 0] W fun e w' => e = .returned (.int .i64 28) ∧ Below W.heap.size W w' := by
  have h := pair_any sanP _ _ _ 2 2 2 1 0 W I.r5 ok_san.2.1 (by decide) (by decide) (by decide) (by decide)
  rw [show pcost sanP 1 0 = 28 by decide +kernel] at h
  exact h
theorem sanPm (I : co_San B W) : Calls Try.prog 41 #[.agg #[.slice (some ⟨B, 0, none⟩) 2 2, .slice (some ⟨B + 1, 0, none⟩) 2 2, .slice (some ⟨B + 1 + 1 + 1 + 1, 0, none⟩) 2 2, .int .i64 10], .int .i64 (-1), .int .i64 0] W fun e w' => e = .returned (.int .i64 18) ∧ Below W.heap.size W w' := by
  have h := pair_any sanP _ _ _ 2 2 2 (-1) 0 W I.r5 ok_san.2.1 (by decide) (by decide) (by decide) (by decide)
  rw [show pcost sanP (-1) 0 = 18 by decide +kernel] at h
  exact h
theorem sanV5 (I : co_San B W) : Calls Try.prog 39 #[.agg #[.slice (some ⟨B, 0, none⟩) 2 2, .slice (some ⟨B + 1, 0, none⟩) 2 2, .slice (some ⟨B + 1 + 1 + 1 + 1, 0, none⟩) 2 2, .int .i64 10]] W fun e w' => e = .returned (.bool true) ∧ Below W.heap.size W w' := by
  have h := co_valid_any sanP _ _ _ 2 2 2 W I.r5
  rw [show decide (MoOK sanP) = true by decide +kernel] at h
  exact h
theorem sanVZ (W : World) : Calls Try.prog 39 #[.agg #[.slice none 0 0, .slice none 0 0, .slice none 0 0, .int .i64 0]] W fun e w' => e = .returned (.bool false) ∧ Below W.heap.size W w' := by
  have h := co_valid_any sanZ none none none 0 0 0 W ⟨SlR.nil, SlR.nil, SlR.nil, by decide, by decide, by decide, by simp [sanZ], by simp [sanZ, Within]⟩
  rw [show decide (MoOK sanZ) = false by decide +kernel] at h
  exact h
end

theorem san_start (w : World) : co_San w.heap.size (((((w.alloc (.cells #[.string (ByteArray.mk #[97]), .string (ByteArray.mk #[98])] 9)).alloc (.cells #[.int .i64 0, .int .i64 3] 3)).alloc (.cells #[.slice (some ⟨w.heap.size, 0, none⟩) 2 2, .slice (some ⟨w.heap.size + 1, 0, none⟩) 2 2, .slice none 0 0, .int .i64 10] 34)).alloc (.cells #[.slice (some ⟨w.heap.size, 0, none⟩) 2 2, .slice (some ⟨w.heap.size + 1, 0, none⟩) 2 2, .slice (some ⟨w.heap.size + 1 + 1 + 1 + 1, 0, none⟩) 2 2, .int .i64 10] 34)).alloc (.cells #[.int .i64 0, .int .i64 0, .int .i64 3, .int .i64 0, .int .i64 1, .int .i64 1] 87)) := by
  have k1 := ((((Blk.new w 9 #[.string (ByteArray.mk #[97]), .string (ByteArray.mk #[98])]).alloc (.cells #[.int .i64 0, .int .i64 3] 3)).alloc (.cells #[.slice (some ⟨w.heap.size, 0, none⟩) 2 2, .slice (some ⟨w.heap.size + 1, 0, none⟩) 2 2, .slice none 0 0, .int .i64 10] 34)).alloc (.cells #[.slice (some ⟨w.heap.size, 0, none⟩) 2 2, .slice (some ⟨w.heap.size + 1, 0, none⟩) 2 2, .slice (some ⟨w.heap.size + 1 + 1 + 1 + 1, 0, none⟩) 2 2, .int .i64 10] 34)).alloc (.cells #[.int .i64 0, .int .i64 0, .int .i64 3, .int .i64 0, .int .i64 1, .int .i64 1] 87)
  have k2 := (((Blk.new_ (w := (w.alloc (.cells #[.string (ByteArray.mk #[97]), .string (ByteArray.mk #[98])] 9))) (t := 3) (cs := #[.int .i64 0, .int .i64 3]) (g := w.heap.size + 1) (by simp)).alloc (.cells #[.slice (some ⟨w.heap.size, 0, none⟩) 2 2, .slice (some ⟨w.heap.size + 1, 0, none⟩) 2 2, .slice none 0 0, .int .i64 10] 34)).alloc (.cells #[.slice (some ⟨w.heap.size, 0, none⟩) 2 2, .slice (some ⟨w.heap.size + 1, 0, none⟩) 2 2, .slice (some ⟨w.heap.size + 1 + 1 + 1 + 1, 0, none⟩) 2 2, .int .i64 10] 34)).alloc (.cells #[.int .i64 0, .int .i64 0, .int .i64 3, .int .i64 0, .int .i64 1, .int .i64 1] 87)
  have k3 := (((Blk.new_ (w := ((w.alloc (.cells #[.string (ByteArray.mk #[97]), .string (ByteArray.mk #[98])] 9)).alloc (.cells #[.int .i64 0, .int .i64 3] 3))) (t := 34) (cs := #[.slice (some ⟨w.heap.size, 0, none⟩) 2 2, .slice (some ⟨w.heap.size + 1, 0, none⟩) 2 2, .slice none 0 0, .int .i64 10]) (g := w.heap.size + 1 + 1) (by simp))).alloc (.cells #[.slice (some ⟨w.heap.size, 0, none⟩) 2 2, .slice (some ⟨w.heap.size + 1, 0, none⟩) 2 2, .slice (some ⟨w.heap.size + 1 + 1 + 1 + 1, 0, none⟩) 2 2, .int .i64 10] 34)).alloc (.cells #[.int .i64 0, .int .i64 0, .int .i64 3, .int .i64 0, .int .i64 1, .int .i64 1] 87)
  have k4 := (Blk.new_ (w := (((w.alloc (.cells #[.string (ByteArray.mk #[97]), .string (ByteArray.mk #[98])] 9)).alloc (.cells #[.int .i64 0, .int .i64 3] 3)).alloc (.cells #[.slice (some ⟨w.heap.size, 0, none⟩) 2 2, .slice (some ⟨w.heap.size + 1, 0, none⟩) 2 2, .slice none 0 0, .int .i64 10] 34))) (t := 34) (cs := #[.slice (some ⟨w.heap.size, 0, none⟩) 2 2, .slice (some ⟨w.heap.size + 1, 0, none⟩) 2 2, .slice (some ⟨w.heap.size + 1 + 1 + 1 + 1, 0, none⟩) 2 2, .int .i64 10]) (g := w.heap.size + 1 + 1 + 1) (by simp)).alloc (.cells #[.int .i64 0, .int .i64 0, .int .i64 3, .int .i64 0, .int .i64 1, .int .i64 1] 87)
  have k5 := Blk.new_ (w := ((((w.alloc (.cells #[.string (ByteArray.mk #[97]), .string (ByteArray.mk #[98])] 9)).alloc (.cells #[.int .i64 0, .int .i64 3] 3)).alloc (.cells #[.slice (some ⟨w.heap.size, 0, none⟩) 2 2, .slice (some ⟨w.heap.size + 1, 0, none⟩) 2 2, .slice none 0 0, .int .i64 10] 34)).alloc (.cells #[.slice (some ⟨w.heap.size, 0, none⟩) 2 2, .slice (some ⟨w.heap.size + 1, 0, none⟩) 2 2, .slice (some ⟨w.heap.size + 1 + 1 + 1 + 1, 0, none⟩) 2 2, .int .i64 10] 34))) (t := 87) (cs := #[.int .i64 0, .int .i64 0, .int .i64 3, .int .i64 0, .int .i64 1, .int .i64 1]) (g := w.heap.size + 1 + 1 + 1 + 1) (by simp)
  have s1 := slr_of_blk (s := 1) (R := RStr) (enc := fun x => [Value.string x]) (xs := ab) k1 (fun _ => rfl) (fun _ => rfl) (by decide)
  have s2 := slr_of_blk (s := 1) (R := RInt) (enc := fun x => [Value.int .i64 x]) (xs := [0, 3]) k2 (fun _ => rfl) (fun _ => rfl) (by decide)
  have s3 := slr_of_blk (s := 3) (R := RPr) (enc := encP) (xs := [⟨0, 0, 3⟩, ⟨0, 1, 1⟩]) k5 (fun _ => rfl) (fun _ => rfl) (by decide)
  exact ⟨k3, k4, ⟨s1, s2, SlR.nil, by decide, by decide, by decide, by decide, by simp [sanM, Within]⟩, ⟨s1, s2, s3, by decide, by decide, by decide, by decide, by simp [sanP, Within]⟩⟩

end Go.Proofs.Ytcimnkijpifkjaa
