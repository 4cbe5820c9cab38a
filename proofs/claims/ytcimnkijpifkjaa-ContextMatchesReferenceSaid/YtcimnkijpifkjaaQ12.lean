/-
  The walks of layer 11: which models are valid (the reference): the pairs; the whole.
-/
import Derived.Test.YtcimnkijpifkjaaQ10
import Derived.Test.YtcimnkijpifkjaaQ11
import Derived.Test.YtcimnkijpifkjaaQ02
namespace Go.Proofs.Ytcimnkijpifkjaa
open Go Go.RowKit

structure MoR (w : World) (m : Mo) (A1 A2 A3 : Option Addr) : Prop where
  h1 : SlR 1 RStr w A1 m.ws
  h2 : SlR 1 RInt w A2 m.cs
  h3 : SlR 3 RPr w A3 m.ps
  l1 : m.ws.length ≤ 65536
  l2 : m.cs.length ≤ 65536
  l3 : m.ps.length ≤ 65536
  s : ∀ s ∈ m.ws, s.size ≤ maxLen
  n : Within 4294967296 (m.ps.map Pr.n)
theorem MoR.below {w w' : World} {m : Mo} {A1 A2 A3 : Option Addr} (h : MoR w m A1 A2 A3) (hb : Below w.heap.size w w') : MoR w' m A1 A2 A3 :=
  ⟨h.h1.below keeps_str hb, h.h2.below keeps_int hb, h.h3.below keeps_pr hb, h.l1, h.l2, h.l3, h.s, h.n⟩
def MoOK (m : Mo) : Prop := (WCsOK m.ws m.cs ∧ PsOK m.ps m.ws.length) ∧ 0 ≤ m.back ∧ m.back ≤ 1000
instance (m : Mo) : Decidable (MoOK m) := by unfold MoOK; infer_instance

def boxM (m : Mo) (A1 A2 A3 : Option Addr) (c1 c2 c3 : Nat) : Array Value := #[.slice A1 m.ws.length c1, .slice A2 m.cs.length c2, .slice A3 m.ps.length c3, .int .i64 m.back]
/-- The reference's round has seen the pairs before k. -/
structure PsR (ps : List Pr) (n k : Nat) : Prop where
  rng : ∀ p ∈ ps.take k, PRange n p ∧ p.n ≤ 1073741824 ∧ sumAt ps p.a ≤ 1073741824
  inc : IncPAt ps k

theorem PsR.zero (ps : List Pr) (n : Nat) : PsR ps n 0 := ⟨by simp, fun _ _ _ h => absurd h (by omega)⟩
theorem PsR.succ {ps : List Pr} {n k : Nat} {p : Pr} (h : PsR ps n k) (hp : ps[k]? = some p) (hr : PRange n p ∧ p.n ≤ 1073741824) (hs : sumAt ps p.a ≤ 1073741824)
    (hl : ∀ j q, k = j + 1 → ps[j]? = some q → lessP q p = true) : PsR ps n (k + 1) := by
  refine ⟨?_, fun i a b hi ha hb => ?_⟩
  · rw [take_succ_of hp]
    intro s hs'
    rcases List.mem_append.1 hs' with hs' | hs'
    · exact h.rng s hs'
    · rw [List.mem_singleton.1 hs']; exact ⟨hr.1, hr.2, hs⟩
  · by_cases e : i + 1 = k
    · subst e
      rw [hp] at hb
      rw [← Option.some.inj hb]; exact hl i a rfl ha
    · exact h.inc i a b (by omega) ha hb
theorem PsR.all {ps : List Pr} {n k : Nat} (h : PsR ps n k) (hk : k = ps.length) (hl : ps.length ≤ 1000) : PsOK ps n := by
  subst hk
  have := h.rng
  rw [List.take_length] at this
  exact ⟨hl, this, (incP_iff ps).2 h.inc⟩
theorem PsOK.no {ps : List Pr} {n k : Nat} {p : Pr} (hp : ps[k]? = some p) (h : ¬ (PRange n p ∧ p.n ≤ 1073741824 ∧ sumAt ps p.a ≤ 1073741824)) : ¬ PsOK ps n := fun hok => h (hok.2.1 p (List.mem_of_getElem? hp))

set_option maxRecDepth 100000 in
set_option maxHeartbeats 4000000 in
theorem refvalid_loop (m : Mo) (A1 A2 A3 : Option Addr) (c1 c2 c3 : Nat) (w : World) (h : MoR w m A1 A2 A3) (hw : WCsOK m.ws m.cs) (hl : m.ps.length ≤ 1000) (hi : inB m.back 0 1000 = true) :
    Calls Try.prog 34 #[.agg #[.slice A1 m.ws.length c1, .slice A2 m.cs.length c2, .slice A3 m.ps.length c3, .int .i64 m.back]] w fun e w' => e = .returned (.bool (decide (MoOK m))) ∧ Below w.heap.size w w' := by
  have HW0 := Lib.hid (words_any A1 A2 m.ws m.cs c1 c2 (.slice A3 m.ps.length c3) (.int .i64 m.back) _ (h.below (unbox (rebox w (.cells #[.slice A1 m.ws.length c1, .slice A2 m.cs.length c2, .slice A3 m.ps.length c3, .int .i64 m.back] 34)))).h1 (h.below (unbox (rebox w (.cells #[.slice A1 m.ws.length c1, .slice A2 m.cs.length c2, .slice A3 m.ps.length c3, .int .i64 m.back] 34)))).h2 h.l1 h.l2 h.s)
  have H := Lib.hid h
  have hl1 := h.l1
  have hl3 := h.l3
  clear h
  have HI := Lib.hid hi
  have HWC := Lib.hid hw
  go_enter Try.func34, Try.ntmps34
  go_wp2_with (first
    | (go_at_call 59; refine HW0.out.mono ?_; rintro e w1 ⟨rfl, hb1⟩; rw [decide_eq_true hw]; have hm0 := box_cell (bx hb1) 0; have hm2 := box_cell (bx hb1) 2; have hm3 := box_cell (bx hb1) 3)
    | (go_at_call 36; refine (in_any _ _ _ _).mono ?_; rintro e w' ⟨rfl, rfl⟩))
  clear hi hw hm0 hm2 hm3
  have hb1' := bx hb1
  clear hb1
  go_loopw [4, 5, 24, 29] (fun i _ _ _ wr => ∃ k : Nat, k ≤ m.ps.length ∧ PsR m.ps m.ws.length k ∧ i = .int .i64 k ∧ Below (w.heap.size + 1) (w.alloc (.cells #[.slice A1 m.ws.length c1, .slice A2 m.cs.length c2, .slice A3 m.ps.length c3, .int .i64 m.back] 34)) wr) (fun i _ _ _ _ => m.ps.length - (intOf i).toNat)
  case atStart => exact ⟨0, by omega, PsR.zero _ _, rfl, hb1'⟩
  case round =>
    obtain ⟨k, hk, hR, rfl, hb⟩ := hrel
    have HR := Lib.hid hR
    clear hR hb1'
    have hm0 := box_cell hb 0
    have hm1 := box_cell hb 1
    have hm2 := box_cell hb 2
    have hm3 := box_cell hb 3
    simp at hm0 hm1 hm2 hm3
    have hsz := box_size hb
    by_cases hlt : k < m.ps.length
    · have h3 := (H.out.below (unbox hb)).h3
      obtain ⟨b, off, p, hA3, hbb, hpp, hc0, hc1, hc2⟩ := h3.pr hlt
      have HP := Lib.hid hpp
      clear hpp
      have hcase : (inB p.a 0 (m.ws.length - 1) = false) ∨ (inB p.a 0 (m.ws.length - 1) = true ∧ inB p.b 0 (m.ws.length - 1) = false) ∨
          (inB p.a 0 (m.ws.length - 1) = true ∧ inB p.b 0 (m.ws.length - 1) = true ∧ inB p.n 1 1073741824 = false) ∨
          (inB p.a 0 (m.ws.length - 1) = true ∧ inB p.b 0 (m.ws.length - 1) = true ∧ inB p.n 1 1073741824 = true) := by
        cases inB p.a 0 (m.ws.length - 1) <;> cases inB p.b 0 (m.ws.length - 1) <;> cases inB p.n 1 1073741824 <;> simp
      subst hA3
      obtain ⟨W1, hW1⟩ : ∃ W1, W1 = wr.alloc (.cells #[.int .i64 p.a, .int .i64 p.b, .int .i64 p.n] 87) := ⟨_, rfl⟩
      have d0 : W1.cell? ⟨wr.heap.size, 0, none⟩ = some (.int .i64 p.a) := by rw [hW1]; exact new_cell _ _ _ _
      have d1 : W1.cell? ⟨wr.heap.size, 1, none⟩ = some (.int .i64 p.b) := by rw [hW1]; exact new_cell _ _ _ _
      have d2 : W1.cell? ⟨wr.heap.size, 2, none⟩ = some (.int .i64 p.n) := by rw [hW1]; exact new_cell _ _ _ _
      have hbW : Below (w.heap.size + 1) (w.alloc (.cells #[.slice A1 m.ws.length c1, .slice A2 m.cs.length c2, .slice (some ⟨b, off, none⟩) m.ps.length c3, .int .i64 m.back] 34)) W1 := by rw [hW1]; exact hb.alloc (by omega) _
      have e0 : W1.cell? ⟨w.heap.size, 0, none⟩ = _ := box_cell hbW 0
      have e1 : W1.cell? ⟨w.heap.size, 1, none⟩ = _ := box_cell hbW 1
      have e2 : W1.cell? ⟨w.heap.size, 2, none⟩ = _ := box_cell hbW 2
      have e3 : W1.cell? ⟨w.heap.size, 3, none⟩ = _ := box_cell hbW 3
      simp at e0 e1 e2 e3
      have f0 : wr.heap.size < W1.heap.size := by rw [hW1]; exact new_lt _ _
      have f1 : w.heap.size < W1.heap.size := by omega
      have f2 : b < W1.heap.size := by omega
      have HS3 : Hid (∀ W, Below W1.heap.size W1 W → SlR 3 RPr W (some ⟨b, off, none⟩) m.ps) := fun W hW => (H.out.below (unbox (hbW.trans (hW.mono (by omega))))).h3
      have HN := Lib.hid H.out.n
      have HBW := Lib.hid (show Below w.heap.size w W1 from unbox hbW)
      have HB1 := Lib.hid hbW
      clear hbW hb h3
      have HW1 := Lib.hid hW1
      clear hW1
      have hwr : IntKind.i64.wrap ((m.ws.length : Int) - 1) = (m.ws.length : Int) - 1 := IntWalk.i64_in _ (by omega)
      rcases hcase with g1 | ⟨g1, g2⟩ | ⟨g1, g2, g3⟩ | ⟨g1, g2, g3⟩
      · have G := Lib.hid g1
        go_wp2_with fail
        rw [← HW1.out]
        refine ord_below [(0, false), (1, false), (2, false), (3, false), (4, true), (5, false), (6, false), (7, false), (8, false), (9, false), (10, false), (11, true), (12, false), (13, false), (14, false), (15, false), (16, false), (17, true), (18, false), (19, false), (20, false), (21, false), (22, false), (23, false), (24, false), (25, false), (26, false), (27, false), (28, false), (29, false), (30, false), (31, true), (32, false), (33, false), (34, false), (35, false), (36, false), (37, false), (38, false), (39, true), (40, false), (41, false)] (by kernel_rfl) (by kernel_rfl) (by kernel_rfl) (fun _ _ _ _ _ h => h) ?_
        intro W0 hS0
        repeat (first
          | (refine ord_skip rfl rfl ?_; simp only [Act.put, List.setIfInBounds_toArray, List.set_cons_zero, List.set_cons_succ])
          | (refine ord_cskip rfl rfl (by assumption) ?_; simp only [Act.put, List.setIfInBounds_toArray, List.set_cons_zero, List.set_cons_succ])
          | (refine ord_take (v := ?_) rfl rfl ?_ ?_
             rotate_left 1
             focus (intro W hW; obtain ⟨hcW, hfW⟩ := bcell hW; (go_simp <;> with_reducible rfl))
             simp only [Act.put, List.setIfInBounds_toArray, List.set_cons_zero, List.set_cons_succ])
          | (refine ord_call rfl rfl (fun K hK => ?_)
             go_simp
             first
               | (go_at_call 36; refine (in_any _ _ _ _).mono ?_; rintro e w' ⟨rfl, rfl⟩; refine hK.out _ _ hS0 (fun hS0 => ?_))))
        refine ord_nil ?_
        go_wp2_with fail
        go_ret
        exact ⟨ret_bool (decide_eq_false (fun hok => PsOK.no HP.out (fun hh => by have := G.out; unfold inB at this; have := hh.1.1; simp at *; omega) hok.1.2)).symm, HBW.out.trans (hS0.mono (by omega))⟩
      · have G := Lib.hid g2
        go_wp2_with fail
        rw [← HW1.out]
        refine ord_below [(0, false), (1, false), (2, false), (3, false), (4, true), (5, false), (6, false), (7, false), (8, false), (9, false), (10, false), (11, true), (12, false), (13, false), (14, false), (15, false), (16, false), (17, true), (18, false), (19, false), (20, false), (21, false), (22, false), (23, false), (24, false), (25, false), (26, false), (27, false), (28, false), (29, false), (30, false), (31, true), (32, false), (33, false), (34, false), (35, false), (36, false), (37, false), (38, false), (39, true), (40, false), (41, false)] (by kernel_rfl) (by kernel_rfl) (by kernel_rfl) (fun _ _ _ _ _ h => h) ?_
        intro W0 hS0
        repeat (first
          | (refine ord_skip rfl rfl ?_; simp only [Act.put, List.setIfInBounds_toArray, List.set_cons_zero, List.set_cons_succ])
          | (refine ord_cskip rfl rfl (by assumption) ?_; simp only [Act.put, List.setIfInBounds_toArray, List.set_cons_zero, List.set_cons_succ])
          | (refine ord_take (v := ?_) rfl rfl ?_ ?_
             rotate_left 1
             focus (intro W hW; obtain ⟨hcW, hfW⟩ := bcell hW; (go_simp <;> with_reducible rfl))
             simp only [Act.put, List.setIfInBounds_toArray, List.set_cons_zero, List.set_cons_succ])
          | (refine ord_call rfl rfl (fun K hK => ?_)
             go_simp
             first
               | (go_at_call 36; refine (in_any _ _ _ _).mono ?_; rintro e w' ⟨rfl, rfl⟩; refine hK.out _ _ hS0 (fun hS0 => ?_))))
        refine ord_nil ?_
        go_wp2_with fail
        go_ret
        exact ⟨ret_bool (decide_eq_false (fun hok => PsOK.no HP.out (fun hh => by have := G.out; unfold inB at this; have := hh.1.2.1; simp at *; omega) hok.1.2)).symm, HBW.out.trans (hS0.mono (by omega))⟩
      · have G := Lib.hid g3
        go_wp2_with fail
        rw [← HW1.out]
        refine ord_below [(0, false), (1, false), (2, false), (3, false), (4, true), (5, false), (6, false), (7, false), (8, false), (9, false), (10, false), (11, true), (12, false), (13, false), (14, false), (15, false), (16, false), (17, true), (18, false), (19, false), (20, false), (21, false), (22, false), (23, false), (24, false), (25, false), (26, false), (27, false), (28, false), (29, false), (30, false), (31, true), (32, false), (33, false), (34, false), (35, false), (36, false), (37, false), (38, false), (39, true), (40, false), (41, false)] (by kernel_rfl) (by kernel_rfl) (by kernel_rfl) (fun _ _ _ _ _ h => h) ?_
        intro W0 hS0
        repeat (first
          | (refine ord_skip rfl rfl ?_; simp only [Act.put, List.setIfInBounds_toArray, List.set_cons_zero, List.set_cons_succ])
          | (refine ord_cskip rfl rfl (by assumption) ?_; simp only [Act.put, List.setIfInBounds_toArray, List.set_cons_zero, List.set_cons_succ])
          | (refine ord_take (v := ?_) rfl rfl ?_ ?_
             rotate_left 1
             focus (intro W hW; obtain ⟨hcW, hfW⟩ := bcell hW; (go_simp <;> with_reducible rfl))
             simp only [Act.put, List.setIfInBounds_toArray, List.set_cons_zero, List.set_cons_succ])
          | (refine ord_call rfl rfl (fun K hK => ?_)
             go_simp
             first
               | (go_at_call 36; refine (in_any _ _ _ _).mono ?_; rintro e w' ⟨rfl, rfl⟩; refine hK.out _ _ hS0 (fun hS0 => ?_))))
        refine ord_nil ?_
        go_wp2_with fail
        go_ret
        exact ⟨ret_bool (decide_eq_false (fun hok => PsOK.no HP.out (fun hh => by have := G.out; unfold inB at this; have := hh.1.2.2; have := hh.2.1; simp at *; omega) hok.1.2)).symm, HBW.out.trans (hS0.mono (by omega))⟩
      · have G := Lib.hid (show PRange m.ws.length p ∧ p.n ≤ 1073741824 by unfold inB at g1 g2 g3; unfold PRange; simp at g1 g2 g3; omega)
        rcases k with _ | j
        · simp only [Nat.zero_mul, Nat.add_zero] at hc0 hc1 hc2
          by_cases hsum : sumAt m.ps p.a ≤ 1073741824
          · have HSum := Lib.hid hsum
            go_wp2_with fail
            rw [← HW1.out]
            refine ord_below [(0, false), (1, false), (2, false), (3, false), (4, true), (5, false), (6, false), (7, false), (8, false), (9, false), (10, false), (11, true), (12, false), (13, false), (14, false), (15, false), (16, false), (17, true), (18, false), (19, false), (20, false), (21, false), (22, false), (23, false), (24, false), (25, false), (26, false), (27, false), (28, false), (29, false), (30, false), (31, true), (32, false), (33, false), (34, false), (35, false), (36, false), (37, false), (38, false), (39, true), (40, false), (41, false)] (by kernel_rfl) (by kernel_rfl) (by kernel_rfl) (fun _ _ _ _ _ h => h) ?_
            intro W0 hS0
            repeat (first
              | (refine ord_skip rfl rfl ?_; simp only [Act.put, List.setIfInBounds_toArray, List.set_cons_zero, List.set_cons_succ])
              | (refine ord_cskip rfl rfl (by assumption) ?_; simp only [Act.put, List.setIfInBounds_toArray, List.set_cons_zero, List.set_cons_succ])
              | (refine ord_take (v := ?_) rfl rfl ?_ ?_
                 rotate_left 1
                 focus (intro W hW; obtain ⟨hcW, hfW⟩ := bcell hW; (go_simp <;> with_reducible rfl))
                 simp only [Act.put, List.setIfInBounds_toArray, List.set_cons_zero, List.set_cons_succ])
              | (refine ord_call rfl rfl (fun K hK => ?_)
                 go_simp
                 first
                   | (go_at_call 36; refine (in_any _ _ _ _).mono ?_; rintro e w' ⟨rfl, rfl⟩; refine hK.out _ _ hS0 (fun hS0 => ?_))
                   | (go_at_call 60; refine (sum_any _ _ _ _ m.ps _ _ _ (HS3.out _ hS0) hl3 HN.out).mono ?_; rintro e w' ⟨rfl, hb'⟩; refine hK.out _ _ (hS0.trans (hb'.mono hS0.size)) (fun hS0 => ?_))))
            refine ord_nil ?_
            go_wp2_with fail
            go_roundw
            case rel => exact ⟨1, by omega, HR.out.succ HP.out G.out HSum.out (fun _ _ h => by omega), by go_num, HB1.out.trans (hS0.mono (by omega))⟩
            case measure => simp [intOf]; omega
          · have HSum := Lib.hid hsum
            go_wp2_with fail
            rw [← HW1.out]
            refine ord_below [(0, false), (1, false), (2, false), (3, false), (4, true), (5, false), (6, false), (7, false), (8, false), (9, false), (10, false), (11, true), (12, false), (13, false), (14, false), (15, false), (16, false), (17, true), (18, false), (19, false), (20, false), (21, false), (22, false), (23, false), (24, false), (25, false), (26, false), (27, false), (28, false), (29, false), (30, false), (31, true), (32, false), (33, false), (34, false), (35, false), (36, false), (37, false), (38, false), (39, true), (40, false), (41, false)] (by kernel_rfl) (by kernel_rfl) (by kernel_rfl) (fun _ _ _ _ _ h => h) ?_
            intro W0 hS0
            repeat (first
              | (refine ord_skip rfl rfl ?_; simp only [Act.put, List.setIfInBounds_toArray, List.set_cons_zero, List.set_cons_succ])
              | (refine ord_cskip rfl rfl (by assumption) ?_; simp only [Act.put, List.setIfInBounds_toArray, List.set_cons_zero, List.set_cons_succ])
              | (refine ord_take (v := ?_) rfl rfl ?_ ?_
                 rotate_left 1
                 focus (intro W hW; obtain ⟨hcW, hfW⟩ := bcell hW; (go_simp <;> with_reducible rfl))
                 simp only [Act.put, List.setIfInBounds_toArray, List.set_cons_zero, List.set_cons_succ])
              | (refine ord_call rfl rfl (fun K hK => ?_)
                 go_simp
                 first
                   | (go_at_call 36; refine (in_any _ _ _ _).mono ?_; rintro e w' ⟨rfl, rfl⟩; refine hK.out _ _ hS0 (fun hS0 => ?_))
                   | (go_at_call 60; refine (sum_any _ _ _ _ m.ps _ _ _ (HS3.out _ hS0) hl3 HN.out).mono ?_; rintro e w' ⟨rfl, hb'⟩; refine hK.out _ _ (hS0.trans (hb'.mono hS0.size)) (fun hS0 => ?_))))
            refine ord_nil ?_
            go_wp2_with fail
            go_ret
            exact ⟨ret_bool (decide_eq_false (fun hok => PsOK.no HP.out (fun hh => by have := HSum.out; have := hh.2.2; omega) hok.1.2)).symm, HBW.out.trans (hS0.mono (by omega))⟩
        · obtain ⟨b', off', q, he, hbb', hqq, hq0, hq1, hq2⟩ := (HS3.out W1 (Below.refl _ _)).pr (k := j) (by omega)
          simp only [Option.some.injEq, Addr.mk.injEq, and_true] at he
          obtain ⟨rfl, rfl⟩ := he
          have HQ := Lib.hid hqq
          clear hqq
          have hjn : (j : Int) < (m.ps.length : Int) := by omega
          have hj0 : (0 : Int) ≤ (j : Int) := by omega
          have hwj : IntKind.i64.wrap (j : Int) = j := IntWalk.i64_in _ (by omega)
          cases hless : lessP q p
          · have HL := Lib.hid hless
            go_wp2_with fail
            rw [← HW1.out]
            refine ord_below [(0, false), (1, false), (2, false), (3, false), (4, true), (5, false), (6, false), (7, false), (8, false), (9, false), (10, false), (11, true), (12, false), (13, false), (14, false), (15, false), (16, false), (17, true), (18, false), (19, false), (20, false), (21, false), (22, false), (23, false), (24, false), (25, false), (26, false), (27, false), (28, false), (29, false), (30, false), (31, true), (32, false), (33, false), (34, false), (35, false), (36, false), (37, false), (38, false), (39, true), (40, false), (41, false)] (by kernel_rfl) (by kernel_rfl) (by kernel_rfl) (fun _ _ _ _ _ h => h) ?_
            intro W0 hS0
            repeat (first
              | (refine ord_skip rfl rfl ?_; simp only [Act.put, List.setIfInBounds_toArray, List.set_cons_zero, List.set_cons_succ])
              | (refine ord_cskip rfl rfl (by assumption) ?_; simp only [Act.put, List.setIfInBounds_toArray, List.set_cons_zero, List.set_cons_succ])
              | (refine ord_take (v := ?_) rfl rfl ?_ ?_
                 rotate_left 1
                 focus (intro W hW; obtain ⟨hcW, hfW⟩ := bcell hW; (go_simp <;> with_reducible rfl))
                 simp only [Act.put, List.setIfInBounds_toArray, List.set_cons_zero, List.set_cons_succ])
              | (refine ord_call rfl rfl (fun K hK => ?_)
                 go_simp
                 first
                   | (go_at_call 36; refine (in_any _ _ _ _).mono ?_; rintro e w' ⟨rfl, rfl⟩; refine hK.out _ _ hS0 (fun hS0 => ?_))
                   | (go_at_call 54; refine (co_less_any q p _).mono ?_; rintro e w' ⟨rfl, hb'⟩; refine hK.out _ _ (hS0.trans (hb'.mono hS0.size)) (fun hS0 => ?_))))
            refine ord_nil ?_
            go_wp2_with fail
            go_ret
            exact ⟨ret_bool (decide_eq_false (fun hok => PsOK.not_inc HQ.out HP.out HL.out hok.1.2)).symm, HBW.out.trans (hS0.mono (by omega))⟩
          · have HL := Lib.hid hless
            by_cases hsum : sumAt m.ps p.a ≤ 1073741824
            · have HSum := Lib.hid hsum
              go_wp2_with fail
              rw [← HW1.out]
              refine ord_below [(0, false), (1, false), (2, false), (3, false), (4, true), (5, false), (6, false), (7, false), (8, false), (9, false), (10, false), (11, true), (12, false), (13, false), (14, false), (15, false), (16, false), (17, true), (18, false), (19, false), (20, false), (21, false), (22, false), (23, false), (24, false), (25, false), (26, false), (27, false), (28, false), (29, false), (30, false), (31, true), (32, false), (33, false), (34, false), (35, false), (36, false), (37, false), (38, false), (39, true), (40, false), (41, false)] (by kernel_rfl) (by kernel_rfl) (by kernel_rfl) (fun _ _ _ _ _ h => h) ?_
              intro W0 hS0
              repeat (first
                | (refine ord_skip rfl rfl ?_; simp only [Act.put, List.setIfInBounds_toArray, List.set_cons_zero, List.set_cons_succ])
                | (refine ord_cskip rfl rfl (by assumption) ?_; simp only [Act.put, List.setIfInBounds_toArray, List.set_cons_zero, List.set_cons_succ])
                | (refine ord_take (v := ?_) rfl rfl ?_ ?_
                   rotate_left 1
                   focus (intro W hW; obtain ⟨hcW, hfW⟩ := bcell hW; (go_simp <;> with_reducible rfl))
                   simp only [Act.put, List.setIfInBounds_toArray, List.set_cons_zero, List.set_cons_succ])
                | (refine ord_call rfl rfl (fun K hK => ?_)
                   go_simp
                   first
                     | (go_at_call 36; refine (in_any _ _ _ _).mono ?_; rintro e w' ⟨rfl, rfl⟩; refine hK.out _ _ hS0 (fun hS0 => ?_))
                     | (go_at_call 54; refine (co_less_any q p _).mono ?_; rintro e w' ⟨rfl, hb'⟩; refine hK.out _ _ (hS0.trans (hb'.mono hS0.size)) (fun hS0 => ?_))
                     | (go_at_call 60; refine (sum_any _ _ _ _ m.ps _ _ _ (HS3.out _ hS0) hl3 HN.out).mono ?_; rintro e w' ⟨rfl, hb'⟩; refine hK.out _ _ (hS0.trans (hb'.mono hS0.size)) (fun hS0 => ?_))))
              refine ord_nil ?_
              go_wp2_with fail
              go_roundw
              case rel => exact ⟨j + 1 + 1, by omega, HR.out.succ HP.out G.out HSum.out (fun _ _ h1 h2 => by cases h1; rw [HQ.out] at h2; rw [← Option.some.inj h2]; exact HL.out), by go_num, HB1.out.trans (hS0.mono (by omega))⟩
              case measure => simp [intOf]; omega
            · have HSum := Lib.hid hsum
              go_wp2_with fail
              rw [← HW1.out]
              refine ord_below [(0, false), (1, false), (2, false), (3, false), (4, true), (5, false), (6, false), (7, false), (8, false), (9, false), (10, false), (11, true), (12, false), (13, false), (14, false), (15, false), (16, false), (17, true), (18, false), (19, false), (20, false), (21, false), (22, false), (23, false), (24, false), (25, false), (26, false), (27, false), (28, false), (29, false), (30, false), (31, true), (32, false), (33, false), (34, false), (35, false), (36, false), (37, false), (38, false), (39, true), (40, false), (41, false)] (by kernel_rfl) (by kernel_rfl) (by kernel_rfl) (fun _ _ _ _ _ h => h) ?_
              intro W0 hS0
              repeat (first
                | (refine ord_skip rfl rfl ?_; simp only [Act.put, List.setIfInBounds_toArray, List.set_cons_zero, List.set_cons_succ])
                | (refine ord_cskip rfl rfl (by assumption) ?_; simp only [Act.put, List.setIfInBounds_toArray, List.set_cons_zero, List.set_cons_succ])
                | (refine ord_take (v := ?_) rfl rfl ?_ ?_
                   rotate_left 1
                   focus (intro W hW; obtain ⟨hcW, hfW⟩ := bcell hW; (go_simp <;> with_reducible rfl))
                   simp only [Act.put, List.setIfInBounds_toArray, List.set_cons_zero, List.set_cons_succ])
                | (refine ord_call rfl rfl (fun K hK => ?_)
                   go_simp
                   first
                     | (go_at_call 36; refine (in_any _ _ _ _).mono ?_; rintro e w' ⟨rfl, rfl⟩; refine hK.out _ _ hS0 (fun hS0 => ?_))
                     | (go_at_call 54; refine (co_less_any q p _).mono ?_; rintro e w' ⟨rfl, hb'⟩; refine hK.out _ _ (hS0.trans (hb'.mono hS0.size)) (fun hS0 => ?_))
                     | (go_at_call 60; refine (sum_any _ _ _ _ m.ps _ _ _ (HS3.out _ hS0) hl3 HN.out).mono ?_; rintro e w' ⟨rfl, hb'⟩; refine hK.out _ _ (hS0.trans (hb'.mono hS0.size)) (fun hS0 => ?_))))
              refine ord_nil ?_
              go_wp2_with fail
              go_ret
              exact ⟨ret_bool (decide_eq_false (fun hok => PsOK.no HP.out (fun hh => by have := HSum.out; have := hh.2.2; omega) hok.1.2)).symm, HBW.out.trans (hS0.mono (by omega))⟩
    · obtain rfl : k = m.ps.length := by omega
      have HB1 := Lib.hid (unbox hb)
      clear hb
      go_wp2_with fail
      go_ret
      exact ⟨ret_bool (decide_eq_true ⟨⟨HWC.out, HR.out.all rfl hl⟩, by have := HI.out; unfold inB at this; simp at this; exact this⟩).symm, HB1.out⟩

set_option maxRecDepth 100000 in
set_option maxHeartbeats 1000000 in
theorem co_refvalid_any (m : Mo) (A1 A2 A3 : Option Addr) (c1 c2 c3 : Nat) (w : World) (h : MoR w m A1 A2 A3) :
    Calls Try.prog 34 #[.agg #[.slice A1 m.ws.length c1, .slice A2 m.cs.length c2, .slice A3 m.ps.length c3, .int .i64 m.back]] w fun e w' => e = .returned (.bool (decide (MoOK m))) ∧ Below w.heap.size w w' := by
  by_cases hw : WCsOK m.ws m.cs
  · by_cases hl : m.ps.length ≤ 1000
    · cases hi : inB m.back 0 1000
      · have HI := Lib.hid hi
        have HW0 := Lib.hid (words_any A1 A2 m.ws m.cs c1 c2 (.slice A3 m.ps.length c3) (.int .i64 m.back) _ (h.below (unbox (rebox w (.cells #[.slice A1 m.ws.length c1, .slice A2 m.cs.length c2, .slice A3 m.ps.length c3, .int .i64 m.back] 34)))).h1 (h.below (unbox (rebox w (.cells #[.slice A1 m.ws.length c1, .slice A2 m.cs.length c2, .slice A3 m.ps.length c3, .int .i64 m.back] 34)))).h2 h.l1 h.l2 h.s)
        have hl3 := h.l3
        clear h
        go_enter Try.func34, Try.ntmps34
        go_wp2_with (first
          | (go_at_call 59; refine HW0.out.mono ?_; rintro e w1 ⟨rfl, hb1⟩; rw [decide_eq_true hw]; have hm2 := box_cell (bx hb1) 2; have hm3 := box_cell (bx hb1) 3)
          | (go_at_call 36; refine (in_any _ _ _ _).mono ?_; rintro e w' ⟨rfl, rfl⟩))
        go_ret
        exact ⟨ret_bool (decide_eq_false (fun hok => by have h1 := HI.out; have h2 := hok.2; unfold inB at h1; simp at h1; omega)).symm, unbox (bx hb1)⟩
      · exact refvalid_loop m A1 A2 A3 c1 c2 c3 w h hw hl hi
    · have HL := Lib.hid hl
      have HW0 := Lib.hid (words_any A1 A2 m.ws m.cs c1 c2 (.slice A3 m.ps.length c3) (.int .i64 m.back) _ (h.below (unbox (rebox w (.cells #[.slice A1 m.ws.length c1, .slice A2 m.cs.length c2, .slice A3 m.ps.length c3, .int .i64 m.back] 34)))).h1 (h.below (unbox (rebox w (.cells #[.slice A1 m.ws.length c1, .slice A2 m.cs.length c2, .slice A3 m.ps.length c3, .int .i64 m.back] 34)))).h2 h.l1 h.l2 h.s)
      have hl3 := h.l3
      clear h
      go_enter Try.func34, Try.ntmps34
      go_wp2_with (first
        | (go_at_call 59; refine HW0.out.mono ?_; rintro e w1 ⟨rfl, hb1⟩; rw [decide_eq_true hw]; have hm2 := box_cell (bx hb1) 2; have hm3 := box_cell (bx hb1) 3)
        | (go_at_call 36; refine (in_any _ _ _ _).mono ?_; rintro e w' ⟨rfl, rfl⟩))
      go_ret
      exact ⟨ret_bool (decide_eq_false (fun hok => by have h1 := HL.out; have h2 := hok.1.2.1; omega)).symm, unbox (bx hb1)⟩
  · have HWN := Lib.hid hw
    have HW0 := Lib.hid (words_any A1 A2 m.ws m.cs c1 c2 (.slice A3 m.ps.length c3) (.int .i64 m.back) _ (h.below (unbox (rebox w (.cells #[.slice A1 m.ws.length c1, .slice A2 m.cs.length c2, .slice A3 m.ps.length c3, .int .i64 m.back] 34)))).h1 (h.below (unbox (rebox w (.cells #[.slice A1 m.ws.length c1, .slice A2 m.cs.length c2, .slice A3 m.ps.length c3, .int .i64 m.back] 34)))).h2 h.l1 h.l2 h.s)
    have hl3 := h.l3
    clear h
    go_enter Try.func34, Try.ntmps34
    go_wp2_with (first
      | (go_at_call 59; refine HW0.out.mono ?_; rintro e w1 ⟨rfl, hb1⟩; rw [decide_eq_false hw]; have hm2 := box_cell (bx hb1) 2; have hm3 := box_cell (bx hb1) 3)
      | (go_at_call 36; refine (in_any _ _ _ _).mono ?_; rintro e w' ⟨rfl, rfl⟩))
    go_ret
    exact ⟨ret_bool (decide_eq_false (fun hok => HWN.out hok.1.1)).symm, unbox (bx hb1)⟩
end Go.Proofs.Ytcimnkijpifkjaa
