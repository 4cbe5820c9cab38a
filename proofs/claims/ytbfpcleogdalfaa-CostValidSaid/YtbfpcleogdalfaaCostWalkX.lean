/-
  The walks of layer 11: when two models are the same.
-/
import Derived.Test.YtbfpcleogdalfaaCostWalkW
namespace Go.Proofs.Ytbfpcleogdalfaa
open Go Go.RowKit

instance : DecidableEq Pr := fun p q =>
  if h : p.a = q.a ∧ p.b = q.b ∧ p.n = q.n then .isTrue (by cases p; cases q; simp at h; obtain ⟨rfl, rfl, rfl⟩ := h; rfl) else .isFalse (fun e => h (by subst e; exact ⟨rfl, rfl, rfl⟩))
def SameM (m o : Mo) : Prop := m.ws = o.ws ∧ m.cs = o.cs ∧ m.ps = o.ps ∧ m.back = o.back
instance (m o : Mo) : Decidable (SameM m o) := by unfold SameM; infer_instance
theorem sameM_iff (m o : Mo) : SameM m o ↔ m = o := by
  cases m; cases o; unfold SameM; simp
set_option maxRecDepth 100000 in
set_option maxHeartbeats 4000000 in
theorem same_any (m o : Mo) (A1 A2 A3 B1 B2 B3 : Option Addr) (c1 c2 c3 d1 d2 d3 : Nat) (w : World) (h : MoR w m A1 A2 A3) (ho : MoR w o B1 B2 B3) :
    Calls Try.prog 18 #[.agg #[.slice A1 m.ws.length c1, .slice A2 m.cs.length c2, .slice A3 m.ps.length c3, .int .i64 m.back], .agg #[.slice B1 o.ws.length d1, .slice B2 o.cs.length d2, .slice B3 o.ps.length d3, .int .i64 o.back]] w fun e w' => e = .returned (.bool (decide (SameM m o))) ∧ Below w.heap.size w w' := by
  have HB := Lib.hid (show Below w.heap.size w ((w.alloc (.cells #[.slice A1 m.ws.length c1, .slice A2 m.cs.length c2, .slice A3 m.ps.length c3, .int .i64 m.back] 34)).alloc (.cells #[.slice B1 o.ws.length d1, .slice B2 o.cs.length d2, .slice B3 o.ps.length d3, .int .i64 o.back] 34)) from ((Below.refl _ _).alloc (Nat.le_refl _) _).alloc (by simp) _)
  have HSW := Lib.hid (sameWords_any A1 B1 m.ws o.ws c1 d1 ((w.alloc (.cells #[.slice A1 m.ws.length c1, .slice A2 m.cs.length c2, .slice A3 m.ps.length c3, .int .i64 m.back] 34)).alloc (.cells #[.slice B1 o.ws.length d1, .slice B2 o.cs.length d2, .slice B3 o.ps.length d3, .int .i64 o.back] 34)) (h.h1.below keeps_str HB.out) (ho.h1.below keeps_str HB.out) h.l1)
  have HSI : Hid (∀ W, Below ((w.alloc (.cells #[.slice A1 m.ws.length c1, .slice A2 m.cs.length c2, .slice A3 m.ps.length c3, .int .i64 m.back] 34)).alloc (.cells #[.slice B1 o.ws.length d1, .slice B2 o.cs.length d2, .slice B3 o.ps.length d3, .int .i64 o.back] 34)).heap.size ((w.alloc (.cells #[.slice A1 m.ws.length c1, .slice A2 m.cs.length c2, .slice A3 m.ps.length c3, .int .i64 m.back] 34)).alloc (.cells #[.slice B1 o.ws.length d1, .slice B2 o.cs.length d2, .slice B3 o.ps.length d3, .int .i64 o.back] 34)) W → Calls Try.prog 37 #[.slice A2 m.cs.length c2, .slice B2 o.cs.length d2] W fun e w' => e = .returned (.bool (decide (m.cs = o.cs))) ∧ Below W.heap.size W w') := fun W hW =>
    ints_any A2 B2 m.cs o.cs c2 d2 W ((h.h2.below keeps_int HB.out).below keeps_int hW) ((ho.h2.below keeps_int HB.out).below keeps_int hW) h.l2
  have HK0 := Lib.hid ((Blk.new w 34 #[.slice A1 m.ws.length c1, .slice A2 m.cs.length c2, .slice A3 m.ps.length c3, .int .i64 m.back]).alloc (.cells #[.slice B1 o.ws.length d1, .slice B2 o.cs.length d2, .slice B3 o.ps.length d3, .int .i64 o.back] 34))
  have HK1 := Lib.hid (Blk.new_ (w := (w.alloc (.cells #[.slice A1 m.ws.length c1, .slice A2 m.cs.length c2, .slice A3 m.ps.length c3, .int .i64 m.back] 34))) (t := 34) (cs := #[.slice B1 o.ws.length d1, .slice B2 o.cs.length d2, .slice B3 o.ps.length d3, .int .i64 o.back]) (g := w.heap.size + 1) (by simp))
  have hl3 := h.l3
  have hl3o := ho.l3
  have HM := Lib.hid h
  have HO := Lib.hid ho
  have hlw := h.l1
  have hlwo := ho.l1
  clear h ho
  by_cases g1 : m.ws = o.ws
  · have DW := Lib.hid (show decide (m.ws = o.ws) = true from decide_eq_true g1)
    have G1 := Lib.hid g1
    clear g1
    by_cases g2 : m.cs = o.cs
    · have DI := Lib.hid (show decide (m.cs = o.cs) = true from decide_eq_true g2)
      have G2 := Lib.hid g2
      clear g2
      by_cases g3 : m.ps.length = o.ps.length
      · have G3 := Lib.hid g3
        have e3 : (m.ps.length != o.ps.length) = false := by simp [g3]
        have e3i : ((m.ps.length : Int) != (o.ps.length : Int)) = false := by simp [g3]
        clear g3
        by_cases g4 : m.back = o.back
        · have e4 : (m.back != o.back) = false := by simp [g4]
          have G4 := Lib.hid g4
          clear g4
          go_enter Try.func18, Try.ntmps18
          go_wp2_with (first | (go_at_call 24; go_loud (refine HSW.out.mono ?_; rintro e w1 ⟨rfl, hb1⟩; simp only [DW.out]; have x1 := HK0.out.below hb1 (by first | omega | (simp; omega) | (simp; done)); have y1 := HK1.out.below hb1 (by first | omega | (simp; omega) | (simp; done)); have x10 := x1.cell 0; have y10 := y1.cell 0; have x11 := x1.cell 1; have y11 := y1.cell 1; have x12 := x1.cell 2; have y12 := y1.cell 2; have x13 := x1.cell 3; have y13 := y1.cell 3; have hs1 := hb1.size; simp at hs1; clear x1 y1)) | (go_at_call 37; go_loud (refine (HSI.out _ hb1).mono ?_; rintro e w2 ⟨rfl, hb2⟩; simp only [DI.out]; have hb12 := hb1.trans (hb2.mono hb1.size); have x2 := HK0.out.below hb12 (by first | omega | (simp; omega) | (simp; done)); have y2 := HK1.out.below hb12 (by first | omega | (simp; omega) | (simp; done)); have x20 := x2.cell 0; have y20 := y2.cell 0; have x21 := x2.cell 1; have y21 := y2.cell 1; have x22 := x2.cell 2; have y22 := y2.cell 2; have x23 := x2.cell 3; have y23 := y2.cell 3; have hs2 := hb12.size; simp at hs2; clear x2 y2)))
          have hbw : Below w.heap.size w w2 := HB.out.trans (hb12.mono (by simp; omega))
          have HBW := Lib.hid hbw
          have HP1 := Lib.hid (HM.out.below hbw).h3
          have HP2 := Lib.hid (HO.out.below hbw).h3
          clear hb1 hb2 hb12 hbw hs1 e3 e3i e4
          go_loopw [5] (fun i wr => ∃ k : Nat, k ≤ m.ps.length ∧ Hid (SameTo m.ps o.ps k) ∧ i = .int .i64 k ∧ Below w2.heap.size w2 wr) (fun i _ => m.ps.length - (intOf i).toNat)
          case atStart => exact ⟨0, by omega, rfl, rfl, Below.refl _ _⟩
          case round =>
            obtain ⟨k, hk, HS, rfl, hb⟩ := hrel
            have z0 := (hb.cell (p := ⟨w.heap.size, 2, none⟩) (by show w.heap.size < _; omega)).trans x22
            have z1 := (hb.cell (p := ⟨w.heap.size + 1, 2, none⟩) (by show w.heap.size + 1 < _; omega)).trans y22
            clear x20 x21 x22 x23 y20 y21 y22 y23
            by_cases hlt : k < m.ps.length
            · obtain ⟨b, off, p, rfl, hbb, hxx, p0, p1, p2⟩ := (HP1.out.below keeps_pr hb).pr hlt
              obtain ⟨b', off', q, rfl, hbb', hyy, q0, q1, q2⟩ := (HP2.out.below keeps_pr hb).pr (k := k) (by have := G3.out; omega)
              have hlo : (k : Int) < o.ps.length := by have := G3.out; omega
              have hlm : (k : Int) < m.ps.length := by omega
              have HX := Lib.hid hxx
              have HY := Lib.hid hyy
              clear hxx hyy
              by_cases he : p = q
              · subst he
                go_wp2_with fail
                go_quiet (fail)
                go_wp2_with fail
                go_roundw
                case rel => exact ⟨k + 1, by omega, HS.out.succ HX.out HY.out, by go_num, below_drewN hb _⟩
                case measure => simp [intOf]; omega
              · have hne : (p.a == q.a) = false ∨ ((p.a == q.a) = true ∧ (p.b == q.b) = false) ∨ ((p.a == q.a) = true ∧ (p.b == q.b) = true ∧ (p.n == q.n) = false) := by
                  cases h1 : p.a == q.a
                  · exact .inl rfl
                  · cases h2 : p.b == q.b
                    · exact .inr (.inl ⟨rfl, rfl⟩)
                    · cases h3 : p.n == q.n
                      · exact .inr (.inr ⟨rfl, rfl, rfl⟩)
                      · exact absurd (by cases p; cases q; simp at h1 h2 h3; subst h1 h2 h3; rfl) he
                have HNE := Lib.hid (ne_at HX.out HY.out he)
                clear he
                rcases hne with f1 | ⟨f1, f2⟩ | ⟨f1, f2, f3⟩
                all_goals
                  go_wp2_with fail
                  go_quiet (fail)
                  go_wp2_with fail
                  go_ret
                  exact ⟨ret_bool (decide_eq_false (fun hh : SameM m o => HNE.out hh.2.2.1)).symm, HBW.out.trans ((below_drewN hb _).mono HBW.out.size)⟩
            · go_wp2_with fail
              go_ret
              exact ⟨ret_bool (decide_eq_true (show SameM m o from ⟨G1.out, G2.out, HS.out.all (by omega) (by have := G3.out; omega), G4.out⟩)).symm, HBW.out.trans (hb.mono HBW.out.size)⟩
        · have e4 : (m.back != o.back) = true := by simp [g4]
          have G4 := Lib.hid g4
          clear g4
          go_enter Try.func18, Try.ntmps18
          go_wp2_with (first | (go_at_call 24; go_loud (refine HSW.out.mono ?_; rintro e w1 ⟨rfl, hb1⟩; simp only [DW.out]; have x1 := HK0.out.below hb1 (by first | omega | (simp; omega) | (simp; done)); have y1 := HK1.out.below hb1 (by first | omega | (simp; omega) | (simp; done)); have x10 := x1.cell 0; have y10 := y1.cell 0; have x11 := x1.cell 1; have y11 := y1.cell 1; have x12 := x1.cell 2; have y12 := y1.cell 2; have x13 := x1.cell 3; have y13 := y1.cell 3; have hs1 := hb1.size; simp at hs1; clear x1 y1)) | (go_at_call 37; go_loud (refine (HSI.out _ hb1).mono ?_; rintro e w2 ⟨rfl, hb2⟩; simp only [DI.out]; have hb12 := hb1.trans (hb2.mono hb1.size); have x2 := HK0.out.below hb12 (by first | omega | (simp; omega) | (simp; done)); have y2 := HK1.out.below hb12 (by first | omega | (simp; omega) | (simp; done)); have x20 := x2.cell 0; have y20 := y2.cell 0; have x21 := x2.cell 1; have y21 := y2.cell 1; have x22 := x2.cell 2; have y22 := y2.cell 2; have x23 := x2.cell 3; have y23 := y2.cell 3; have hs2 := hb12.size; simp at hs2; clear x2 y2)))
          go_ret
          exact ⟨ret_bool (decide_eq_false (fun hh : SameM m o => G4.out hh.2.2.2)).symm, HB.out.trans (hb12.mono (by simp; omega))⟩
      · have e3 : (m.ps.length != o.ps.length) = true := by simp [g3]
        have e3i : ((m.ps.length : Int) != (o.ps.length : Int)) = true := by simp; omega
        have G3 := Lib.hid g3
        clear g3
        go_enter Try.func18, Try.ntmps18
        go_wp2_with (first | (go_at_call 24; go_loud (refine HSW.out.mono ?_; rintro e w1 ⟨rfl, hb1⟩; simp only [DW.out]; have x1 := HK0.out.below hb1 (by first | omega | (simp; omega) | (simp; done)); have y1 := HK1.out.below hb1 (by first | omega | (simp; omega) | (simp; done)); have x10 := x1.cell 0; have y10 := y1.cell 0; have x11 := x1.cell 1; have y11 := y1.cell 1; have x12 := x1.cell 2; have y12 := y1.cell 2; have x13 := x1.cell 3; have y13 := y1.cell 3; have hs1 := hb1.size; simp at hs1; clear x1 y1)) | (go_at_call 37; go_loud (refine (HSI.out _ hb1).mono ?_; rintro e w2 ⟨rfl, hb2⟩; simp only [DI.out]; have hb12 := hb1.trans (hb2.mono hb1.size); have x2 := HK0.out.below hb12 (by first | omega | (simp; omega) | (simp; done)); have y2 := HK1.out.below hb12 (by first | omega | (simp; omega) | (simp; done)); have x20 := x2.cell 0; have y20 := y2.cell 0; have x21 := x2.cell 1; have y21 := y2.cell 1; have x22 := x2.cell 2; have y22 := y2.cell 2; have x23 := x2.cell 3; have y23 := y2.cell 3; have hs2 := hb12.size; simp at hs2; clear x2 y2)))
        go_ret
        exact ⟨ret_bool (decide_eq_false (fun hh : SameM m o => G3.out (by rw [hh.2.2.1]))).symm, HB.out.trans (hb12.mono (by simp; omega))⟩
    · have DI := Lib.hid (show decide (m.cs = o.cs) = false from decide_eq_false g2)
      have G2 := Lib.hid g2
      clear g2
      go_enter Try.func18, Try.ntmps18
      go_wp2_with (first | (go_at_call 24; go_loud (refine HSW.out.mono ?_; rintro e w1 ⟨rfl, hb1⟩; simp only [DW.out]; have x1 := HK0.out.below hb1 (by first | omega | (simp; omega) | (simp; done)); have y1 := HK1.out.below hb1 (by first | omega | (simp; omega) | (simp; done)); have x10 := x1.cell 0; have y10 := y1.cell 0; have x11 := x1.cell 1; have y11 := y1.cell 1; have x12 := x1.cell 2; have y12 := y1.cell 2; have x13 := x1.cell 3; have y13 := y1.cell 3; have hs1 := hb1.size; simp at hs1; clear x1 y1)) | (go_at_call 37; go_loud (refine (HSI.out _ hb1).mono ?_; rintro e w2 ⟨rfl, hb2⟩; simp only [DI.out]; have hb12 := hb1.trans (hb2.mono hb1.size); have x2 := HK0.out.below hb12 (by first | omega | (simp; omega) | (simp; done)); have y2 := HK1.out.below hb12 (by first | omega | (simp; omega) | (simp; done)); have x20 := x2.cell 0; have y20 := y2.cell 0; have x21 := x2.cell 1; have y21 := y2.cell 1; have x22 := x2.cell 2; have y22 := y2.cell 2; have x23 := x2.cell 3; have y23 := y2.cell 3; have hs2 := hb12.size; simp at hs2; clear x2 y2)))
      go_ret
      exact ⟨ret_bool (decide_eq_false (fun hh : SameM m o => G2.out hh.2.1)).symm, HB.out.trans (hb12.mono (by simp; omega))⟩
  · have DW := Lib.hid (show decide (m.ws = o.ws) = false from decide_eq_false g1)
    have G1 := Lib.hid g1
    clear g1
    go_enter Try.func18, Try.ntmps18
    go_wp2_with (first | (go_at_call 24; go_loud (refine HSW.out.mono ?_; rintro e w1 ⟨rfl, hb1⟩; simp only [DW.out]; have x1 := HK0.out.below hb1 (by first | omega | (simp; omega) | (simp; done)); have y1 := HK1.out.below hb1 (by first | omega | (simp; omega) | (simp; done)); have x10 := x1.cell 0; have y10 := y1.cell 0; have x11 := x1.cell 1; have y11 := y1.cell 1; have x12 := x1.cell 2; have y12 := y1.cell 2; have x13 := x1.cell 3; have y13 := y1.cell 3; have hs1 := hb1.size; simp at hs1; clear x1 y1)))
    go_ret
    exact ⟨ret_bool (decide_eq_false (fun hh : SameM m o => G1.out hh.1)).symm, HB.out.trans (hb1.mono (by simp; omega))⟩
end Go.Proofs.Ytbfpcleogdalfaa
