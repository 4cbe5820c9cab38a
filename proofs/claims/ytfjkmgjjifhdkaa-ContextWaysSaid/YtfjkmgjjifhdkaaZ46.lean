/-
  CxWalkQ, CxWalkR, joined. No conditions.
-/
import Derived.Test.YtfjkmgjjifhdkaaZ37
/-
  The walks of layer 20: graphs that are compared.
-/
namespace Go.Proofs.Ytfjkmgjjifhdkaa
open Go Go.RowKit

set_option maxRecDepth 100000 in
set_option maxHeartbeats 16000000 in
theorem samegraph_any (n1 n2 : Int) (AG AH : Option Addr) (g h : List Lk) (cG cH : Nat) (w : World) (hg : SlR 4 RLk w AG g) (hh : SlR 4 RLk w AH h) (hl : g.length ≤ 65536) :
    Calls Try.prog 35 #[.agg #[.int .i64 n1, .slice AG g.length cG], .agg #[.int .i64 n2, .slice AH h.length cH]] w fun e w' => e = .returned (.bool (decide (n1 = n2 ∧ g = h))) ∧ Below w.heap.size w w' := by
  obtain ⟨R, hR⟩ : ∃ b, decide (n1 = n2 ∧ g = h) = b := ⟨_, rfl⟩
  rw [hR]
  have HRT := Lib.hid (show g = h → n1 = n2 → R = true from fun a b => by rw [← hR]; exact decide_eq_true ⟨b, a⟩)
  have HRF := Lib.hid (show ¬ g = h → R = false from fun a => by rw [← hR]; exact decide_eq_false (fun x => a x.2))
  have HRN := Lib.hid (show ¬ n1 = n2 → R = false from fun a => by rw [← hR]; exact decide_eq_false (fun x => a x.1))
  clear hR
  obtain ⟨w2, hw2⟩ : ∃ w2, (w.alloc (.cells #[.int .i64 n1, .slice AG g.length cG] 42)).alloc (.cells #[.int .i64 n2, .slice AH h.length cH] 42) = w2 := ⟨_, rfl⟩
  have hb2 : Below w.heap.size w w2 := by rw [← hw2]; exact nw _ (nw _ (Below.refl _ _))
  have hGB : Blk w2 w.heap.size 42 #[.int .i64 n1, .slice AG g.length cG] := by rw [← hw2]; exact (Blk.new _ _ _).alloc _
  have hHB : Blk w2 (w.heap.size + 1) 42 #[.int .i64 n2, .slice AH h.length cH] := by rw [← hw2]; exact Blk.new_ (by simp)
  have HW2 := Lib.hid hw2
  have HB2 := Lib.hid hb2
  have HCE : Hid (∀ W, Below w2.heap.size w2 W → (W.cell? ⟨w.heap.size, 0, none⟩ = some (.int .i64 n1) ∧ W.cell? ⟨w.heap.size, 1, none⟩ = some (.slice AG g.length cG)) ∧ (W.cell? ⟨w.heap.size + 1, 0, none⟩ = some (.int .i64 n2) ∧ W.cell? ⟨w.heap.size + 1, 1, none⟩ = some (.slice AH h.length cH)) ∧ w.heap.size < W.heap.size ∧ w.heap.size + 1 < W.heap.size) := fun W hW => by
    have e1 := hGB.below hW hGB.lt
    have e2 := hHB.below hW hHB.lt
    exact ⟨⟨by rw [e1.cell]; rfl, by rw [e1.cell]; rfl⟩, ⟨by rw [e2.cell]; rfl, by rw [e2.cell]; rfl⟩, e1.lt, e2.lt⟩
  have HXX : Hid (∀ W, Below w2.heap.size w2 W → SlR 4 RLk W AG g ∧ SlR 4 RLk W AH h) := fun W hW => by
    have hh2 := HB2.out.trans (hW.mono HB2.out.size)
    exact ⟨hg.below keeps_lk hh2, hh.below keeps_lk hh2⟩
  clear hw2 hb2 hGB hHB hg hh
  obtain ⟨⟨l0, l1⟩, ⟨m0, m1⟩, ll, ml⟩ := HCE.out _ (Below.refl _ _)
  go_enter Try.func35, Try.ntmps35
  go_upto_region 1 with fail
  rw [HW2.out]
  by_cases hn : n1 = n2
  · have HRG := Lib.hid (show g = h → R = true from fun a => HRT.out a hn)
    clear HRT HRN
    subst hn
    by_cases hlen : g.length = h.length
    · have HLN := Lib.hid hlen
      rw [← hlen] at HCE m1
      clear hlen
      go_wp2_with fail
      go_loopw [5] (fun i wr => ∃ j : Nat, i = .int .i64 j ∧ j ≤ g.length ∧ g.take j = h.take j ∧ Below w2.heap.size w2 wr) (fun i _ => g.length - (intOf i).toNat)
      case atStart => exact ⟨0, rfl, by omega, rfl, Below.refl _ _⟩
      case round =>
        obtain ⟨W0, rfl⟩ : ∃ V, V = wr := ⟨wr, rfl⟩
        obtain ⟨j, rfl, hj5, htk, hbr⟩ := hrel
        have HTK := Lib.hid htk
        have HBR := Lib.hid hbr
        have hbs : w2.heap.size ≤ W0.heap.size := hbr.size
        clear l0 l1 m0 m1 ll ml
        obtain ⟨⟨l0, l1⟩, ⟨m0, m1⟩, ll, ml⟩ := HCE.out _ hbr
        obtain ⟨hs1, hs2⟩ := HXX.out _ hbr
        clear htk hbr
        by_cases hlt : j < g.length
        · obtain ⟨bG, oG, x, hAG, hbG, hx, a1, a2, a3, a4⟩ := hs1.lk hlt
          subst hAG
          obtain ⟨bH, oH, y, hAH, hbH, hy, b1, b2, b3, b4⟩ := hs2.lk (k := j) (by have := HLN.out; omega)
          subst hAH
          have hjI : (j : Int) < (g.length : Int) := by omega
          have hj0 : (0 : Int) ≤ (j : Int) := by omega
          have HXY := Lib.hid (And.intro hx hy)
          clear hs1 hs2 hx hy
          obtain ⟨xa, xb, xc, xd⟩ := x
          obtain ⟨ya, yb, yc, yd⟩ := y
          simp only at a1 a2 a3 a4 b1 b2 b3 b4
          by_cases hxy : xa = ya ∧ xb = yb ∧ xc = yc ∧ xd = yd
          · obtain ⟨rfl, rfl, rfl, rfl⟩ := hxy
            go_upto_region 6 with fail
            refine ordB_below (.quiet 0 (.quiet 1 (.quiet 2 (.quiet 3 (.quiet 4 (.quiet 5 (.quiet 6 (.quiet 7 (.quiet 8 (.quiet 9 (.quiet 10 .done))))))))))) (by kernel_rfl) (by kernel_rfl) (by kernel_rfl) (fun _ _ _ _ _ h => h) ?_
            intro V0 hV0
            iterate 11 (first
              | (refine ordB_skip rfl rfl ?_; simp only [Act.put, List.setIfInBounds_toArray, List.set_cons_zero, List.set_cons_succ])
              | (refine ordB_take (v := ?_) rfl rfl ?_ ?_
                 rotate_left 1
                 focus (intro W hW; obtain ⟨hcW, hfW⟩ := bcell hW; (go_simp <;> with_reducible rfl))
                 simp only [Act.put, List.setIfInBounds_toArray, List.set_cons_zero, List.set_cons_succ]))
            refine ordB_nil ?_
            have HBV := Lib.hid (HBR.out.trans (hV0.mono hbs))
            clear hV0 l0 l1 m0 m1 ll ml a1 a2 a3 a4 b1 b2 b3 b4
            go_wp2_with fail
            go_roundw
            case rel => exact ⟨j + 1, by go_num, by omega, (by rw [List.take_add_one, List.take_add_one, HTK.out, HXY.out.1, HXY.out.2]), HBV.out⟩
            case measure => simp [intOf]; omega
          · have hE : ∀ {α : Type} (p q : α), (if xa = ya then if xb = yb then if xc = yc then if xd = yd then p else q else q else q else q) = q := fun p q => by
              by_cases h1 : xa = ya
              · by_cases h2 : xb = yb
                · by_cases h3 : xc = yc
                  · have h4 : ¬ xd = yd := fun h4 => hxy ⟨h1, h2, h3, h4⟩
                    simp [h1, h2, h3, h4]
                  · simp [h1, h2, h3]
                · simp [h1, h2]
              · simp [h1]
            have HNE := Lib.hid hxy
            clear hxy
            go_upto_region 6 with fail
            refine ordB_below (.quiet 0 (.quiet 1 (.quiet 2 (.quiet 3 (.quiet 4 (.quiet 5 (.quiet 6 (.quiet 7 (.quiet 8 (.quiet 9 (.quiet 10 .done))))))))))) (by kernel_rfl) (by kernel_rfl) (by kernel_rfl) (fun _ _ _ _ _ h => h) ?_
            intro V0 hV0
            iterate 11 (first
              | (refine ordB_skip rfl rfl ?_; simp only [Act.put, List.setIfInBounds_toArray, List.set_cons_zero, List.set_cons_succ])
              | (refine ordB_take (v := ?_) rfl rfl ?_ ?_
                 rotate_left 1
                 focus (intro W hW; obtain ⟨hcW, hfW⟩ := bcell hW; (go_simp <;> with_reducible rfl))
                 simp only [Act.put, List.setIfInBounds_toArray, List.set_cons_zero, List.set_cons_succ]))
            refine ordB_nil ?_
            have HBV := Lib.hid (HBR.out.trans (hV0.mono hbs))
            clear hV0 l0 l1 m0 m1 ll ml a1 a2 a3 a4 b1 b2 b3 b4 hE
            go_wp2_with fail
            go_ret
            have hne : ¬ (g = h) := fun hh => HNE.out (by have h1 := HXY.out.1; rw [hh] at h1; exact Lk.mk.inj (Option.some.inj (h1.symm.trans HXY.out.2)))
            have HD : R = false := HRF.out hne
            exact ⟨by rw [HD]; rfl, HB2.out.trans (HBV.out.mono HB2.out.size)⟩
        · obtain rfl : j = g.length := by omega
          have heq : g = h := by
            have := HTK.out
            rw [List.take_length, HLN.out, List.take_length] at this
            exact this
          have HD : Hid (R = true) := HRG.out heq
          clear heq hs1 hs2
          go_wp2_with fail
          go_ret
          exact ⟨by rw [HD.out]; rfl, HB2.out.trans (HBR.out.mono HB2.out.size)⟩
    · have hne : ¬ (g = h) := fun hh => hlen (by rw [hh])
      have HD : Hid (R = false) := HRF.out hne
      have hli : ((g.length : Int) == (h.length : Int)) = false := by simp; omega
      have hli2 : ¬ (g.length : Int) = (h.length : Int) := by omega
      clear hne
      go_wp2_with fail
      go_ret
      exact ⟨by rw [HD.out]; rfl, HB2.out⟩
  · have HD : Hid (R = false) := HRN.out hn
    go_wp2_with fail
    go_ret
    exact ⟨by rw [HD.out]; rfl, HB2.out⟩
end Go.Proofs.Ytfjkmgjjifhdkaa

/-
  The walks of layer 20: what Build answers, compared.
-/
namespace Go.Proofs.Ytfjkmgjjifhdkaa
open Go Go.RowKit

set_option maxRecDepth 100000 in
set_option maxHeartbeats 16000000 in
theorem same20_any (a b : Bu) (AG AL BG BL : Option Addr) (cG cL dG dL : Nat) (w : World) (ha : SlR 4 RLk w AG a.g.ls) (ha' : SlR 1 RInt w AL a.last) (hb : SlR 4 RLk w BG b.g.ls) (hb' : SlR 1 RInt w BL b.last) (hl : a.g.ls.length ≤ 65536) (hl' : a.last.length ≤ 65536) :
    Calls Try.prog 17 #[.agg #[.int .i64 a.g.n, .slice AG a.g.ls.length cG, .slice AL a.last.length cL, .int .i64 a.e], .agg #[.int .i64 b.g.n, .slice BG b.g.ls.length dG, .slice BL b.last.length dL, .int .i64 b.e]] w fun e w' => e = .returned (.bool (decide ((a.g.n = b.g.n ∧ a.g.ls = b.g.ls) ∧ a.last = b.last ∧ a.e = b.e))) ∧ Below w.heap.size w w' := by
  obtain ⟨R, hR⟩ : ∃ r, decide ((a.g.n = b.g.n ∧ a.g.ls = b.g.ls) ∧ a.last = b.last ∧ a.e = b.e) = r := ⟨_, rfl⟩
  obtain ⟨R1, hR1⟩ : ∃ r, decide (a.g.n = b.g.n ∧ a.g.ls = b.g.ls) = r := ⟨_, rfl⟩
  obtain ⟨R2, hR2⟩ : ∃ r, decide (a.last = b.last) = r := ⟨_, rfl⟩
  obtain ⟨R3, hR3⟩ : ∃ r, (a.e == b.e) = r := ⟨_, rfl⟩
  have HRR : Hid (R = (R1 && (R2 && R3))) := by
    show _ = _
    rw [← hR, ← hR1, ← hR2, ← hR3]
    by_cases h1 : a.g.n = b.g.n ∧ a.g.ls = b.g.ls <;> by_cases h2 : a.last = b.last <;> by_cases h3 : a.e = b.e <;> simp [h1, h2, h3]
  rw [hR]
  obtain ⟨w2, hw2⟩ : ∃ w2, (w.alloc (.cells #[.int .i64 a.g.n, .slice AG a.g.ls.length cG, .slice AL a.last.length cL, .int .i64 a.e] 45)).alloc (.cells #[.int .i64 b.g.n, .slice BG b.g.ls.length dG, .slice BL b.last.length dL, .int .i64 b.e] 45) = w2 := ⟨_, rfl⟩
  have hb2 : Below w.heap.size w w2 := by rw [← hw2]; exact nw _ (nw _ (Below.refl _ _))
  have hGB : Blk w2 w.heap.size 45 #[.int .i64 a.g.n, .slice AG a.g.ls.length cG, .slice AL a.last.length cL, .int .i64 a.e] := by rw [← hw2]; exact (Blk.new _ _ _).alloc _
  have hHB : Blk w2 (w.heap.size + 1) 45 #[.int .i64 b.g.n, .slice BG b.g.ls.length dG, .slice BL b.last.length dL, .int .i64 b.e] := by rw [← hw2]; exact Blk.new_ (by simp)
  have HW2 := Lib.hid hw2
  have HB2 := Lib.hid hb2
  have HCE : Hid (∀ W, Below w2.heap.size w2 W → (W.cell? ⟨w.heap.size, 0, none⟩ = some (.int .i64 a.g.n) ∧ W.cell? ⟨w.heap.size, 1, none⟩ = some (.slice AG a.g.ls.length cG) ∧ W.cell? ⟨w.heap.size, 2, none⟩ = some (.slice AL a.last.length cL) ∧ W.cell? ⟨w.heap.size, 3, none⟩ = some (.int .i64 a.e)) ∧ (W.cell? ⟨w.heap.size + 1, 0, none⟩ = some (.int .i64 b.g.n) ∧ W.cell? ⟨w.heap.size + 1, 1, none⟩ = some (.slice BG b.g.ls.length dG) ∧ W.cell? ⟨w.heap.size + 1, 2, none⟩ = some (.slice BL b.last.length dL) ∧ W.cell? ⟨w.heap.size + 1, 3, none⟩ = some (.int .i64 b.e)) ∧ w.heap.size < W.heap.size ∧ w.heap.size + 1 < W.heap.size) := fun W hW => by
    have e1 := hGB.below hW hGB.lt
    have e2 := hHB.below hW hHB.lt
    exact ⟨⟨by rw [e1.cell]; rfl, by rw [e1.cell]; rfl, by rw [e1.cell]; rfl, by rw [e1.cell]; rfl⟩, ⟨by rw [e2.cell]; rfl, by rw [e2.cell]; rfl, by rw [e2.cell]; rfl, by rw [e2.cell]; rfl⟩, e1.lt, e2.lt⟩
  have HSG := Lib.hid (samegraph_any a.g.n b.g.n AG BG a.g.ls b.g.ls cG dG w2 (ha.below keeps_lk hb2) (hb.below keeps_lk hb2) hl)
  have HIN : Hid (∀ W, Below w2.heap.size w2 W → Calls Try.prog 12 #[.slice AL a.last.length cL, .slice BL b.last.length dL] W (fun e w' => e = .returned (.bool R2) ∧ Below W.heap.size W w')) := fun W hW => by
    have hh := hb2.trans (hW.mono hb2.size)
    have := co_ints_any AL BL a.last b.last cL dL W (ha'.below keeps_int hh) (hb'.below keeps_int hh) hl'
    rwa [hR2] at this
  rw [hR1] at HSG
  clear hw2 hb2 hGB hHB ha ha' hb hb' hR hR1 hR2
  obtain ⟨⟨a0, a1, a2, a3⟩, ⟨b0, b1, b2, b3⟩, al, bl⟩ := HCE.out _ (Below.refl _ _)
  go_enter Try.func17, Try.ntmps17
  go_upto_region 1 with fail
  rw [HW2.out]
  cases R1
  · go_wp2_with (go_at_call 35; go_loud (refine HSG.out.mono ?_; rintro e w8 ⟨rfl, hb8⟩; clear a0 a1 a2 a3 b0 b1 b2 b3 al bl; obtain ⟨⟨a0, a1, a2, a3⟩, ⟨b0, b1, b2, b3⟩, al, bl⟩ := HCE.out _ hb8))
    go_ret
    exact ⟨by rw [HRR.out]; rfl, HB2.out.trans (hb8.mono HB2.out.size)⟩
  · cases R2
    · go_wp2_with (first | (go_at_call 35; go_loud (refine HSG.out.mono ?_; rintro e w8 ⟨rfl, hb8⟩; clear a0 a1 a2 a3 b0 b1 b2 b3 al bl; obtain ⟨⟨a0, a1, a2, a3⟩, ⟨b0, b1, b2, b3⟩, al, bl⟩ := HCE.out _ hb8)) | (go_at_call 12; go_loud (refine (HIN.out _ hb8).mono ?_; rintro e w9 ⟨rfl, hb9⟩; clear a0 a1 a2 a3 b0 b1 b2 b3 al bl; obtain ⟨⟨a0, a1, a2, a3⟩, ⟨b0, b1, b2, b3⟩, al, bl⟩ := HCE.out _ (bthen hb8 hb9))))
      go_ret
      exact ⟨by rw [HRR.out]; rfl, HB2.out.trans ((bthen hb8 hb9).mono HB2.out.size)⟩
    · go_wp2_with (first | (go_at_call 35; go_loud (refine HSG.out.mono ?_; rintro e w8 ⟨rfl, hb8⟩; clear a0 a1 a2 a3 b0 b1 b2 b3 al bl; obtain ⟨⟨a0, a1, a2, a3⟩, ⟨b0, b1, b2, b3⟩, al, bl⟩ := HCE.out _ hb8)) | (go_at_call 12; go_loud (refine (HIN.out _ hb8).mono ?_; rintro e w9 ⟨rfl, hb9⟩; clear a0 a1 a2 a3 b0 b1 b2 b3 al bl; obtain ⟨⟨a0, a1, a2, a3⟩, ⟨b0, b1, b2, b3⟩, al, bl⟩ := HCE.out _ (bthen hb8 hb9))))
      go_ret
      exact ⟨by rw [HRR.out]; rfl, HB2.out.trans ((bthen hb8 hb9).mono HB2.out.size)⟩
end Go.Proofs.Ytfjkmgjjifhdkaa
