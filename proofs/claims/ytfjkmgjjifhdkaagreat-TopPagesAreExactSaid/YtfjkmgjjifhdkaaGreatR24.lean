/-
  The walks of layer 16: Right, Check.
-/
import Derived.Test.YtfjkmgjjifhdkaaGreatR23
namespace Go.Proofs.YtfjkmgjjifhdkaaGreat
open Go Go.RowKit

set_option maxRecDepth 100000 in
set_option maxHeartbeats 4000000 in
theorem right_any (A : Option Addr) (c : Nat) (g : Gr) (B : Option Addr) (hs : List Int) (d : Nat) (w : World) (hx : SlR 4 RLk w A g.ls) (hl : g.ls.length ≤ maxLen) (hy : SlR 1 RInt w B hs) (hl2 : hs.length ≤ maxLen) :
    Calls Tryz.prog 55 #[.agg #[.int .i64 g.n, .slice A g.ls.length c], .slice B hs.length d] w fun e w' => e = .returned (.bool (grB g && decide (hs = potL g))) ∧ Below w.heap.size w w' := by
  obtain ⟨w1, hw1⟩ : ∃ w1, w.alloc (.cells #[.int .i64 g.n, .slice A g.ls.length c] 38) = w1 := ⟨_, rfl⟩
  have hb1 : Below w.heap.size w w1 := by rw [← hw1]; exact nw _ (Below.refl _ _)
  have hB1 : Blk w1 w.heap.size 38 #[.int .i64 g.n, .slice A g.ls.length c] := by rw [← hw1]; exact Blk.new _ _ _
  have HW1 := Lib.hid hw1
  have c0 := hB1.cell 0
  have c1 := hB1.cell 1
  have lb := hB1.lt
  simp at c0 c1
  have HPot := Lib.hid (pot_any A c g w1 (hx.below keeps_lk hb1) hl)
  have HY := Lib.hid (hy.below keeps_int hb1)
  have hpl : (potL g).length ≤ maxLen ∨ grB g = false := by
    cases hgr : grB g with
    | false => exact .inr rfl
    | true =>
      have := (grB_iff.1 hgr).n
      left
      unfold potL
      rw [potS_len]
      unfold maxLen
      omega
  clear hw1 hx hy
  cases hgr : grB g with
  | false =>
    rw [show potsOf g = ([], 150) by unfold potsOf; rw [hgr]; rfl] at HPot
    clear hgr hpl
    go_enter Tryz.func55, Tryz.ntmps55
    go_wp2_with (go_at_call 51; go_loud (rw [HW1.out]; refine HPot.out.mono ?_; rintro e w2 ⟨A2, c2, rfl, hs2, hb2, _⟩))
    go_ret
    exact ⟨rfl, bthen hb1 hb2⟩
  | true =>
    rw [show potsOf g = (potL g, 0) by unfold potsOf; rw [hgr]; rfl] at HPot
    have hpl' : (potL g).length ≤ maxLen := hpl.resolve_right (by rw [hgr]; simp)
    clear hgr hpl
    generalize potL g = ps at *
    go_enter Tryz.func55, Tryz.ntmps55
    go_wp2_with (first | (go_at_call 51; go_loud (rw [HW1.out]; refine HPot.out.mono ?_; rintro e w2 ⟨A2, c2, rfl, hs2, hb2, _⟩)) | (go_at_call 88; go_loud (refine (equal_any B A2 hs ps d c2 _ (HY.out.below keeps_int hb2) hs2 hl2 hpl').mono ?_; rintro e w3 ⟨rfl, hb3⟩)))
    go_ret
    exact ⟨ret_bool (by simp), bthen hb1 (bthen hb2 hb3)⟩

/-- What Check answers. -/
def checkAll (g : Gr) (hs : List Int) (l : List Can) (whole : Bool) : Int × Int :=
  if grB g = false then (0, 150) else if hs ≠ potL g then (-1, 160) else checkM g l whole
theorem findIdx_at {p : Can → Bool} : ∀ {L : List Can} {k : Nat} {x : Can}, (∀ c ∈ L.take k, p c = false) → L[k]? = some x → p x = true → L.findIdx? p = some k
  | [], k, x, _, h, _ => by simp at h
  | y :: L, 0, x, _, h, hp => by
    simp at h
    subst h
    rw [List.findIdx?_cons, hp]
    rfl
  | y :: L, k + 1, x, h0, h, hp => by
    have hy : p y = false := h0 y (by simp)
    rw [List.findIdx?_cons, hy]
    have := findIdx_at (L := L) (k := k) (fun c hc => h0 c (by simp [hc])) (by simpa using h) hp
    rw [this]
    rfl
theorem findIdx_no {p : Can → Bool} {L : List Can} (h : ∀ c ∈ L, p c = false) : L.findIdx? p = none := by
  rw [List.findIdx?_eq_none_iff]
  exact h
set_option maxRecDepth 100000 in
set_option maxHeartbeats 16000000 in
theorem check_any (A : Option Addr) (c : Nat) (g : Gr) (B : Option Addr) (hs : List Int) (d : Nat) (C : Option Addr) (l : List Can) (e : Nat) (whole : Bool) (w : World) (hx : SlR 4 RLk w A g.ls) (hl : g.ls.length ≤ maxLen)
    (hh : SlR 1 RInt w B hs) (hl1 : hs.length ≤ maxLen) (hy : SlR 2 RCan w C l) (hl2 : l.length ≤ 1000000) (hle : l.length ≤ e) :
    Calls Tryz.prog 15 #[.agg #[.int .i64 g.n, .slice A g.ls.length c], .slice B hs.length d, .agg #[.slice C l.length e, .bool whole]] w fun r w' => r = .returned (.tuple #[.int .i64 (checkAll g hs l whole).1, .int .i64 (checkAll g hs l whole).2]) ∧ Below w.heap.size w w' := by
  obtain ⟨w2, hw2⟩ : ∃ w2, (w.alloc (.cells #[.int .i64 g.n, .slice A g.ls.length c] 38)).alloc (.cells #[.slice C l.length e, .bool whole] 61) = w2 := ⟨_, rfl⟩
  have hb2 : Below w.heap.size w w2 := by rw [← hw2]; exact nw _ (nw _ (Below.refl _ _))
  have hG : Blk w2 w.heap.size 38 #[.int .i64 g.n, .slice A g.ls.length c] := by rw [← hw2]; exact (Blk.new _ _ _).alloc _
  have hP : Blk w2 (w.heap.size + 1) 61 #[.slice C l.length e, .bool whole] := by rw [← hw2]; exact Blk.new_ (by simp)
  have HW2 := Lib.hid hw2
  have HV : Hid (∀ W, Below w.heap.size w W → Calls Tryz.prog 33 #[.agg #[.int .i64 g.n, .slice A g.ls.length c]] W fun e w' => e = .returned (.bool (grB g)) ∧ Below W.heap.size W w') := fun W hW => valid_any A c g W (hx.below keeps_lk hW) hl
  have HRI : Hid (∀ W, Below w.heap.size w W → Calls Tryz.prog 55 #[.agg #[.int .i64 g.n, .slice A g.ls.length c], .slice B hs.length d] W fun e w' => e = .returned (.bool (grB g && decide (hs = potL g))) ∧ Below W.heap.size W w') := fun W hW => right_any A c g B hs d W (hx.below keeps_lk hW) hl (hh.below keeps_int hW) hl1
  obtain ⟨bP, hbP⟩ : ∃ b, w.heap.size + 1 = b := ⟨_, rfl⟩
  have HBP := Lib.hid hbP
  rw [hbP] at hP
  have hwP : w.heap.size < bP := by omega
  have HBOX : Hid (∀ W, Below w2.heap.size w2 W → W.cell? ⟨w.heap.size, 0, none⟩ = some (.int .i64 g.n) ∧ W.cell? ⟨w.heap.size, 1, none⟩ = some (.slice A g.ls.length c) ∧ W.cell? ⟨bP, 0, none⟩ = some (.slice C l.length e) ∧ W.cell? ⟨bP, 1, none⟩ = some (.bool whole)) := fun W hW => by
    have h := hG.below hW hG.lt
    have h' := hP.below hW hP.lt
    have h0 := h.cell 0
    have h1 := h.cell 1
    have h2 := h'.cell 0
    have h3 := h'.cell 1
    simp at h0 h1 h2 h3
    exact ⟨h0, h1, h2, h3⟩
  have hGl := hG.lt
  have hPl := hP.lt
  clear hw2 hbP hG hP
  obtain ⟨g0, g1, p0, p1⟩ := HBOX.out w2 (Below.refl _ _)
  cases hgr : grB g with
  | false =>
    have HR : Hid (checkAll g hs l whole = (0, 150)) := by show _ = _; unfold checkAll; rw [if_pos hgr]
    rw [hgr] at HV
    clear hgr
    go_enter Tryz.func15, Tryz.ntmps15
    go_upto_region 1 with fail
    rw [HW2.out, HBP.out]
    go_wp2_with (go_at_call 33; go_loud (refine (HV.out _ hb2).mono ?_; rintro e w3 ⟨rfl, hb3⟩))
    go_ret2
    exact ⟨by rw [HR.out]; rfl, bthen hb2 hb3⟩
  | true =>
    have hg := grB_iff.1 hgr
    by_cases hhs : hs = potL g
    · have HR : Hid (checkAll g hs l whole = checkM g l whole) := by show _ = _; unfold checkAll; rw [if_neg (by rw [hgr]; simp), if_neg (by simpa using hhs)]
      rw [hgr] at HV HRI
      rw [decide_eq_true hhs] at HRI
      subst hhs
      have HORD : Hid (∀ W, Below w.heap.size w W → Calls Tryz.prog 56 #[.agg #[.int .i64 g.n, .slice A g.ls.length c], .slice C l.length e] W fun e w' => e = .returned (.int .i64 (ordN g none l : Nat)) ∧ Below W.heap.size W w') := fun W hW => ordered_any A c g C l e W (hx.below keeps_lk hW) hl hg (hy.below keeps_can hW) (by unfold maxLen; omega)
      have hnl := ordN_le g l none
      have hsp := ordN_spec g l none
      have HMM : Hid (checkM g l whole = match (if (leastM g (l.take (ordN g none l))).there = true then (l.take (ordN g none l)).findIdx? (befB (leastM g (l.take (ordN g none l)))) else none) with
          | some i => ((i : Int), 160)
          | none => if ordN g none l < l.length ∨ whole = (leastM g (l.take (ordN g none l))).there then (((ordN g none l : Nat) : Int), 160) else (((ordN g none l : Nat) : Int), 0)) := rfl
      have HCN : Hid (∀ x ∈ l.take (ordN g none l), IsCan g x) := fun x hx => (hsp.2.1 x hx).1
      generalize ordN g none l = n at *
      clear hsp
      have htl : (l.take n).length = n := by rw [List.length_take]; omega
      have hyt : SlR 2 RCan w C (l.take n) := slr_pre hy n
      have HYT := Lib.hid hyt
      have HLE : Hid (∀ W, Below w.heap.size w W → Calls Tryz.prog 57 #[.agg #[.int .i64 g.n, .slice A g.ls.length c], .slice B (potL g).length d, .slice C n n] W (IsOth (leastM g (l.take n)) W) ∧ Calls Tryz.prog 57 #[.agg #[.int .i64 g.n, .slice A g.ls.length c], .slice B (potL g).length d, .slice C n e] W (IsOth (leastM g (l.take n)) W)) := fun W hW => by
        have h1 := least_any A c g B d C (l.take n) n W (hx.below keeps_lk hW) hl hg (hh.below keeps_int hW) (hyt.below keeps_can hW) (by omega) HCN.out
        have h2 := least_any A c g B d C (l.take n) e W (hx.below keeps_lk hW) hl hg (hh.below keeps_int hW) (hyt.below keeps_can hW) (by omega) HCN.out
        rw [htl] at h1 h2
        exact ⟨h1, h2⟩
      generalize leastM g (l.take n) = om at *
      have HTL := Lib.hid htl
      clear hgr hg htl hyt hx hh
      go_enter Tryz.func15, Tryz.ntmps15
      go_upto_region 1 with fail
      rw [HW2.out, HBP.out]
      go_upto_region 3 with (go_at_call 33; go_loud (refine (HV.out _ hb2).mono ?_; rintro e w3 ⟨rfl, hb3⟩))
      obtain ⟨g0, g1, p0, p1⟩ := HBOX.out w3 hb3
      have hbw3 := bthen hb2 hb3
      go_upto_region 5 with (go_at_call 55; go_loud (refine (HRI.out _ hbw3).mono ?_; rintro e w4 ⟨rfl, hb4⟩))
      obtain ⟨g0, g1, p0, p1⟩ := HBOX.out w4 (bthen hb3 hb4)
      have hbw4 := bthen hbw3 hb4
      go_upto_region 6 with (go_at_call 56; go_loud (refine (HORD.out _ hbw4).mono ?_; rintro e w5 ⟨rfl, hb5⟩))
      have hb25 := bthen (bthen hb3 hb4) hb5
      obtain ⟨g0, g1, p0, p1⟩ := HBOX.out w5 hb25
      have hbw5 := bthen hbw4 hb5
      have hz1 : w.heap.size < w5.heap.size := by have := hb25.size; omega
      have hz2 : bP < w5.heap.size := by have := hb25.size; omega
      have hne1 : n ≤ e := by omega
      have HLE5 : Hid (∀ W, Below w5.heap.size w5 W → Calls Tryz.prog 57 #[.agg #[.int .i64 g.n, .slice A g.ls.length c], .slice B (potL g).length d, .slice C n e] W (IsOth om W)) := fun W hW => (HLE.out W (bthen hbw5 hW)).2
      clear hb3 hb4 hb5 hbw3 hbw4 HLE HV HRI HORD
      go_cut [9] (fun s9 W => ∃ go A9 c9, s9 = .pointer (some ⟨go, 0, none⟩) ∧ Blk W go 131 #[.bool om.there, .int .i64 om.cost, .slice A9 om.links.length c9] ∧ SlR 1 RInt W A9 om.links ∧ om.links.length ≤ 2000 ∧ Below w5.heap.size w5 W)
      case first =>
        refine ordB_below (.quiet 0 (.quiet 1 (.quiet 2 (.quiet 3 (.quiet 4 (.quiet 5 (.fork 6 7 (.only 7 (.only 8 .done)) (.only 6 (.only 8 .done))))))))) (by kernel_rfl) (by kernel_rfl) (by kernel_rfl) (fun _ _ _ _ _ h => h) ?_
        intro V0 hV0
        iterate 6 (first
          | (refine ordB_skip rfl rfl ?_; simp only [Act.put, List.setIfInBounds_toArray, List.set_cons_zero, List.set_cons_succ])
          | (refine ordB_take (v := ?_) rfl rfl ?_ ?_
             rotate_left 1
             focus (intro W hW; obtain ⟨hcW, hfW⟩ := bcell hW; (go_simp <;> with_reducible rfl))
             simp only [Act.put, List.setIfInBounds_toArray, List.set_cons_zero, List.set_cons_succ]))
        refine ordB_fork (opB_call rfl rfl (fun K hK => ?_)) (opB_call rfl rfl (fun K hK => ?_))
        · go_simp
          go_at_call 57
          refine (HLE5.out V0 hV0).mono ?_
          rintro e V0_1 ⟨A9, c9, rfl, hs9, hn9, hb9, ha9⟩
          refine hK.out _ _ (hV0.trans (hb9.mono hV0.size)) (fun hV0_1 => ?_)
          refine ordB_only (opB_call rfl rfl (fun K hK => ?_))
          go_simp
          refine hK.out _ _ (hV0_1.alloc hV0_1.size _) (fun hV0_1_2 => ?_)
          have bo := Blk.new V0_1 131 #[.bool false, .int .i64 0, .slice none 0 0]
          have bob := nw (.cells #[.bool false, .int .i64 0, .slice none 0 0] 131) (Below.refl V0_1.heap.size V0_1)
          have bog := hV0_1.size
          obtain ⟨V0_1_2, qqV0_1_2⟩ : ∃ W', V0_1.alloc (.cells #[.bool false, .int .i64 0, .slice none 0 0] 131) = W' := ⟨_, rfl⟩
          rw [qqV0_1_2] at hV0_1_2 bo bob ⊢
          have bolt := bo.lt
          clear qqV0_1_2
          refine ordB_only (opB_call rfl rfl (fun K hK => ?_))
          have boc0 := bo.cell 0
          have bof0 := bo.frozen 0
          have boc1 := bo.cell 1
          have bof1 := bo.frozen 1
          have boc2 := bo.cell 2
          have bof2 := bo.frozen 2
          simp at boc0 boc1 boc2
          go_simp
          refine hK.out _ _ (((hV0_1_2.setCell (p := ⟨V0_1.heap.size, 0, none⟩) bog _).setCell (p := ⟨V0_1.heap.size, 1, none⟩) bog _).setCell (p := ⟨V0_1.heap.size, 2, none⟩) bog _) (fun hV0_1_2_3 => ?_)
          have bo := (((bo.set_ 0 (.bool om.there)).set_ 1 (.int .i64 om.cost)).set_ 2 (.slice A9 om.links.length c9))
          have HSF : SlR 1 RInt (((V0_1_2.setCell ⟨V0_1.heap.size, 0, none⟩ (.bool om.there)).setCell ⟨V0_1.heap.size, 1, none⟩ (.int .i64 om.cost)).setCell ⟨V0_1.heap.size, 2, none⟩ (.slice A9 om.links.length c9)) A9 om.links := by
            first
              | exact hs9.below keeps_int (((bob.setCell (p := ⟨V0_1.heap.size, 0, none⟩) (Nat.le_refl _) _).setCell (p := ⟨V0_1.heap.size, 1, none⟩) (Nat.le_refl _) _).setCell (p := ⟨V0_1.heap.size, 2, none⟩) (Nat.le_refl _) _)
              | (have hfar : ∀ b o, A9 = some ⟨b, o, none⟩ → b ≠ V0_1.heap.size := fun b o h => by have := ha9 b o h; omega
                 exact slr_far (slr_far (slr_far hs9 (p := ⟨V0_1.heap.size, 0, none⟩) hfar _) (p := ⟨V0_1.heap.size, 1, none⟩) hfar _) (p := ⟨V0_1.heap.size, 2, none⟩) hfar _)
          obtain ⟨V0_1_2_3, qqV0_1_2_3⟩ : ∃ W', (((V0_1_2.setCell ⟨V0_1.heap.size, 0, none⟩ (.bool om.there)).setCell ⟨V0_1.heap.size, 1, none⟩ (.int .i64 om.cost)).setCell ⟨V0_1.heap.size, 2, none⟩ (.slice A9 om.links.length c9)) = W' := ⟨_, rfl⟩
          rw [qqV0_1_2_3] at hV0_1_2_3 bo HSF ⊢
          clear qqV0_1_2_3 boc0 bof0 boc1 bof1 boc2 bof2
          refine ordB_nil ?_
          go_wp2_with fail
          go_meet
          exact ⟨_, A9, c9, rfl, bo, HSF, hn9, hV0_1_2_3⟩
        · go_simp
          refine hK.out _ _ (hV0.alloc hV0.size _) (fun hV0_1 => ?_)
          have bo := Blk.new V0 131 #[.bool false, .int .i64 0, .slice none 0 0]
          have bob := nw (.cells #[.bool false, .int .i64 0, .slice none 0 0] 131) (Below.refl V0.heap.size V0)
          have bog := hV0.size
          obtain ⟨V0_1, qqV0_1⟩ : ∃ W', V0.alloc (.cells #[.bool false, .int .i64 0, .slice none 0 0] 131) = W' := ⟨_, rfl⟩
          rw [qqV0_1] at hV0_1 bo bob ⊢
          have bolt := bo.lt
          clear qqV0_1
          refine ordB_only (opB_call rfl rfl (fun K hK => ?_))
          go_simp
          go_at_call 57
          refine (HLE5.out V0_1 hV0_1).mono ?_
          rintro e V0_1_2 ⟨A9, c9, rfl, hs9, hn9, hb9, ha9⟩
          refine hK.out _ _ (hV0_1.trans (hb9.mono hV0_1.size)) (fun hV0_1_2 => ?_)
          have bo := bo.below hb9 bo.lt
          refine ordB_only (opB_call rfl rfl (fun K hK => ?_))
          have boc0 := bo.cell 0
          have bof0 := bo.frozen 0
          have boc1 := bo.cell 1
          have bof1 := bo.frozen 1
          have boc2 := bo.cell 2
          have bof2 := bo.frozen 2
          simp at boc0 boc1 boc2
          go_simp
          refine hK.out _ _ (((hV0_1_2.setCell (p := ⟨V0.heap.size, 0, none⟩) bog _).setCell (p := ⟨V0.heap.size, 1, none⟩) bog _).setCell (p := ⟨V0.heap.size, 2, none⟩) bog _) (fun hV0_1_2_3 => ?_)
          have bo := (((bo.set_ 0 (.bool om.there)).set_ 1 (.int .i64 om.cost)).set_ 2 (.slice A9 om.links.length c9))
          have HSF : SlR 1 RInt (((V0_1_2.setCell ⟨V0.heap.size, 0, none⟩ (.bool om.there)).setCell ⟨V0.heap.size, 1, none⟩ (.int .i64 om.cost)).setCell ⟨V0.heap.size, 2, none⟩ (.slice A9 om.links.length c9)) A9 om.links := by
            first
              | exact hs9.below keeps_int (((bob.setCell (p := ⟨V0.heap.size, 0, none⟩) (Nat.le_refl _) _).setCell (p := ⟨V0.heap.size, 1, none⟩) (Nat.le_refl _) _).setCell (p := ⟨V0.heap.size, 2, none⟩) (Nat.le_refl _) _)
              | (have hfar : ∀ b o, A9 = some ⟨b, o, none⟩ → b ≠ V0.heap.size := fun b o h => by have := ha9 b o h; omega
                 exact slr_far (slr_far (slr_far hs9 (p := ⟨V0.heap.size, 0, none⟩) hfar _) (p := ⟨V0.heap.size, 1, none⟩) hfar _) (p := ⟨V0.heap.size, 2, none⟩) hfar _)
          obtain ⟨V0_1_2_3, qqV0_1_2_3⟩ : ∃ W', (((V0_1_2.setCell ⟨V0.heap.size, 0, none⟩ (.bool om.there)).setCell ⟨V0.heap.size, 1, none⟩ (.int .i64 om.cost)).setCell ⟨V0.heap.size, 2, none⟩ (.slice A9 om.links.length c9)) = W' := ⟨_, rfl⟩
          rw [qqV0_1_2_3] at hV0_1_2_3 bo HSF ⊢
          clear qqV0_1_2_3 boc0 bof0 boc1 bof1 boc2 bof2
          refine ordB_nil ?_
          go_wp2_with fail
          go_meet
          exact ⟨_, A9, c9, rfl, bo, HSF, hn9, hV0_1_2_3⟩
      case rest =>
        obtain ⟨w6, rfl⟩ : ∃ W, W = wc := ⟨wc, rfl⟩
        obtain ⟨go, A9, c9, rfl, hO, hs9, hn9, hb6⟩ := hcut
        have hb26 := bthen hb25 hb6
        have hbw6 := bthen hbw5 hb6
        obtain ⟨g0, g1, p0, p1⟩ := HBOX.out w6 hb26
        have o0 := hO.cell 0
        have hOl := hO.lt
        simp at o0
        have HS9 := Lib.hid hs9
        clear hs9 hb6 hb25 hbw5 hb2
        cases hth : om.there with
        | false =>
          have HFN : Hid (checkM g l whole = if n < l.length ∨ whole = om.there then (((n : Nat) : Int), 160) else (((n : Nat) : Int), 0)) := by
            show _ = _
            rw [HMM.out, if_neg (by rw [hth]; simp)]
          rw [hth] at o0
          rw [hth] at HFN hO
          clear hth
          go_upto_region 14 with fail
          obtain ⟨g0, g1, p0, p1⟩ := HBOX.out w6 hb26
          have o0 := hO.cell 0
          simp at o0
          have hEE := Lib.hid (hbw6)
          by_cases hnlt : n < l.length
          · have hz1 : decide (n < l.length) = true := decide_eq_true hnlt
            have HF2 : Hid (checkM g l whole = (((n : Nat) : Int), 160)) := by show _ = _; rw [HFN.out, if_pos (.inl hnlt)]
            clear hnlt
            go_wp2_with fail
            go_ret2
            exact ⟨by rw [HR.out, HF2.out]; rfl, hEE.out⟩
          · have hz1 : decide (n < l.length) = false := decide_eq_false hnlt
            by_cases hwt : whole = false
            · have HF2 : Hid (checkM g l whole = (((n : Nat) : Int), 160)) := by show _ = _; rw [HFN.out, if_pos (.inr hwt)]
              have hz2 : (whole == false) = true := by simp [hwt]
              clear hnlt hwt
              go_wp2_with fail
              go_ret2
              exact ⟨by rw [HR.out, HF2.out]; rfl, hEE.out⟩
            · have HF2 : Hid (checkM g l whole = (((n : Nat) : Int), 0)) := by show _ = _; rw [HFN.out, if_neg (fun h => h.elim hnlt hwt)]
              have hz2 : (whole == false) = false := by simp [hwt]
              clear hnlt hwt
              go_wp2_with fail
              go_ret2
              exact ⟨by rw [HR.out, HF2.out]; rfl, hEE.out⟩
        | true =>
          rw [hth] at o0
          rw [if_pos hth] at HMM
          have HTH := Lib.hid hth
          clear hth
          have hnw : n ≤ 1000000 := by omega
          have hnC : (n : Int) ≤ (e : Int) := by omega
          go_upto_region 8 with fail
          go_wp2_with fail
          go_loopw [37] (fun i wr => ∃ k : Nat, k ≤ n ∧ i = .int .i64 k ∧ Hid (∀ c ∈ (l.take n).take k, befB om c = false) ∧ Below w6.heap.size w6 wr) (fun i _ => n - (intOf i).toNat)
          case atStart => exact ⟨0, by omega, rfl, (by show ∀ c ∈ (l.take n).take 0, _; simp), Below.refl _ _⟩
          case round =>
            obtain ⟨k, hk, rfl, HBF, hbr⟩ := hrel
            by_cases hlt : k < n
            · have hbw := bthen hbw6 hbr
              obtain ⟨b, off, x, A', cc, rfl, hbb, hxx, e0, e1, hsx, hxc, hxm⟩ := (HYT.out.below keeps_can hbw).can (k := k) (by rw [HTL.out]; exact hlt)
              have HXX := Lib.hid hxx
              have hOr := hO.below hbr hOl
              have HX9 := Lib.hid (HS9.out.below keeps_int hbr)
              obtain ⟨W2, hW2⟩ : ∃ W, wr.alloc (.cells #[.slice A' x.links.length cc, .int .i64 x.cost] 42) = W := ⟨_, rfl⟩
              have hb2 : Below wr.heap.size wr W2 := by rw [← hW2]; exact nw _ (Below.refl _ _)
              have hC2 : Blk W2 wr.heap.size 42 #[.slice A' x.links.length cc, .int .i64 x.cost] := by rw [← hW2]; exact Blk.new _ _ _
              have HW2' := Lib.hid hW2
              have hO2 := hOr.below hb2 hOr.lt
              have q0 := hC2.cell 0
              have q1 := hC2.cell 1
              have u0 := hO2.cell 0
              have u1 := hO2.cell 1
              have u2 := hO2.cell 2
              simp at q0 q1 u0 u1 u2
              have HBE := Lib.hid (before_any om A9 A' x c9 cc W2 (HX9.out.below keeps_int hb2) (hsx.below keeps_int hb2) (by unfold maxLen; omega) (by omega))
              have hbw2 := bthen hbw hb2
              have hbr2 := bthen hbr hb2
              have HBW2 := Lib.hid hbw2
              have HBR2 := Lib.hid hbr2
              have hnk : (k : Int) < (n : Int) := by omega
              clear hW2 hxx hsx hb2 hOr hbw hbr hO2 hC2 hbw2 hbr2
              go_upto_region 11 with fail
              rw [HW2'.out]
              obtain ⟨gc, hgc⟩ : ∃ b, wr.heap.size = b := ⟨_, rfl⟩
              rw [hgc] at q0 q1 ⊢
              rw [HTH.out] at u0
              rw [HTH.out] at HBE
              cases hbf : befB om x with
              | true =>
                have HF2 : Hid (checkM g l whole = (((k : Nat) : Int), 160)) := by
                  show _ = _
                  rw [HMM.out, findIdx_at HBF.out HXX.out hbf]
                rw [hbf] at HBE
                clear hbf hgc
                go_wp2_with (go_at_call 58; go_loud (refine HBE.out.mono ?_; rintro e w7 ⟨rfl, hb7⟩))
                go_ret2
                exact ⟨by rw [HR.out, HF2.out]; rfl, bthen HBW2.out hb7⟩
              | false =>
                have HN : Hid (∀ c ∈ (l.take n).take (k + 1), befB om c = false) := by
                  show ∀ c ∈ _, _
                  rw [take_succ_of HXX.out]
                  intro c hc
                  rcases List.mem_append.1 hc with hc | hc
                  · exact HBF.out c hc
                  · obtain rfl := List.mem_singleton.1 hc
                    exact hbf
                rw [hbf] at HBE
                clear hbf hgc
                go_wp2_with (go_at_call 58; go_loud (refine HBE.out.mono ?_; rintro e w7 ⟨rfl, hb7⟩))
                go_roundw
                case rel => exact ⟨k + 1, by omega, by go_num, HN, bthen HBR2.out hb7⟩
                case measure => simp [intOf]; omega
            · obtain rfl : n = k := by omega
              have HFN : Hid (checkM g l whole = if n < l.length ∨ whole = om.there then (((n : Nat) : Int), 160) else (((n : Nat) : Int), 0)) := by
                show _ = _
                have h1 := HBF.out
                rw [List.take_of_length_le (by rw [HTL.out]; exact Nat.le_refl _)] at h1
                rw [HMM.out, findIdx_no h1]
              have hO := hO.below hbr hOl
              rw [HTH.out] at HFN hO
              go_upto_region 14 with fail
              obtain ⟨g0, g1, p0, p1⟩ := HBOX.out wr (bthen hb26 hbr)
              have o0 := hO.cell 0
              simp at o0
              have hEE := Lib.hid (bthen hbw6 hbr)
              by_cases hnlt : n < l.length
              · have hz1 : decide (n < l.length) = true := decide_eq_true hnlt
                have HF2 : Hid (checkM g l whole = (((n : Nat) : Int), 160)) := by show _ = _; rw [HFN.out, if_pos (.inl hnlt)]
                clear hnlt
                go_wp2_with fail
                go_ret2
                exact ⟨by rw [HR.out, HF2.out]; rfl, hEE.out⟩
              · have hz1 : decide (n < l.length) = false := decide_eq_false hnlt
                by_cases hwt : whole = true
                · have HF2 : Hid (checkM g l whole = (((n : Nat) : Int), 160)) := by show _ = _; rw [HFN.out, if_pos (.inr hwt)]
                  have hz2 : (whole == true) = true := by simp [hwt]
                  clear hnlt hwt
                  go_wp2_with fail
                  go_ret2
                  exact ⟨by rw [HR.out, HF2.out]; rfl, hEE.out⟩
                · have HF2 : Hid (checkM g l whole = (((n : Nat) : Int), 0)) := by show _ = _; rw [HFN.out, if_neg (fun h => h.elim hnlt hwt)]
                  have hz2 : (whole == true) = false := by simp [hwt]
                  clear hnlt hwt
                  go_wp2_with fail
                  go_ret2
                  exact ⟨by rw [HR.out, HF2.out]; rfl, hEE.out⟩
    · have HR : Hid (checkAll g hs l whole = (-1, 160)) := by show _ = _; unfold checkAll; rw [if_neg (by rw [hgr]; simp), if_pos hhs]
      rw [hgr] at HV HRI
      rw [decide_eq_false hhs] at HRI
      clear hgr hhs hg
      go_enter Tryz.func15, Tryz.ntmps15
      go_upto_region 1 with fail
      rw [HW2.out, HBP.out]
      go_upto_region 3 with (go_at_call 33; go_loud (refine (HV.out _ hb2).mono ?_; rintro e w3 ⟨rfl, hb3⟩))
      obtain ⟨g0, g1, p0, p1⟩ := HBOX.out w3 hb3
      have hbw3 := bthen hb2 hb3
      go_wp2_with (go_at_call 55; go_loud (refine (HRI.out _ hbw3).mono ?_; rintro e w4 ⟨rfl, hb4⟩))
      go_ret2
      exact ⟨by rw [HR.out]; rfl, bthen hbw3 hb4⟩
end Go.Proofs.YtfjkmgjjifhdkaaGreat
