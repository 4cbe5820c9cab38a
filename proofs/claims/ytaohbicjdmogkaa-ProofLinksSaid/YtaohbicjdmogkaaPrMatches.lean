/-
  The law ProofMatchesReference: for all inputs it returns true.
-/
import Derived.Test.YtaohbicjdmogkaaGrWalkN
import Derived.Test.YtaohbicjdmogkaaGrWalkD
import Derived.Test.YtaohbicjdmogkaaGrWaysB
import Derived.Test.YtaohbicjdmogkaaGrWalkE
import Derived.Test.YtaohbicjdmogkaaOrdV
import Derived.Test.YtaohbicjdmogkaaGrFirst
import Derived.Deep.DeepCutAuto
namespace Go.Proofs.Ytaohbicjdmogkaa
open Go Go.RowKit

theorem one_lk {ls : List Lk} {u : Value} (hu : u ∈ ls.flatMap encLk) : u.oneCell' = true := by
  obtain ⟨y, _, hy⟩ := List.mem_flatMap.1 hu
  simp [encLk] at hy
  rcases hy with rfl | rfl | rfl | rfl <;> rfl
/-- Setting one field of one element. -/
theorem flat_set {α : Type} {enc : α → List Value} {s : Nat} (hl : ∀ x, (enc x).length = s) (j : Nat) (hj : j < s) (u : Value) (y : α) : ∀ (l : List α) (k : Nat) (x : α), l[k]? = some x → enc y = (enc x).set j u → (l.flatMap enc).set (s * k + j) u = (l.set k y).flatMap enc
  | [], k, x, h, _ => by simp at h
  | a :: l, 0, x, h, he => by
    simp at h
    subst h
    rw [List.flatMap_cons, List.set_cons_zero, List.flatMap_cons, he, List.set_append_left _ _ (by rw [hl]; omega)]
    simp
  | a :: l, k + 1, x, h, he => by
    rw [List.flatMap_cons, List.set_cons_succ, List.flatMap_cons, List.set_append_right _ _ (by rw [hl, Nat.mul_succ]; omega), hl,
      show s * (k + 1) + j - s = s * k + j by rw [Nat.mul_succ]; omega, flat_set hl j hj u y l k x (by simpa using h) he]
theorem flat_get {α : Type} {enc : α → List Value} {s : Nat} (hl : ∀ x, (enc x).length = s) (j : Nat) (hj : j < s) : ∀ (l : List α) (k : Nat) (x : α), l[k]? = some x → (l.flatMap enc)[s * k + j]? = (enc x)[j]?
  | [], k, x, h => by simp at h
  | a :: l, 0, x, h => by
    simp at h
    subst h
    rw [List.flatMap_cons, List.getElem?_append_left (by rw [hl]; omega)]
    simp
  | a :: l, k + 1, x, h => by
    rw [List.flatMap_cons, List.getElem?_append_right (by rw [hl, Nat.mul_succ]; omega), hl,
      show s * (k + 1) + j - s = s * k + j by rw [Nat.mul_succ]; omega, flat_get hl j hj l k x (by simpa using h)]
theorem pots_right (g : Gr) : (grB g && decide ((potsOf g).1 = potL g)) = decide ((potsOf g).2 = 0) := by
  unfold potsOf
  cases h : grB g <;> simp
theorem pots_len {g : Gr} (h : g.n ≤ 2000) : (potsOf g).1.length ≤ 2000 := by
  unfold potsOf
  split
  · rename_i hb
    have := potL_len (grB_iff.1 hb)
    dsimp only
    omega
  · simp

set_option maxRecDepth 100000 in
set_option maxHeartbeats 16000000 in
theorem proofMatches_any (A : Option Addr) (l : List T3) (c : Nat) (x : Int) (B1 : Option Addr) (l1 : List Int) (c1 : Nat) (pa pb pc : Int) (w : World) (hs : SlR 3 RT3 w A l) (hl : l.length ≤ maxLen) (hok : ∀ p ∈ l, T3OK p) (hx : 0 ≤ x ∧ x ≤ 255)
    (hsh : SlR 1 RInt w B1 l1) (hlh : l1.length ≤ c1) (hch : c1 ≤ maxLen) (hpa : -128 ≤ pa ∧ pa ≤ 127) (hpb : -128 ≤ pb ∧ pb ≤ 127) (hpc : -128 ≤ pc ∧ pc ≤ 127) :
    Calls Try.prog 3 #[.agg #[.int .u8 x, .slice A l.length c], .slice B1 l1.length c1, .agg #[.int .i8 pa, .int .i8 pb, .int .i8 pc]] w fun e w' => e = .returned (.bool true) ∧ Below w.heap.size w w' := by
  obtain ⟨i0, hi, hz0, hz1, hz2⟩ := info_parts link_info
  have _ := hpa
  have hlm1 : l1.length ≤ maxLen := by omega
  by_cases h8 : (8 : Int) < (l1.length : Int)
  · obtain ⟨w1, hw1⟩ : ∃ w1, ((w.alloc (.cells #[.int .u8 x, .slice A l.length c] 24)).alloc (.cells #[.int .i8 pa, .int .i8 pb, .int .i8 pc] 27)) = w1 := ⟨_, rfl⟩
    have hb1 : Below w.heap.size w w1 := by rw [← hw1]; exact nw _ (nw _ (Below.refl _ _))
    have HW1 := Lib.hid hw1
    clear hw1
    go_enter Try.func3, Try.ntmps3
    go_upto_region 1 with fail
    rw [HW1.out]
    go_upto_region 2 with (go_at_call 8; go_loud (refine (sanity_any _).mono ?_; rintro e w2 ⟨rfl, hb2⟩))
    have hbw2 := bthen hb1 hb2
    go_wp2_with fail
    go_ret
    exact ⟨rfl, hbw2⟩
  obtain ⟨w1, hw1⟩ : ∃ w1, ((w.alloc (.cells #[.int .u8 x, .slice A l.length c] 24)).alloc (.cells #[.int .i8 pa, .int .i8 pb, .int .i8 pc] 27)) = w1 := ⟨_, rfl⟩
  have hb1 : Below w.heap.size w w1 := by rw [← hw1]; exact nw _ (nw _ (Below.refl _ _))
  have hX0 : Blk w1 (w.heap.size) 24 #[.int .u8 x, .slice A l.length c] := by rw [← hw1]; exact (Blk.new _ _ _).alloc _
  have hX1 : Blk w1 (w.heap.size + 1) 27 #[.int .i8 pa, .int .i8 pb, .int .i8 pc] := by rw [← hw1]; exact Blk.new_ (by simp)
  have HW1 := Lib.hid hw1
  have HMD : Hid (∀ W, Below w.heap.size w W → Calls Try.prog 9 #[.agg #[.int .u8 x, .slice A l.length c]] W fun e w' => ∃ A' c', e = .returned (.agg #[.int .i64 (madeG x l).n, .slice A' (madeG x l).ls.length c']) ∧ (madeG x l).ls.length ≤ c' ∧ c' ≤ maxLen ∧ SlR 4 RLk w' A' (madeG x l).ls ∧ Below W.heap.size W w') :=
    fun W hW => made_any A l c x W (hs.below keeps_t3 hW) hl hx hok
  have hg : GrOK (madeG x l) := madeG_ok hok
  have h14 : (madeG x l).ls.length ≤ 14 := madeG_len x l
  have hn7 : 1 ≤ (madeG x l).n ∧ (madeG x l).n ≤ 7 := madeG_n x l
  generalize madeG x l = g at *
  obtain ⟨N, hN⟩ : ∃ N : Nat, g.n = (N : Int) := ⟨g.n.toNat, by omega⟩
  rw [hN] at HMD
  have HN := Lib.hid hN
  have HG := Lib.hid hg
  have hN1 : 1 ≤ N := by omega
  have hN7 : N ≤ 7 := by omega
  have hlt1 := hX0.lt
  clear hw1 hs hok hN hg hn7
  have hbx0 := hX0.cell 0
  have hbx1 := hX0.cell 1
  simp at hbx0 hbx1
  go_enter Try.func3, Try.ntmps3
  go_upto_region 1 with fail
  rw [HW1.out]
  go_upto_region 2 with (go_at_call 8; go_loud (refine (sanity_any _).mono ?_; rintro e w2 ⟨rfl, hb2⟩))
  have hX0 := hX0.below hb2 hX0.lt
  have hX1 := hX1.below hb2 hX1.lt
  have hbx0 := hX0.cell 0
  have hbx1 := hX0.cell 1
  simp at hbx0 hbx1
  have hbw2 := bthen hb1 hb2
  go_upto_region 5 with (go_at_call 9; go_loud (refine (HMD.out _ hbw2).mono ?_; rintro e w3 ⟨A3, c3, rfl, hc3, hcm3, hs3, hb3⟩))
  obtain ⟨W, hW⟩ : ∃ W, w3.alloc (.cells #[.int .i64 (N : Int), .slice A3 g.ls.length c3] 31) = W := ⟨_, rfl⟩
  have hb4 : Below w3.heap.size w3 W := by rw [← hW]; exact nw _ (Below.refl _ _)
  have hGB : Blk W w3.heap.size 31 #[.int .i64 (N : Int), .slice A3 g.ls.length c3] := by rw [← hW]; exact Blk.new _ _ _
  rw [hW]
  obtain ⟨bG, hbG⟩ : ∃ b, w3.heap.size = b := ⟨_, rfl⟩
  have hb34 := bthen hb3 hb4
  have hX0 := hX0.below hb34 hX0.lt
  have hX1 := hX1.below hb34 hX1.lt
  have hbw := bthen hbw2 hb34
  have hls := hs3.below keeps_lk hb4
  have hwG : w.heap.size ≤ bG := by have := hbw2.size; have := hb3.size; omega
  rw [hbG] at hGB ⊢
  have hlm : g.ls.length ≤ maxLen := by unfold maxLen; omega
  clear hbx0 hbx1 hW hbG hb4 hb34 hbw2 hb2 hb3 hs3 hb1 HMD HW1

  have hgn : g.n = (N : Int) := HN.out
  have hsh4 := hsh.below keeps_int hbw
  have HG4 : Hid (∀ W', Below W.heap.size W W' → W'.cell? ⟨bG, 0, none⟩ = some (.int .i64 (N : Int)) ∧ W'.cell? ⟨bG, 1, none⟩ = some (.slice A3 g.ls.length c3) ∧ bG < W'.heap.size) := fun W' hW' => by
    have h1 := hGB.below hW' hGB.lt
    have e0 := h1.cell 0
    have e1 := h1.cell 1
    simp at e0 e1
    exact ⟨e0, e1, h1.lt⟩
  have HA4 : Hid (∀ W', Below W.heap.size W W' → W'.cell? ⟨w.heap.size + 1, 0, none⟩ = some (.int .i8 pa) ∧ W'.cell? ⟨w.heap.size + 1, 1, none⟩ = some (.int .i8 pb) ∧ W'.cell? ⟨w.heap.size + 1, 2, none⟩ = some (.int .i8 pc) ∧ w.heap.size + 1 < W'.heap.size) := fun W' hW' => by
    have h1 := hX1.below hW' hX1.lt
    have e0 := h1.cell 0
    have e1 := h1.cell 1
    have e2 := h1.cell 2
    simp at e0 e1 e2
    exact ⟨e0, e1, e2, h1.lt⟩
  clear hGB hX0 hX1
  go_cut [9] (fun bo wr => ∃ (bO : Nat) (A9 : Option Addr) (c9 : Nat), bo = ptr bO ∧ Blk wr bO 31 #[.int .i64 (N : Int), .slice A9 g.ls.length c9] ∧ wr.ownsRow W.heap.size 34 4 (.slice A9 g.ls.length c9) g.ls.length (g.ls.flatMap encLk) ∧ g.ls.length ≤ c9 ∧ c9 ≤ maxLen ∧ Below W.heap.size W wr)
  case first =>
    refine ordB_below (.quiet 0 (.quiet 1 (.quiet 3 (.quiet 4 (.fork 2 7 (.fork 5 7 (.quiet 6 (.only 7 (.only 8 .done))) (.only 5 (.quiet 6 (.only 8 .done)))) (.only 2 (.only 5 (.quiet 6 (.only 8 .done))))))))) (by kernel_rfl) (by kernel_rfl) (by kernel_rfl) (fun _ _ _ _ _ h => h) ?_
    intro Wd hSd
    obtain ⟨g0, g1, gl⟩ := HG4.out _ (Below.refl _ _)
    iterate 4 (first
      | (refine ordB_skip rfl rfl ?_; simp only [Act.put, List.setIfInBounds_toArray, List.set_cons_zero, List.set_cons_succ])
      | (refine ordB_take (v := ?_) rfl rfl ?_ ?_
         rotate_left 1
         focus (intro W hW; obtain ⟨hcW, hfW⟩ := bcell hW; (go_simp <;> with_reducible rfl))
         simp only [Act.put, List.setIfInBounds_toArray, List.set_cons_zero, List.set_cons_succ]))
    refine ordB_fork (opB_call rfl rfl (fun K hK => ?_)) (opB_call rfl rfl (fun K hK => ?_))
    · go_simp
      refine hK.out _ _ (hSd.alloc hSd.size _) (fun hSd1 => ?_)
      clear hK K
      have ho := own_empty Wd 34 4 W.heap.size hSd.size
      have vlt := hSd.size
      obtain ⟨vb, hvb⟩ : ∃ b, Wd.heap.size = b := ⟨_, rfl⟩
      obtain ⟨Wd1, qq⟩ : ∃ W', Wd.alloc (.cells #[] 34) = W' := ⟨_, rfl⟩
      rw [hvb] at ho ⊢
      rw [qq] at hSd1 ho ⊢
      clear qq
      try simp only [Act.put, List.setIfInBounds_toArray, List.set_cons_zero, List.set_cons_succ]
      refine ordB_fork (opB_call rfl rfl (fun K hK => ?_)) (opB_call rfl rfl (fun K hK => ?_))
      · refine wp_appS (enc := encLk) (R := RLk) _ _ 29 rfl W.heap.size 34 i0 _ 4 32 Try.underlying29 hi hz0 hz1 hz2 rfl (by decide) (.slice (some ⟨vb, 0, none⟩) 0 0) _ _ rfl ho A3 c3 g.ls rfl (hls.below keeps_lk hSd1) (fun _ _ _ h => h) (fun _ => rfl) (fun u hu => one_lk hu) (by omega) (by decide) hSd1.size ?_
        intro v9 Wd2 h91 h92 h93
        refine hK.out _ _ (hSd1.trans h92) (fun hSd2 => ?_)
        clear hK K
        have ho : Wd2.ownsRow W.heap.size 34 4 v9 g.ls.length (g.ls.flatMap encLk) := by simpa using h91
        obtain ⟨A9, c9, rfl, hc9, hcm9, hs9⟩ := own_slr (R := RLk) ho (fun _ => rfl) (fun _ => rfl) rfl
        clear h91 h92 h93
        try simp only [Act.put, List.setIfInBounds_toArray, List.set_cons_zero, List.set_cons_succ]
        iterate 1 (first
          | (refine ordB_skip rfl rfl ?_; simp only [Act.put, List.setIfInBounds_toArray, List.set_cons_zero, List.set_cons_succ])
          | (refine ordB_take (v := ?_) rfl rfl ?_ ?_
             rotate_left 1
             focus (intro W hW; obtain ⟨hcW, hfW⟩ := bcell hW; (go_simp <;> with_reducible rfl))
             simp only [Act.put, List.setIfInBounds_toArray, List.set_cons_zero, List.set_cons_succ]))
        refine ordB_only (opB_call rfl rfl (fun K hK => ?_))
        go_simp
        refine hK.out _ _ (hSd2.alloc hSd2.size _) (fun hSd3 => ?_)
        clear hK K
        have nG := Blk.new Wd2 31 #[.int .i64 0, .slice none 0 0]
        have ho := ho.alloc (.cells #[.int .i64 0, .slice none 0 0] 31)
        obtain ⟨bO, hbO⟩ : ∃ b, Wd2.heap.size = b := ⟨_, rfl⟩
        obtain ⟨Wd3, qq⟩ : ∃ W', Wd2.alloc (.cells #[.int .i64 0, .slice none 0 0] 31) = W' := ⟨_, rfl⟩
        have nOB : W.heap.size ≤ bO := by rw [← hbO]; exact hSd2.size
        rw [hbO] at nG ⊢
        rw [qq] at hSd3 nG ho ⊢
        clear qq
        try simp only [Act.put, List.setIfInBounds_toArray, List.set_cons_zero, List.set_cons_succ]
        refine ordB_only (opB_call rfl rfl (fun K hK => ?_))
        have nGc0 := nG.cell 0
        have nGc1 := nG.cell 1
        have nGf0 := nG.frozen 0
        have nGf1 := nG.frozen 1
        have nGl := nG.lt
        simp at nGc0 nGc1
        go_simp
        refine hK.out _ _ ((hSd3.setCell (p := ⟨bO, 0, none⟩) nOB _).setCell (p := ⟨bO, 1, none⟩) nOB _) (fun hSd4 => ?_)
        clear hK K
        have ho2 := own_keep ho (w' := (Wd3.setCell ⟨bO, 0, none⟩ (.int .i64 (N : Int))).setCell ⟨bO, 1, none⟩ (.slice A9 g.ls.length c9)) (fun gg hgg _ => (Below.heap_setCell _ _ _ gg (fun e => own_blk_ne ho nG (by decide) (by rw [hgg, e]))).trans (Below.heap_setCell _ _ _ gg (fun e => own_blk_ne ho nG (by decide) (by rw [hgg, e]))))
        have nG2 := (nG.set_ 0 (.int .i64 (N : Int))).set_ 1 (.slice A9 g.ls.length c9)
        obtain ⟨Wd4, qq⟩ : ∃ W', (Wd3.setCell ⟨bO, 0, none⟩ (.int .i64 (N : Int))).setCell ⟨bO, 1, none⟩ (.slice A9 g.ls.length c9) = W' := ⟨_, rfl⟩
        rw [qq] at ho2 nG2 hSd4 ⊢
        refine ordB_nil ?_
        go_wp2_with fail
        go_meet
        exact ⟨bO, A9, c9, rfl, nG2, ho2, hc9, hcm9, hSd4⟩
      · go_simp
        refine hK.out _ _ (hSd1.alloc hSd1.size _) (fun hSd5 => ?_)
        clear hK K
        have nG := Blk.new Wd1 31 #[.int .i64 0, .slice none 0 0]
        have ho := ho.alloc (.cells #[.int .i64 0, .slice none 0 0] 31)
        obtain ⟨bO, hbO⟩ : ∃ b, Wd1.heap.size = b := ⟨_, rfl⟩
        obtain ⟨Wd5, qq⟩ : ∃ W', Wd1.alloc (.cells #[.int .i64 0, .slice none 0 0] 31) = W' := ⟨_, rfl⟩
        have nOB : W.heap.size ≤ bO := by rw [← hbO]; exact hSd1.size
        rw [hbO] at nG ⊢
        rw [qq] at hSd5 nG ho ⊢
        clear qq
        try simp only [Act.put, List.setIfInBounds_toArray, List.set_cons_zero, List.set_cons_succ]
        refine ordB_only (opB_call rfl rfl (fun K hK => ?_))
        refine wp_appS (enc := encLk) (R := RLk) _ _ 29 rfl W.heap.size 34 i0 _ 4 32 Try.underlying29 hi hz0 hz1 hz2 rfl (by decide) (.slice (some ⟨vb, 0, none⟩) 0 0) _ _ rfl ho A3 c3 g.ls rfl (hls.below keeps_lk hSd5) (fun _ _ _ h => h) (fun _ => rfl) (fun u hu => one_lk hu) (by omega) (by decide) hSd5.size ?_
        intro v9 Wd6 h91 h92 h93
        refine hK.out _ _ (hSd5.trans h92) (fun hSd6 => ?_)
        clear hK K
        have nG := nG.apps h93 (own_blk_ne ho nG (by decide))
        have ho : Wd6.ownsRow W.heap.size 34 4 v9 g.ls.length (g.ls.flatMap encLk) := by simpa using h91
        obtain ⟨A9, c9, rfl, hc9, hcm9, hs9⟩ := own_slr (R := RLk) ho (fun _ => rfl) (fun _ => rfl) rfl
        clear h91 h92 h93
        try simp only [Act.put, List.setIfInBounds_toArray, List.set_cons_zero, List.set_cons_succ]
        iterate 1 (first
          | (refine ordB_skip rfl rfl ?_; simp only [Act.put, List.setIfInBounds_toArray, List.set_cons_zero, List.set_cons_succ])
          | (refine ordB_take (v := ?_) rfl rfl ?_ ?_
             rotate_left 1
             focus (intro W hW; obtain ⟨hcW, hfW⟩ := bcell hW; (go_simp <;> with_reducible rfl))
             simp only [Act.put, List.setIfInBounds_toArray, List.set_cons_zero, List.set_cons_succ]))
        refine ordB_only (opB_call rfl rfl (fun K hK => ?_))
        have nGc0 := nG.cell 0
        have nGc1 := nG.cell 1
        have nGf0 := nG.frozen 0
        have nGf1 := nG.frozen 1
        have nGl := nG.lt
        simp at nGc0 nGc1
        go_simp
        refine hK.out _ _ ((hSd6.setCell (p := ⟨bO, 0, none⟩) nOB _).setCell (p := ⟨bO, 1, none⟩) nOB _) (fun hSd7 => ?_)
        clear hK K
        have ho2 := own_keep ho (w' := (Wd6.setCell ⟨bO, 0, none⟩ (.int .i64 (N : Int))).setCell ⟨bO, 1, none⟩ (.slice A9 g.ls.length c9)) (fun gg hgg _ => (Below.heap_setCell _ _ _ gg (fun e => own_blk_ne ho nG (by decide) (by rw [hgg, e]))).trans (Below.heap_setCell _ _ _ gg (fun e => own_blk_ne ho nG (by decide) (by rw [hgg, e]))))
        have nG2 := (nG.set_ 0 (.int .i64 (N : Int))).set_ 1 (.slice A9 g.ls.length c9)
        obtain ⟨Wd7, qq⟩ : ∃ W', (Wd6.setCell ⟨bO, 0, none⟩ (.int .i64 (N : Int))).setCell ⟨bO, 1, none⟩ (.slice A9 g.ls.length c9) = W' := ⟨_, rfl⟩
        rw [qq] at ho2 nG2 hSd7 ⊢
        refine ordB_nil ?_
        go_wp2_with fail
        go_meet
        exact ⟨bO, A9, c9, rfl, nG2, ho2, hc9, hcm9, hSd7⟩
    · go_simp
      refine hK.out _ _ (hSd.alloc hSd.size _) (fun hSd8 => ?_)
      clear hK K
      have nG := Blk.new Wd 31 #[.int .i64 0, .slice none 0 0]
      obtain ⟨bO, hbO⟩ : ∃ b, Wd.heap.size = b := ⟨_, rfl⟩
      obtain ⟨Wd8, qq⟩ : ∃ W', Wd.alloc (.cells #[.int .i64 0, .slice none 0 0] 31) = W' := ⟨_, rfl⟩
      have nOB : W.heap.size ≤ bO := by rw [← hbO]; exact hSd.size
      rw [hbO] at nG ⊢
      rw [qq] at hSd8 nG ⊢
      clear qq
      try simp only [Act.put, List.setIfInBounds_toArray, List.set_cons_zero, List.set_cons_succ]
      refine ordB_only (opB_call rfl rfl (fun K hK => ?_))
      go_simp
      refine hK.out _ _ (hSd8.alloc hSd8.size _) (fun hSd9 => ?_)
      clear hK K
      have ho := own_empty Wd8 34 4 W.heap.size hSd8.size
      have nG := nG.alloc (.cells #[] 34)
      have vlt := hSd8.size
      obtain ⟨vb, hvb⟩ : ∃ b, Wd8.heap.size = b := ⟨_, rfl⟩
      obtain ⟨Wd9, qq⟩ : ∃ W', Wd8.alloc (.cells #[] 34) = W' := ⟨_, rfl⟩
      rw [hvb] at ho ⊢
      rw [qq] at hSd9 nG ho ⊢
      clear qq
      try simp only [Act.put, List.setIfInBounds_toArray, List.set_cons_zero, List.set_cons_succ]
      refine ordB_only (opB_call rfl rfl (fun K hK => ?_))
      refine wp_appS (enc := encLk) (R := RLk) _ _ 29 rfl W.heap.size 34 i0 _ 4 32 Try.underlying29 hi hz0 hz1 hz2 rfl (by decide) (.slice (some ⟨vb, 0, none⟩) 0 0) _ _ rfl ho A3 c3 g.ls rfl (hls.below keeps_lk hSd9) (fun _ _ _ h => h) (fun _ => rfl) (fun u hu => one_lk hu) (by omega) (by decide) hSd9.size ?_
      intro v9 Wd10 h91 h92 h93
      refine hK.out _ _ (hSd9.trans h92) (fun hSd10 => ?_)
      clear hK K
      have nG := nG.apps h93 (own_blk_ne ho nG (by decide))
      have ho : Wd10.ownsRow W.heap.size 34 4 v9 g.ls.length (g.ls.flatMap encLk) := by simpa using h91
      obtain ⟨A9, c9, rfl, hc9, hcm9, hs9⟩ := own_slr (R := RLk) ho (fun _ => rfl) (fun _ => rfl) rfl
      clear h91 h92 h93
      try simp only [Act.put, List.setIfInBounds_toArray, List.set_cons_zero, List.set_cons_succ]
      iterate 1 (first
        | (refine ordB_skip rfl rfl ?_; simp only [Act.put, List.setIfInBounds_toArray, List.set_cons_zero, List.set_cons_succ])
        | (refine ordB_take (v := ?_) rfl rfl ?_ ?_
           rotate_left 1
           focus (intro W hW; obtain ⟨hcW, hfW⟩ := bcell hW; (go_simp <;> with_reducible rfl))
           simp only [Act.put, List.setIfInBounds_toArray, List.set_cons_zero, List.set_cons_succ]))
      refine ordB_only (opB_call rfl rfl (fun K hK => ?_))
      have nGc0 := nG.cell 0
      have nGc1 := nG.cell 1
      have nGf0 := nG.frozen 0
      have nGf1 := nG.frozen 1
      have nGl := nG.lt
      simp at nGc0 nGc1
      go_simp
      refine hK.out _ _ ((hSd10.setCell (p := ⟨bO, 0, none⟩) nOB _).setCell (p := ⟨bO, 1, none⟩) nOB _) (fun hSd11 => ?_)
      clear hK K
      have ho2 := own_keep ho (w' := (Wd10.setCell ⟨bO, 0, none⟩ (.int .i64 (N : Int))).setCell ⟨bO, 1, none⟩ (.slice A9 g.ls.length c9)) (fun gg hgg _ => (Below.heap_setCell _ _ _ gg (fun e => own_blk_ne ho nG (by decide) (by rw [hgg, e]))).trans (Below.heap_setCell _ _ _ gg (fun e => own_blk_ne ho nG (by decide) (by rw [hgg, e]))))
      have nG2 := (nG.set_ 0 (.int .i64 (N : Int))).set_ 1 (.slice A9 g.ls.length c9)
      obtain ⟨Wd11, qq⟩ : ∃ W', (Wd10.setCell ⟨bO, 0, none⟩ (.int .i64 (N : Int))).setCell ⟨bO, 1, none⟩ (.slice A9 g.ls.length c9) = W' := ⟨_, rfl⟩
      rw [qq] at ho2 nG2 hSd11 ⊢
      refine ordB_nil ?_
      go_wp2_with fail
      go_meet
      exact ⟨bO, A9, c9, rfl, nG2, ho2, hc9, hcm9, hSd11⟩

  case rest =>
    obtain ⟨wO, rfl⟩ : ∃ W', W' = wc := ⟨wc, rfl⟩
    obtain ⟨bO, A9, c9, rfl, hO, hown, hc9, hcm9, hbO⟩ := hcut
    have o0 := hO.cell 0
    have o1 := hO.cell 1
    have ol := hO.lt
    simp at o0 o1
    go_upto_if 34 with fail
    go_cut [] (fun wr => ∃ ls9 : List Lk, Hid (ls9.length = g.ls.length) ∧ SlR 4 RLk wr A9 ls9 ∧ Blk wr bO 31 #[.int .i64 (N : Int), .slice A9 g.ls.length c9] ∧ Below W.heap.size W wr)
    case first =>
      by_cases hg0 : g.ls.length = 0
      · have hg0i : ¬ (0 : Int) < (g.ls.length : Int) := by omega
        obtain ⟨A', c', he, _, _, hs9⟩ := own_slr (R := RLk) hown (fun _ => rfl) (fun _ => rfl) rfl
        injection he with e1 e2 e3
        subst e1
        have HS9 := Lib.hid hs9
        have HBO := Lib.hid hbO
        have HO := Lib.hid hO
        clear hs9 hbO
        go_wp2_with fail
        go_meet
        exact ⟨g.ls, rfl, HS9.out, HO.out, HBO.out⟩
      · have hg0i : (0 : Int) < (g.ls.length : Int) := by omega
        obtain ⟨gc, cc, he, hgc, _, _, _⟩ := own_some (enc := encLk) hown (fun _ => rfl) (by intro e; rw [e] at hg0; simp at hg0)
        injection he with e1 e2 e3
        subst e1
        obtain ⟨x0, x1, x2, xl⟩ := HA4.out _ hbO
        obtain ⟨u, hu⟩ : ∃ u : Nat, IntKind.u8.wrap pa = (u : Int) := ⟨(IntKind.u8.wrap pa).toNat, by rw [IntKind.wrap_u8]; omega⟩
        have hub : u ≤ 255 := by rw [IntKind.wrap_u8] at hu; omega
        have hwu : IntKind.i64.wrap (u : Int) = (u : Int) := IntWalk.i64_in _ (by omega)
        obtain ⟨k, hk⟩ : ∃ k : Nat, (u : Int).tmod (g.ls.length : Int) = (k : Int) := ⟨u % g.ls.length, by rw [Int.tmod_eq_emod_of_nonneg (by omega)]; rfl⟩
        have hkl : k < g.ls.length := by
          rw [Int.tmod_eq_emod_of_nonneg (by omega)] at hk
          have := Int.emod_lt_of_pos (u : Int) hg0i
          omega
        have hzz : ¬ (g.ls.length : Int) = 0 := by omega
        obtain ⟨p, hp⟩ : ∃ p, g.ls[k]? = some p := ⟨_, List.getElem?_eq_getElem hkl⟩
        have hki : (k : Int) < (g.ls.length : Int) := by omega
        have hwb : IntKind.i64.wrap pb = pb := IntWalk.i64_in _ (by omega)
        have hwc : IntKind.i64.wrap pc = pc := IntWalk.i64_in _ (by omega)
        obtain ⟨t1, ht1⟩ : ∃ t, IntKind.i64.wrap (p.to + pb) = t := ⟨_, rfl⟩
        obtain ⟨t2, ht2⟩ : ∃ t, IntKind.i64.wrap (p.cost + pc) = t := ⟨_, rfl⟩
        have HU := Lib.hid hu
        have HO := Lib.hid hO
        have HBO := Lib.hid hbO
        have HOWN := Lib.hid hown
        have HP := Lib.hid hp
        have hgne : bO ≠ gc := fun e => own_blk_ne hown hO (by decide) (by rw [e]; rfl)
        have y1 : wO.cell? ⟨gc, k * 4 + 1, none⟩ = some (.int .i64 p.to) := by rw [hown.cellAt _ (by omega), Nat.mul_comm]; exact flat_get (enc := encLk) (s := 4) (fun _ => rfl) 1 (by decide) _ k p hp
        have yf := hown.frozenAt (k * 4 + 1)
        have gcl : gc < wO.heap.size := by
          rcases Nat.lt_or_ge gc wO.heap.size with h | h
          · exact h
          · exact absurd rfl (own_lt hown h)
        clear hown hO hbO hp hsh4
        go_upto_region 8 with fail
        refine ordV_start (Below wO.heap.size wO) (fun _ => True) [12] [(0, some false), (1, some false), (2, some false), (3, some false), (4, some false), (5, some false), (6, some false), (7, some false), (8, some false), (9, some false), (10, none), (11, some false), (12, some true)] (by kernel_rfl) (by kernel_rfl) (by kernel_rfl) (fun _ _ _ _ _ h => h) trivial ?_
        have hS0 : Below wO.heap.size wO wO.drew := (Below.refl _ _).drew
        obtain ⟨W0, hWd⟩ : ∃ W0, wO.drew = W0 := ⟨_, rfl⟩
        rw [hWd] at hS0 ⊢
        clear hWd
        iterate 10 (refine ordV_takeS (v := ?_) rfl rfl hS0 ?_ ?_; rotate_left 1; (focus (intro W hW; obtain ⟨hcW, hfW⟩ := bcell hW; (go_simp <;> (try with_reducible rfl)))); simp only [Act.put, List.setIfInBounds_toArray, List.set_cons_zero, List.set_cons_succ])
        (refine ordV_takeR (v := ?_) rfl rfl ?_ ?_; rotate_left 1; (focus (intro W hW; (go_simp <;> (try with_reducible rfl)))); simp only [Act.put, List.setIfInBounds_toArray, List.set_cons_zero, List.set_cons_succ])
        (refine ordV_takeS (v := ?_) rfl rfl hS0 ?_ ?_; rotate_left 1; (focus (intro W hW; obtain ⟨hcW, hfW⟩ := bcell hW; (go_simp <;> (try with_reducible rfl)))); simp only [Act.put, List.setIfInBounds_toArray, List.set_cons_zero, List.set_cons_succ])
        refine ordV_call rfl rfl (fun K hK => ?_)
        obtain ⟨hcS, hfS⟩ := bcell hS0
        go_simp
        refine hK.out _ _ trivial (fun _ h => by cases h) ?_
        clear hK K
        refine ordV_nil ?_
        have hst := ((own_below HOWN.out hS0).stored (k * 4 + 1) (.int .i64 t1)).1
        rw [Nat.mul_comm k 4, flat_set (enc := encLk) (s := 4) (fun _ => rfl) 1 (by decide) _ (Lk.mk p.fr t1 p.lb p.cost) g.ls k p HP.out rfl, Nat.mul_comm 4 k] at hst
        have hO := (HO.out.below hS0 HO.out.lt).far (p := ⟨gc, k * 4 + 1, none⟩) hgne (.int .i64 t1)
        have hb := (HBO.out.trans (hS0.mono HBO.out.size)).setCell (p := ⟨gc, k * 4 + 1, none⟩) hgc (.int .i64 t1)
        have hsz : wO.heap.size ≤ (W0.setCell ⟨gc, k * 4 + 1, none⟩ (.int .i64 t1)).heap.size := by simpa using hS0.size
        obtain ⟨w8, hw8⟩ : ∃ W', W0.setCell ⟨gc, k * 4 + 1, none⟩ (.int .i64 t1) = W' := ⟨_, rfl⟩
        rw [hw8] at hst hO hb hsz
        have HW8 := Lib.hid hw8
        have hp2 : (g.ls.set k (Lk.mk p.fr t1 p.lb p.cost))[k]? = some (Lk.mk p.fr t1 p.lb p.cost) := by rw [List.getElem?_set_self (by omega)]
        have HL8 : Hid ((g.ls.set k (Lk.mk p.fr t1 p.lb p.cost)).length = g.ls.length) := List.length_set
        generalize g.ls.set k (Lk.mk p.fr t1 p.lb p.cost) = ls8 at *
        obtain ⟨x0, x1, x2, xl⟩ := HA4.out _ hb
        have y1 : w8.cell? ⟨gc, k * 4 + 3, none⟩ = some (.int .i64 p.cost) := by rw [hst.cellAt _ (by omega), Nat.mul_comm]; exact flat_get (enc := encLk) (s := 4) (fun _ => rfl) 3 (by decide) _ k (Lk.mk p.fr t1 p.lb p.cost) hp2
        have yf := hst.frozenAt (k * 4 + 3)
        have gcl : gc < w8.heap.size := by omega
        have o0 := hO.cell 0
        have o1 := hO.cell 1
        have ol := hO.lt
        simp at o0 o1
        have HOWN := Lib.hid hst
        have HO := Lib.hid hO
        have HBO := Lib.hid hb
        have HP := Lib.hid hp2
        clear hst hO hb hp2 hsz hw8 hS0 hcS hfS
        go_upto_region 9 with fail
        rw [HW8.out]
        refine ordV_start (Below w8.heap.size w8) (fun _ => True) [12] [(0, some false), (1, some false), (2, some false), (3, some false), (4, some false), (5, some false), (6, some false), (7, some false), (8, some false), (9, some false), (10, none), (11, some false), (12, some true)] (by kernel_rfl) (by kernel_rfl) (by kernel_rfl) (fun _ _ _ _ _ h => h) trivial ?_
        have hS0 : Below w8.heap.size w8 w8.drew := (Below.refl _ _).drew
        obtain ⟨W0, hWd⟩ : ∃ W0, w8.drew = W0 := ⟨_, rfl⟩
        rw [hWd] at hS0 ⊢
        clear hWd
        iterate 10 (refine ordV_takeS (v := ?_) rfl rfl hS0 ?_ ?_; rotate_left 1; (focus (intro W hW; obtain ⟨hcW, hfW⟩ := bcell hW; (go_simp <;> (try with_reducible rfl)))); simp only [Act.put, List.setIfInBounds_toArray, List.set_cons_zero, List.set_cons_succ])
        (refine ordV_takeR (v := ?_) rfl rfl ?_ ?_; rotate_left 1; (focus (intro W hW; (go_simp <;> (try with_reducible rfl)))); simp only [Act.put, List.setIfInBounds_toArray, List.set_cons_zero, List.set_cons_succ])
        (refine ordV_takeS (v := ?_) rfl rfl hS0 ?_ ?_; rotate_left 1; (focus (intro W hW; obtain ⟨hcW, hfW⟩ := bcell hW; (go_simp <;> (try with_reducible rfl)))); simp only [Act.put, List.setIfInBounds_toArray, List.set_cons_zero, List.set_cons_succ])
        refine ordV_call rfl rfl (fun K hK => ?_)
        obtain ⟨hcS, hfS⟩ := bcell hS0
        go_simp
        refine hK.out _ _ trivial (fun _ h => by cases h) ?_
        clear hK K
        refine ordV_nil ?_
        have hst := ((own_below HOWN.out hS0).stored (k * 4 + 3) (.int .i64 t2)).1
        rw [Nat.mul_comm k 4, flat_set (enc := encLk) (s := 4) (fun _ => rfl) 3 (by decide) _ (Lk.mk p.fr t1 p.lb t2) ls8 k _ HP.out rfl, Nat.mul_comm 4 k] at hst
        have hO := (HO.out.below hS0 HO.out.lt).far (p := ⟨gc, k * 4 + 3, none⟩) hgne (.int .i64 t2)
        have hb := (HBO.out.trans (hS0.mono HBO.out.size)).setCell (p := ⟨gc, k * 4 + 3, none⟩) hgc (.int .i64 t2)
        obtain ⟨A', c', he, _, _, hs9⟩ := own_slr (R := RLk) hst (fun _ => rfl) (fun _ => rfl) (by rw [List.length_set, HL8.out])
        injection he with e1 e2 e3
        subst e1
        have hl9 : (ls8.set k (Lk.mk p.fr t1 p.lb t2)).length = g.ls.length := by rw [List.length_set, HL8.out]
        obtain ⟨w9, hw9⟩ : ∃ W', W0.setCell ⟨gc, k * 4 + 3, none⟩ (.int .i64 t2) = W' := ⟨_, rfl⟩
        rw [hw9] at hO hb hs9
        have HW9 := Lib.hid hw9
        have HO := Lib.hid hO
        have HBO := Lib.hid hb
        have HS9 := Lib.hid hs9
        have HL9 := Lib.hid hl9
        clear hst hO hb hs9 hl9 hw9 hS0 hcS hfS
        go_wp2_with fail
        rw [HW9.out]
        go_meet
        exact ⟨_, HL9, HS9.out, HO.out, HBO.out⟩
    case rest =>
      obtain ⟨w9, rfl⟩ : ∃ W', W' = wc := ⟨wc, rfl⟩
      obtain ⟨ls9, HL9, hs9, hO9, hb9⟩ := hcut
      obtain ⟨g0, g1, gl⟩ := HG4.out _ hb9
      have o0 := hO9.cell 0
      have o1 := hO9.cell 1
      have ol := hO9.lt
      simp at o0 o1
      have HS9 := Lib.hid hs9
      have HB9 := Lib.hid hb9
      clear hs9 hb9 hown hO hbO hc9 hcm9
      go_wp2_with fail
      obtain ⟨wL, hwL⟩ : ∃ W', (w9.alloc (.cells #[.int .i64 (N : Int), .slice A3 g.ls.length c3, .int .i64 (N : Int), .slice A9 g.ls.length c9] 31)) = W' := ⟨_, rfl⟩
      have hbL : Below w9.heap.size w9 wL := by rw [← hwL]; exact nw _ (Below.refl _ _)
      have hL : Blk wL w9.heap.size 31 #[.int .i64 (N : Int), .slice A3 g.ls.length c3, .int .i64 (N : Int), .slice A9 g.ls.length c9] := by rw [← hwL]; exact Blk.new _ _ _
      rw [hwL]
      obtain ⟨bL, hbLe⟩ : ∃ b, w9.heap.size = b := ⟨_, rfl⟩
      rw [hbLe] at hL ⊢
      have hls9 := HS9.out.below keeps_lk hbL
      have hlsL := hls.below keeps_lk (bthen HB9.out hbL)
      have hshL := hsh4.below keeps_int (bthen HB9.out hbL)
      have HBE : Hid (∀ W', Below wL.heap.size wL W' → Below w.heap.size w W') := fun W' hW' => hbw.trans ((bthen (bthen HB9.out hbL) hW').mono hbw.size)
      have HGR : Hid (∀ k : Nat, k < 2 → ∃ (Ak : Option Addr) (ck : Nat) (gk : Gr), gk.n = (N : Int) ∧ gk.ls.length = g.ls.length ∧ SlR 4 RLk wL Ak gk.ls ∧ ∀ W', Below wL.heap.size wL W' → W'.cell? ⟨bL, k * 2, none⟩ = some (.int .i64 (N : Int)) ∧ W'.cell? ⟨bL, k * 2 + 1, none⟩ = some (.slice Ak g.ls.length ck) ∧ bL < W'.heap.size) := fun k hk => by
        have hc : k = 0 ∨ k = 1 := by omega
        rcases hc with rfl | rfl
        · refine ⟨A3, c3, g, HN.out, rfl, hlsL, fun W' hW' => ?_⟩
          have h1 := hL.below hW' hL.lt
          have e0 := h1.cell 0
          have e1 := h1.cell 1
          simp at e0 e1
          exact ⟨e0, e1, h1.lt⟩
        · refine ⟨A9, c9, Gr.mk N ls9, rfl, HL9.out, hls9, fun W' hW' => ?_⟩
          have h1 := hL.below hW' hL.lt
          have e0 := h1.cell 2
          have e1 := h1.cell 3
          simp at e0 e1
          exact ⟨e0, e1, h1.lt⟩
      have HSH := Lib.hid hshL
      clear hwL hbL hL hls9 hlsL hshL hbLe g0 g1 gl o0 o1 ol hO9
      go_loopw [12] (fun i wr => ∃ k : Nat, k ≤ 2 ∧ i = .int .i64 k ∧ Below wL.heap.size wL wr) (fun i _ => 2 - (intOf i).toNat)
      case atStart => exact ⟨0, by omega, rfl, Below.refl _ _⟩
      case round =>
        obtain ⟨k, hk, rfl, hb⟩ := hrel
        by_cases hlt : k < 2
        · obtain ⟨Ak, ck, gk, hgn, hgl, hgs, hcl⟩ := HGR.out k hlt
          have HCL := Lib.hid hcl
          have hlen2 : gk.ls.length ≤ maxLen := by rw [hgl]; exact hlm
          have hpl := pots_len (g := gk) (by rw [hgn]; omega)
          have HPO : Hid (∀ W', Below wL.heap.size wL W' → Calls Try.prog 10 #[.agg #[.int .i64 (N : Int), .slice Ak g.ls.length ck]] W' fun e w' => ∃ A' c', e = .returned (.tuple #[.slice A' (potsOf gk).1.length c', .int .i64 (potsOf gk).2]) ∧ SlR 1 RInt w' A' (potsOf gk).1 ∧ Below W'.heap.size W' w') := fun W' hW' => by
            have h := pot_any Ak ck gk W' (hgs.below keeps_lk hW') hlen2
            rw [hgn, hgl] at h
            exact h.mono fun e w' => fun ⟨A', c', h1, h2, h3, _⟩ => ⟨A', c', h1, h2, h3⟩
          have HRP : Hid (∀ W', Below wL.heap.size wL W' → Calls Try.prog 11 #[.agg #[.int .i64 (N : Int), .slice Ak g.ls.length ck]] W' fun e w' => ∃ A' c', e = .returned (.tuple #[.slice A' (potsOf gk).1.length c', .int .i64 (potsOf gk).2]) ∧ SlR 1 RInt w' A' (potsOf gk).1 ∧ Below W'.heap.size W' w') := fun W' hW' => by
            have h := refpot_any Ak ck gk W' (hgs.below keeps_lk hW') hlen2
            rw [hgn, hgl] at h
            exact h.mono fun e w' => fun ⟨A', c', h1, h2, h3, _⟩ => ⟨A', c', h1, h2, h3⟩
          have HRI : Hid (∀ W', Below wL.heap.size wL W' → Calls Try.prog 13 #[.agg #[.int .i64 (N : Int), .slice Ak g.ls.length ck], .slice B1 l1.length c1] W' fun e w' => e = .returned (.bool (grB gk && decide (l1 = potL gk))) ∧ Below W'.heap.size W' w') := fun W' hW' => by
            have h := right_any Ak ck gk B1 l1 c1 W' (hgs.below keeps_lk hW') hlen2 (HSH.out.below keeps_int hW') hlm1
            rw [hgn, hgl] at h
            exact h
          have HRR : Hid (∀ W', Below wL.heap.size wL W' → Calls Try.prog 14 #[.agg #[.int .i64 (N : Int), .slice Ak g.ls.length ck], .slice B1 l1.length c1] W' fun e w' => e = .returned (.bool (grB gk && decide (l1 = potL gk))) ∧ Below W'.heap.size W' w') := fun W' hW' => by
            have h := refright_any Ak ck gk B1 l1 c1 W' (hgs.below keeps_lk hW') hlen2 (HSH.out.below keeps_int hW') hlm1
            rw [hgn, hgl] at h
            exact h
          have HRB : Hid (∀ (W' : World) (B : Option Addr) (cb : Nat), Below wL.heap.size wL W' → SlR 1 RInt W' B (potsOf gk).1 → Calls Try.prog 13 #[.agg #[.int .i64 (N : Int), .slice Ak g.ls.length ck], .slice B (potsOf gk).1.length cb] W' fun e w' => e = .returned (.bool (decide ((potsOf gk).2 = 0))) ∧ Below W'.heap.size W' w') := fun W' B cb hW' hB => by
            have h := right_any Ak ck gk B (potsOf gk).1 cb W' (hgs.below keeps_lk hW') hlen2 hB (by unfold maxLen; omega)
            rw [hgn, hgl, pots_right] at h
            exact h
          have HIN : Hid (∀ (W' : World) (P1 P2 : Option Addr) (d1 d2 : Nat), SlR 1 RInt W' P1 (potsOf gk).1 → SlR 1 RInt W' P2 (potsOf gk).1 → Calls Try.prog 12 #[.slice P1 (potsOf gk).1.length d1, .slice P2 (potsOf gk).1.length d2] W' fun e w' => e = .returned (.bool true) ∧ Below W'.heap.size W' w') := fun W' P1 P2 d1 d2 h1 h2 => by
            have h := ints_any P1 P2 (potsOf gk).1 (potsOf gk).1 d1 d2 W' h1 h2 (by unfold maxLen; omega) (by unfold maxLen; omega)
            rw [decide_eq_true rfl] at h
            exact h
          obtain ⟨PL, hPL⟩ : ∃ P, (potsOf gk).1 = P := ⟨_, rfl⟩
          obtain ⟨E, hE⟩ : ∃ P, (potsOf gk).2 = P := ⟨_, rfl⟩
          rw [hPL, hE] at HPO HRP HRB
          rw [hPL] at HIN
          generalize (grB gk && decide (l1 = potL gk)) = r1 at *
          clear hPL hE hpl hlen2 hgs hcl hgl hgn
          obtain ⟨e0, e1, el⟩ := HCL.out _ hb
          have hki : (k : Int) < 2 := by omega
          have HB := Lib.hid hb
          clear hb
          go_upto_region 15 with (go_at_call 10; go_loud (refine (HPO.out _ HB.out).mono ?_; rintro e w3 ⟨Ah, ch, rfl, hh3, hb3⟩))
          have hb3L := bthen HB.out hb3
          obtain ⟨e0, e1, el⟩ := HCL.out _ hb3L
          go_upto_region 16 with (go_at_call 11; go_loud (refine (HRP.out _ hb3L).mono ?_; rintro e w5 ⟨Aq, cq, rfl, hq5, hb5⟩))
          have hh5 := hh3.below keeps_int hb5
          have hb5L := bthen hb3L hb5
          obtain ⟨e0, e1, el⟩ := HCL.out _ hb5L
          have HB5 := Lib.hid hb5L
          have HH5 := Lib.hid hh5
          have HQ5 := Lib.hid hq5
          clear hh3 hb3 hb3L hb5 hb5L hh5 hq5
          refine ordB_below (.quiet 0 (.quiet 1 (.only 2 (.quiet 3 (.quiet 4 (.quiet 5 (.quiet 6 (.quiet 7 (.quiet 8 (.quiet 9 (.quiet 10 (.quiet 11 (.quiet 12 (.quiet 13 (.quiet 14 (.quiet 16 (.quiet 17 (.quiet 18 (.quiet 19 (.quiet 20 (.only 15 (.only 21 (.quiet 22 (.quiet 23 (.quiet 24 (.quiet 25 (.quiet 26 (.quiet 27 (.quiet 28 (.quiet 29 (.quiet 31 (.quiet 32 (.only 30 (.quiet 33 (.quiet 34 .done))))))))))))))))))))))))))))))))))) (by kernel_rfl) (by kernel_rfl) (by kernel_rfl) (fun _ _ _ _ _ h => h) ?_
          intro V0 hV0
          iterate 2 (first
            | (refine ordB_skip rfl rfl ?_; simp only [Act.put, List.setIfInBounds_toArray, List.set_cons_zero, List.set_cons_succ])
            | (refine ordB_take (v := ?_) rfl rfl ?_ ?_
               rotate_left 1
               focus (intro W hW; obtain ⟨hcW, hfW⟩ := bcell hW; (go_simp <;> with_reducible rfl))
               simp only [Act.put, List.setIfInBounds_toArray, List.set_cons_zero, List.set_cons_succ]))
          refine ordB_only (opB_call rfl rfl (fun K hK => ?_))
          go_simp
          go_at_call 12
          refine (HIN.out V0 _ _ _ _ (HH5.out.below keeps_int hV0) (HQ5.out.below keeps_int hV0)).mono ?_
          rintro e V0_1 ⟨rfl, hb9⟩
          refine hK.out _ _ (hV0.trans (hb9.mono hV0.size)) (fun hV0_1 => ?_)
          iterate 17 (first
            | (refine ordB_skip rfl rfl ?_; simp only [Act.put, List.setIfInBounds_toArray, List.set_cons_zero, List.set_cons_succ])
            | (refine ordB_take (v := ?_) rfl rfl ?_ ?_
               rotate_left 1
               focus (intro W hW; obtain ⟨hcW, hfW⟩ := bcell hW; (go_simp <;> with_reducible rfl))
               simp only [Act.put, List.setIfInBounds_toArray, List.set_cons_zero, List.set_cons_succ]))
          refine ordB_only (opB_call rfl rfl (fun K hK => ?_))
          go_simp
          go_at_call 13
          refine (HRI.out V0_1 (bthen HB5.out hV0_1)).mono ?_
          rintro e V0_1_2 ⟨rfl, hb9⟩
          refine hK.out _ _ (hV0_1.trans (hb9.mono hV0_1.size)) (fun hV0_1_2 => ?_)
          refine ordB_only (opB_call rfl rfl (fun K hK => ?_))
          go_simp
          go_at_call 14
          refine (HRR.out V0_1_2 (bthen HB5.out hV0_1_2)).mono ?_
          rintro e V0_1_2_3 ⟨rfl, hb9⟩
          refine hK.out _ _ (hV0_1_2.trans (hb9.mono hV0_1_2.size)) (fun hV0_1_2_3 => ?_)
          iterate 10 (first
            | (refine ordB_skip rfl rfl ?_; simp only [Act.put, List.setIfInBounds_toArray, List.set_cons_zero, List.set_cons_succ])
            | (refine ordB_take (v := ?_) rfl rfl ?_ ?_
               rotate_left 1
               focus (intro W hW; obtain ⟨hcW, hfW⟩ := bcell hW; (go_simp <;> with_reducible rfl))
               simp only [Act.put, List.setIfInBounds_toArray, List.set_cons_zero, List.set_cons_succ]))
          refine ordB_only (opB_call rfl rfl (fun K hK => ?_))
          go_simp
          go_at_call 13
          refine (HRB.out V0_1_2_3 _ _ (bthen HB5.out hV0_1_2_3) (HQ5.out.below keeps_int hV0_1_2_3)).mono ?_
          rintro e V0_1_2_3_4 ⟨rfl, hb9⟩
          refine hK.out _ _ (hV0_1_2_3.trans (hb9.mono hV0_1_2_3.size)) (fun hV0_1_2_3_4 => ?_)
          iterate 2 (first
            | (refine ordB_skip rfl rfl ?_; simp only [Act.put, List.setIfInBounds_toArray, List.set_cons_zero, List.set_cons_succ])
            | (refine ordB_take (v := ?_) rfl rfl ?_ ?_
               rotate_left 1
               focus (intro W hW; obtain ⟨hcW, hfW⟩ := bcell hW; (go_simp <;> with_reducible rfl))
               simp only [Act.put, List.setIfInBounds_toArray, List.set_cons_zero, List.set_cons_succ]))
          refine ordB_nil ?_
          have hE8 := bthen HB5.out hV0_1_2_3_4
          have hEE : (!decide (E = 0) == (E == 0)) = false := by by_cases h : E = 0 <;> simp [h]
          go_wp2_with fail
          · have h := ‹(!decide (E = 0) == (E == 0)) = true›
            rw [hEE] at h
            cases h
          go_roundw
          case rel => exact ⟨k + 1, by omega, by go_num, hE8⟩
          case measure => simp [intOf]; omega
        · have hki : ¬ (k : Int) < 2 := by omega
          have hE := HBE.out _ hb
          go_wp2_with fail
          go_ret
          exact ⟨rfl, hE⟩
end Go.Proofs.Ytaohbicjdmogkaa
