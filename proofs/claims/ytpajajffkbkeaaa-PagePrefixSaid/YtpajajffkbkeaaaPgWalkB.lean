/-
  The walks of layer 19: Make.
-/
import Derived.Test.YtpajajffkbkeaaaPgWalkA
namespace Go.Proofs.Ytpajajffkbkeaaa
open Go Go.RowKit

/-- For how many candidates the budget is enough. -/
def wantN (g : Gr) (k b : Int) : Nat := (min (b / g.n) k).toNat
/-- What Make answers: the list, whole, the potentials, the error. -/
def makeM (g : Gr) (k b : Int) : List Can × Bool × List Int × Int := if pgErr g k b = 0 then ((allR g).take (wantN g k b), pgWh g (wantN g k b), potL g, 0) else ([], false, [], pgErr g k b)
def IsMk (M : List Can × Bool × List Int × Int) (w : World) (e : Ending) (w' : World) : Prop := ∃ A c ms base B d, e = .returned (.tuple #[.agg #[.slice A M.1.length c, .bool M.2.1], .slice B M.2.2.1.length d, .int .i64 M.2.2.2]) ∧ SlR 2 RMc w' A ms ∧ MsOK w' ms ∧ Hid (ms.map (·.x) = M.1) ∧ M.1.length ≤ c ∧ c ≤ maxLen ∧
  w'.ownsRow base 61 2 (.slice A ms.length c) ms.length (ms.flatMap encMc) ∧ SlT w' B M.2.2.1 ∧ M.2.2.1.length ≤ d ∧ d ≤ maxLen ∧ Below w.heap.size w w'
theorem pgErr_ok {g : Gr} {k b : Int} (h : pgErr g k b = 0) : GrOK g ∧ (0 ≤ k ∧ k ≤ 50) ∧ 0 ≤ b := by
  unfold pgErr at h
  split at h
  · cases h
  · split at h
    · cases h
    · rename_i h1 h2
      exact ⟨grB_iff.1 (by simpa using h1), by omega, by omega⟩
theorem pgErr_val (g : Gr) (k b : Int) : pgErr g k b = 0 ∨ pgErr g k b = 1 ∨ pgErr g k b = 150 := by
  unfold pgErr
  split
  · exact .inr (.inr rfl)
  · split
    · exact .inr (.inl rfl)
    · exact .inl rfl
set_option maxRecDepth 100000 in
set_option maxHeartbeats 8000000 in
theorem make_any (A : Option Addr) (c : Nat) (g : Gr) (k b : Int) (w : World) (hx : SlR 4 RLk w A g.ls) (h14 : g.ls.length ≤ 14) (hbu : b ≤ 1000000) :
    Calls Try.prog 23 #[.agg #[.int .i64 g.n, .slice A g.ls.length c], .int .i64 k, .int .i64 b] w (IsMk (makeM g k b) w) := by
  have hl : g.ls.length ≤ maxLen := by unfold maxLen; omega
  obtain ⟨w2, hw2⟩ : ∃ w2, (w.alloc (.cells #[.int .i64 g.n, .slice A g.ls.length c] 29)).alloc (.cells #[.slice none 0 0, .bool false] 33) = w2 := ⟨_, rfl⟩
  have hb2 : Below w.heap.size w w2 := by rw [← hw2]; exact nw _ (nw _ (Below.refl _ _))
  have hG : Blk w2 w.heap.size 29 #[.int .i64 g.n, .slice A g.ls.length c] := by rw [← hw2]; exact (Blk.new _ _ _).alloc _
  have hP : Blk w2 (w.heap.size + 1) 33 #[.slice none 0 0, .bool false] := by rw [← hw2]; exact Blk.new_ (by simp)
  have HW2 := Lib.hid hw2
  obtain ⟨bP, hbP⟩ : ∃ b, w.heap.size + 1 = b := ⟨_, rfl⟩
  rw [hbP] at hP
  have HBP := Lib.hid hbP
  have hwP : w.heap.size ≤ bP := by omega
  have hGP : w.heap.size ≠ bP := by omega
  have g0 := hG.cell 0
  have g1 := hG.cell 1
  have gl := hG.lt
  simp at g0 g1
  have HX : Hid (∀ W', Below w2.heap.size w2 W' → SlR 4 RLk W' A g.ls) := fun W' hW' => (hx.below keeps_lk hb2).below keeps_lk hW'
  have HC : Hid (Calls Try.prog 30 #[.agg #[.int .i64 g.n, .slice A g.ls.length c], .int .i64 k, .int .i64 b] w2 fun e w' => e = .returned (.int .i64 (pgErr g k b)) ∧ Below w2.heap.size w2 w') := pcheck_any A c g k b w2 (hx.below keeps_lk hb2) hl
  clear hw2 hbP hx
  go_enter Try.func23, Try.ntmps23
  go_upto_region 1 with fail
  rw [HW2.out, HBP.out]
  by_cases h0 : pgErr g k b = 0
  · obtain ⟨hgr, hk, hb0⟩ := pgErr_ok h0
    have hb : 0 ≤ b ∧ b ≤ 1000000 := ⟨hb0, hbu⟩
    have hgn : 1 ≤ g.n ∧ g.n ≤ 2000 := hgr.n
    obtain ⟨n, hn⟩ : ∃ n, wantN g k b = n := ⟨_, rfl⟩
    have hq := Int.ediv_nonneg hb.1 (show 0 ≤ g.n by omega)
    have hwn : min (b / g.n) k = (n : Int) := by rw [← hn]; unfold wantN; omega
    have hn50 : n ≤ 50 := by omega
    have HMK : Hid (makeM g k b = ((allR g).take n, pgWh g n, potL g, 0)) := by show _ = _; unfold makeM; rw [if_pos h0, hn]
    have HFI : Hid (∀ W W', Below w2.heap.size w2 W → Below W.heap.size W W' → Calls Try.prog 33 #[.agg #[.int .i64 g.n, .slice A g.ls.length c], .int .i64 (n : Int)] W' (IsPg ((allR g).take n) (pgWh g n) W')) := fun W W' hW hW' => pfirst_any A c g n W' (HX.out _ (bthen hW hW')) hl hgr h14 hn50
    have HPT : Hid (∀ W', Below w2.heap.size w2 W' → Calls Try.prog 21 #[.agg #[.int .i64 g.n, .slice A g.ls.length c]] W' fun e w' => ∃ A' c', e = .returned (.tuple #[.slice A' (potL g).length c', .int .i64 0]) ∧ SlT w' A' (potL g) ∧ Below W'.heap.size W' w' ∧ (potL g).length ≤ c' ∧ c' ≤ maxLen) := fun W' hW' => by
      have h := pot_anyT A c g W' (HX.out _ hW') hl
      rw [show potsOf g = (potL g, 0) by unfold potsOf; rw [grB_iff.2 hgr]; rfl] at h
      exact h.mono fun e w' ⟨A', c', h1, h2, h3, h4, h5, h6⟩ => ⟨A', c', h1, h6, h3, h4, h5⟩
    rw [h0] at HC
    generalize (allR g).take n = Lc at *
    generalize pgWh g n = wb at *
    generalize potL g = ps at *
    clear h0 hq hn hgr hb0 hbu hl h14
    go_upto_region 4 with (go_at_call 30; go_loud (refine HC.out.mono ?_; rintro e w3 ⟨rfl, hb3⟩))
    have g0 := ((bcell hb3).1 _ _ gl).trans g0
    have g1 := ((bcell hb3).1 _ _ gl).trans g1
    have gl := Nat.lt_of_lt_of_le gl hb3.size
    go_upto_region 5 with (go_at_call 21; go_loud (refine (HPT.out _ hb3).mono ?_; rintro e W6 ⟨A4, c4, rfl, hQ, hb4, hc4, hcm4⟩))
    have g0 := ((bcell hb4).1 _ _ gl).trans g0
    have g1 := ((bcell hb4).1 _ _ gl).trans g1
    have gl := Nat.lt_of_lt_of_le gl hb4.size
    have hb26 := bthen hb3 hb4
    have HP : Hid (Blk W6 bP 33 #[.slice none 0 0, .bool false]) := hP.below hb26 hP.lt
    have HQ := Lib.hid hQ
    have HB6 := Lib.hid (bthen hb2 hb26)
    have HFI := Lib.hid (fun W' hW' => HFI.out W6 W' hb26 hW')
    clear hb26 hb3 hb4 hP hG hQ HC HPT HX
    go_upto_region 7 with fail
    refine ordB_start (ButB bP W6) (.quiet 0 (.quiet 1 (.quiet 2 (.quiet 3 (.quiet 5 (.quiet 9 (.fork 4 6 (.only 6 (.only 7 (.only 8 (.only 10 (.quiet 11 (.quiet 12 .done)))))) (.only 4 (.only 7 (.only 8 (.only 10 (.quiet 11 (.quiet 12 .done))))))))))))) (by kernel_rfl) (by kernel_rfl) (by kernel_rfl) (fun _ _ _ _ _ h => h) (ButB.of_below (Below.refl _ _).drew) ?_
    have hS : ButB bP W6 W6.drew := ButB.of_below (Below.refl _ _).drew
    have hT : Below W6.heap.size W6 W6.drew := (Below.refl _ _).drew
    obtain ⟨Wd, qq⟩ : ∃ W', W6.drew = W' := ⟨_, rfl⟩
    rw [qq] at hS hT ⊢
    clear qq
    iterate 6 (first
      | (refine ordB_skip rfl rfl ?_; simp only [Act.put, List.setIfInBounds_toArray, List.set_cons_zero, List.set_cons_succ])
      | (refine ordB_take (v := ?_) rfl rfl ?_ ?_
         rotate_left 1
         focus (intro W hW; have hcW := hW.cell; (go_simp <;> with_reducible rfl))
         simp only [Act.put, List.setIfInBounds_toArray, List.set_cons_zero, List.set_cons_succ]))
    refine ordB_fork (opB_call rfl rfl (fun K hK => ?_)) (opB_call rfl rfl (fun K hK => ?_))
    · go_simp
      refine hK.out _ _ hS (fun hS1 => ?_)
      clear hK K
      have hT1 := hT
      try simp only [Act.put, List.setIfInBounds_toArray, List.set_cons_zero, List.set_cons_succ]
      refine ordB_only (opB_call rfl rfl (fun K hK => ?_))
      go_simp
      refine hK.out _ _ (hS1.trans (ButB.of_below (nw (.cells #[.int .i64 k] 3) (Below.refl _ Wd)))) (fun hS2 => ?_)
      clear hK K
      have hT2 := hT1.alloc hT1.size (.cells #[.int .i64 k] 3)
      have hkb : SlR 1 RInt (Wd.alloc (.cells #[.int .i64 k] 3)) (some ⟨Wd.heap.size, 0, none⟩) [k] := slr_blk (enc := fun s => [.int .i64 s]) (Blk.new_ rfl) (fun _ => rfl) (fun _ => rfl)
      obtain ⟨Wd2, qq⟩ : ∃ W', Wd.alloc (.cells #[.int .i64 k] 3) = W' := ⟨_, rfl⟩
      rw [qq] at hS2 hT2 hkb ⊢
      clear qq
      try simp only [Act.put, List.setIfInBounds_toArray, List.set_cons_zero, List.set_cons_succ]
      refine ordB_only (opB_call rfl rfl (fun K hK => ?_))
      go_simp
      go_at_call 31
      refine (pleast_any g.n b k _ _ _ hb hgn hk hkb).mono ?_
      rintro e w' ⟨rfl, rfl⟩
      rw [hwn]
      refine hK.out _ _ hS2 (fun hS3 => ?_)
      clear hK K hkb
      have hT3 := hT2
      try simp only [Act.put, List.setIfInBounds_toArray, List.set_cons_zero, List.set_cons_succ]
      refine ordB_only (opB_call rfl rfl (fun K hK => ?_))
      go_simp
      go_at_call 33
      refine (HFI.out Wd2 hT3).mono ?_
      rintro e Wd4 ⟨A5, c5, ms, base, rfl, _, hms, HMX, hml, hmc, hown, hx8⟩
      refine hK.out _ _ (hS3.trans (ButB.of_below hx8)) (fun hS4 => ?_)
      clear hK K
      have hT4 := hT3.trans (hx8.mono hT3.size)
      try simp only [Act.put, List.setIfInBounds_toArray, List.set_cons_zero, List.set_cons_succ]
      refine ordB_only (opB_call rfl rfl (fun K hK => ?_))
      have hP := HP.out.below hT4 HP.out.lt
      have p0 := hP.cell 0
      have p1 := hP.cell 1
      have pf0 := hP.frozen 0
      have pf1 := hP.frozen 1
      have pl := hP.lt
      simp at p0 p1
      go_simp
      refine hK.out _ _ ((hS4.set_ 0 (.slice A5 Lc.length c5)).set_ 1 (.bool wb)) (fun hS5 => ?_)
      clear hK K
      have hne := own_blk_ne hown hP (by decide)
      have hO5 := own_set (own_set hown (a := ⟨bP, 0, none⟩) hne (.slice A5 Lc.length c5)) (a := ⟨bP, 1, none⟩) hne (.bool wb)
      have hM5 := (hms.set_ (p := ⟨bP, 0, none⟩) hP (by decide) (.slice A5 Lc.length c5)).set_ (p := ⟨bP, 1, none⟩) (hP.set_ 0 (.slice A5 Lc.length c5)) (by decide) (.bool wb)
      have hQ5 := (HQ.out.below hT4).set_ (p := ⟨bP, 0, none⟩) hP (by decide) (.slice A5 Lc.length c5)
      have hQ5 := hQ5.set_ (p := ⟨bP, 1, none⟩) (hP.set_ 0 (.slice A5 Lc.length c5)) (by decide) (.bool wb)
      have hP5 := (hP.set_ 0 (.slice A5 Lc.length c5)).set_ 1 (.bool wb)
      have hE5 := (((HB6.out.trans (hT4.mono HB6.out.size)).setCell (p := ⟨bP, 0, none⟩) hwP (.slice A5 Lc.length c5)).setCell (p := ⟨bP, 1, none⟩) hwP (.bool wb))
      obtain ⟨Wd5, qq⟩ : ∃ W', (Wd4.setCell ⟨bP, 0, none⟩ (.slice A5 Lc.length c5)).setCell ⟨bP, 1, none⟩ (.bool wb) = W' := ⟨_, rfl⟩
      rw [qq] at hS5 hO5 hM5 hQ5 hP5 hE5 ⊢
      clear qq p0 p1 pf0 pf1 pl
      try simp only [Act.put, List.setIfInBounds_toArray, List.set_cons_zero, List.set_cons_succ]
      iterate 2 (first
        | (refine ordB_skip rfl rfl ?_; simp only [Act.put, List.setIfInBounds_toArray, List.set_cons_zero, List.set_cons_succ])
        | (refine ordB_take (v := ?_) rfl rfl ?_ ?_
           rotate_left 1
           focus (intro W hW; have hcW := hW.cell; (go_simp <;> with_reducible rfl))
           simp only [Act.put, List.setIfInBounds_toArray, List.set_cons_zero, List.set_cons_succ]))
      refine ordB_nil ?_
      go_wp2_with fail
      refine ret_cell_tmp2 (t := 33) (cs := #[.slice A5 Lc.length c5, .bool wb]) (by simpa using hP5) rfl rfl Try.underlying33 rfl (by kernel_rfl) rfl ?_
      obtain ⟨A8, c8, he8, _, _, hs8⟩ := own_slr (R := RMc) hO5 (fun _ => rfl) (fun _ => rfl) rfl
      obtain ⟨rfl, rfl⟩ : A5 = A8 ∧ c5 = c8 := by injection he8 with h1 h2 h3; exact ⟨h1, h3⟩
      exact ⟨A5, c5, ms, base, A4, c4, by rw [HMK.out]; rfl, hs8, hM5, by rw [HMK.out]; exact HMX.out, by rw [HMK.out]; exact hml, hmc, hO5, by rw [HMK.out]; exact hQ5, by rw [HMK.out]; exact hc4, hcm4, hE5⟩
    · go_simp
      refine hK.out _ _ (hS.trans (ButB.of_below (nw (.cells #[.int .i64 k] 3) (Below.refl _ Wd)))) (fun hS6 => ?_)
      clear hK K
      have hT6 := hT.alloc hT.size (.cells #[.int .i64 k] 3)
      have hkb : SlR 1 RInt (Wd.alloc (.cells #[.int .i64 k] 3)) (some ⟨Wd.heap.size, 0, none⟩) [k] := slr_blk (enc := fun s => [.int .i64 s]) (Blk.new_ rfl) (fun _ => rfl) (fun _ => rfl)
      obtain ⟨Wd6, qq⟩ : ∃ W', Wd.alloc (.cells #[.int .i64 k] 3) = W' := ⟨_, rfl⟩
      rw [qq] at hS6 hT6 hkb ⊢
      clear qq
      try simp only [Act.put, List.setIfInBounds_toArray, List.set_cons_zero, List.set_cons_succ]
      refine ordB_only (opB_call rfl rfl (fun K hK => ?_))
      go_simp
      refine hK.out _ _ hS6 (fun hS7 => ?_)
      clear hK K
      have hT7 := hT6
      try simp only [Act.put, List.setIfInBounds_toArray, List.set_cons_zero, List.set_cons_succ]
      refine ordB_only (opB_call rfl rfl (fun K hK => ?_))
      go_simp
      go_at_call 31
      refine (pleast_any g.n b k _ _ _ hb hgn hk hkb).mono ?_
      rintro e w' ⟨rfl, rfl⟩
      rw [hwn]
      refine hK.out _ _ hS7 (fun hS8 => ?_)
      clear hK K hkb
      have hT8 := hT7
      try simp only [Act.put, List.setIfInBounds_toArray, List.set_cons_zero, List.set_cons_succ]
      refine ordB_only (opB_call rfl rfl (fun K hK => ?_))
      go_simp
      go_at_call 33
      refine (HFI.out Wd6 hT8).mono ?_
      rintro e Wd9 ⟨A5, c5, ms, base, rfl, _, hms, HMX, hml, hmc, hown, hx8⟩
      refine hK.out _ _ (hS8.trans (ButB.of_below hx8)) (fun hS9 => ?_)
      clear hK K
      have hT9 := hT8.trans (hx8.mono hT8.size)
      try simp only [Act.put, List.setIfInBounds_toArray, List.set_cons_zero, List.set_cons_succ]
      refine ordB_only (opB_call rfl rfl (fun K hK => ?_))
      have hP := HP.out.below hT9 HP.out.lt
      have p0 := hP.cell 0
      have p1 := hP.cell 1
      have pf0 := hP.frozen 0
      have pf1 := hP.frozen 1
      have pl := hP.lt
      simp at p0 p1
      go_simp
      refine hK.out _ _ ((hS9.set_ 0 (.slice A5 Lc.length c5)).set_ 1 (.bool wb)) (fun hS10 => ?_)
      clear hK K
      have hne := own_blk_ne hown hP (by decide)
      have hO5 := own_set (own_set hown (a := ⟨bP, 0, none⟩) hne (.slice A5 Lc.length c5)) (a := ⟨bP, 1, none⟩) hne (.bool wb)
      have hM5 := (hms.set_ (p := ⟨bP, 0, none⟩) hP (by decide) (.slice A5 Lc.length c5)).set_ (p := ⟨bP, 1, none⟩) (hP.set_ 0 (.slice A5 Lc.length c5)) (by decide) (.bool wb)
      have hQ5 := (HQ.out.below hT9).set_ (p := ⟨bP, 0, none⟩) hP (by decide) (.slice A5 Lc.length c5)
      have hQ5 := hQ5.set_ (p := ⟨bP, 1, none⟩) (hP.set_ 0 (.slice A5 Lc.length c5)) (by decide) (.bool wb)
      have hP5 := (hP.set_ 0 (.slice A5 Lc.length c5)).set_ 1 (.bool wb)
      have hE5 := (((HB6.out.trans (hT9.mono HB6.out.size)).setCell (p := ⟨bP, 0, none⟩) hwP (.slice A5 Lc.length c5)).setCell (p := ⟨bP, 1, none⟩) hwP (.bool wb))
      obtain ⟨Wd10, qq⟩ : ∃ W', (Wd9.setCell ⟨bP, 0, none⟩ (.slice A5 Lc.length c5)).setCell ⟨bP, 1, none⟩ (.bool wb) = W' := ⟨_, rfl⟩
      rw [qq] at hS10 hO5 hM5 hQ5 hP5 hE5 ⊢
      clear qq p0 p1 pf0 pf1 pl
      try simp only [Act.put, List.setIfInBounds_toArray, List.set_cons_zero, List.set_cons_succ]
      iterate 2 (first
        | (refine ordB_skip rfl rfl ?_; simp only [Act.put, List.setIfInBounds_toArray, List.set_cons_zero, List.set_cons_succ])
        | (refine ordB_take (v := ?_) rfl rfl ?_ ?_
           rotate_left 1
           focus (intro W hW; have hcW := hW.cell; (go_simp <;> with_reducible rfl))
           simp only [Act.put, List.setIfInBounds_toArray, List.set_cons_zero, List.set_cons_succ]))
      refine ordB_nil ?_
      go_wp2_with fail
      refine ret_cell_tmp2 (t := 33) (cs := #[.slice A5 Lc.length c5, .bool wb]) (by simpa using hP5) rfl rfl Try.underlying33 rfl (by kernel_rfl) rfl ?_
      obtain ⟨A8, c8, he8, _, _, hs8⟩ := own_slr (R := RMc) hO5 (fun _ => rfl) (fun _ => rfl) rfl
      obtain ⟨rfl, rfl⟩ : A5 = A8 ∧ c5 = c8 := by injection he8 with h1 h2 h3; exact ⟨h1, h3⟩
      exact ⟨A5, c5, ms, base, A4, c4, by rw [HMK.out]; rfl, hs8, hM5, by rw [HMK.out]; exact HMX.out, by rw [HMK.out]; exact hml, hmc, hO5, by rw [HMK.out]; exact hQ5, by rw [HMK.out]; exact hc4, hcm4, hE5⟩
  · have HMK : Hid (makeM g k b = ([], false, [], pgErr g k b)) := by show _ = _; unfold makeM; rw [if_neg h0]
    have hv := pgErr_val g k b
    generalize pgErr g k b = er at *
    have h1 : er = 1 ∨ er = 150 := hv.resolve_left h0
    clear hv h0
    have p0 := hP.cell 0
    have p1 := hP.cell 1
    have pf0 := hP.frozen 0
    have pf1 := hP.frozen 1
    have pl := hP.lt
    simp at p0 p1
    have HPP := Lib.hid hP
    clear hP hG
    rcases h1 with rfl | rfl
    all_goals
      go_wp2_with (go_at_call 30; go_loud (refine HC.out.mono ?_; rintro e w3 ⟨rfl, hb3⟩; have p0 := ((bcell hb3).1 _ _ pl).trans p0; have p1 := ((bcell hb3).1 _ _ pl).trans p1; have pf0 := ((bcell hb3).2 _ _ pl).trans pf0; have pf1 := ((bcell hb3).2 _ _ pl).trans pf1; have pl := Nat.lt_of_lt_of_le pl hb3.size))
      have hP3 := HPP.out.below hb3 HPP.out.lt
      refine ret_cell_tmp2 (t := 33) (cs := #[.slice none 0 0, .bool false]) (by have := (hP3.set_ 0 (.slice none 0 0)).set_ 1 (.bool false); simpa using this) rfl rfl Try.underlying33 rfl (by kernel_rfl) rfl ?_
      exact ⟨none, 0, [], 0, none, 0, by rw [HMK.out]; rfl, SlR.nil, MsOK.nil, by rw [HMK.out]; rfl, by rw [HMK.out]; exact Nat.le_refl _, Nat.zero_le _, own_nil _ _ _ _, by rw [HMK.out]; exact SlT.nil, by rw [HMK.out]; exact Nat.le_refl _, Nat.zero_le _, ((bthen hb2 hb3).setCell (p := ⟨bP, 0, none⟩) hwP _).setCell (p := ⟨bP, 1, none⟩) hwP _⟩
end Go.Proofs.Ytpajajffkbkeaaa
