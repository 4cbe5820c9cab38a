/-
  The walks of layer 19: More.
-/
import Derived.Test.YtpajajffkbkeaaaPgWalkB
namespace Go.Proofs.Ytpajajffkbkeaaa
open Go Go.RowKit

/-- What More answers: the list, whole, the error. -/
def moreM (g : Gr) (l : List Can) (wh : Bool) (k b : Int) : List Can × Bool × Int := if pgErr g k b = 0 then (if (checkM g l wh).2 = 0 then ((allR g).take (min (l.length + wantN g k b) 50), pgWh g (min (l.length + wantN g k b) 50), 0) else ([], false, 160)) else ([], false, pgErr g k b)
def IsMr (M : List Can × Bool × Int) (w : World) (e : Ending) (w' : World) : Prop := ∃ A c ms base, e = .returned (.tuple #[.agg #[.slice A M.1.length c, .bool M.2.1], .int .i64 M.2.2]) ∧ SlR 2 RMc w' A ms ∧ MsOK w' ms ∧ Hid (ms.map (·.x) = M.1) ∧ M.1.length ≤ c ∧ c ≤ maxLen ∧
  w'.ownsRow base 61 2 (.slice A ms.length c) ms.length (ms.flatMap encMc) ∧ Below w.heap.size w w'
set_option maxRecDepth 100000 in
set_option maxHeartbeats 8000000 in
theorem more_any (A : Option Addr) (c : Nat) (g : Gr) (C : Option Addr) (l : List Can) (e : Nat) (wh : Bool) (k b : Int) (w : World) (hx : SlR 4 RLk w A g.ls) (h14 : g.ls.length ≤ 14) (hy : SlR 2 RCan w C l) (hl2 : l.length ≤ 1000000) (hle : l.length ≤ e) (hbu : b ≤ 1000000) :
    Calls Try.prog 14 #[.agg #[.int .i64 g.n, .slice A g.ls.length c], .agg #[.slice C l.length e, .bool wh], .int .i64 k, .int .i64 b] w (IsMr (moreM g l wh k b) w) := by
  have hl : g.ls.length ≤ maxLen := by unfold maxLen; omega
  obtain ⟨w2, hw2⟩ : ∃ w2, ((w.alloc (.cells #[.int .i64 g.n, .slice A g.ls.length c] 29)).alloc (.cells #[.slice C l.length e, .bool wh] 33)).alloc (.cells #[.slice none 0 0, .bool false] 33) = w2 := ⟨_, rfl⟩
  have hb2 : Below w.heap.size w w2 := by rw [← hw2]; exact nw _ (nw _ (nw _ (Below.refl _ _)))
  have hG : Blk w2 w.heap.size 29 #[.int .i64 g.n, .slice A g.ls.length c] := by rw [← hw2]; exact ((Blk.new _ _ _).alloc _).alloc _
  have hQ : Blk w2 (w.heap.size + 1) 33 #[.slice C l.length e, .bool wh] := by rw [← hw2]; exact (Blk.new_ (by simp)).alloc _
  have hP : Blk w2 (w.heap.size + 2) 33 #[.slice none 0 0, .bool false] := by rw [← hw2]; exact Blk.new_ (by simp)
  have HW2 := Lib.hid hw2
  obtain ⟨bQ, hbQ⟩ : ∃ b, w.heap.size + 1 = b := ⟨_, rfl⟩
  obtain ⟨bP, hbP⟩ : ∃ b, bQ + 1 = b := ⟨_, rfl⟩
  rw [hbQ] at hQ
  rw [show w.heap.size + 2 = bP by omega] at hP
  have HBQ := Lib.hid hbQ
  have HBP := Lib.hid hbP
  have hwP : w.heap.size ≤ bP := by omega
  have hGP : w.heap.size ≠ bP := by omega
  have g0 := hG.cell 0
  have g1 := hG.cell 1
  have gl := hG.lt
  have q0 := hQ.cell 0
  have q1 := hQ.cell 1
  have ql := hQ.lt
  simp at g0 g1 q0 q1
  have HX : Hid (∀ W', Below w2.heap.size w2 W' → SlR 4 RLk W' A g.ls) := fun W' hW' => (hx.below keeps_lk hb2).below keeps_lk hW'
  have HY : Hid (∀ W', Below w2.heap.size w2 W' → SlR 2 RCan W' C l) := fun W' hW' => (hy.below keeps_can hb2).below keeps_can hW'
  have HC : Hid (Calls Try.prog 30 #[.agg #[.int .i64 g.n, .slice A g.ls.length c], .int .i64 k, .int .i64 b] w2 fun e w' => e = .returned (.int .i64 (pgErr g k b)) ∧ Below w2.heap.size w2 w') := pcheck_any A c g k b w2 (hx.below keeps_lk hb2) hl
  clear hw2 hbP hbQ hx hy
  go_enter Try.func14, Try.ntmps14
  go_upto_region 1 with fail
  rw [HW2.out, HBQ.out, HBP.out]
  by_cases h0 : pgErr g k b = 0
  · obtain ⟨hgr, hk, hb0⟩ := pgErr_ok h0
    have hb : 0 ≤ b ∧ b ≤ 1000000 := ⟨hb0, hbu⟩
    have hgn : 1 ≤ g.n ∧ g.n ≤ 2000 := hgr.n
    obtain ⟨n, hn⟩ : ∃ n, wantN g k b = n := ⟨_, rfl⟩
    have hq := Int.ediv_nonneg hb.1 (show 0 ≤ g.n by omega)
    have hwn : min (b / g.n) k = (n : Int) := by rw [← hn]; unfold wantN; omega
    have hn50 : n ≤ 50 := by omega
    obtain ⟨m, hm⟩ : ∃ m, min (l.length + n) 50 = m := ⟨_, rfl⟩
    have hm50 : m ≤ 50 := by omega
    have HLE : Hid (∀ W kb, Blk W kb 3 #[.int .i64 k] → Calls Try.prog 31 #[.int .i64 g.n, .func (.func 32) #[.int .i64 b] #[], .slice (some ⟨kb, 0, none⟩) 1 1] W fun e w' => e = .returned (.int .i64 (n : Int)) ∧ W = w') := fun W kb hkb => by
      have h := pleast_any g.n b k (some ⟨kb, 0, none⟩) 1 W hb hgn hk (slr_blk (enc := fun s => [.int .i64 s]) (xs := [k]) hkb (fun _ => rfl) (fun _ => rfl))
      rw [hwn] at h
      exact h
    have HFI : Hid (∀ W W', Below w2.heap.size w2 W → Below W.heap.size W W' → Calls Try.prog 33 #[.agg #[.int .i64 g.n, .slice A g.ls.length c], .int .i64 (m : Int)] W' (IsPg ((allR g).take m) (pgWh g m) W')) := fun W W' hW hW' => pfirst_any A c g m W' (HX.out _ (bthen hW hW')) hl hgr h14 hm50
    have HPT : Hid (∀ W', Below w2.heap.size w2 W' → Calls Try.prog 21 #[.agg #[.int .i64 g.n, .slice A g.ls.length c]] W' fun e w' => ∃ A' c', e = .returned (.tuple #[.slice A' (potL g).length c', .int .i64 0]) ∧ SlR 1 RInt w' A' (potL g) ∧ Below W'.heap.size W' w' ∧ (potL g).length ≤ c' ∧ c' ≤ maxLen) := fun W' hW' => by
      have h := pot_any A c g W' (HX.out _ hW') hl
      rw [show potsOf g = (potL g, 0) by unfold potsOf; rw [grB_iff.2 hgr]; rfl] at h
      exact h
    have HCH : Hid (∀ W' A' c', Below w2.heap.size w2 W' → SlR 1 RInt W' A' (potL g) → (potL g).length ≤ maxLen → Calls Try.prog 13 #[.agg #[.int .i64 g.n, .slice A g.ls.length c], .slice A' (potL g).length c', .agg #[.slice C l.length e, .bool wh]] W' fun r w' => r = .returned (.tuple #[.int .i64 (checkM g l wh).1, .int .i64 (checkM g l wh).2]) ∧ Below W'.heap.size W' w') := fun W' A' c' hW' hs hpl => by
      have h := check_any A c g A' (potL g) c' C l e wh W' (HX.out _ hW') hl hs hpl (HY.out _ hW') hl2 hle
      rw [show checkAll g (potL g) l wh = checkM g l wh by unfold checkAll; rw [if_neg (by rw [grB_iff.2 hgr]; simp), if_neg (by simp)]] at h
      exact h
    have HMK : Hid (moreM g l wh k b = if (checkM g l wh).2 = 0 then ((allR g).take m, pgWh g m, 0) else ([], false, 160)) := by show _ = _; unfold moreM; rw [if_pos h0, hn, hm]
    obtain ⟨ce, hce⟩ : ∃ ce, (checkM g l wh).2 = ce := ⟨_, rfl⟩
    rw [hce] at HMK HCH
    generalize (checkM g l wh).1 = cn at *
    rw [h0] at HC
    generalize (allR g).take m = Lc at *
    generalize pgWh g m = wb at *
    generalize potL g = ps at *
    have hwa : IntKind.i64.wrap ((l.length : Int) + (n : Int)) = (l.length : Int) + (n : Int) := IntWalk.i64_in _ (by omega)
    have hmm : min ((l.length : Int) + (n : Int)) 50 = (m : Int) := by omega
    clear h0 hq hn hgr hb0 hbu h14 hm hce hwn
    go_upto_region 4 with (go_at_call 30; go_loud (refine HC.out.mono ?_; rintro e w3 ⟨rfl, hb3⟩))
    have g0 := ((bcell hb3).1 _ _ gl).trans g0
    have g1 := ((bcell hb3).1 _ _ gl).trans g1
    have gl := Nat.lt_of_lt_of_le gl hb3.size
    have q0 := ((bcell hb3).1 _ _ ql).trans q0
    have q1 := ((bcell hb3).1 _ _ ql).trans q1
    have ql := Nat.lt_of_lt_of_le ql hb3.size
    go_upto_region 5 with (go_at_call 21; go_loud (refine (HPT.out _ hb3).mono ?_; rintro e w4 ⟨A4, c4, rfl, hps, hb4, hc4, hcm4⟩))
    have g0 := ((bcell hb4).1 _ _ gl).trans g0
    have g1 := ((bcell hb4).1 _ _ gl).trans g1
    have gl := Nat.lt_of_lt_of_le gl hb4.size
    have q0 := ((bcell hb4).1 _ _ ql).trans q0
    have q1 := ((bcell hb4).1 _ _ ql).trans q1
    have ql := Nat.lt_of_lt_of_le ql hb4.size
    have HC4 := Lib.hid (HCH.out w4 A4 c4 (bthen hb3 hb4) hps (by omega))
    have HB4 := Lib.hid (bthen hb3 hb4)
    have hP4 := hP.below (bthen hb3 hb4) hP.lt
    clear hb3 hb4 hps HCH HC HPT hP
    go_upto_region 8 with (go_at_call 13; go_loud (refine HC4.out.mono ?_; rintro e W6 ⟨rfl, hb6⟩))
    have g0 := ((bcell hb6).1 _ _ gl).trans g0
    have g1 := ((bcell hb6).1 _ _ gl).trans g1
    have gl := Nat.lt_of_lt_of_le gl hb6.size
    have q0 := ((bcell hb6).1 _ _ ql).trans q0
    have q1 := ((bcell hb6).1 _ _ ql).trans q1
    have ql := Nat.lt_of_lt_of_le ql hb6.size
    have hP6 := hP4.below hb6 hP4.lt
    have HB26 := Lib.hid (bthen HB4.out hb6)
    have HB6 := Lib.hid (bthen hb2 HB26.out)
    have HFI := Lib.hid (fun W' hW' => HFI.out W6 W' HB26.out hW')
    clear hb6 hP4 HX HY hG hQ HC4
    by_cases hce : ce = 0
    · subst hce
      rw [if_pos rfl] at HMK
      have HP := Lib.hid hP6
      clear hP6
      go_upto_region 10 with fail
      refine ordB_below (.quiet 0 (.quiet 1 (.quiet 2 (.quiet 3 (.quiet 4 (.quiet 5 (.quiet 7 (.fork 6 8 (.only 8 (.only 9 (.quiet 10 (.quiet 11 .done)))) (.only 6 (.only 9 (.quiet 10 (.quiet 11 .done)))))))))))) (by kernel_rfl) (by kernel_rfl) (by kernel_rfl) (fun _ _ _ _ _ h => h) ?_
      intro Wf hWf
      iterate 7 (first
        | (refine ordB_skip rfl rfl ?_; simp only [Act.put, List.setIfInBounds_toArray, List.set_cons_zero, List.set_cons_succ])
        | (refine ordB_take (v := ?_) rfl rfl ?_ ?_
           rotate_left 1
           focus (intro W hW; obtain ⟨hcW, hfW⟩ := bcell hW; (go_simp <;> with_reducible rfl))
           simp only [Act.put, List.setIfInBounds_toArray, List.set_cons_zero, List.set_cons_succ]))
      refine ordB_fork (opB_call rfl rfl (fun K hK => ?_)) (opB_call rfl rfl (fun K hK => ?_))
      · go_simp
        refine hK.out _ _ hWf (fun hWf_1 => ?_)
        clear hK K
        obtain ⟨Wf_1, rfl⟩ : ∃ V, V = Wf := ⟨_, rfl⟩
        refine ordB_only (opB_call rfl rfl (fun K hK => ?_))
        go_simp
        refine hK.out _ _ (hWf_1.alloc hWf_1.size _) (fun hWf_1_2 => ?_)
        have kb := Blk.new Wf_1 3 #[.int .i64 k]
        have kbb := nw (.cells #[.int .i64 k] 3) (Below.refl Wf_1.heap.size Wf_1)
        have kbg := hWf_1.size
        obtain ⟨Wf_1_2, qqWf_1_2⟩ : ∃ W', Wf_1.alloc (.cells #[.int .i64 k] 3) = W' := ⟨_, rfl⟩
        rw [qqWf_1_2] at hWf_1_2 kb kbb ⊢
        clear qqWf_1_2 kbb
        refine ordB_only (opB_call rfl rfl (fun K hK => ?_))
        go_simp
        go_at_call 31
        refine (HLE.out Wf_1_2 _ kb).mono ?_
        rintro e w' ⟨rfl, rfl⟩
        refine hK.out _ _ hWf_1_2 (fun hWf_1_2_3 => ?_)
        iterate 2 (first
          | (refine ordB_skip rfl rfl ?_; simp only [Act.put, List.setIfInBounds_toArray, List.set_cons_zero, List.set_cons_succ])
          | (refine ordB_take (v := ?_) rfl rfl ?_ ?_
             rotate_left 1
             focus (intro W hW; obtain ⟨hcW, hfW⟩ := bcell hW; (go_simp <;> with_reducible rfl))
             simp only [Act.put, List.setIfInBounds_toArray, List.set_cons_zero, List.set_cons_succ]))
        refine ordB_nil ?_
        have hb58 := hWf_1_2_3
        clear hWf_1_2_3
        generalize Wf_1_2 = W8 at *
        have g0 := ((bcell hb58).1 _ _ gl).trans g0
        have g1 := ((bcell hb58).1 _ _ gl).trans g1
        have gl := Nat.lt_of_lt_of_le gl hb58.size
        have hP8 := HP.out.below hb58 HP.out.lt
        have HB8 := Lib.hid (bthen HB6.out hb58)
        have HF8 := Lib.hid (HFI.out W8 hb58)
        have HPP := Lib.hid hP8
        have p0 := hP8.cell 0
        have p1 := hP8.cell 1
        have pf0 := hP8.frozen 0
        have pf1 := hP8.frozen 1
        have pl := hP8.lt
        simp at p0 p1
        clear hP8 hb58 HFI
        go_wp2_with (go_at_call 33; go_loud (refine HF8.out.mono ?_; rintro e W9 ⟨A5, c5, ms, base, rfl, _, hms, HMX, hml, hmc, hown, hb9⟩; have p0 := ((bcell hb9).1 _ _ pl).trans p0; have p1 := ((bcell hb9).1 _ _ pl).trans p1; have pf0 := ((bcell hb9).2 _ _ pl).trans pf0; have pf1 := ((bcell hb9).2 _ _ pl).trans pf1; have pl := Nat.lt_of_lt_of_le pl hb9.size))
        have hP9 := HPP.out.below hb9 HPP.out.lt
        have hne := own_blk_ne hown hP9 (by decide)
        refine ret_cell_tmp (t := 33) (cs := #[.slice A5 Lc.length c5, .bool wb]) (by have := (hP9.set_ 0 (.slice A5 Lc.length c5)).set_ 1 (.bool wb); simpa using this) rfl rfl Try.underlying33 rfl (by kernel_rfl) rfl ?_
        have hO5 := own_set (own_set hown (a := ⟨bP, 0, none⟩) hne (.slice A5 Lc.length c5)) (a := ⟨bP, 1, none⟩) hne (.bool wb)
        have hM5 := (hms.set_ (p := ⟨bP, 0, none⟩) hP9 (by decide) (.slice A5 Lc.length c5)).set_ (p := ⟨bP, 1, none⟩) (hP9.set_ 0 (.slice A5 Lc.length c5)) (by decide) (.bool wb)
        obtain ⟨A8, c8, he8, _, _, hs8⟩ := own_slr (R := RMc) hO5 (fun _ => rfl) (fun _ => rfl) rfl
        obtain ⟨rfl, rfl⟩ : A5 = A8 ∧ c5 = c8 := by injection he8 with h1 h2 h3; exact ⟨h1, h3⟩
        exact ⟨A5, c5, ms, base, by rw [HMK.out]; rfl, hs8, hM5, by rw [HMK.out]; exact HMX.out, by rw [HMK.out]; exact hml, hmc, hO5, ((bthen HB8.out hb9).setCell (p := ⟨bP, 0, none⟩) hwP _).setCell (p := ⟨bP, 1, none⟩) hwP _⟩
      · go_simp
        refine hK.out _ _ (hWf.alloc hWf.size _) (fun hWf_1 => ?_)
        have kb := Blk.new Wf 3 #[.int .i64 k]
        have kbb := nw (.cells #[.int .i64 k] 3) (Below.refl Wf.heap.size Wf)
        have kbg := hWf.size
        obtain ⟨Wf_1, qqWf_1⟩ : ∃ W', Wf.alloc (.cells #[.int .i64 k] 3) = W' := ⟨_, rfl⟩
        rw [qqWf_1] at hWf_1 kb kbb ⊢
        clear qqWf_1 kbb
        refine ordB_only (opB_call rfl rfl (fun K hK => ?_))
        go_simp
        refine hK.out _ _ hWf_1 (fun hWf_1_2 => ?_)
        clear hK K
        obtain ⟨Wf_1_2, rfl⟩ : ∃ V, V = Wf_1 := ⟨_, rfl⟩
        refine ordB_only (opB_call rfl rfl (fun K hK => ?_))
        go_simp
        go_at_call 31
        refine (HLE.out Wf_1_2 _ kb).mono ?_
        rintro e w' ⟨rfl, rfl⟩
        refine hK.out _ _ hWf_1_2 (fun hWf_1_2_3 => ?_)
        iterate 2 (first
          | (refine ordB_skip rfl rfl ?_; simp only [Act.put, List.setIfInBounds_toArray, List.set_cons_zero, List.set_cons_succ])
          | (refine ordB_take (v := ?_) rfl rfl ?_ ?_
             rotate_left 1
             focus (intro W hW; obtain ⟨hcW, hfW⟩ := bcell hW; (go_simp <;> with_reducible rfl))
             simp only [Act.put, List.setIfInBounds_toArray, List.set_cons_zero, List.set_cons_succ]))
        refine ordB_nil ?_
        have hb58 := hWf_1_2_3
        clear hWf_1_2_3
        generalize Wf_1_2 = W8 at *
        have g0 := ((bcell hb58).1 _ _ gl).trans g0
        have g1 := ((bcell hb58).1 _ _ gl).trans g1
        have gl := Nat.lt_of_lt_of_le gl hb58.size
        have hP8 := HP.out.below hb58 HP.out.lt
        have HB8 := Lib.hid (bthen HB6.out hb58)
        have HF8 := Lib.hid (HFI.out W8 hb58)
        have HPP := Lib.hid hP8
        have p0 := hP8.cell 0
        have p1 := hP8.cell 1
        have pf0 := hP8.frozen 0
        have pf1 := hP8.frozen 1
        have pl := hP8.lt
        simp at p0 p1
        clear hP8 hb58 HFI
        go_wp2_with (go_at_call 33; go_loud (refine HF8.out.mono ?_; rintro e W9 ⟨A5, c5, ms, base, rfl, _, hms, HMX, hml, hmc, hown, hb9⟩; have p0 := ((bcell hb9).1 _ _ pl).trans p0; have p1 := ((bcell hb9).1 _ _ pl).trans p1; have pf0 := ((bcell hb9).2 _ _ pl).trans pf0; have pf1 := ((bcell hb9).2 _ _ pl).trans pf1; have pl := Nat.lt_of_lt_of_le pl hb9.size))
        have hP9 := HPP.out.below hb9 HPP.out.lt
        have hne := own_blk_ne hown hP9 (by decide)
        refine ret_cell_tmp (t := 33) (cs := #[.slice A5 Lc.length c5, .bool wb]) (by have := (hP9.set_ 0 (.slice A5 Lc.length c5)).set_ 1 (.bool wb); simpa using this) rfl rfl Try.underlying33 rfl (by kernel_rfl) rfl ?_
        have hO5 := own_set (own_set hown (a := ⟨bP, 0, none⟩) hne (.slice A5 Lc.length c5)) (a := ⟨bP, 1, none⟩) hne (.bool wb)
        have hM5 := (hms.set_ (p := ⟨bP, 0, none⟩) hP9 (by decide) (.slice A5 Lc.length c5)).set_ (p := ⟨bP, 1, none⟩) (hP9.set_ 0 (.slice A5 Lc.length c5)) (by decide) (.bool wb)
        obtain ⟨A8, c8, he8, _, _, hs8⟩ := own_slr (R := RMc) hO5 (fun _ => rfl) (fun _ => rfl) rfl
        obtain ⟨rfl, rfl⟩ : A5 = A8 ∧ c5 = c8 := by injection he8 with h1 h2 h3; exact ⟨h1, h3⟩
        exact ⟨A5, c5, ms, base, by rw [HMK.out]; rfl, hs8, hM5, by rw [HMK.out]; exact HMX.out, by rw [HMK.out]; exact hml, hmc, hO5, ((bthen HB8.out hb9).setCell (p := ⟨bP, 0, none⟩) hwP _).setCell (p := ⟨bP, 1, none⟩) hwP _⟩
    · rw [if_neg hce] at HMK
      have hceb : (ce == 0) = false := by simp [hce]
      have p0 := hP6.cell 0
      have p1 := hP6.cell 1
      have pf0 := hP6.frozen 0
      have pf1 := hP6.frozen 1
      have pl := hP6.lt
      simp at p0 p1
      have HP := Lib.hid hP6
      clear hP6 hce
      go_wp2_with fail
      refine ret_cell_tmp (t := 33) (cs := #[.slice none 0 0, .bool false]) (by have := (HP.out.set_ 0 (.slice none 0 0)).set_ 1 (.bool false); simpa using this) rfl rfl Try.underlying33 rfl (by kernel_rfl) rfl ?_
      exact ⟨none, 0, [], 0, by rw [HMK.out]; rfl, SlR.nil, MsOK.nil, by rw [HMK.out]; rfl, by rw [HMK.out]; exact Nat.le_refl _, Nat.zero_le _, own_nil _ _ _ _, ((HB6.out).setCell (p := ⟨bP, 0, none⟩) hwP _).setCell (p := ⟨bP, 1, none⟩) hwP _⟩
  · have HMK : Hid (moreM g l wh k b = ([], false, pgErr g k b)) := by show _ = _; unfold moreM; rw [if_neg h0]
    have hv := pgErr_val g k b
    generalize pgErr g k b = er at *
    have h1 : er = 1 ∨ er = 150 := hv.resolve_left h0
    clear hv h0
    have p0 := hP.cell 0
    have p1 := hP.cell 1
    have pf0 := hP.frozen 0
    have pf1 := hP.frozen 1
    have pl := hP.lt
    simp at p0 p1
    have HPP := Lib.hid hP
    clear hP hG hQ
    rcases h1 with rfl | rfl
    all_goals
      go_wp2_with (go_at_call 30; go_loud (refine HC.out.mono ?_; rintro e w3 ⟨rfl, hb3⟩; have p0 := ((bcell hb3).1 _ _ pl).trans p0; have p1 := ((bcell hb3).1 _ _ pl).trans p1; have pf0 := ((bcell hb3).2 _ _ pl).trans pf0; have pf1 := ((bcell hb3).2 _ _ pl).trans pf1; have pl := Nat.lt_of_lt_of_le pl hb3.size))
      have hP3 := HPP.out.below hb3 HPP.out.lt
      refine ret_cell_tmp (t := 33) (cs := #[.slice none 0 0, .bool false]) (by have := (hP3.set_ 0 (.slice none 0 0)).set_ 1 (.bool false); simpa using this) rfl rfl Try.underlying33 rfl (by kernel_rfl) rfl ?_
      exact ⟨none, 0, [], 0, by rw [HMK.out]; rfl, SlR.nil, MsOK.nil, by rw [HMK.out]; rfl, by rw [HMK.out]; exact Nat.le_refl _, Nat.zero_le _, own_nil _ _ _ _, ((bthen hb2 hb3).setCell (p := ⟨bP, 0, none⟩) hwP _).setCell (p := ⟨bP, 1, none⟩) hwP _⟩
end Go.Proofs.Ytpajajffkbkeaaa
