/-
  The walks of layer 11: searches by halves, costs of pairs.
-/
import Derived.Test.YtfjkmgjjifhdkaaGreatR33
import Derived.Test.YtfjkmgjjifhdkaaGreatR35
namespace Go.Proofs.YtfjkmgjjifhdkaaGreat
open Go Go.RowKit

set_option maxRecDepth 100000 in
set_option maxHeartbeats 1000000 in
theorem reached_any (g p : Pr) (w : World) : Calls Tryz.prog 86 #[.agg #[.int .i64 g.a, .int .i64 g.b, .int .i64 g.n], .agg #[.int .i64 p.a, .int .i64 p.b, .int .i64 p.n]] w fun e w' => e = .returned (.bool (reachB g p)) ∧ Below w.heap.size w w' := by
  unfold reachB
  have hcase : g.a < p.a ∨ (p.a = g.a ∧ g.b ≤ p.b) ∨ (p.a = g.a ∧ p.b < g.b) ∨ (p.a < g.a) := by omega
  rcases hcase with h | ⟨h, h'⟩ | ⟨h, h'⟩ | h
  all_goals
    go_enter Tryz.func86, Tryz.ntmps86
    go_wp2_with fail
    go_ret
    refine ⟨ret_bool (?_ : _ = (decide (g.a < p.a) || p.a == g.a && decide (g.b ≤ p.b))), ((Below.refl _ _).alloc (Nat.le_refl _) _).alloc (by simp) _⟩
    rw [Bool.eq_iff_iff]
    simp only [Bool.or_eq_true, Bool.and_eq_true, decide_eq_true_eq, beq_iff_eq, true_iff]
    omega

set_option maxRecDepth 100000 in
set_option maxHeartbeats 2000000 in
theorem bfind_any (A : Option Addr) (xs : List Pr) (c : Nat) (g : Pr) (w : World) (hx : SlR 3 RPr w A xs) (hl : xs.length ≤ 65536) (hinc : incP xs = true) :
    Calls Tryz.prog 85 #[.slice A xs.length c, .func (.func 86) #[.agg #[.int .i64 g.a, .int .i64 g.b, .int .i64 g.n]] #[]] w fun e w' => e = .returned (.int .i64 (cutP xs g)) ∧ Below w.heap.size w w' := by
  have HI := Lib.hid hinc
  clear hinc
  go_enter Tryz.func85, Tryz.ntmps85
  go_wp2_with fail
  go_loopw [5, 6, 7] (fun lo hi _ wr => ∃ l h : Nat, l ≤ h ∧ h ≤ xs.length ∧ Halves xs g l h ∧ lo = .int .i64 l ∧ hi = .int .i64 h ∧ Below w.heap.size w wr) (fun lo hi _ _ => (intOf hi - intOf lo).toNat)
  case atStart => exact ⟨0, xs.length, by omega, by omega, Halves.start _ _, rfl, rfl, Below.refl _ _⟩
  case round =>
    obtain ⟨l, h, hlh, hhl, hH, rfl, rfl, hb⟩ := hrel
    have HH := Lib.hid hH
    clear hH
    by_cases hlt : l < h
    · obtain ⟨k, hk⟩ : ∃ k, k = l + (h - l) / 2 := ⟨_, rfl⟩
      have hk1 : l ≤ k := by omega
      have hk2 : k < h := by omega
      obtain ⟨b, off, p, rfl, hbb, hpp, hc0, hc1, hc2⟩ := (hx.below keeps_pr hb).pr (k := k) (by omega)
      have HP := Lib.hid hpp
      clear hpp
      subst hk
      cases hr : reachB g p
      · have HR := Lib.hid hr
        go_wp2_with (go_at_call 86; refine (reached_any g p _).mono ?_; rintro e w' ⟨rfl, hb'⟩)
        go_roundw
        case rel => exact ⟨l + (h - l) / 2 + 1, h, by omega, hhl, HH.out.right HI.out hk2 HP.out HR.out, by go_num, rfl, hb.trans (hb'.mono hb.size)⟩
        case measure => simp [intOf]; omega
      · have HR := Lib.hid hr
        go_wp2_with (go_at_call 86; refine (reached_any g p _).mono ?_; rintro e w' ⟨rfl, hb'⟩)
        go_roundw
        case rel => exact ⟨l, l + (h - l) / 2, by omega, by omega, HH.out.left HI.out hk1 hk2 HP.out HR.out, rfl, by go_num, hb.trans (hb'.mono hb.size)⟩
        case measure => simp [intOf]; omega
    · obtain rfl : l = h := by omega
      go_wp2_with fail
      go_ret
      exact ⟨ret_int (by rw [HH.out.cut]), hb⟩

set_option maxRecDepth 100000 in
set_option maxHeartbeats 4000000 in
theorem pair_neg (m : Mo) (A1 A2 A3 : Option Addr) (c1 c2 c3 : Nat) (a : Int) (k : Nat) (w : World) (h : MoR w m A1 A2 A3) (hok : MoOK m) (hk : k < m.cs.length) (ha : a < 0) :
    Calls Tryz.prog 49 #[.agg #[.slice A1 m.ws.length c1, .slice A2 m.cs.length c2, .slice A3 m.ps.length c3, .int .i64 m.back], .int .i64 a, .int .i64 k] w fun e w' => e = .returned (.int .i64 (pcost m a k)) ∧ Below w.heap.size w w' := by
  have HP := Lib.hid (show pcost m a k = wcost m k by unfold pcost; rw [if_pos ha])
  have HW := Lib.hid (wcost_any m A1 A2 A3 c1 c2 c3 k _ (h.below (unbox (rebox w (.cells #[.slice A1 m.ws.length c1, .slice A2 m.cs.length c2, .slice A3 m.ps.length c3, .int .i64 m.back] 56)))) hok.1.1.2 hk)
  clear h hok
  go_enter Tryz.func49, Tryz.ntmps49
  go_wp2_with (go_at_call 24; refine HW.out.mono ?_; rintro e w1 ⟨rfl, hb1⟩)
  go_ret
  exact ⟨ret_int HP.out.symm, unbox (bx hb1)⟩
set_option maxRecDepth 100000 in
set_option maxHeartbeats 4000000 in
theorem pair_pos (m : Mo) (A1 A2 A3 : Option Addr) (c1 c2 c3 : Nat) (a k : Nat) (w : World) (h : MoR w m A1 A2 A3) (hok : MoOK m) (hk : k < m.cs.length) (hc3 : m.ps.length ≤ c3) (_hm3 : c3 ≤ maxLen) :
    Calls Tryz.prog 49 #[.agg #[.slice A1 m.ws.length c1, .slice A2 m.cs.length c2, .slice A3 m.ps.length c3, .int .i64 m.back], .int .i64 a, .int .i64 k] w fun e w' => e = .returned (.int .i64 (pcost m a k)) ∧ Below w.heap.size w w' := by
  have hB : Below w.heap.size w (w.alloc (.cells #[.slice A1 m.ws.length c1, .slice A2 m.cs.length c2, .slice A3 m.ps.length c3, .int .i64 m.back] 56)) := unbox (rebox w _)
  have HF := Lib.hid (bfind_any A3 m.ps c3 (goalP a) _ (h.below hB).h3 h.l3 hok.1.2.2.2)
  have H := Lib.hid h
  have hl3 := h.l3
  have hcl := (cut_spec m.ps (goalP a) hok.1.2.2.2).hhi
  clear h hB
  have HOK := Lib.hid hok
  clear hok
  obtain ⟨f, hf⟩ : ∃ f, f = cutP m.ps (goalP a) := ⟨_, rfl⟩
  rw [← hf] at HF hcl
  have Hf := Lib.hid hf
  clear hf
  have hk65 : m.cs.length ≤ 65536 := H.out.l2
  have hst := sumAt_ok (a := a) HOK.out.1.2
  have hkt := known_bd (a := a) (b := k) HOK.out.1.2
  have HWC : Hid (∀ W, Below (w.heap.size + 1) (w.alloc (.cells #[.slice A1 m.ws.length c1, .slice A2 m.cs.length c2, .slice A3 m.ps.length c3, .int .i64 m.back] 56)) W → Calls Tryz.prog 24 #[.agg #[.slice A1 m.ws.length c1, .slice A2 m.cs.length c2, .slice A3 m.ps.length c3, .int .i64 m.back], .int .i64 k] W fun e w' => e = .returned (.int .i64 (wcost m k)) ∧ Below W.heap.size W w') := fun W hW =>
    wcost_any m A1 A2 A3 c1 c2 c3 k W (H.out.below (unbox hW)) HOK.out.1.1.2 hk
  have hwb := wcost_bd m k HOK.out.1.1.2 hk (by have := HOK.out.1.1.1.1.2; omega)
  have hmb := HOK.out.2
  have hwm : IntKind.i64.wrap (m.back + wcost m k) = m.back + wcost m k := IntWalk.i64_in _ (by omega)
  have lb1 := lg_bd (sumAt m.ps a) (by omega)
  have lb2 := lg_bd (known m.ps a k) (by omega)
  by_cases hcf : c3 = f
  · have hn : m.ps.length = f := by omega
    have hno := before_cut (a := a) HOK.out.1.2
    rw [← Hf.out, ← hn, List.take_length] at hno
    have hz : known m.ps a k = 0 := by
      rcases known_spec (a := a) (b := k) HOK.out.1.2 with ⟨i, p, hp, ha, _, _, _⟩ | ⟨h, _⟩
      · exact absurd ha (hno p (List.mem_of_getElem? hp))
      · exact h
    have HZ := Lib.hid hz
    clear hno hz
    have hfz : (m.ps.length - f) = 0 := by omega
    have HFZ := Lib.hid hfz
    clear hfz hn
    subst hcf
    go_enter Tryz.func49, Tryz.ntmps49
    go_wp2_with (go_at_call 85; refine HF.out.mono ?_; rintro e w1 ⟨rfl, hb1⟩; have hm2 := box_cell (bx hb1) 2)
    have hb1' := bx hb1
    clear hb1 hm2
    go_loopw [8, 9, 29] (fun s n i wr => s = .int .i64 0 ∧ n = .int .i64 0 ∧ i = .int .i64 0 ∧ Below (w.heap.size + 1) (w.alloc (.cells #[.slice A1 m.ws.length c1, .slice A2 m.cs.length c2, .slice A3 m.ps.length c3, .int .i64 m.back] 56)) wr) (fun _ _ _ _ => 0)
    case atStart => exact ⟨rfl, rfl, rfl, hb1'⟩
    case round =>
      obtain ⟨rfl, rfl, rfl, hb⟩ := hrel
      clear hb1'
      have HPC := Lib.hid (show pcost m a k = m.back + wcost m k by unfold pcost; rw [if_neg (by omega), if_pos HZ.out])
      have hm0 := box_cell hb 0
      have hm1 := box_cell hb 1
      have hm2 := box_cell hb 2
      have hm3 := box_cell hb 3
      simp at hm0 hm1 hm2 hm3
      have hsz := box_size hb
      go_wp2_with fail
      refine ord_below [(0, false), (1, false), (2, false), (3, false), (4, true), (5, false), (6, false)] (by kernel_rfl) (by kernel_rfl) (by kernel_rfl) (fun _ _ _ _ _ h => h) ?_
      intro W0 hS0
      repeat (first
        | (refine ord_skip rfl rfl ?_; simp only [Act.put, List.setIfInBounds_toArray, List.set_cons_zero, List.set_cons_succ])
        | (refine ord_cskip rfl rfl (by assumption) ?_; simp only [Act.put, List.setIfInBounds_toArray, List.set_cons_zero, List.set_cons_succ])
        | (refine ord_take (v := ?_) rfl rfl ?_ ?_
           rotate_left 1
           focus (intro W hW; obtain ⟨hcW, hfW⟩ := bcell hW; (go_simp <;> with_reducible rfl))
           simp only [Act.put, List.setIfInBounds_toArray, List.set_cons_zero, List.set_cons_succ])
        | (refine ord_call rfl rfl (fun K hK => ?_)
           go_simp
           first
             | (go_at_call 24; refine (HWC.out _ (hb.trans (hS0.mono (by omega)))).mono ?_; rintro e w' ⟨rfl, hb'⟩; refine hK.out _ _ (hS0.trans (hb'.mono hS0.size)) (fun hS0 => ?_))))
      refine ord_nil ?_
      go_wp2_with fail
      go_ret
      exact ⟨ret_int HPC.out.symm, (unbox hb).trans (hS0.mono (by omega))⟩
  · have HD : Hid (∀ W, Below w.heap.size w W → SlR 3 RPr W (A3.map (fun x => x.add (f * 3))) (m.ps.drop f)) := fun W hW => ((H.out.below hW).h3).drop f
    have hdl : m.ps.length - f = (m.ps.drop f).length := by rw [List.length_drop]
    have HDL := Lib.hid hdl
    clear hdl
    obtain ⟨ds, hds⟩ : ∃ ds, ds = m.ps.drop f := ⟨_, rfl⟩
    obtain ⟨A', hA'⟩ : ∃ A', A' = A3.map (fun x => x.add (f * 3)) := ⟨_, rfl⟩
    rw [← hds] at HD HDL
    rw [← hA'] at HD
    have HDS := Lib.hid hds
    have hd65 : ds.length ≤ 65536 := by rw [← HDL.out]; omega
    have HStart := Lib.hid (pair_start (a := a) (b := k) HOK.out.1.2)
    rw [← Hf.out] at HStart
    have HA' := Lib.hid hA'
    clear hds hA'
    go_enter Tryz.func49, Tryz.ntmps49
    go_wp2_with (go_at_call 85; refine HF.out.mono ?_; rintro e w1 ⟨rfl, hb1⟩; have hm2 := box_cell (bx hb1) 2)
    rw [← HA'.out, HDL.out]
    have hb1' := bx hb1
    clear hb1 hm2
    by_cases hz : known m.ps a k = 0
    · have HZ := Lib.hid hz
      clear hz
      have HPC := Lib.hid (show pcost m a k = m.back + wcost m k by unfold pcost; rw [if_neg (by omega), if_pos HZ.out])
      go_loopw [8, 9, 11, 29] (fun s n _ i wr => ∃ j : Nat, j ≤ ds.length ∧ s = .int .i64 (sumAt (m.ps.take (f + j)) a) ∧ n = .int .i64 (known (m.ps.take (f + j)) a k) ∧ i = .int .i64 j ∧ Below (w.heap.size + 1) (w.alloc (.cells #[.slice A1 m.ws.length c1, .slice A2 m.cs.length c2, .slice A3 m.ps.length c3, .int .i64 m.back] 56)) wr) (fun _ _ _ i _ => ds.length - (intOf i).toNat)
      case atStart => exact ⟨0, by omega, vint (HStart.out).1.symm, vint (HStart.out).2.symm, rfl, hb1'⟩
      case round =>
        clear hb1'
        obtain ⟨j, hj, rfl, rfl, rfl, hb⟩ := hrel
        have hsb := sumAt_take_le (n := m.ws.length) (fun p hp => (HOK.out.1.2.2.1 p hp).1) (f + j) a
        have hs0 := sumAt_nonneg (ps := m.ps.take (f + j)) (n := m.ws.length) (fun p hp => (HOK.out.1.2.2.1 p (List.mem_of_mem_take hp)).1) a
        by_cases hlt : j < ds.length
        · obtain ⟨b, off, p, rfl, hbb, hpp, hc0, hc1, hc2⟩ := (HD.out _ (unbox hb)).pr hlt
          have hpp' : m.ps[f + j]? = some p := by rw [HDS.out, List.getElem?_drop] at hpp; exact hpp
          have HX := Lib.hid (take_succ_of hpp')
          have HPP := Lib.hid hpp'
          have hpn := HOK.out.1.2.2.1 p (List.mem_of_getElem? hpp')
          have hpn1 := hpn.1.2.2
          have hpn2 := hpn.2.1
          clear hpp hpp' hpn
          by_cases hpa : p.a = a
          · have hsb' := sumAt_take_le (n := m.ws.length) (fun p hp => (HOK.out.1.2.2.1 p hp).1) (f + j + 1) a
            by_cases hpb : p.b = k
            · go_wp2_with fail
              go_roundw
              case rel => exact ⟨j + 1, by omega, vint (by rw [← Nat.add_assoc, HX.out, sumAt_snoc, if_pos (by simp [hpa])]), vint (by rw [← Nat.add_assoc, HX.out, known_snoc, if_pos (by simp [hpa, hpb])]), by go_num, hb.alloc (by have := box_size hb; omega) _⟩
              case measure => simp [intOf]; omega
            · go_wp2_with fail
              go_roundw
              case rel => exact ⟨j + 1, by omega, vint (by rw [← Nat.add_assoc, HX.out, sumAt_snoc, if_pos (by simp [hpa])]), vint (by rw [← Nat.add_assoc, HX.out, known_snoc, if_neg (by simp [hpb])]), by go_num, hb.alloc (by have := box_size hb; omega) _⟩
              case measure => simp [intOf]; omega
          · have HE := Lib.hid (pair_ends HOK.out.1.2 (k := f + j) (b := k) (by rw [← Hf.out]; omega) (.inr ⟨p, HPP.out, hpa⟩))
            rw [HE.out.1, HE.out.2]
            have hbw := hb.alloc (by have := box_size hb; omega) (.cells #[.int .i64 p.a, .int .i64 p.b, .int .i64 p.n] 111)
            rw [HZ.out]
            obtain ⟨W2, hW2⟩ : ∃ W2, W2 = wr.alloc (.cells #[.int .i64 p.a, .int .i64 p.b, .int .i64 p.n] 111) := ⟨_, rfl⟩
            rw [← hW2] at hbw
            have HW2 := Lib.hid hW2
            clear hW2
            have hm0 := box_cell hbw 0
            have hm1 := box_cell hbw 1
            have hm2 := box_cell hbw 2
            have hm3 := box_cell hbw 3
            simp at hm0 hm1 hm2 hm3
            have hsz := box_size hbw
            go_wp2_with fail
            rw [← HW2.out]
            refine ord_below [(0, false), (1, false), (2, false), (3, false), (4, true), (5, false), (6, false)] (by kernel_rfl) (by kernel_rfl) (by kernel_rfl) (fun _ _ _ _ _ h => h) ?_
            intro W0 hS0
            repeat (first
              | (refine ord_skip rfl rfl ?_; simp only [Act.put, List.setIfInBounds_toArray, List.set_cons_zero, List.set_cons_succ])
              | (refine ord_cskip rfl rfl (by assumption) ?_; simp only [Act.put, List.setIfInBounds_toArray, List.set_cons_zero, List.set_cons_succ])
              | (refine ord_take (v := ?_) rfl rfl ?_ ?_
                 rotate_left 1
                 focus (intro W hW; obtain ⟨hcW, hfW⟩ := bcell hW; (go_simp <;> with_reducible rfl))
                 simp only [Act.put, List.setIfInBounds_toArray, List.set_cons_zero, List.set_cons_succ])
              | (refine ord_call rfl rfl (fun K hK => ?_)
                 go_simp
                 first
                   | (go_at_call 24; refine (HWC.out _ (hbw.trans (hS0.mono (by omega)))).mono ?_; rintro e w' ⟨rfl, hb'⟩; refine hK.out _ _ (hS0.trans (hb'.mono hS0.size)) (fun hS0 => ?_))))
            refine ord_nil ?_
            go_wp2_with fail
            go_ret
            exact ⟨ret_int HPC.out.symm, (unbox hbw).trans (hS0.mono (by omega))⟩
        · have HE := Lib.hid (pair_ends HOK.out.1.2 (k := f + j) (b := k) (by rw [← Hf.out]; omega) (.inl (by have := HDL.out; omega)))
          rw [HE.out.1, HE.out.2]
          rw [HZ.out]
          have hm0 := box_cell hb 0
          have hm1 := box_cell hb 1
          have hm2 := box_cell hb 2
          have hm3 := box_cell hb 3
          simp at hm0 hm1 hm2 hm3
          have hsz := box_size hb
          go_wp2_with fail
          refine ord_below [(0, false), (1, false), (2, false), (3, false), (4, true), (5, false), (6, false)] (by kernel_rfl) (by kernel_rfl) (by kernel_rfl) (fun _ _ _ _ _ h => h) ?_
          intro W0 hS0
          repeat (first
            | (refine ord_skip rfl rfl ?_; simp only [Act.put, List.setIfInBounds_toArray, List.set_cons_zero, List.set_cons_succ])
            | (refine ord_cskip rfl rfl (by assumption) ?_; simp only [Act.put, List.setIfInBounds_toArray, List.set_cons_zero, List.set_cons_succ])
            | (refine ord_take (v := ?_) rfl rfl ?_ ?_
               rotate_left 1
               focus (intro W hW; obtain ⟨hcW, hfW⟩ := bcell hW; (go_simp <;> with_reducible rfl))
               simp only [Act.put, List.setIfInBounds_toArray, List.set_cons_zero, List.set_cons_succ])
            | (refine ord_call rfl rfl (fun K hK => ?_)
               go_simp
               first
                 | (go_at_call 24; refine (HWC.out _ (hb.trans (hS0.mono (by omega)))).mono ?_; rintro e w' ⟨rfl, hb'⟩; refine hK.out _ _ (hS0.trans (hb'.mono hS0.size)) (fun hS0 => ?_))))
          refine ord_nil ?_
          go_wp2_with fail
          go_ret
          exact ⟨ret_int HPC.out.symm, (unbox hb).trans (hS0.mono (by omega))⟩
    · have HZ := Lib.hid hz
      have hzb : (known m.ps a k == 0) = false := by simpa using hz
      clear hz
      have HPC := Lib.hid (show pcost m a k = lg (sumAt m.ps a) - lg (known m.ps a k) by unfold pcost; rw [if_neg (by omega), if_neg HZ.out])
      go_loopw [8, 9, 11, 29] (fun s n _ i wr => ∃ j : Nat, j ≤ ds.length ∧ s = .int .i64 (sumAt (m.ps.take (f + j)) a) ∧ n = .int .i64 (known (m.ps.take (f + j)) a k) ∧ i = .int .i64 j ∧ Below (w.heap.size + 1) (w.alloc (.cells #[.slice A1 m.ws.length c1, .slice A2 m.cs.length c2, .slice A3 m.ps.length c3, .int .i64 m.back] 56)) wr) (fun _ _ _ i _ => ds.length - (intOf i).toNat)
      case atStart => exact ⟨0, by omega, vint (HStart.out).1.symm, vint (HStart.out).2.symm, rfl, hb1'⟩
      case round =>
        clear hb1'
        obtain ⟨j, hj, rfl, rfl, rfl, hb⟩ := hrel
        have hsb := sumAt_take_le (n := m.ws.length) (fun p hp => (HOK.out.1.2.2.1 p hp).1) (f + j) a
        have hs0 := sumAt_nonneg (ps := m.ps.take (f + j)) (n := m.ws.length) (fun p hp => (HOK.out.1.2.2.1 p (List.mem_of_mem_take hp)).1) a
        by_cases hlt : j < ds.length
        · obtain ⟨b, off, p, rfl, hbb, hpp, hc0, hc1, hc2⟩ := (HD.out _ (unbox hb)).pr hlt
          have hpp' : m.ps[f + j]? = some p := by rw [HDS.out, List.getElem?_drop] at hpp; exact hpp
          have HX := Lib.hid (take_succ_of hpp')
          have HPP := Lib.hid hpp'
          have hpn := HOK.out.1.2.2.1 p (List.mem_of_getElem? hpp')
          have hpn1 := hpn.1.2.2
          have hpn2 := hpn.2.1
          clear hpp hpp' hpn
          by_cases hpa : p.a = a
          · have hsb' := sumAt_take_le (n := m.ws.length) (fun p hp => (HOK.out.1.2.2.1 p hp).1) (f + j + 1) a
            by_cases hpb : p.b = k
            · go_wp2_with fail
              go_roundw
              case rel => exact ⟨j + 1, by omega, vint (by rw [← Nat.add_assoc, HX.out, sumAt_snoc, if_pos (by simp [hpa])]), vint (by rw [← Nat.add_assoc, HX.out, known_snoc, if_pos (by simp [hpa, hpb])]), by go_num, hb.alloc (by have := box_size hb; omega) _⟩
              case measure => simp [intOf]; omega
            · go_wp2_with fail
              go_roundw
              case rel => exact ⟨j + 1, by omega, vint (by rw [← Nat.add_assoc, HX.out, sumAt_snoc, if_pos (by simp [hpa])]), vint (by rw [← Nat.add_assoc, HX.out, known_snoc, if_neg (by simp [hpb])]), by go_num, hb.alloc (by have := box_size hb; omega) _⟩
              case measure => simp [intOf]; omega
          · have HE := Lib.hid (pair_ends HOK.out.1.2 (k := f + j) (b := k) (by rw [← Hf.out]; omega) (.inr ⟨p, HPP.out, hpa⟩))
            rw [HE.out.1, HE.out.2]
            have hbw := hb.alloc (by have := box_size hb; omega) (.cells #[.int .i64 p.a, .int .i64 p.b, .int .i64 p.n] 111)
            go_wp2_with (go_at_call 63; refine (log_any _ _ (by omega)).mono ?_; rintro e w' ⟨rfl, rfl⟩)
            go_ret
            exact ⟨ret_int HPC.out.symm, unbox hbw⟩
        · have HE := Lib.hid (pair_ends HOK.out.1.2 (k := f + j) (b := k) (by rw [← Hf.out]; omega) (.inl (by have := HDL.out; omega)))
          rw [HE.out.1, HE.out.2]
          go_wp2_with (go_at_call 63; refine (log_any _ _ (by omega)).mono ?_; rintro e w' ⟨rfl, rfl⟩)
          go_ret
          exact ⟨ret_int HPC.out.symm, unbox hb⟩
end Go.Proofs.YtfjkmgjjifhdkaaGreat
