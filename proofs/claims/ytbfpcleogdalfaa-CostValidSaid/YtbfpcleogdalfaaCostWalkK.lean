/-
  The walks of layer 11: costs of pairs (the reference).
-/
import Derived.Test.YtbfpcleogdalfaaCostWalkJ
namespace Go.Proofs.Ytbfpcleogdalfaa
open Go Go.RowKit

set_option maxRecDepth 100000 in
set_option maxHeartbeats 4000000 in
theorem pair_any (m : Mo) (A1 A2 A3 : Option Addr) (c1 c2 c3 : Nat) (a : Int) (k : Nat) (w : World) (h : MoR w m A1 A2 A3) (hok : MoOK m) (hk : k < m.cs.length) (ha : a < 65536) (hc3 : m.ps.length ≤ c3) (hm3 : c3 ≤ maxLen) :
    Calls Try.prog 14 #[.agg #[.slice A1 m.ws.length c1, .slice A2 m.cs.length c2, .slice A3 m.ps.length c3, .int .i64 m.back], .int .i64 a, .int .i64 k] w fun e w' => e = .returned (.int .i64 (pcost m a k)) ∧ Below w.heap.size w w' := by
  by_cases h0 : a < 0
  · exact pair_neg m A1 A2 A3 c1 c2 c3 a k w h hok hk h0
  · obtain ⟨j, rfl⟩ := Int.eq_ofNat_of_zero_le (show 0 ≤ a by omega)
    exact pair_pos m A1 A2 A3 c1 c2 c3 j k w h hok hk hc3 hm3

set_option maxRecDepth 100000 in
set_option maxHeartbeats 4000000 in
theorem refpair_any (m : Mo) (A1 A2 A3 : Option Addr) (c1 c2 c3 : Nat) (a : Int) (k : Nat) (w : World) (h : MoR w m A1 A2 A3) (hok : MoOK m) (hk : k < m.cs.length) :
    Calls Try.prog 15 #[.agg #[.slice A1 m.ws.length c1, .slice A2 m.cs.length c2, .slice A3 m.ps.length c3, .int .i64 m.back], .int .i64 a, .int .i64 k] w fun e w' => e = .returned (.int .i64 (pcost m a k)) ∧ Below w.heap.size w w' := by
  have HW : Hid (∀ W, Below (w.heap.size + 1) (w.alloc (.cells #[.slice A1 m.ws.length c1, .slice A2 m.cs.length c2, .slice A3 m.ps.length c3, .int .i64 m.back] 34)) W → Calls Try.prog 13 #[.agg #[.slice A1 m.ws.length c1, .slice A2 m.cs.length c2, .slice A3 m.ps.length c3, .int .i64 m.back], .int .i64 k] W fun e w' => e = .returned (.int .i64 (wcost m k)) ∧ Below W.heap.size W w') := fun W hW =>
    refwcost_any m A1 A2 A3 c1 c2 c3 k W (h.below (unbox hW)) hok.1.1.2 hk
  by_cases ha : a < 0
  · have HP := Lib.hid (show pcost m a k = wcost m k by unfold pcost; rw [if_pos ha])
    clear h hok
    go_enter Try.func15, Try.ntmps15
    go_wp2_with (go_at_call 13; refine (HW.out _ (rebox _ _)).mono ?_; rintro e w1 ⟨rfl, hb1⟩)
    go_ret
    exact ⟨ret_int HP.out.symm, unbox (bx hb1)⟩
  · have hB : Below w.heap.size w (w.alloc (.cells #[.slice A1 m.ws.length c1, .slice A2 m.cs.length c2, .slice A3 m.ps.length c3, .int .i64 m.back] 34)) := unbox (rebox w _)
    have HF := Lib.hid (find_any (.slice A1 m.ws.length c1) (.slice A2 m.cs.length c2) (.int .i64 m.back) A3 m.ps c3 a k _ (h.below hB).h3 h.l3)
    have HS : Hid (∀ W, Below (w.heap.size + 1) (w.alloc (.cells #[.slice A1 m.ws.length c1, .slice A2 m.cs.length c2, .slice A3 m.ps.length c3, .int .i64 m.back] 34)) W → Calls Try.prog 31 #[.agg #[.slice A1 m.ws.length c1, .slice A2 m.cs.length c2, .slice A3 m.ps.length c3, .int .i64 m.back], .int .i64 a] W fun e w' => e = .returned (.int .i64 (sumAt m.ps a)) ∧ Below W.heap.size W w') := fun W hW =>
      sum_any _ _ _ A3 m.ps c3 a W (h.below (unbox hW)).h3 h.l3 h.n
    have hk65 : m.cs.length ≤ 65536 := h.l2
    have hps65 : m.ps.length ≤ 65536 := h.l3
    have hst := sumAt_ok (a := a) hok.1.2
    have hkt := known_bd (a := a) (b := k) hok.1.2
    have hwb := wcost_bd m k hok.1.1.2 hk (by have := hok.1.1.1.1.2; omega)
    have hmb := hok.2
    have hwm : IntKind.i64.wrap (m.back + wcost m k) = m.back + wcost m k := IntWalk.i64_in _ (by omega)
    have lb1 := lg_bd (sumAt m.ps a) (by omega)
    have lb2 := lg_bd (known m.ps a k) (by omega)
    have H := Lib.hid h
    rcases known_spec (a := a) (b := k) hok.1.2 with ⟨i, p, hp, hpa, hpb, hkn, hbef⟩ | ⟨hkn, hno⟩
    · have hi : findI m.ps a k = i := findI_some hbef hp hpa hpb
      have hpn := (hok.1.2.2.1 p (List.mem_of_getElem? hp))
      have hpn1 := hpn.1.2.2
      have hpn2 := hpn.2.1
      have HPC := Lib.hid (show pcost m a k = lg (sumAt m.ps a) - lg p.n by unfold pcost; rw [if_neg ha, if_neg (by omega), hkn])
      have lb3 := lg_bd p.n (by omega)
      have hwl : IntKind.i64.wrap (lg (sumAt m.ps a) - lg p.n) = lg (sumAt m.ps a) - lg p.n := IntWalk.i64_in _ (by omega)
      obtain ⟨hilt, _⟩ := List.getElem?_eq_some_iff.1 hp
      obtain ⟨b, off, q, hA, hbb, hqq, hq0, hq1, hq2⟩ := (h.h3).pr hilt
      obtain rfl : q = p := by rw [hp] at hqq; exact (Option.some.inj hqq).symm
      have hii : (i : Int) < (m.ps.length : Int) := by omega
      have hi0 : (0 : Int) ≤ (i : Int) := by omega
      subst hA
      rw [hi] at HF
      clear hi hp hpn hqq hbef hkn hkt h hok hB hpa hpb lb2
      go_enter Try.func15, Try.ntmps15
      go_wp2_with (go_at_call 23; refine HF.out.mono ?_; rintro e w1 ⟨rfl, hb1⟩)
      have hb := bx hb1
      have hcA : w1.cell? ⟨b, off + i * 3 + 2, none⟩ = some (.int .i64 q.n) := ((unbox hb).cell (p := ⟨b, _, none⟩) hbb).trans hq2
      clear hb1 hq0 hq1 hq2
      have hm0 := box_cell hb 0
      have hm1 := box_cell hb 1
      have hm2 := box_cell hb 2
      have hm3 := box_cell hb 3
      simp at hm0 hm1 hm2 hm3
      have hsz := box_size hb
      have hbs : b < w1.heap.size := by omega
      refine ord_below [(0, false), (1, false), (4, false), (5, false), (6, false), (7, false), (8, false), (9, false), (2, true), (3, true), (10, true), (11, false), (12, false)] (by kernel_rfl) (by kernel_rfl) (by kernel_rfl) (fun _ _ _ _ _ h => h) ?_
      intro W0 hS0
      repeat (first
        | (refine ord_skip rfl rfl ?_; simp only [Act.put, List.setIfInBounds_toArray, List.set_cons_zero, List.set_cons_succ])
        | (refine ord_cskip rfl rfl (by assumption) ?_; simp only [Act.put, List.setIfInBounds_toArray, List.set_cons_zero, List.set_cons_succ])
        | (refine ord_take (v := ?_) rfl rfl ?_ ?_
           rotate_left 1
           focus (intro W hW; obtain ⟨hcW, hfW⟩ := bcell hW; (go_simp <;> with_reducible rfl))
           simp only [Act.put, List.setIfInBounds_toArray, List.set_cons_zero, List.set_cons_succ])
        | (refine ord_call rfl rfl (fun K hK => ?_)
           go_simp
           first
             | (go_at_call 31; refine (HS.out _ (hb.trans (hS0.mono (by omega)))).mono ?_; rintro e w' ⟨rfl, hb'⟩; refine hK.out _ _ (hS0.trans (hb'.mono hS0.size)) (fun hS0 => ?_))
             | (go_at_call 22; refine (reflog_any _ _ (by omega)).mono ?_; rintro e w' ⟨rfl, rfl⟩; refine hK.out _ _ hS0 (fun hS0 => ?_))))
      refine ord_nil ?_
      go_wp2_with fail
      go_ret
      exact ⟨ret_int HPC.out.symm, (unbox hb).trans (hS0.mono (by omega))⟩
    · have hi : findI m.ps a k = -1 := findI_none (k := m.ps.length) (fun p hp => hno p (List.mem_of_mem_take hp)) (Nat.le_refl _)
      have HPC := Lib.hid (show pcost m a k = m.back + wcost m k by unfold pcost; rw [if_neg ha, if_pos hkn])
      rw [hi] at HF
      clear hi hno hkn hkt h hok hB lb2
      go_enter Try.func15, Try.ntmps15
      go_wp2_with (go_at_call 23; refine HF.out.mono ?_; rintro e w1 ⟨rfl, hb1⟩)
      have hb := bx hb1
      clear hb1
      have hm0 := box_cell hb 0
      have hm1 := box_cell hb 1
      have hm2 := box_cell hb 2
      have hm3 := box_cell hb 3
      simp at hm0 hm1 hm2 hm3
      have hsz := box_size hb
      refine ord_below [(0, false), (1, false), (2, false), (3, false), (4, true), (5, false), (6, false)] (by kernel_rfl) (by kernel_rfl) (by kernel_rfl) (fun _ _ _ _ _ h => h) ?_
      intro W0 hS0
      repeat (first
        | (refine ord_skip rfl rfl ?_; simp only [Act.put, List.setIfInBounds_toArray, List.set_cons_zero, List.set_cons_succ])
        | (refine ord_cskip rfl rfl (by assumption) ?_; simp only [Act.put, List.setIfInBounds_toArray, List.set_cons_zero, List.set_cons_succ])
        | (refine ord_take (v := ?_) rfl rfl ?_ ?_
           rotate_left 1
           focus (intro W hW; obtain ⟨hcW, hfW⟩ := bcell hW; (go_simp <;> with_reducible rfl))
           simp only [Act.put, List.setIfInBounds_toArray, List.set_cons_zero, List.set_cons_succ])
        | (refine ord_call rfl rfl (fun K hK => ?_)
           go_simp
           first
             | (go_at_call 13; refine (HW.out _ (hb.trans (hS0.mono (by omega)))).mono ?_; rintro e w' ⟨rfl, hb'⟩; refine hK.out _ _ (hS0.trans (hb'.mono hS0.size)) (fun hS0 => ?_))))
      refine ord_nil ?_
      go_wp2_with fail
      go_ret
      exact ⟨ret_int HPC.out.symm, (unbox hb).trans (hS0.mono (by omega))⟩
end Go.Proofs.Ytbfpcleogdalfaa
