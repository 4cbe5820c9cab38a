/-
  The law ProofPotentials: for all inputs it returns true.
-/
import Derived.Test.YtbikjmafddndpaaBsLaw
import Derived.Test.YtbikjmafddndpaaBsWalkN
import Derived.Test.YtbikjmafddndpaaGrWalkN
import Derived.Test.YtbikjmafddndpaaGrFirst
import Derived.Deep.DeepCutAuto
namespace Go.Proofs.Ytbikjmafddndpaa
open Go Go.RowKit

/-- The potential of the first node and the first candidate. -/
theorem first_pot {g : Gr} (hg : GrOK g) {A : List Can} (hA : IsAll g A) : (A = [] ∧ hAt g 0 = -1) ∨ ∃ c r, A = c :: r ∧ hAt g 0 = c.cost := by
  have hn := hg.n
  by_cases h : 0 ≤ hAt g 0
  · right
    have hb := bw_way hg (v := 0) (by omega) (by omega) h
    have hm : (⟨bw g 0, hAt g 0⟩ : Can) ∈ A := (hA.2 _).2 ⟨hb.1, hb.2.symm⟩
    cases A with
    | nil => cases hm
    | cons c r =>
      refine ⟨c, r, rfl, ?_⟩
      have hc := (hA.2 c).1 (by simp)
      have h1 := way_h hg c.links 0 (by omega) (by omega) hc.1
      rw [← hc.2] at h1
      rcases List.mem_cons.1 hm with h2 | h2
      · rw [← h2]
      · have := canLt_iff.1 ((List.pairwise_cons.1 hA.1).1 _ h2)
        simp only at this
        omega
  · left
    refine ⟨List.eq_nil_iff_forall_not_mem.2 fun c hc => ?_, ?_⟩
    · have hc := (hA.2 c).1 hc
      have := way_h hg c.links 0 (by omega) (by omega) hc.1
      omega
    · have hn1 : ¬ g.n = 1 := fun e => by
        have := hAt_last hg
        rw [e] at this
        rw [show (1 : Int) - 1 = 0 by omega] at this
        omega
      exact bh_neg hg (v := 0) (by omega) (by omega) (by omega)
set_option maxRecDepth 100000 in
set_option maxHeartbeats 16000000 in
theorem proofPotentials_any (A : Option Addr) (l : List T3) (c : Nat) (x : Int) (C : Option Addr) (cs : List Int) (dc : Nat) (w : World) (hs : SlR 3 RT3 w A l) (hl : l.length ≤ maxLen) (hok : ∀ p ∈ l, T3OK p) (hx : 0 ≤ x ∧ x ≤ 255)
    (hcs : SlR 1 RU8 w C cs) (hcl : cs.length ≤ maxLen) (hc8 : ∀ x ∈ cs, 0 ≤ x ∧ x ≤ 255) :
    Calls Try.prog 12 #[.agg #[.int .u8 x, .slice A l.length c], .slice C cs.length dc] w fun e w' => e = .returned (.bool true) ∧ Below w.heap.size w w' := by
  obtain ⟨w1, hw1⟩ : ∃ w1, (w.alloc (.cells #[.int .u8 x, .slice A l.length c] 24)) = w1 := ⟨_, rfl⟩
  have hb1 : Below w.heap.size w w1 := by rw [← hw1]; exact nw _ (Below.refl _ _)
  have hX0 : Blk w1 (w.heap.size) 24 #[.int .u8 x, .slice A l.length c] := by rw [← hw1]; exact Blk.new _ _ _
  have HW1 := Lib.hid hw1
  have HMD : Hid (∀ W, Below w.heap.size w W → Calls Try.prog 15 #[.agg #[.int .u8 x, .slice A l.length c]] W fun e w' => ∃ A' c', e = .returned (.agg #[.int .i64 (madeG x l).n, .slice A' (madeG x l).ls.length c']) ∧ (madeG x l).ls.length ≤ c' ∧ c' ≤ maxLen ∧ SlR 4 RLk w' A' (madeG x l).ls ∧ Below W.heap.size W w') :=
    fun W hW => made_any A l c x W (hs.below keeps_t3 hW) hl hx hok
  have hg : GrOK (madeG x l) := madeG_ok hok
  have h14 : (madeG x l).ls.length ≤ 14 := madeG_len x l
  have hn7 : 1 ≤ (madeG x l).n ∧ (madeG x l).n ≤ 7 := madeG_n x l
  generalize madeG x l = g at *
  obtain ⟨N, hN⟩ : ∃ N : Nat, g.n = (N : Int) := ⟨g.n.toNat, by omega⟩
  rw [hN] at HMD
  have HN := Lib.hid hN
  have HG := Lib.hid hg
  have hN1 : 1 ≤ N := by omega
  have hN7 : N ≤ 7 := by omega
  have hlt1 := hX0.lt
  clear hw1 hs hok hN hg hn7
  have hbx0 := hX0.cell 0
  have hbx1 := hX0.cell 1
  simp at hbx0 hbx1
  go_enter Try.func12, Try.ntmps12
  go_upto_region 1 with fail
  rw [HW1.out]
  go_upto_region 2 with (go_at_call 30; go_loud (refine (sanity_any _).mono ?_; rintro e w2 ⟨rfl, hb2⟩))
  have hX0 := hX0.below hb2 hX0.lt
  have hbx0 := hX0.cell 0
  have hbx1 := hX0.cell 1
  simp at hbx0 hbx1
  have hbw2 := bthen hb1 hb2
  go_upto_region 3 with (go_at_call 15; go_loud (refine (HMD.out _ hbw2).mono ?_; rintro e w3 ⟨A3, c3, rfl, hc3, hcm3, hs3, hb3⟩))
  obtain ⟨W, hW⟩ : ∃ W, w3.alloc (.cells #[.int .i64 (N : Int), .slice A3 g.ls.length c3] 30) = W := ⟨_, rfl⟩
  have hb4 : Below w3.heap.size w3 W := by rw [← hW]; exact nw _ (Below.refl _ _)
  have hGB : Blk W w3.heap.size 30 #[.int .i64 (N : Int), .slice A3 g.ls.length c3] := by rw [← hW]; exact Blk.new _ _ _
  rw [hW]
  obtain ⟨bG, hbG⟩ : ∃ b, w3.heap.size = b := ⟨_, rfl⟩
  have hb34 := bthen hb3 hb4
  have hX0 := hX0.below hb34 hX0.lt
  have hbw := bthen hbw2 hb34
  have hls := hs3.below keeps_lk hb4
  have hwG : w.heap.size ≤ bG := by have := hbw2.size; have := hb3.size; omega
  rw [hbG] at hGB ⊢
  have hlm : g.ls.length ≤ maxLen := by unfold maxLen; omega
  clear hbx0 hbx1 hW hbG hb4 hb34 hbw2 hb2 hb3 hs3 hb1 HMD HW1
  have hpl : (potL g).length = N := by have := potL_len HG.out; have := HN.out; omega
  have HPO : Hid (∀ W', Below W.heap.size W W' → Calls Try.prog 36 #[(.agg #[.int .i64 (N : Int), .slice A3 g.ls.length c3])] W' fun e w' => ∃ A' c', e = .returned (.tuple #[.slice A' N c', .int .i64 0]) ∧ SlR 1 RInt w' A' (potL g) ∧ Below W'.heap.size W' w' ∧ N ≤ c' ∧ c' ≤ maxLen) := fun W' hW' => by
    have h := pot_any A3 c3 g W' (hls.below keeps_lk hW') hlm
    rw [show potsOf g = (potL g, 0) by unfold potsOf; rw [grB_iff.2 HG.out]; rfl, HN.out] at h
    dsimp only at h
    rw [hpl] at h
    exact h
  have HPL := Lib.hid hpl
  obtain ⟨L, hL⟩ : ∃ L, (allR g).take 1 = L := ⟨_, rfl⟩
  have HLI : Hid (∀ W', Below W.heap.size W W' → Calls Try.prog 16 #[(.agg #[.int .i64 (N : Int), .slice A3 g.ls.length c3]), .int .i64 1] W' (IsL L W')) := fun W' hW' => by
    have h := listR_any A3 c3 g 1 W' (hls.below keeps_lk hW') hlm HG.out h14 (by omega)
    rw [HN.out, hL] at h
    exact h
  have HCH : Hid (∀ W', Below W.heap.size W W' → Calls Try.prog 25 #[(.agg #[.int .i64 (N : Int), .slice A3 g.ls.length c3]), .slice C cs.length dc] W' (IsChosen g W')) := fun W' hW' => chosen_any A3 c3 g N C cs dc W' (hls.below keeps_lk hW') hlm HG.out HN.out (hcs.below keeps_u8 (bthen hbw hW')) hcl hc8
  have HLS : Hid (∀ W', Below W.heap.size W W' → SlR 4 RLk W' A3 g.ls) := fun W' hW' => hls.below keeps_lk hW'
  have hfp : (L = [] ∧ hAt g 0 = -1) ∨ ∃ c, L = [c] ∧ hAt g 0 = c.cost := by
    rcases first_pot HG.out (allR_is HG.out h14) with ⟨h1, h2⟩ | ⟨c, r, h1, h2⟩
    · left; rw [← hL, h1]; exact ⟨rfl, h2⟩
    · right; exact ⟨c, by rw [← hL, h1]; rfl, h2⟩
  have hp0 : (potL g)[0]? = some (hAt g 0) := potL_at HG.out (v := 0) (by omega) (by have := HN.out; omega)
  have HFP := Lib.hid hfp
  have HP0 := Lib.hid hp0
  have g0 := hGB.cell 0
  have g1 := hGB.cell 1
  have gl := hGB.lt
  simp at g0 g1
  have HBW := Lib.hid hbw
  clear hL hlm hcs hbw hpl hfp hp0
  go_upto_region 4 with (go_at_call 36; go_loud (refine (HPO.out _ (Below.refl _ _)).mono ?_; rintro e W2 ⟨Ah, ch, rfl, hh, hb2, hch0, hchm⟩))
  have hGB := hGB.below hb2 gl
  have g0 := hGB.cell 0
  have g1 := hGB.cell 1
  have gl := hGB.lt
  simp at g0 g1
  go_upto_region 5 with (go_at_call 16; go_loud (refine (HLI.out _ hb2).mono ?_; rintro e W3 ⟨Aa, ca, rfl, hsa, hla, hma, hb3⟩))
  have hGB := hGB.below hb3 gl
  have hh := hh.below keeps_int hb3
  have hb0 := bthen hb2 hb3
  have g0 := hGB.cell 0
  have g1 := hGB.cell 1
  have gl := hGB.lt
  simp at g0 g1
  obtain ⟨bh0, oh0, hx0, rfl, hbh0, hhx0, hc0⟩ := hh.int (k := 0) (by rw [HPL.out]; omega)
  rw [HP0.out] at hhx0
  obtain rfl := Option.some.inj hhx0
  rw [Nat.add_zero] at hc0
  have hN0 : (0 : Int) < (N : Int) := by omega
  have hN0n : 0 < N := by omega
  clear hhx0 hb2 hb3
  rcases HFP.out with ⟨rfl, hv⟩ | ⟨c1, rfl, hv⟩
  · rw [hv] at hc0
    clear hv hsa
    go_upto_region 7 with fail
    refine ordB_below (.quiet 0 (.quiet 1 (.quiet 2 (.quiet 3 (.quiet 4 (.quiet 5 (.quiet 6 (.quiet 7 (.quiet 8 (.quiet 9 (.quiet 10 (.quiet 11 (.quiet 12 (.quiet 13 (.quiet 14 (.quiet 15 (.quiet 16 (.quiet 17 (.quiet 18 (.quiet 19 (.quiet 20 (.quiet 21 (.quiet 22 (.quiet 23 .done)))))))))))))))))))))))) (by kernel_rfl) (by kernel_rfl) (by kernel_rfl) (fun _ _ _ _ _ h => h) ?_
    intro U0 hU0
    iterate 24 (first
      | (refine ordB_skip rfl rfl ?_; simp only [Act.put, List.setIfInBounds_toArray, List.set_cons_zero, List.set_cons_succ])
      | (refine ordB_take (v := ?_) rfl rfl ?_ ?_
         rotate_left 1
         focus (intro W hW; obtain ⟨hcW, hfW⟩ := bcell hW; (go_simp <;> with_reducible rfl))
         simp only [Act.put, List.setIfInBounds_toArray, List.set_cons_zero, List.set_cons_succ]))
    refine ordB_nil ?_
    have hGB := hGB.below hU0 gl
    have hh := hh.below keeps_int hU0
    have hb0 := bthen hb0 hU0
    clear hU0 hc0 g0 g1 gl
    generalize U0 = W5 at *
    have g0 := hGB.cell 0
    have g1 := hGB.cell 1
    have gl := hGB.lt
    simp at g0 g1
    go_upto_region 10 with (go_at_call 25; go_loud (refine (HCH.out _ hb0).mono ?_; rintro e W6 ⟨ls, bo, Al, cl, rfl, hsl, hwl, hl10, hlc, hlm2, hb6⟩))
    have hGB := hGB.below hb6 gl
    have g0 := hGB.cell 0
    have g1 := hGB.cell 1
    have gl := hGB.lt
    simp at g0 g1
    have hh := hh.below keeps_int hb6
    have hb0 := bthen hb0 hb6
    have hbE := bthen HBW.out hb0
    cases bo with
    | false =>
      clear hwl
      go_wp2_with fail
      go_ret
      exact ⟨rfl, hbE⟩
    | true =>
      have HWAY : Hid (wayB g 0 ls = true) := hwl rfl
      have HB6 := Lib.hid hb0
      have HGB := Lib.hid hGB
      have HH6 := Lib.hid hh
      have HSL := Lib.hid hsl
      have hls10 : (ls.length : Int) ≤ 10 := by omega
      have hwl1 : IntKind.i64.wrap ((ls.length : Int) - 1) = (ls.length : Int) - 1 := IntWalk.i64_in _ (by omega)
      have HR0 : Hid (sumC g (ls.drop ls.length) = 0) := by show _ = _; rw [List.drop_length]; rfl
      clear hwl g0 g1 hGB hh hsl hb0
      go_wp2_with fail
      go_loopw [13, 14] (fun rv iv wr => ∃ (k : Nat) (r : Int), k ≤ ls.length ∧ iv = .int .i64 ((k : Int) - 1) ∧ rv = .int .i64 r ∧ Hid (sumC g (ls.drop k) = r) ∧ Below W6.heap.size W6 wr) (fun _ iv _ => (intOf iv + 1).toNat)
      case atStart => exact ⟨ls.length, 0, Nat.le_refl _, rfl, rfl, HR0, Below.refl _ _⟩
      case round =>
        obtain ⟨k, r, hk, rfl, rfl, HR, hbr⟩ := hrel
        have hGr := HGB.out.below hbr HGB.out.lt
        have g0 := hGr.cell 0
        have g1 := hGr.cell 1
        have gl := hGr.lt
        simp at g0 g1
        by_cases hk0 : 0 < k
        · obtain ⟨j, hj⟩ : ∃ j, k - 1 = j := ⟨_, rfl⟩
          have hjk : j < ls.length := by omega
          have hkj : (k : Int) - 1 = (j : Int) := by omega
          rw [hkj]
          obtain ⟨bx, ox, xi, rfl, hbx, hxx, hcx⟩ := (HSL.out.below keeps_int hbr).int hjk
          obtain ⟨hif, hen, hsn, hn0, hnN, hs0, hsN, hpa, hdr, htk⟩ := way_at HG.out HWAY.out hxx
          have hlk := frL_link HG.out hif
          obtain ⟨l0, l1, l2, l3, l4, l5, l6, l7⟩ := hlk
          obtain ⟨xn, rfl⟩ : ∃ xn : Nat, xi = (xn : Int) := ⟨xi.toNat, by omega⟩
          have hwd : wayB g (endP g 0 (ls.take j)) (ls.drop j) = true := by
            have := HWAY.out
            rw [← List.take_append_drop j ls, way_app, Bool.and_eq_true] at this
            exact this.2
          have hh2 := way_h HG.out (ls.drop j) _ hn0 hnN hwd
          have hsum : sumC g (ls.drop j) = (lkAt g (xn : Int)).cost + r := by rw [hdr, sumC_cons, show j + 1 = k by omega, HR.out]
          have hrb : 0 ≤ r ∧ r ≤ 1000000 * 2000 := by
            have h1 : pathB g (lkAt g (xn : Int)).to (ls.drop (j + 1)) = true := by
              have h2 := hwd
              rw [hdr] at h2
              have h3 := (way_cons.1 h2).2
              have h4 := way_app g (ls.drop (j + 1)) [] (lkAt g (xn : Int)).to
              rw [List.append_nil, h3] at h4
              have h4 := h4.symm
              rw [Bool.and_eq_true] at h4
              exact h4.1
            have h5 := path_bd HG.out _ _ (by omega) l4 h1
            have h6 : sumC g (ls.drop (j + 1)) = r := by rw [show j + 1 = k by omega]; exact HR.out
            rw [h6] at h5
            have := HG.out.n
            omega
          obtain ⟨fn, hfn⟩ : ∃ fn : Nat, endP g 0 (ls.take j) = (fn : Int) := ⟨(endP g 0 (ls.take j)).toNat, by omega⟩
          rw [hfn] at hnN l2
          rw [hsum, hfn] at hh2
          have hlm := lkAt_mem (g := g) (i := (xn : Int)) ⟨l0, l1⟩
          rw [Int.toNat_natCast] at hlm
          have hxnl : xn < g.ls.length := by omega
          have hbW := bthen HB6.out hbr
          obtain ⟨b, off, l, rfl, hbb, hll, d0, d1, d2, d3⟩ := (HLS.out _ hbW).lk hxnl
          have e1 : l = lkAt g (xn : Int) := by rw [hlm] at hll; exact (Option.some.inj hll).symm
          subst e1
          rw [l2] at d0
          have hpat := potL_at HG.out (v := (fn : Int)) (by omega) hnN
          rw [Int.toNat_natCast] at hpat
          obtain ⟨bh, oh, hx2, hbe, hbh, hhx, hch⟩ := (HH6.out.below keeps_int hbr).int (k := fn) (by have := HN.out; rw [HPL.out]; omega)
          obtain ⟨rfl, rfl⟩ : bh0 = bh ∧ oh0 = oh := by simpa using hbe
          rw [hpat] at hhx
          obtain rfl := Option.some.inj hhx
          have HS2 : Hid (sumC g (ls.drop j) = r + (lkAt g (xn : Int)).cost) := by show _ = _; omega
          obtain ⟨cc, hcc⟩ : ∃ cc, (lkAt g (xn : Int)).cost = cc := ⟨_, rfl⟩
          obtain ⟨pp, hpp⟩ : ∃ pp, hAt g (fn : Int) = pp := ⟨_, rfl⟩
          rw [hcc] at HS2 d3 hh2 l5 l6
          rw [hpp] at hh2 hch
          have hws : IntKind.i64.wrap (r + cc) = r + cc := IntWalk.i64_in _ (by omega)
          have hxnI : (xn : Int) < (g.ls.length : Int) := by omega
          have hxn0 : (0 : Int) ≤ (xn : Int) := by omega
          have hfnI : (fn : Int) < (N : Int) := by rw [← HN.out]; exact hnN
          have hfn0 : (0 : Int) ≤ (fn : Int) := by omega
          have hfnN : fn < N := by omega
          have hjI : (j : Int) < (ls.length : Int) := by omega
          have hj0 : (0 : Int) ≤ (j : Int) := by omega
          have hp1 : 0 ≤ pp := hh2.1
          have hp2 : pp ≤ r + cc := by omega
          clear hbe hxx hif hen hsn hn0 hnN hs0 hsN hpa hdr htk l0 l1 l2 l3 l4 l7 hwd hsum hfn hlm hll d1 d2 hpat hhx hcc hpp hkj
          go_upto_region 16 with fail
          refine ordB_below (.quiet 0 (.quiet 1 (.quiet 2 (.quiet 3 (.quiet 4 (.quiet 5 (.quiet 6 (.quiet 7 (.quiet 8 (.quiet 9 (.quiet 10 (.quiet 11 .done)))))))))))) (by kernel_rfl) (by kernel_rfl) (by kernel_rfl) (fun _ _ _ _ _ h => h) ?_
          intro V0 hV0
          iterate 12 (first
            | (refine ordB_skip rfl rfl ?_; simp only [Act.put, List.setIfInBounds_toArray, List.set_cons_zero, List.set_cons_succ])
            | (refine ordB_take (v := ?_) rfl rfl ?_ ?_
               rotate_left 1
               focus (intro W hW; obtain ⟨hcW, hfW⟩ := bcell hW; (go_simp <;> with_reducible rfl))
               simp only [Act.put, List.setIfInBounds_toArray, List.set_cons_zero, List.set_cons_succ]))
          refine ordB_nil ?_
          have hbr1 := bthen hbr hV0
          have hcx := ((bcell hV0).1 bx (ox + j) hbx).trans hcx
          have d0 := ((bcell hV0).1 b (off + xn * 4) hbb).trans d0
          have hch := ((bcell hV0).1 bh0 (oh0 + fn) hbh).trans hch
          have hGr := hGr.below hV0 gl
          have hbx := Nat.lt_of_lt_of_le hbx hV0.size
          have hbb := Nat.lt_of_lt_of_le hbb hV0.size
          have hbh := Nat.lt_of_lt_of_le hbh hV0.size
          clear hV0 g0 g1 gl
          generalize V0 = Wy at *
          have g0 := hGr.cell 0
          have g1 := hGr.cell 1
          have gl := hGr.lt
          simp at g0 g1
          go_upto_region 17 with fail
          refine ordB_below (.quiet 0 (.quiet 1 (.quiet 2 (.quiet 3 (.quiet 4 (.quiet 5 (.quiet 6 (.quiet 7 (.quiet 8 (.quiet 9 (.quiet 10 (.quiet 11 (.quiet 12 .done))))))))))))) (by kernel_rfl) (by kernel_rfl) (by kernel_rfl) (fun _ _ _ _ _ h => h) ?_
          intro X0 hX0
          iterate 13 (first
            | (refine ordB_skip rfl rfl ?_; simp only [Act.put, List.setIfInBounds_toArray, List.set_cons_zero, List.set_cons_succ])
            | (refine ordB_take (v := ?_) rfl rfl ?_ ?_
               rotate_left 1
               focus (intro W hW; obtain ⟨hcW, hfW⟩ := bcell hW; (go_simp <;> with_reducible rfl))
               simp only [Act.put, List.setIfInBounds_toArray, List.set_cons_zero, List.set_cons_succ]))
          refine ordB_nil ?_
          have hbz := bthen hbr1 hX0
          clear hcx d0 d3 hch g0 g1 gl hX0
          generalize X0 = Wz at *
          go_wp2_with fail
          go_roundw
          case rel => exact ⟨j, r + cc, by omega, rfl, rfl, HS2, hbz⟩
          case measure => simp [intOf] <;> omega
        · obtain rfl : k = 0 := by omega
          have hlast : (potL g)[N - 1]? = some 0 := by
            have h := potL_at HG.out (v := g.n - 1) (by have := HN.out; omega) (by omega)
            rw [hAt_last HG.out, show (g.n - 1).toNat = N - 1 by have := HN.out; omega] at h
            exact h
          obtain ⟨bh, oh, hx2, hbe, hbh, hhx, hch⟩ := (HH6.out.below keeps_int hbr).int (k := N - 1) (by rw [HPL.out]; omega)
          obtain ⟨rfl, rfl⟩ : bh0 = bh ∧ oh0 = oh := by simpa using hbe
          rw [hlast] at hhx
          obtain rfl := Option.some.inj hhx
          obtain ⟨M, hM⟩ : ∃ M, N - 1 = M := ⟨_, rfl⟩
          rw [hM] at hch
          have hMI : (N : Int) - 1 = (M : Int) := by omega
          have hMN : (M : Int) < (N : Int) := by omega
          have hM0 : (0 : Int) ≤ (M : Int) := by omega
          have hMNn : M < N := by omega
          have hwM : IntKind.i64.wrap ((N : Int) - 1) = (M : Int) := by rw [hMI]; exact IntWalk.i64_in _ (by omega)
          clear hbe hlast hhx hM
          go_wp2_with fail
          go_ret
          exact ⟨rfl, bthen hbE hbr⟩
  · obtain ⟨ba, oa, y, A1, d1, rfl, hba, hyy, y0, y1, _, _, _⟩ := hsa.can (k := 0) (by simp)
    obtain rfl : c1 = y := by simpa using hyy
    rw [Nat.zero_mul, Nat.add_zero] at y0 y1
    rw [hv] at hc0
    clear hv hsa hyy
    go_upto_region 7 with fail
    refine ordB_below (.quiet 0 (.quiet 1 (.quiet 2 (.quiet 3 (.quiet 4 (.quiet 5 (.quiet 6 (.quiet 7 (.quiet 8 (.quiet 9 (.quiet 10 (.quiet 11 (.quiet 12 (.quiet 13 (.quiet 14 (.quiet 15 (.quiet 16 (.quiet 17 (.quiet 18 (.quiet 19 (.quiet 20 (.quiet 21 (.quiet 22 (.quiet 23 .done)))))))))))))))))))))))) (by kernel_rfl) (by kernel_rfl) (by kernel_rfl) (fun _ _ _ _ _ h => h) ?_
    intro U0 hU0
    iterate 24 (first
      | (refine ordB_skip rfl rfl ?_; simp only [Act.put, List.setIfInBounds_toArray, List.set_cons_zero, List.set_cons_succ])
      | (refine ordB_take (v := ?_) rfl rfl ?_ ?_
         rotate_left 1
         focus (intro W hW; obtain ⟨hcW, hfW⟩ := bcell hW; (go_simp <;> with_reducible rfl))
         simp only [Act.put, List.setIfInBounds_toArray, List.set_cons_zero, List.set_cons_succ]))
    refine ordB_nil ?_
    have hGB := hGB.below hU0 gl
    have hh := hh.below keeps_int hU0
    have hb0 := bthen hb0 hU0
    clear hU0 hc0 y0 y1 g0 g1 gl
    generalize U0 = W5 at *
    have g0 := hGB.cell 0
    have g1 := hGB.cell 1
    have gl := hGB.lt
    simp at g0 g1
    go_upto_region 10 with (go_at_call 25; go_loud (refine (HCH.out _ hb0).mono ?_; rintro e W6 ⟨ls, bo, Al, cl, rfl, hsl, hwl, hl10, hlc, hlm2, hb6⟩))
    have hGB := hGB.below hb6 gl
    have g0 := hGB.cell 0
    have g1 := hGB.cell 1
    have gl := hGB.lt
    simp at g0 g1
    have hh := hh.below keeps_int hb6
    have hb0 := bthen hb0 hb6
    have hbE := bthen HBW.out hb0
    cases bo with
    | false =>
      clear hwl
      go_wp2_with fail
      go_ret
      exact ⟨rfl, hbE⟩
    | true =>
      have HWAY : Hid (wayB g 0 ls = true) := hwl rfl
      have HB6 := Lib.hid hb0
      have HGB := Lib.hid hGB
      have HH6 := Lib.hid hh
      have HSL := Lib.hid hsl
      have hls10 : (ls.length : Int) ≤ 10 := by omega
      have hwl1 : IntKind.i64.wrap ((ls.length : Int) - 1) = (ls.length : Int) - 1 := IntWalk.i64_in _ (by omega)
      have HR0 : Hid (sumC g (ls.drop ls.length) = 0) := by show _ = _; rw [List.drop_length]; rfl
      clear hwl g0 g1 hGB hh hsl hb0
      go_wp2_with fail
      go_loopw [13, 14] (fun rv iv wr => ∃ (k : Nat) (r : Int), k ≤ ls.length ∧ iv = .int .i64 ((k : Int) - 1) ∧ rv = .int .i64 r ∧ Hid (sumC g (ls.drop k) = r) ∧ Below W6.heap.size W6 wr) (fun _ iv _ => (intOf iv + 1).toNat)
      case atStart => exact ⟨ls.length, 0, Nat.le_refl _, rfl, rfl, HR0, Below.refl _ _⟩
      case round =>
        obtain ⟨k, r, hk, rfl, rfl, HR, hbr⟩ := hrel
        have hGr := HGB.out.below hbr HGB.out.lt
        have g0 := hGr.cell 0
        have g1 := hGr.cell 1
        have gl := hGr.lt
        simp at g0 g1
        by_cases hk0 : 0 < k
        · obtain ⟨j, hj⟩ : ∃ j, k - 1 = j := ⟨_, rfl⟩
          have hjk : j < ls.length := by omega
          have hkj : (k : Int) - 1 = (j : Int) := by omega
          rw [hkj]
          obtain ⟨bx, ox, xi, rfl, hbx, hxx, hcx⟩ := (HSL.out.below keeps_int hbr).int hjk
          obtain ⟨hif, hen, hsn, hn0, hnN, hs0, hsN, hpa, hdr, htk⟩ := way_at HG.out HWAY.out hxx
          have hlk := frL_link HG.out hif
          obtain ⟨l0, l1, l2, l3, l4, l5, l6, l7⟩ := hlk
          obtain ⟨xn, rfl⟩ : ∃ xn : Nat, xi = (xn : Int) := ⟨xi.toNat, by omega⟩
          have hwd : wayB g (endP g 0 (ls.take j)) (ls.drop j) = true := by
            have := HWAY.out
            rw [← List.take_append_drop j ls, way_app, Bool.and_eq_true] at this
            exact this.2
          have hh2 := way_h HG.out (ls.drop j) _ hn0 hnN hwd
          have hsum : sumC g (ls.drop j) = (lkAt g (xn : Int)).cost + r := by rw [hdr, sumC_cons, show j + 1 = k by omega, HR.out]
          have hrb : 0 ≤ r ∧ r ≤ 1000000 * 2000 := by
            have h1 : pathB g (lkAt g (xn : Int)).to (ls.drop (j + 1)) = true := by
              have h2 := hwd
              rw [hdr] at h2
              have h3 := (way_cons.1 h2).2
              have h4 := way_app g (ls.drop (j + 1)) [] (lkAt g (xn : Int)).to
              rw [List.append_nil, h3] at h4
              have h4 := h4.symm
              rw [Bool.and_eq_true] at h4
              exact h4.1
            have h5 := path_bd HG.out _ _ (by omega) l4 h1
            have h6 : sumC g (ls.drop (j + 1)) = r := by rw [show j + 1 = k by omega]; exact HR.out
            rw [h6] at h5
            have := HG.out.n
            omega
          obtain ⟨fn, hfn⟩ : ∃ fn : Nat, endP g 0 (ls.take j) = (fn : Int) := ⟨(endP g 0 (ls.take j)).toNat, by omega⟩
          rw [hfn] at hnN l2
          rw [hsum, hfn] at hh2
          have hlm := lkAt_mem (g := g) (i := (xn : Int)) ⟨l0, l1⟩
          rw [Int.toNat_natCast] at hlm
          have hxnl : xn < g.ls.length := by omega
          have hbW := bthen HB6.out hbr
          obtain ⟨b, off, l, rfl, hbb, hll, d0, d1, d2, d3⟩ := (HLS.out _ hbW).lk hxnl
          have e1 : l = lkAt g (xn : Int) := by rw [hlm] at hll; exact (Option.some.inj hll).symm
          subst e1
          rw [l2] at d0
          have hpat := potL_at HG.out (v := (fn : Int)) (by omega) hnN
          rw [Int.toNat_natCast] at hpat
          obtain ⟨bh, oh, hx2, hbe, hbh, hhx, hch⟩ := (HH6.out.below keeps_int hbr).int (k := fn) (by have := HN.out; rw [HPL.out]; omega)
          obtain ⟨rfl, rfl⟩ : bh0 = bh ∧ oh0 = oh := by simpa using hbe
          rw [hpat] at hhx
          obtain rfl := Option.some.inj hhx
          have HS2 : Hid (sumC g (ls.drop j) = r + (lkAt g (xn : Int)).cost) := by show _ = _; omega
          obtain ⟨cc, hcc⟩ : ∃ cc, (lkAt g (xn : Int)).cost = cc := ⟨_, rfl⟩
          obtain ⟨pp, hpp⟩ : ∃ pp, hAt g (fn : Int) = pp := ⟨_, rfl⟩
          rw [hcc] at HS2 d3 hh2 l5 l6
          rw [hpp] at hh2 hch
          have hws : IntKind.i64.wrap (r + cc) = r + cc := IntWalk.i64_in _ (by omega)
          have hxnI : (xn : Int) < (g.ls.length : Int) := by omega
          have hxn0 : (0 : Int) ≤ (xn : Int) := by omega
          have hfnI : (fn : Int) < (N : Int) := by rw [← HN.out]; exact hnN
          have hfn0 : (0 : Int) ≤ (fn : Int) := by omega
          have hfnN : fn < N := by omega
          have hjI : (j : Int) < (ls.length : Int) := by omega
          have hj0 : (0 : Int) ≤ (j : Int) := by omega
          have hp1 : 0 ≤ pp := hh2.1
          have hp2 : pp ≤ r + cc := by omega
          clear hbe hxx hif hen hsn hn0 hnN hs0 hsN hpa hdr htk l0 l1 l2 l3 l4 l7 hwd hsum hfn hlm hll d1 d2 hpat hhx hcc hpp hkj
          go_upto_region 16 with fail
          refine ordB_below (.quiet 0 (.quiet 1 (.quiet 2 (.quiet 3 (.quiet 4 (.quiet 5 (.quiet 6 (.quiet 7 (.quiet 8 (.quiet 9 (.quiet 10 (.quiet 11 .done)))))))))))) (by kernel_rfl) (by kernel_rfl) (by kernel_rfl) (fun _ _ _ _ _ h => h) ?_
          intro V0 hV0
          iterate 12 (first
            | (refine ordB_skip rfl rfl ?_; simp only [Act.put, List.setIfInBounds_toArray, List.set_cons_zero, List.set_cons_succ])
            | (refine ordB_take (v := ?_) rfl rfl ?_ ?_
               rotate_left 1
               focus (intro W hW; obtain ⟨hcW, hfW⟩ := bcell hW; (go_simp <;> with_reducible rfl))
               simp only [Act.put, List.setIfInBounds_toArray, List.set_cons_zero, List.set_cons_succ]))
          refine ordB_nil ?_
          have hbr1 := bthen hbr hV0
          have hcx := ((bcell hV0).1 bx (ox + j) hbx).trans hcx
          have d0 := ((bcell hV0).1 b (off + xn * 4) hbb).trans d0
          have hch := ((bcell hV0).1 bh0 (oh0 + fn) hbh).trans hch
          have hGr := hGr.below hV0 gl
          have hbx := Nat.lt_of_lt_of_le hbx hV0.size
          have hbb := Nat.lt_of_lt_of_le hbb hV0.size
          have hbh := Nat.lt_of_lt_of_le hbh hV0.size
          clear hV0 g0 g1 gl
          generalize V0 = Wy at *
          have g0 := hGr.cell 0
          have g1 := hGr.cell 1
          have gl := hGr.lt
          simp at g0 g1
          go_upto_region 17 with fail
          refine ordB_below (.quiet 0 (.quiet 1 (.quiet 2 (.quiet 3 (.quiet 4 (.quiet 5 (.quiet 6 (.quiet 7 (.quiet 8 (.quiet 9 (.quiet 10 (.quiet 11 (.quiet 12 .done))))))))))))) (by kernel_rfl) (by kernel_rfl) (by kernel_rfl) (fun _ _ _ _ _ h => h) ?_
          intro X0 hX0
          iterate 13 (first
            | (refine ordB_skip rfl rfl ?_; simp only [Act.put, List.setIfInBounds_toArray, List.set_cons_zero, List.set_cons_succ])
            | (refine ordB_take (v := ?_) rfl rfl ?_ ?_
               rotate_left 1
               focus (intro W hW; obtain ⟨hcW, hfW⟩ := bcell hW; (go_simp <;> with_reducible rfl))
               simp only [Act.put, List.setIfInBounds_toArray, List.set_cons_zero, List.set_cons_succ]))
          refine ordB_nil ?_
          have hbz := bthen hbr1 hX0
          clear hcx d0 d3 hch g0 g1 gl hX0
          generalize X0 = Wz at *
          go_wp2_with fail
          go_roundw
          case rel => exact ⟨j, r + cc, by omega, rfl, rfl, HS2, hbz⟩
          case measure => simp [intOf] <;> omega
        · obtain rfl : k = 0 := by omega
          have hlast : (potL g)[N - 1]? = some 0 := by
            have h := potL_at HG.out (v := g.n - 1) (by have := HN.out; omega) (by omega)
            rw [hAt_last HG.out, show (g.n - 1).toNat = N - 1 by have := HN.out; omega] at h
            exact h
          obtain ⟨bh, oh, hx2, hbe, hbh, hhx, hch⟩ := (HH6.out.below keeps_int hbr).int (k := N - 1) (by rw [HPL.out]; omega)
          obtain ⟨rfl, rfl⟩ : bh0 = bh ∧ oh0 = oh := by simpa using hbe
          rw [hlast] at hhx
          obtain rfl := Option.some.inj hhx
          obtain ⟨M, hM⟩ : ∃ M, N - 1 = M := ⟨_, rfl⟩
          rw [hM] at hch
          have hMI : (N : Int) - 1 = (M : Int) := by omega
          have hMN : (M : Int) < (N : Int) := by omega
          have hM0 : (0 : Int) ≤ (M : Int) := by omega
          have hMNn : M < N := by omega
          have hwM : IntKind.i64.wrap ((N : Int) - 1) = (M : Int) := by rw [hMI]; exact IntWalk.i64_in _ (by omega)
          clear hbe hlast hhx hM
          go_wp2_with fail
          go_ret
          exact ⟨rfl, bthen hbE hbr⟩
end Go.Proofs.Ytbikjmafddndpaa
