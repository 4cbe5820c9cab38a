/-
  The law ProofPages: for all inputs it returns true.
-/
import Derived.Test.YtbikjmafddndpaaBsLaw
import Derived.Test.YtbikjmafddndpaaBsNumLaw
import Derived.Test.YtbikjmafddndpaaGrWalkN
import Derived.Test.YtbikjmafddndpaaGrFirst
import Derived.Deep.DeepCutAuto
namespace Go.Proofs.Ytbikjmafddndpaa
open Go Go.RowKit

set_option maxRecDepth 100000 in
set_option maxHeartbeats 16000000 in
theorem proofPages_any (A : Option Addr) (l : List T3) (c : Nat) (x ka : Int) (w : World) (hs : SlR 3 RT3 w A l) (hl : l.length ≤ maxLen) (hok : ∀ p ∈ l, T3OK p) (hx : 0 ≤ x ∧ x ≤ 255) (hka : 0 ≤ ka ∧ ka ≤ 255) :
    Calls Try.prog 13 #[.agg #[.int .u8 x, .slice A l.length c], .int .u8 ka] w fun e w' => e = .returned (.bool true) ∧ Below w.heap.size w w' := by
  obtain ⟨w1, hw1⟩ : ∃ w1, (w.alloc (.cells #[.int .u8 x, .slice A l.length c] 24)) = w1 := ⟨_, rfl⟩
  have hb1 : Below w.heap.size w w1 := by rw [← hw1]; exact nw _ (Below.refl _ _)
  have hX0 : Blk w1 (w.heap.size) 24 #[.int .u8 x, .slice A l.length c] := by rw [← hw1]; exact Blk.new _ _ _
  have HW1 := Lib.hid hw1
  have HMD : Hid (∀ W, Below w.heap.size w W → Calls Try.prog 15 #[.agg #[.int .u8 x, .slice A l.length c]] W fun e w' => ∃ A' c', e = .returned (.agg #[.int .i64 (madeG x l).n, .slice A' (madeG x l).ls.length c']) ∧ (madeG x l).ls.length ≤ c' ∧ c' ≤ maxLen ∧ SlR 4 RLk w' A' (madeG x l).ls ∧ Below W.heap.size W w') :=
    fun W hW => made_any A l c x W (hs.below keeps_t3 hW) hl hx hok
  have hg : GrOK (madeG x l) := madeG_ok hok
  have h14 : (madeG x l).ls.length ≤ 14 := madeG_len x l
  have hn7 : 1 ≤ (madeG x l).n ∧ (madeG x l).n ≤ 7 := madeG_n x l
  generalize madeG x l = g at *
  obtain ⟨N, hN⟩ : ∃ N : Nat, g.n = (N : Int) := ⟨g.n.toNat, by omega⟩
  rw [hN] at HMD
  have HN := Lib.hid hN
  have HG := Lib.hid hg
  have hN1 : 1 ≤ N := by omega
  have hN7 : N ≤ 7 := by omega
  have hlt1 := hX0.lt
  clear hw1 hs hok hN hg hn7
  have hbx0 := hX0.cell 0
  have hbx1 := hX0.cell 1
  simp at hbx0 hbx1
  go_enter Try.func13, Try.ntmps13
  go_upto_region 1 with fail
  rw [HW1.out]
  go_upto_region 2 with (go_at_call 30; go_loud (refine (sanity_any _).mono ?_; rintro e w2 ⟨rfl, hb2⟩))
  have hX0 := hX0.below hb2 hX0.lt
  have hbx0 := hX0.cell 0
  have hbx1 := hX0.cell 1
  simp at hbx0 hbx1
  have hbw2 := bthen hb1 hb2
  go_upto_region 3 with (go_at_call 15; go_loud (refine (HMD.out _ hbw2).mono ?_; rintro e w3 ⟨A3, c3, rfl, hc3, hcm3, hs3, hb3⟩))
  obtain ⟨W, hW⟩ : ∃ W, w3.alloc (.cells #[.int .i64 (N : Int), .slice A3 g.ls.length c3] 30) = W := ⟨_, rfl⟩
  have hb4 : Below w3.heap.size w3 W := by rw [← hW]; exact nw _ (Below.refl _ _)
  have hGB : Blk W w3.heap.size 30 #[.int .i64 (N : Int), .slice A3 g.ls.length c3] := by rw [← hW]; exact Blk.new _ _ _
  rw [hW]
  obtain ⟨bG, hbG⟩ : ∃ b, w3.heap.size = b := ⟨_, rfl⟩
  have hb34 := bthen hb3 hb4
  have hX0 := hX0.below hb34 hX0.lt
  have hbw := bthen hbw2 hb34
  have hls := hs3.below keeps_lk hb4
  have hwG : w.heap.size ≤ bG := by have := hbw2.size; have := hb3.size; omega
  rw [hbG] at hGB ⊢
  have hlm : g.ls.length ≤ maxLen := by unfold maxLen; omega
  clear hbx0 hbx1 hW hbG hb4 hb34 hbw2 hb2 hb3 hs3 hb1 HMD HW1
  have hpl : (potL g).length = N := by have := potL_len HG.out; have := HN.out; omega
  have HPO : Hid (∀ W', Below W.heap.size W W' → Calls Try.prog 36 #[(.agg #[.int .i64 (N : Int), .slice A3 g.ls.length c3])] W' fun e w' => ∃ A' c', e = .returned (.tuple #[.slice A' N c', .int .i64 0]) ∧ SlR 1 RInt w' A' (potL g) ∧ Below W'.heap.size W' w' ∧ N ≤ c' ∧ c' ≤ maxLen) := fun W' hW' => by
    have h := pot_any A3 c3 g W' (hls.below keeps_lk hW') hlm
    rw [show potsOf g = (potL g, 0) by unfold potsOf; rw [grB_iff.2 HG.out]; rfl, HN.out] at h
    dsimp only at h
    rw [hpl] at h
    exact h
  obtain ⟨p, hp⟩ : ∃ q : Nat, ka % 51 = (q : Int) := ⟨(ka % 51).toNat, by omega⟩
  have hp50 : p ≤ 50 := by omega
  have htp : ka.tmod 51 = (p : Int) := by rw [Int.tmod_eq_emod_of_nonneg hka.1]; exact hp
  have hwa : IntKind.u8.wrap (p : Int) = (p : Int) := by simp [IntKind.wrap, IntKind.bits, IntKind.signed]; omega
  have hwp : IntKind.i64.wrap (p : Int) = (p : Int) := IntWalk.i64_in _ (by omega)
  have hAC : allR g = allC g := isAll_unique (allR_is HG.out h14) (allC_is HG.out h14)
  obtain ⟨L, hL⟩ : ∃ L, (allR g).take p = L := ⟨_, rfl⟩
  have HLI : Hid (∀ W', Below W.heap.size W W' → Calls Try.prog 16 #[(.agg #[.int .i64 (N : Int), .slice A3 g.ls.length c3]), .int .i64 (p : Int)] W' (IsL L W')) := fun W' hW' => by
    have h := listR_any A3 c3 g p W' (hls.below keeps_lk hW') hlm HG.out h14 (by omega)
    rw [HN.out, hL] at h
    exact h
  have hLl : L.length = min p (allR g).length := by rw [← hL]; exact List.length_take
  obtain ⟨K, hK⟩ : ∃ K, (allR g).length = K := ⟨_, rfl⟩
  have HNU : Hid (∀ W', Below W.heap.size W W' → Calls Try.prog 21 #[(.agg #[.int .i64 (N : Int), .slice A3 g.ls.length c3])] W' fun e w' => e = .returned (.int .i64 (K : Int)) ∧ Below W'.heap.size W' w') := fun W' hW' => by
    have h := number_any A3 c3 g W' (hls.below keeps_lk hW') hlm
    rw [HN.out, show numOf g = numM g by unfold numOf; rw [grB_iff.2 HG.out]; rfl, numM_allR HG.out h14, hK] at h
    exact h
  have hCK : ∀ b, checkM g L b = if b = decide (L.length = K) then ((L.length : Int), 0) else ((L.length : Int), 160) := fun b => by
    have h := first_check HG.out h14 (k := L.length) (by rw [← hAC, hLl]; omega) b
    rw [← hAC, hK] at h
    have e : (allR g).take L.length = L := by
      rw [hLl, ← hL]
      rcases Nat.le_total p (allR g).length with h1 | h1
      · rw [Nat.min_eq_left h1]
      · rw [Nat.min_eq_right h1, List.take_of_length_le (Nat.le_refl _), List.take_of_length_le h1]
    rw [e] at h
    exact h
  have HCH : Hid (∀ (W' : World) (H : Option Addr) (ch : Nat) (P : Option Addr) (cp : Nat) (b : Bool), Below W.heap.size W W' → SlR 1 RInt W' H (potL g) → SlR 2 RCan W' P L → L.length ≤ cp →
      Calls Try.prog 34 #[(.agg #[.int .i64 (N : Int), .slice A3 g.ls.length c3]), .slice H N ch, .agg #[.slice P L.length cp, .bool b]] W' fun r w' => r = .returned (.tuple #[.int .i64 (checkM g L b).1, .int .i64 (checkM g L b).2]) ∧ Below W'.heap.size W' w') :=
    fun W' H ch P cp b hW' h1 h3 h5 => by
      have h := check_any A3 c3 g H (potL g) ch P L cp b W' (hls.below keeps_lk hW') hlm h1 (by rw [hpl]; unfold maxLen; omega) h3 (by omega) h5
      rw [HN.out, hpl, checkAll_pot HG.out] at h
      exact h
  have hlk : (K = L.length) ∨ (L.length < K) := by rw [hLl, hK]; omega
  have hl50 : L.length ≤ 50 := by omega
  have HCK := Lib.hid hCK
  have g0 := hGB.cell 0
  have g1 := hGB.cell 1
  have gl := hGB.lt
  simp at g0 g1
  have HBW := Lib.hid hbw
  clear hL hlm hbw hpl hp hLl hK hCK hAC
  go_upto_region 5 with (go_at_call 36; go_loud (refine (HPO.out _ (Below.refl _ _)).mono ?_; rintro e W2 ⟨Ah, ch, rfl, hh, hb2, hch0, hchm⟩))
  have hGB := hGB.below hb2 gl
  have g0 := hGB.cell 0
  have g1 := hGB.cell 1
  have gl := hGB.lt
  simp at g0 g1
  go_upto_region 6 with (go_at_call 16; go_loud (refine (HLI.out _ hb2).mono ?_; rintro e W3 ⟨Aa, ca, rfl, hsa, hla, hma, hb3⟩))
  have hGB := hGB.below hb3 gl
  have hh := hh.below keeps_int hb3
  have hb0 := bthen hb2 hb3
  have g0 := hGB.cell 0
  have g1 := hGB.cell 1
  have gl := hGB.lt
  simp at g0 g1
  clear hb2 hb3
  go_upto_region 9 with (go_at_call 21; go_loud (refine (HNU.out _ hb0).mono ?_; rintro e W4 ⟨rfl, hb4⟩))
  have hGB := hGB.below hb4 gl
  have hh := hh.below keeps_int hb4
  have hsa := hsa.below keeps_can hb4
  have hb0 := bthen hb0 hb4
  have g0 := hGB.cell 0
  have g1 := hGB.cell 1
  have gl := hGB.lt
  simp at g0 g1
  clear hb4
  have HHH := Lib.hid hh
  have HSA := Lib.hid hsa
  clear hh hsa
  rcases hlk with hlk | hlk
  · have hz : ((K : Int) == (L.length : Int)) = true := by simp; omega
    have HT : Hid (checkM g L true = ((L.length : Int), 0)) := by show _ = _; rw [HCK.out, if_pos (by simp; omega)]
    have HF : Hid (checkM g L false = ((L.length : Int), 160)) := by show _ = _; rw [HCK.out, if_neg (by simp; omega)]
    rw [hz]
    clear hlk hz
    go_upto_region 10 with (go_at_call 34; go_loud (refine (HCH.out _ _ ch _ ca true hb0 HHH.out HSA.out hla).mono ?_; rw [HT.out]; rintro e W5 ⟨rfl, hb5⟩))
    have hGB := hGB.below hb5 gl
    have g0 := hGB.cell 0
    have g1 := hGB.cell 1
    have gl := hGB.lt
    simp at g0 g1
    go_upto_region 11 with (go_at_call 34; go_loud (refine (HCH.out _ _ ch _ ca false (bthen hb0 hb5) (HHH.out.below keeps_int hb5) (HSA.out.below keeps_can hb5) hla).mono ?_; rw [HF.out]; rintro e W6 ⟨rfl, hb6⟩))
    go_wp2_with fail
    go_ret
    exact ⟨rfl, bthen HBW.out (bthen (bthen hb0 hb5) hb6)⟩
  · have hz : ((K : Int) == (L.length : Int)) = false := by simp; omega
    have HT : Hid (checkM g L false = ((L.length : Int), 0)) := by show _ = _; rw [HCK.out, if_pos (by simp; omega)]
    have HF : Hid (checkM g L true = ((L.length : Int), 160)) := by show _ = _; rw [HCK.out, if_neg (by simp; omega)]
    rw [hz]
    clear hlk hz
    go_upto_region 10 with (go_at_call 34; go_loud (refine (HCH.out _ _ ch _ ca false hb0 HHH.out HSA.out hla).mono ?_; rw [HT.out]; rintro e W5 ⟨rfl, hb5⟩))
    have hGB := hGB.below hb5 gl
    have g0 := hGB.cell 0
    have g1 := hGB.cell 1
    have gl := hGB.lt
    simp at g0 g1
    go_upto_region 11 with (go_at_call 34; go_loud (refine (HCH.out _ _ ch _ ca true (bthen hb0 hb5) (HHH.out.below keeps_int hb5) (HSA.out.below keeps_can hb5) hla).mono ?_; rw [HF.out]; rintro e W6 ⟨rfl, hb6⟩))
    go_wp2_with fail
    go_ret
    exact ⟨rfl, bthen HBW.out (bthen (bthen hb0 hb5) hb6)⟩
end Go.Proofs.Ytbikjmafddndpaa
