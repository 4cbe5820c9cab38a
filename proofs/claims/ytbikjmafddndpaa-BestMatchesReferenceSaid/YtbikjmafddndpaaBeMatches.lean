/-
  The law BestMatchesReference: for all inputs it returns true.
-/
import Derived.Test.YtbikjmafddndpaaBsLaw
import Derived.Test.YtbikjmafddndpaaBsWalkM
import Derived.Deep.DeepCutAuto
namespace Go.Proofs.Ytbikjmafddndpaa
open Go Go.RowKit

def RI8 (_ : World) (x : Int) (vs : List Value) : Prop := vs = [.int .i8 x]
theorem keeps_i8 : Keeps RI8 := fun _ _ _ _ _ h => h
theorem SlR.i8 {w : World} {A : Option Addr} {xs : List Int} (h : SlR 1 RI8 w A xs) {k : Nat} (hk : k < xs.length) :
    ∃ b off x, A = some ⟨b, off, none⟩ ∧ b < w.heap.size ∧ xs[k]? = some x ∧ w.cell? ⟨b, off + k, none⟩ = some (.int .i8 x) := by
  obtain ⟨b, off, x, vs, hA, hlt, hx, hr, _, hv⟩ := h.at_ hk
  have h0 := hv 0 (.int .i8 x) (by rw [hr]; rfl)
  simp only [Nat.mul_one, Nat.add_zero] at h0
  exact ⟨b, off, x, hA, hlt, hx, h0⟩
/-- A list of candidates and an error. -/
def IsLE (L : List Can) (E : Int) (w : World) (e : Ending) (w' : World) : Prop := ∃ A c, e = .returned (.tuple #[.slice A L.length c, .int .i64 E]) ∧ SlR 2 RCan w' A L ∧ L.length ≤ c ∧ c ≤ maxLen ∧ Below w.heap.size w w'
def listOf (g : Gr) (k : Int) : List Can := if bestErr g k = 0 then (allR g).take k.toNat else []
theorem listE_any (A : Option Addr) (c : Nat) (g : Gr) (k : Int) (w : World) (hx : SlR 4 RLk w A g.ls) (hl : g.ls.length ≤ maxLen) (hg : GrOK g) (h14 : g.ls.length ≤ 14) :
    Calls Try.prog 16 #[.agg #[.int .i64 g.n, .slice A g.ls.length c], .int .i64 k] w (IsLE (listOf g k) (bestErr g k) w) :=
  (list_any A c g k w hx hl).mono fun e w' ⟨ms, B, d, h1, h2, h3, h4, h5, h6, h7, h8⟩ => by
    have hL : ms.map (·.x) = listOf g k := by
      unfold listOf
      by_cases h : bestErr g k = 0
      · rw [if_pos h]; exact isList_allR hg h14 (h6 h)
      · rw [if_neg h, h7 h]; rfl
    have hn : ms.length = (listOf g k).length := by rw [← hL, List.length_map]
    rw [hn] at h1 h4
    exact ⟨B, d, h1, by rw [← hL]; exact mc_can h2 h3, h4, h5, h8⟩
theorem reflistE_any (A : Option Addr) (c : Nat) (g : Gr) (k : Int) (w : World) (hx : SlR 4 RLk w A g.ls) (hl : g.ls.length ≤ maxLen) :
    Calls Try.prog 17 #[.agg #[.int .i64 g.n, .slice A g.ls.length c], .int .i64 k] w (IsLE (listOf g k) (bestErr g k) w) :=
  (reflist_any A c g k w hx hl).mono fun e w' ⟨ms, B, d, h1, h2, h3, h4, h5, h6, h7, h8⟩ => by
    have hL : ms.map (·.x) = listOf g k := by
      unfold listOf
      by_cases h : bestErr g k = 0
      · rw [if_pos h]; exact h6 h
      · rw [if_neg h, h7 h]; rfl
    have hn : ms.length = (listOf g k).length := by rw [← hL, List.length_map]
    rw [hn] at h1 h4
    exact ⟨B, d, h1, by rw [← hL]; exact mc_can h2 h3, h4, h5, h8⟩
theorem listOf_len {g : Gr} (k : Int) : (listOf g k).length ≤ 50 := by
  unfold listOf
  by_cases h : bestErr g k = 0
  · rw [if_pos h, List.length_take]
    unfold bestErr at h
    split at h
    · cases h
    · split at h
      · cases h
      · omega
  · rw [if_neg h]; simp
set_option maxRecDepth 100000 in
set_option maxHeartbeats 16000000 in
theorem bestMatches_any (A : Option Addr) (l : List T3) (c : Nat) (x k0 : Int) (C : Option Addr) (cs : List Int) (dc : Nat) (w : World) (hs : SlR 3 RT3 w A l) (hl : l.length ≤ maxLen) (hok : ∀ p ∈ l, T3OK p) (hx : 0 ≤ x ∧ x ≤ 255) (hka : -128 ≤ k0 ∧ k0 ≤ 127)
    (hcs : SlR 1 RI8 w C cs) (hcl : cs.length ≤ maxLen) (hc8 : ∀ x ∈ cs, -128 ≤ x ∧ x ≤ 127) :
    Calls Try.prog 3 #[.agg #[.int .u8 x, .slice A l.length c], .int .i8 k0, .slice C cs.length dc] w fun e w' => e = .returned (.bool true) ∧ Below w.heap.size w w' := by
  obtain ⟨i0, hi, hz0, hz1, hz2⟩ := info_parts bint_inf
  obtain ⟨w1, hw1⟩ : ∃ w1, (w.alloc (.cells #[.int .u8 x, .slice A l.length c] 24)) = w1 := ⟨_, rfl⟩
  have hb1 : Below w.heap.size w w1 := by rw [← hw1]; exact nw _ (Below.refl _ _)
  have hX0 : Blk w1 (w.heap.size) 24 #[.int .u8 x, .slice A l.length c] := by rw [← hw1]; exact Blk.new _ _ _
  have HW1 := Lib.hid hw1
  have HMD : Hid (∀ W, Below w.heap.size w W → Calls Try.prog 15 #[.agg #[.int .u8 x, .slice A l.length c]] W fun e w' => ∃ A' c', e = .returned (.agg #[.int .i64 (madeG x l).n, .slice A' (madeG x l).ls.length c']) ∧ (madeG x l).ls.length ≤ c' ∧ c' ≤ maxLen ∧ SlR 4 RLk w' A' (madeG x l).ls ∧ Below W.heap.size W w') :=
    fun W hW => made_any A l c x W (hs.below keeps_t3 hW) hl hx hok
  have hg : GrOK (madeG x l) := madeG_ok hok
  have h14 : (madeG x l).ls.length ≤ 14 := madeG_len x l
  have hn7 : 1 ≤ (madeG x l).n ∧ (madeG x l).n ≤ 7 := madeG_n x l
  generalize madeG x l = g at *
  obtain ⟨N, hN⟩ : ∃ N : Nat, g.n = (N : Int) := ⟨g.n.toNat, by omega⟩
  rw [hN] at HMD
  have HN := Lib.hid hN
  have HG := Lib.hid hg
  have hN1 : 1 ≤ N := by omega
  have hN7 : N ≤ 7 := by omega
  have hlt1 := hX0.lt
  clear hw1 hs hok hN hg hn7
  have hbx0 := hX0.cell 0
  have hbx1 := hX0.cell 1
  simp at hbx0 hbx1
  go_enter Try.func3, Try.ntmps3
  go_upto_region 1 with fail
  rw [HW1.out]
  go_upto_region 2 with (go_at_call 14; go_loud (refine (sanity15_any _).mono ?_; rintro e w2 ⟨rfl, hb2⟩))
  have hX0 := hX0.below hb2 hX0.lt
  have hbx0 := hX0.cell 0
  have hbx1 := hX0.cell 1
  simp at hbx0 hbx1
  have hbw2 := bthen hb1 hb2
  go_upto_region 3 with (go_at_call 15; go_loud (refine (HMD.out _ hbw2).mono ?_; rintro e w3 ⟨A3, c3, rfl, hc3, hcm3, hs3, hb3⟩))
  obtain ⟨W, hW⟩ : ∃ W, w3.alloc (.cells #[.int .i64 (N : Int), .slice A3 g.ls.length c3] 30) = W := ⟨_, rfl⟩
  have hb4 : Below w3.heap.size w3 W := by rw [← hW]; exact nw _ (Below.refl _ _)
  have hGB : Blk W w3.heap.size 30 #[.int .i64 (N : Int), .slice A3 g.ls.length c3] := by rw [← hW]; exact Blk.new _ _ _
  rw [hW]
  obtain ⟨bG, hbG⟩ : ∃ b, w3.heap.size = b := ⟨_, rfl⟩
  have hb34 := bthen hb3 hb4
  have hX0 := hX0.below hb34 hX0.lt
  have hbw := bthen hbw2 hb34
  have hls := hs3.below keeps_lk hb4
  have hwG : w.heap.size ≤ bG := by have := hbw2.size; have := hb3.size; omega
  rw [hbG] at hGB ⊢
  have hlm : g.ls.length ≤ maxLen := by unfold maxLen; omega
  clear hbx0 hbx1 hW hbG hb4 hb34 hbw2 hb2 hb3 hs3 hb1 HMD HW1

  have hwa : IntKind.i64.wrap k0 = k0 := IntWalk.i64_in _ (by omega)
  have hcl2 := hcl
  unfold maxLen at hcl2
  obtain ⟨L, hL⟩ : ∃ L, listOf g k0 = L := ⟨_, rfl⟩
  obtain ⟨E, hE⟩ : ∃ E, bestErr g k0 = E := ⟨_, rfl⟩
  obtain ⟨R, hR⟩ : ∃ R, numM g = R := ⟨_, rfl⟩
  obtain ⟨L8, hL8⟩ : ∃ L, (allR g).take 8 = L := ⟨_, rfl⟩
  have hLl : L.length ≤ 50 := by rw [← hL]; exact listOf_len k0
  have HSO : Hid (Sorted L8) := by
    show Sorted _
    rw [← hL8]
    have h : Sorted ((allR g).take 8 ++ (allR g).drop 8) := by rw [List.take_append_drop]; exact (allR_is HG.out h14).1
    exact (List.pairwise_append.1 h).1
  have hl88 : L8.length ≤ 8 := by rw [← hL8, List.length_take]; omega
  have HLI : Hid (∀ W', Below W.heap.size W W' → Calls Try.prog 16 #[(.agg #[.int .i64 (N : Int), .slice A3 g.ls.length c3]), .int .i64 k0] W' (IsLE L E W')) := fun W' hW' => by
    have h := listE_any A3 c3 g k0 W' (hls.below keeps_lk hW') hlm HG.out h14
    rw [HN.out, hL, hE] at h
    exact h
  have HRI : Hid (∀ W', Below W.heap.size W W' → Calls Try.prog 17 #[(.agg #[.int .i64 (N : Int), .slice A3 g.ls.length c3]), .int .i64 k0] W' (IsLE L E W')) := fun W' hW' => by
    have h := reflistE_any A3 c3 g k0 W' (hls.below keeps_lk hW') hlm
    rw [HN.out, hL, hE] at h
    exact h
  have HRL8 : Hid (∀ W', Below W.heap.size W W' → Calls Try.prog 17 #[(.agg #[.int .i64 (N : Int), .slice A3 g.ls.length c3]), .int .i64 8] W' (IsL L8 W')) := fun W' hW' => by
    have h := reflistR_any A3 c3 g 8 W' (hls.below keeps_lk hW') hlm HG.out (by omega)
    rw [HN.out, hL8] at h
    exact h
  have HCO : Hid (∀ W' B ls d, Below W.heap.size W W' → SlR 1 RInt W' B ls → ls.length ≤ maxLen → Calls Try.prog 18 #[(.agg #[.int .i64 (N : Int), .slice A3 g.ls.length c3]), .slice B ls.length d] W' fun e w' => e = .returned (.tuple #[.int .i64 (costM g ls).1, .bool (costM g ls).2]) ∧ Below W'.heap.size W' w') := fun W' B ls d hW' h1 h2 => by
    have h := cost_any A3 c3 g B ls d W' (hls.below keeps_lk hW') hlm HG.out h1 h2
    rw [HN.out] at h
    exact h
  have HRC : Hid (∀ W' B ls d, Below W.heap.size W W' → SlR 1 RInt W' B ls → ls.length ≤ maxLen → Calls Try.prog 19 #[(.agg #[.int .i64 (N : Int), .slice A3 g.ls.length c3]), .slice B ls.length d] W' fun e w' => e = .returned (.tuple #[.int .i64 (costM g ls).1, .bool (costM g ls).2]) ∧ Below W'.heap.size W' w') := fun W' B ls d hW' h1 h2 => by
    have h := refcost_any A3 c3 g B ls d W' (hls.below keeps_lk hW') hlm HG.out h1 h2
    rw [HN.out] at h
    exact h
  have HNU0 : Hid (∀ W', Below W.heap.size W W' → Calls Try.prog 21 #[(.agg #[.int .i64 (N : Int), .slice A3 g.ls.length c3])] W' fun e w' => e = .returned (.int .i64 R) ∧ Below W'.heap.size W' w') := fun W' hW' => by
    have h := number_any A3 c3 g W' (hls.below keeps_lk hW') hlm
    rw [HN.out, show numOf g = numM g by unfold numOf; rw [grB_iff.2 HG.out]; rfl, hR] at h
    exact h
  have HRN0 : Hid (∀ W', Below W.heap.size W W' → Calls Try.prog 22 #[(.agg #[.int .i64 (N : Int), .slice A3 g.ls.length c3])] W' fun e w' => e = .returned (.int .i64 R) ∧ Below W'.heap.size W' w') := fun W' hW' => by
    have h := refnumber_any A3 c3 g W' (hls.below keeps_lk hW') hlm HG.out
    rw [HN.out, hR] at h
    exact h
  have HCS : Hid (∀ W', Below W.heap.size W W' → SlR 1 RI8 W' C cs) := fun W' hW' => hcs.below keeps_i8 (bthen hbw hW')
  have g0 := hGB.cell 0
  have g1 := hGB.cell 1
  have gl := hGB.lt
  simp at g0 g1
  have HBW := Lib.hid hbw
  clear hL hE hR hL8 hlm hcs hbw
  go_upto_region 4 with (go_at_call 16; go_loud (refine (HLI.out _ (Below.refl _ _)).mono ?_; rintro e W2 ⟨Aa, ca, rfl, hsa, hla, hma, hb2⟩))
  have hGB := hGB.below hb2 gl
  have g0 := hGB.cell 0
  have g1 := hGB.cell 1
  have gl := hGB.lt
  simp at g0 g1
  go_upto_region 5 with (go_at_call 17; go_loud (refine (HRI.out _ hb2).mono ?_; rintro e W3 ⟨Ab, cb, rfl, hsb, hlb, hmb, hb3⟩))
  have hGB := hGB.below hb3 gl
  have hsa := hsa.below keeps_can hb3
  have hb0 := bthen hb2 hb3
  have HO0 : Hid ((W3.alloc (.cells #[] 3)).ownsRow W3.heap.size 3 1 (.slice (some ⟨W3.heap.size, 0, none⟩) 0 0) 0 []) := own_empty W3 3 1 W3.heap.size (Nat.le_refl _)
  have HN0 : Hid (Below W3.heap.size W3 (W3.alloc (.cells #[] 3))) := nw _ (Below.refl _ _)
  have HSA0 := Lib.hid hsa
  have HSB0 := Lib.hid hsb
  have HGB0 := Lib.hid hGB
  have HB0 := Lib.hid hb0
  clear g0 g1 gl hGB hsa hsb hb0 hb2 hb3
  go_wp2_with fail
  go_loopw [13, 14] (fun ov iv wr => ∃ j : Nat, j ≤ cs.length ∧ j ≤ 8 ∧ iv = .int .i64 (j : Int) ∧ Hid (wr.ownsRow W3.heap.size 3 1 ov (cs.take j).length ((cs.take j).map (Value.int .i64))) ∧ Below W3.heap.size W3 wr) (fun _ iv _ => 8 - (intOf iv).toNat)
  case atStart => exact ⟨0, by omega, by omega, rfl, HO0.out, HN0.out⟩
  case round =>
    obtain ⟨j, hj, hj8, rfl, HO, hbr⟩ := hrel
    by_cases hc : j < cs.length ∧ j < 8
    · obtain ⟨hjc, hj8'⟩ := hc
      obtain ⟨b8, o8, x8, rfl, hb8, hx8, hc8x⟩ := (HCS.out _ (bthen HB0.out hbr)).i8 hjc
      have hx8b := hc8 x8 (List.mem_of_getElem? hx8)
      have hw8 : IntKind.i64.wrap x8 = x8 := IntWalk.i64_in _ (by omega)
      have HTK := Lib.hid (take_succ_of hx8)
      have htl : (cs.take j).length ≤ 8 := by rw [List.length_take]; omega
      have hjI : (j : Int) < (cs.length : Int) := by omega
      have hj8I : (j : Int) < 8 := by omega
      clear hx8
      go_wp2_with (at_builtin; go_loud (refine wpList_app1 rfl _ _ 36 rfl W3.heap.size 3 i0 _ 1 8 Try.underlying36 hi hz0 hz1 hz2 rfl (by decide) u13 _ _ rfl _ [.int .i64 x8] rfl HO.out _ rfl (by simp) rfl (by simp [Value.oneCell']) (by omega) (by decide) (by have := hbr.size; omega) ?_; intro v4 w4 hown4 hb4 ha4; have HO4 : Hid (w4.ownsRow W3.heap.size 3 1 v4 (cs.take (j + 1)).length ((cs.take (j + 1)).map (Value.int .i64))) := (by show World.ownsRow _ _ _ _ _ _ _; rw [HTK.out, List.length_append, List.map_append]; exact hown4); clear hown4))
      go_roundw
      case rel => exact ⟨j + 1, by omega, by omega, by go_num, HO4, hbr.trans hb4⟩
      case measure => simp [intOf]; omega
    · have hcc : (cs.length ≤ j) ∨ (j < cs.length ∧ 8 ≤ j) := by omega
      obtain ⟨ls, hls_⟩ : ∃ ls, cs.take j = ls := ⟨_, rfl⟩
      have hl8' : ls.length ≤ 8 := by rw [← hls_, List.length_take]; omega
      have HOL := HO.out
      rw [hls_] at HOL
      obtain ⟨Ao, co, rfl, hco, hcom, hso⟩ := own_ints HOL rfl
      obtain ⟨cm, hcm⟩ : ∃ p, costM g ls = p := ⟨_, rfl⟩
      obtain ⟨cm1, cm2⟩ := cm
      have HCM := Lib.hid hcm
      have HSL := Lib.hid hso
      have hGB := HGB0.out.below hbr HGB0.out.lt
      have hb0 := bthen HB0.out hbr
      have HC1 : Hid (∀ W', Below wr.heap.size wr W' → Calls Try.prog 18 #[(.agg #[.int .i64 (N : Int), .slice A3 g.ls.length c3]), .slice Ao ls.length co] W' fun e w' => e = .returned (.tuple #[.int .i64 cm1, .bool cm2]) ∧ Below W'.heap.size W' w') := fun W' hW' => by
        have h := HCO.out W' Ao ls co (bthen hb0 hW') (HSL.out.below keeps_int hW') (by unfold maxLen; omega)
        rw [HCM.out] at h
        exact h
      have HC2 : Hid (∀ W', Below wr.heap.size wr W' → Calls Try.prog 19 #[(.agg #[.int .i64 (N : Int), .slice A3 g.ls.length c3]), .slice Ao ls.length co] W' fun e w' => e = .returned (.tuple #[.int .i64 cm1, .bool cm2]) ∧ Below W'.heap.size W' w') := fun W' hW' => by
        have h := HRC.out W' Ao ls co (bthen hb0 hW') (HSL.out.below keeps_int hW') (by unfold maxLen; omega)
        rw [HCM.out] at h
        exact h
      have HBR := Lib.hid hbr
      clear hc hls_ HOL hso hcm HO hbr
      have HG4 := Lib.hid hGB
      have HB4 := Lib.hid hb0
      rcases hcc with z1 | ⟨z1, z2⟩
      all_goals
        go_upto_region 10 with fail
        have hGB := HG4.out
        have hb0 := HB4.out
        have g0 := hGB.cell 0
        have g1 := hGB.cell 1
        have gl := hGB.lt
        simp at g0 g1
        go_upto_region 11 with (go_at_call 18; go_loud (refine (HC1.out _ (Below.refl _ _)).mono ?_; rintro e W5 ⟨rfl, hb5⟩))
        have hGB := hGB.below hb5 gl
        have g0 := hGB.cell 0
        have g1 := hGB.cell 1
        have gl := hGB.lt
        simp at g0 g1
        go_upto_region 12 with (go_at_call 19; go_loud (refine (HC2.out _ hb5).mono ?_; rintro e W6 ⟨rfl, hb6⟩))
        have hGB := hGB.below hb6 gl
        have g0 := hGB.cell 0
        have g1 := hGB.cell 1
        have gl := hGB.lt
        simp at g0 g1
        have hb0 := bthen (bthen hb0 hb5) hb6
        have hbr6 := bthen (bthen HBR.out hb5) hb6
        have HSA : Hid (∀ W', Below W6.heap.size W6 W' → Calls Try.prog 20 #[.slice Aa L.length ca, .slice Ab L.length cb] W' fun e w' => e = .returned (.bool true) ∧ Below W'.heap.size W' w') := fun W' hW' => by
          have h := same_any Aa Ab L L ca cb W' (HSA0.out.below keeps_can (bthen hbr6 hW')) (HSB0.out.below keeps_can (bthen hbr6 hW')) (by unfold maxLen; omega) (by unfold maxLen; omega)
          rw [decide_eq_true rfl] at h
          exact h
        have HNU : Hid (∀ W', Below W6.heap.size W6 W' → Calls Try.prog 21 #[(.agg #[.int .i64 (N : Int), .slice A3 g.ls.length c3])] W' fun e w' => e = .returned (.int .i64 R) ∧ Below W'.heap.size W' w') := fun W' hW' => HNU0.out W' (bthen hb0 hW')
        have HRN : Hid (∀ W', Below W6.heap.size W6 W' → Calls Try.prog 22 #[(.agg #[.int .i64 (N : Int), .slice A3 g.ls.length c3])] W' fun e w' => e = .returned (.int .i64 R) ∧ Below W'.heap.size W' w') := fun W' hW' => HRN0.out W' (bthen hb0 hW')
        refine ordB_below (.quiet 0 (.quiet 1 (.only 2 (.quiet 3 (.quiet 4 (.quiet 5 (.quiet 6 (.quiet 7 (.quiet 8 (.quiet 9 (.quiet 10 (.quiet 11 (.quiet 12 (.quiet 13 (.quiet 14 (.quiet 15 (.quiet 16 (.quiet 17 (.quiet 18 (.quiet 19 (.quiet 20 (.quiet 22 (.only 21 (.only 23 (.quiet 24 (.quiet 25 .done)))))))))))))))))))))))))) (by kernel_rfl) (by kernel_rfl) (by kernel_rfl) (fun _ _ _ _ _ h => h) ?_
        intro V0 hV0
        iterate 2 (first
          | (refine ordB_skip rfl rfl ?_; simp only [Act.put, List.setIfInBounds_toArray, List.set_cons_zero, List.set_cons_succ])
          | (refine ordB_take (v := ?_) rfl rfl ?_ ?_
             rotate_left 1
             focus (intro W hW; obtain ⟨hcW, hfW⟩ := bcell hW; (go_simp <;> with_reducible rfl))
             simp only [Act.put, List.setIfInBounds_toArray, List.set_cons_zero, List.set_cons_succ]))
        refine ordB_only (opB_call rfl rfl (fun K hK => ?_))
        go_simp
        go_at_call 20
        refine (HSA.out _ hV0).mono ?_
        rintro e V0_1 ⟨rfl, hx2⟩
        refine hK.out _ _ (hV0.trans (hx2.mono hV0.size)) (fun hV0_1 => ?_)
        iterate 19 (first
          | (refine ordB_skip rfl rfl ?_; simp only [Act.put, List.setIfInBounds_toArray, List.set_cons_zero, List.set_cons_succ])
          | (refine ordB_take (v := ?_) rfl rfl ?_ ?_
             rotate_left 1
             focus (intro W hW; obtain ⟨hcW, hfW⟩ := bcell hW; (go_simp <;> with_reducible rfl))
             simp only [Act.put, List.setIfInBounds_toArray, List.set_cons_zero, List.set_cons_succ]))
        refine ordB_only (opB_call rfl rfl (fun K hK => ?_))
        go_simp
        go_at_call 21
        refine (HNU.out _ hV0_1).mono ?_
        rintro e V0_1_2 ⟨rfl, hx21⟩
        refine hK.out _ _ (hV0_1.trans (hx21.mono hV0_1.size)) (fun hV0_1_2 => ?_)
        refine ordB_only (opB_call rfl rfl (fun K hK => ?_))
        go_simp
        go_at_call 22
        refine (HRN.out _ hV0_1_2).mono ?_
        rintro e V0_1_2_3 ⟨rfl, hx23⟩
        refine hK.out _ _ (hV0_1_2.trans (hx23.mono hV0_1_2.size)) (fun hV0_1_2_3 => ?_)
        iterate 2 (first
          | (refine ordB_skip rfl rfl ?_; simp only [Act.put, List.setIfInBounds_toArray, List.set_cons_zero, List.set_cons_succ])
          | (refine ordB_take (v := ?_) rfl rfl ?_ ?_
             rotate_left 1
             focus (intro W hW; obtain ⟨hcW, hfW⟩ := bcell hW; (go_simp <;> with_reducible rfl))
             simp only [Act.put, List.setIfInBounds_toArray, List.set_cons_zero, List.set_cons_succ]))
        refine ordB_nil ?_
        have hGB := hGB.below hV0_1_2_3 gl
        have hb0 := bthen hb0 hV0_1_2_3
        clear g0 g1 gl hV0_1_2_3
        generalize V0_1_2_3 = Wa at *
        have g0 := hGB.cell 0
        have g1 := hGB.cell 1
        have gl := hGB.lt
        simp at g0 g1
        go_upto_region 15 with (go_at_call 17; go_loud (refine (HRL8.out _ hb0).mono ?_; rintro e Wb ⟨A8, c8, rfl, hs8, hl8, hm8, hb8⟩))
        have HGB := Lib.hid (hGB.below hb8 gl)
        have HB8 := Lib.hid (bthen hb0 hb8)
        have HS8 := Lib.hid hs8
        clear g0 g1 gl hGB hb0 hb8 hs8
        go_wp2_with fail
        go_loopw [21] (fun iv wr => ∃ k : Nat, k ≤ L8.length ∧ iv = .int .i64 (k : Int) ∧ Below Wb.heap.size Wb wr) (fun iv _ => L8.length - (intOf iv).toNat)
        case atStart => exact ⟨0, by omega, rfl, Below.refl _ _⟩
        case round =>
          obtain ⟨k, hk, rfl, hbr⟩ := hrel
          have hGr := HGB.out.below hbr HGB.out.lt
          have g0 := hGr.cell 0
          have g1 := hGr.cell 1
          have gl := hGr.lt
          simp at g0 g1
          by_cases hlt : k < L8.length
          · obtain ⟨b, off, y, A1, c1, rfl, hbb, hyy, y0, y1, hys, hyl, hym⟩ := (HS8.out.below keeps_can hbr).can hlt
            obtain ⟨b2, off2, z, A2, c2, he2, hbb3, hzz, q0, q1, hzs, hzl, hzm⟩ := (HS8.out.below keeps_can hbr).can (k := 0) (by omega)
            obtain ⟨rfl, rfl⟩ : b = b2 ∧ off = off2 := by injection he2 with he; injection he with h1 h2; exact ⟨h1, h2⟩
            rw [Nat.zero_mul, Nat.add_zero] at q0 q1
            have hLL : Hid (∀ (a b : Can) (A B : Option Addr) (c d : Nat) W', SlR 1 RInt W' A a.links → SlR 1 RInt W' B b.links → a.links.length ≤ maxLen → b.links.length ≤ maxLen → Calls Try.prog 23 #[(.agg #[.int .i64 (N : Int), .slice A3 g.ls.length c3]), .agg #[.slice A a.links.length c, .int .i64 a.cost], .agg #[.slice B b.links.length d, .int .i64 b.cost]] W' fun e w' => e = .returned (.bool (canLt a b)) ∧ Below W'.heap.size W' w') := fun a b A B c d W' h1 h2 h3 h4 => less_any (N : Int) (.slice A3 g.ls.length c3) A B a b c d W' h1 h2 h3 h4
            have hL1 : canLt y z = false := by
              obtain ⟨hka, hz2⟩ := List.getElem?_eq_some_iff.1 hzz
              obtain ⟨hkb, hy2⟩ := List.getElem?_eq_some_iff.1 hyy
              rcases Nat.eq_zero_or_pos k with rfl | h0
              · rw [← hz2, ← hy2]; exact canLt_irrefl _
              · have := List.pairwise_iff_getElem.1 HSO.out 0 k hka hkb h0
                rw [hz2, hy2] at this
                exact canLt_asymm this
            have hL2 : canLt z y = decide (0 < k) := by
              obtain ⟨hka, hz2⟩ := List.getElem?_eq_some_iff.1 hzz
              obtain ⟨hkb, hy2⟩ := List.getElem?_eq_some_iff.1 hyy
              rcases Nat.eq_zero_or_pos k with rfl | h0
              · rw [← hz2, ← hy2]; exact canLt_irrefl _
              · have := List.pairwise_iff_getElem.1 HSO.out 0 k hka hkb h0
                rw [hz2, hy2] at this
                rw [this, decide_eq_true h0]
            have HL1 : Hid (∀ W', Below wr.heap.size wr W' → Calls Try.prog 23 #[(.agg #[.int .i64 (N : Int), .slice A3 g.ls.length c3]), .agg #[.slice A1 y.links.length c1, .int .i64 y.cost], .agg #[.slice A2 z.links.length c2, .int .i64 z.cost]] W' fun e w' => e = .returned (.bool false) ∧ Below W'.heap.size W' w') := fun W' hW' => by
              have h := hLL.out y z A1 A2 c1 c2 W' (hys.below keeps_int hW') (hzs.below keeps_int hW') (by omega) (by omega)
              rw [hL1] at h
              exact h
            have HL2' : Hid (∀ W', Below wr.heap.size wr W' → Calls Try.prog 23 #[(.agg #[.int .i64 (N : Int), .slice A3 g.ls.length c3]), .agg #[.slice A2 z.links.length c2, .int .i64 z.cost], .agg #[.slice A1 y.links.length c1, .int .i64 y.cost]] W' fun e w' => e = .returned (.bool (decide (0 < k))) ∧ Below W'.heap.size W' w') := fun W' hW' => by
              have h := hLL.out z y A2 A1 c2 c1 W' (hzs.below keeps_int hW') (hys.below keeps_int hW') (by omega) (by omega)
              rw [hL2] at h
              exact h
            have hkI : (k : Int) < (L8.length : Int) := by omega
            have hlpos : 0 < L8.length := by omega
            have hlposI : (0 : Int) < (L8.length : Int) := by omega
            clear he2 hyy hzz hys hzs hyl hym hzl hzm hL1 hL2 hLL
            rcases (by omega : k ≤ 0 ∨ 0 < k) with hk0 | hk0
            · have zk : decide (0 < k) = false := decide_eq_false (by omega)
              have HL2 := HL2'.out
              rw [zk] at HL2
              have HL2 := Lib.hid HL2
              have zkI : (k : Int) ≤ 0 := by omega
              go_upto_region 18 with fail
              refine ordB_below (.quiet 0 (.quiet 1 (.quiet 2 (.quiet 3 (.quiet 4 (.quiet 5 (.quiet 6 (.quiet 7 (.only 8 (.quiet 9 (.quiet 10 (.quiet 11 (.quiet 12 (.quiet 13 (.quiet 14 (.quiet 15 (.quiet 16 (.quiet 17 (.quiet 19 (.quiet 20 (.only 18 (.quiet 21 (.quiet 22 .done))))))))))))))))))))))) (by kernel_rfl) (by kernel_rfl) (by kernel_rfl) (fun _ _ _ _ _ h => h) ?_
              intro U0 hU0
              iterate 8 (first
                | (refine ordB_skip rfl rfl ?_; simp only [Act.put, List.setIfInBounds_toArray, List.set_cons_zero, List.set_cons_succ])
                | (refine ordB_take (v := ?_) rfl rfl ?_ ?_
                   rotate_left 1
                   focus (intro W hW; obtain ⟨hcW, hfW⟩ := bcell hW; (go_simp <;> with_reducible rfl))
                   simp only [Act.put, List.setIfInBounds_toArray, List.set_cons_zero, List.set_cons_succ]))
              refine ordB_only (opB_call rfl rfl (fun K hK => ?_))
              go_simp
              go_at_call 23
              refine (HL1.out _ hU0).mono ?_
              rintro e U0_1 ⟨rfl, hx8⟩
              refine hK.out _ _ (hU0.trans (hx8.mono hU0.size)) (fun hU0_1 => ?_)
              iterate 11 (first
                | (refine ordB_skip rfl rfl ?_; simp only [Act.put, List.setIfInBounds_toArray, List.set_cons_zero, List.set_cons_succ])
                | (refine ordB_take (v := ?_) rfl rfl ?_ ?_
                   rotate_left 1
                   focus (intro W hW; obtain ⟨hcW, hfW⟩ := bcell hW; (go_simp <;> with_reducible rfl))
                   simp only [Act.put, List.setIfInBounds_toArray, List.set_cons_zero, List.set_cons_succ]))
              refine ordB_only (opB_call rfl rfl (fun K hK => ?_))
              go_simp
              go_at_call 23
              refine (HL2.out _ hU0_1).mono ?_
              rintro e U0_1_2 ⟨rfl, hx18⟩
              refine hK.out _ _ (hU0_1.trans (hx18.mono hU0_1.size)) (fun hU0_1_2 => ?_)
              iterate 2 (first
                | (refine ordB_skip rfl rfl ?_; simp only [Act.put, List.setIfInBounds_toArray, List.set_cons_zero, List.set_cons_succ])
                | (refine ordB_take (v := ?_) rfl rfl ?_ ?_
                   rotate_left 1
                   focus (intro W hW; obtain ⟨hcW, hfW⟩ := bcell hW; (go_simp <;> with_reducible rfl))
                   simp only [Act.put, List.setIfInBounds_toArray, List.set_cons_zero, List.set_cons_succ]))
              refine ordB_nil ?_
              go_wp2_with fail
              go_roundw
              case rel => exact ⟨k + 1, by omega, by go_num, bthen hbr hU0_1_2⟩
              case measure => simp [intOf]; omega
            · have zk : decide (0 < k) = true := decide_eq_true (by omega)
              have HL2 := HL2'.out
              rw [zk] at HL2
              have HL2 := Lib.hid HL2
              have zkI : (0 : Int) < (k : Int) := by omega
              go_upto_region 18 with fail
              refine ordB_below (.quiet 0 (.quiet 1 (.quiet 2 (.quiet 3 (.quiet 4 (.quiet 5 (.quiet 6 (.quiet 7 (.only 8 (.quiet 9 (.quiet 10 (.quiet 11 (.quiet 12 (.quiet 13 (.quiet 14 (.quiet 15 (.quiet 16 (.quiet 17 (.quiet 19 (.quiet 20 (.only 18 (.quiet 21 (.quiet 22 .done))))))))))))))))))))))) (by kernel_rfl) (by kernel_rfl) (by kernel_rfl) (fun _ _ _ _ _ h => h) ?_
              intro U0 hU0
              iterate 8 (first
                | (refine ordB_skip rfl rfl ?_; simp only [Act.put, List.setIfInBounds_toArray, List.set_cons_zero, List.set_cons_succ])
                | (refine ordB_take (v := ?_) rfl rfl ?_ ?_
                   rotate_left 1
                   focus (intro W hW; obtain ⟨hcW, hfW⟩ := bcell hW; (go_simp <;> with_reducible rfl))
                   simp only [Act.put, List.setIfInBounds_toArray, List.set_cons_zero, List.set_cons_succ]))
              refine ordB_only (opB_call rfl rfl (fun K hK => ?_))
              go_simp
              go_at_call 23
              refine (HL1.out _ hU0).mono ?_
              rintro e U0_1 ⟨rfl, hx8⟩
              refine hK.out _ _ (hU0.trans (hx8.mono hU0.size)) (fun hU0_1 => ?_)
              iterate 11 (first
                | (refine ordB_skip rfl rfl ?_; simp only [Act.put, List.setIfInBounds_toArray, List.set_cons_zero, List.set_cons_succ])
                | (refine ordB_take (v := ?_) rfl rfl ?_ ?_
                   rotate_left 1
                   focus (intro W hW; obtain ⟨hcW, hfW⟩ := bcell hW; (go_simp <;> with_reducible rfl))
                   simp only [Act.put, List.setIfInBounds_toArray, List.set_cons_zero, List.set_cons_succ]))
              refine ordB_only (opB_call rfl rfl (fun K hK => ?_))
              go_simp
              go_at_call 23
              refine (HL2.out _ hU0_1).mono ?_
              rintro e U0_1_2 ⟨rfl, hx18⟩
              refine hK.out _ _ (hU0_1.trans (hx18.mono hU0_1.size)) (fun hU0_1_2 => ?_)
              iterate 2 (first
                | (refine ordB_skip rfl rfl ?_; simp only [Act.put, List.setIfInBounds_toArray, List.set_cons_zero, List.set_cons_succ])
                | (refine ordB_take (v := ?_) rfl rfl ?_ ?_
                   rotate_left 1
                   focus (intro W hW; obtain ⟨hcW, hfW⟩ := bcell hW; (go_simp <;> with_reducible rfl))
                   simp only [Act.put, List.setIfInBounds_toArray, List.set_cons_zero, List.set_cons_succ]))
              refine ordB_nil ?_
              go_wp2_with fail
              go_roundw
              case rel => exact ⟨k + 1, by omega, by go_num, bthen hbr hU0_1_2⟩
              case measure => simp [intOf]; omega
          · go_wp2_with fail
            go_ret
            exact ⟨rfl, bthen HBW.out (bthen HB8.out hbr)⟩
end Go.Proofs.Ytbikjmafddndpaa
