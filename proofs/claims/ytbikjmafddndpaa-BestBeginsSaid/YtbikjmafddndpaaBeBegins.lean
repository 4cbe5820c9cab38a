/-
  The law BestBegins: for all inputs it returns true.
-/
import Derived.Test.YtbikjmafddndpaaBsLaw
import Derived.Deep.DeepCutAuto
namespace Go.Proofs.Ytbikjmafddndpaa
open Go Go.RowKit

set_option maxRecDepth 100000 in
set_option maxHeartbeats 16000000 in
theorem bestBegins_any (A : Option Addr) (l : List T3) (c : Nat) (x pa pb : Int) (w : World) (hs : SlR 3 RT3 w A l) (hl : l.length ≤ maxLen) (hok : ∀ p ∈ l, T3OK p) (hx : 0 ≤ x ∧ x ≤ 255) (hpa : 0 ≤ pa ∧ pa ≤ 255) (hpb : 0 ≤ pb ∧ pb ≤ 255) :
    Calls Try.prog 5 #[.agg #[.int .u8 x, .slice A l.length c], .agg #[.int .u8 pa, .int .u8 pb]] w fun e w' => e = .returned (.bool true) ∧ Below w.heap.size w w' := by
  obtain ⟨w1, hw1⟩ : ∃ w1, ((w.alloc (.cells #[.int .u8 x, .slice A l.length c] 24)).alloc (.cells #[.int .u8 pa, .int .u8 pb] 51)) = w1 := ⟨_, rfl⟩
  have hb1 : Below w.heap.size w w1 := by rw [← hw1]; exact nw _ (nw _ (Below.refl _ _))
  have hX0 : Blk w1 (w.heap.size) 24 #[.int .u8 x, .slice A l.length c] := by rw [← hw1]; exact (Blk.new _ _ _).alloc _
  have hX1 : Blk w1 (w.heap.size + 1) 51 #[.int .u8 pa, .int .u8 pb] := by rw [← hw1]; exact Blk.new_ (by simp)
  have HW1 := Lib.hid hw1
  have HMD : Hid (∀ W, Below w.heap.size w W → Calls Try.prog 15 #[.agg #[.int .u8 x, .slice A l.length c]] W fun e w' => ∃ A' c', e = .returned (.agg #[.int .i64 (madeG x l).n, .slice A' (madeG x l).ls.length c']) ∧ (madeG x l).ls.length ≤ c' ∧ c' ≤ maxLen ∧ SlR 4 RLk w' A' (madeG x l).ls ∧ Below W.heap.size W w') :=
    fun W hW => made_any A l c x W (hs.below keeps_t3 hW) hl hx hok
  have hg : GrOK (madeG x l) := madeG_ok hok
  have h14 : (madeG x l).ls.length ≤ 14 := madeG_len x l
  have hn7 : 1 ≤ (madeG x l).n ∧ (madeG x l).n ≤ 7 := madeG_n x l
  generalize madeG x l = g at *
  obtain ⟨N, hN⟩ : ∃ N : Nat, g.n = (N : Int) := ⟨g.n.toNat, by omega⟩
  rw [hN] at HMD
  have HN := Lib.hid hN
  have HG := Lib.hid hg
  have hN1 : 1 ≤ N := by omega
  have hN7 : N ≤ 7 := by omega
  have hlt1 := hX0.lt
  clear hw1 hs hok hN hg hn7
  have hbx0 := hX0.cell 0
  have hbx1 := hX0.cell 1
  simp at hbx0 hbx1
  go_enter Try.func5, Try.ntmps5
  go_upto_region 1 with fail
  rw [HW1.out]
  go_upto_region 2 with (go_at_call 14; go_loud (refine (sanity15_any _).mono ?_; rintro e w2 ⟨rfl, hb2⟩))
  have hX0 := hX0.below hb2 hX0.lt
  have hX1 := hX1.below hb2 hX1.lt
  have hbx0 := hX0.cell 0
  have hbx1 := hX0.cell 1
  simp at hbx0 hbx1
  have hbw2 := bthen hb1 hb2
  go_upto_region 3 with (go_at_call 15; go_loud (refine (HMD.out _ hbw2).mono ?_; rintro e w3 ⟨A3, c3, rfl, hc3, hcm3, hs3, hb3⟩))
  obtain ⟨W, hW⟩ : ∃ W, w3.alloc (.cells #[.int .i64 (N : Int), .slice A3 g.ls.length c3] 30) = W := ⟨_, rfl⟩
  have hb4 : Below w3.heap.size w3 W := by rw [← hW]; exact nw _ (Below.refl _ _)
  have hGB : Blk W w3.heap.size 30 #[.int .i64 (N : Int), .slice A3 g.ls.length c3] := by rw [← hW]; exact Blk.new _ _ _
  rw [hW]
  obtain ⟨bG, hbG⟩ : ∃ b, w3.heap.size = b := ⟨_, rfl⟩
  have hb34 := bthen hb3 hb4
  have hX0 := hX0.below hb34 hX0.lt
  have hX1 := hX1.below hb34 hX1.lt
  have hbw := bthen hbw2 hb34
  have hls := hs3.below keeps_lk hb4
  have hwG : w.heap.size ≤ bG := by have := hbw2.size; have := hb3.size; omega
  rw [hbG] at hGB ⊢
  have hlm : g.ls.length ≤ maxLen := by unfold maxLen; omega
  clear hbx0 hbx1 hW hbG hb4 hb34 hbw2 hb2 hb3 hs3 hb1 HMD HW1

  obtain ⟨p, hp⟩ : ∃ q : Nat, pa % 51 = (q : Int) := ⟨(pa % 51).toNat, by omega⟩
  obtain ⟨q, hq⟩ : ∃ q : Nat, pb % 51 = (q : Int) := ⟨(pb % 51).toNat, by omega⟩
  have hp50 : p ≤ 50 := by omega
  have hq50 : q ≤ 50 := by omega
  have htp : pa.tmod 51 = (p : Int) := by rw [Int.tmod_eq_emod_of_nonneg hpa.1]; exact hp
  have htq : pb.tmod 51 = (q : Int) := by rw [Int.tmod_eq_emod_of_nonneg hpb.1]; exact hq
  have hwa : IntKind.i64.wrap pa = pa := IntWalk.i64_in _ (by omega)
  have hwb : IntKind.i64.wrap pb = pb := IntWalk.i64_in _ (by omega)
  have hwp : IntKind.i64.wrap (p : Int) = (p : Int) := IntWalk.i64_in _ (by omega)
  have hwq : IntKind.i64.wrap (q : Int) = (q : Int) := IntWalk.i64_in _ (by omega)
  have HLI : Hid (∀ (k : Nat) W', k ≤ 50 → Below W.heap.size W W' → Calls Try.prog 16 #[(.agg #[.int .i64 (N : Int), .slice A3 g.ls.length c3]), .int .i64 (k : Int)] W' (IsL ((allR g).take k) W')) := fun k W' hk hW' => by
    have h := listR_any A3 c3 g k W' (hls.below keeps_lk hW') hlm HG.out h14 hk
    rw [HN.out] at h
    exact h
  obtain ⟨La, hLa⟩ : ∃ L, (allR g).take p = L := ⟨_, rfl⟩
  obtain ⟨Lb, hLb⟩ : ∃ L, (allR g).take q = L := ⟨_, rfl⟩
  have HLP := HLI.out p
  have HLQ := HLI.out q
  rw [hLa] at HLP
  rw [hLb] at HLQ
  have HLP := Lib.hid HLP
  have HLQ := Lib.hid HLQ
  have hlen : La.length = min p (allR g).length := by rw [← hLa]; exact List.length_take
  have hlen2 : Lb.length = min q (allR g).length := by rw [← hLb]; exact List.length_take
  obtain ⟨m, hm⟩ : ∃ m, min La.length Lb.length = m := ⟨_, rfl⟩
  have HTK : Hid (La.take m = Lb.take m) := by
    show _ = _
    rw [← hLa, ← hLb, List.take_take, List.take_take]
    congr 1
    omega
  have hma1 : m ≤ La.length := by omega
  have hmb1 : m ≤ Lb.length := by omega
  have HMI : Hid (min (La.length : Int) (Lb.length : Int) = (m : Int)) := by
    show _ = _
    omega
  have hcs : (p < q ∧ La.length ≤ Lb.length) ∨ (q < p ∧ Lb.length ≤ La.length) ∨ (p ≤ q ∧ q ≤ p ∧ La.length ≤ Lb.length ∧ Lb.length ≤ La.length) := by omega
  have hl50 : La.length ≤ 50 := by omega
  have hl51 : Lb.length ≤ 50 := by omega
  clear hLa hLb hlen hlen2 hm
  have g0 := hGB.cell 0
  have g1 := hGB.cell 1
  have gl := hGB.lt
  have wx0 := hX1.cell 0
  have wx1 := hX1.cell 1
  have wxl := hX1.lt
  simp at g0 g1 wx0 wx1
  clear hp hq hlm
  refine ordB_below (.quiet 0 (.quiet 1 (.quiet 2 (.quiet 3 (.quiet 4 (.quiet 5 (.quiet 6 (.quiet 7 (.quiet 8 (.quiet 9 .done)))))))))) (by kernel_rfl) (by kernel_rfl) (by kernel_rfl) (fun _ _ _ _ _ h => h) ?_
  intro U0 hU0
  iterate 10 (first
    | (refine ordB_skip rfl rfl ?_; simp only [Act.put, List.setIfInBounds_toArray, List.set_cons_zero, List.set_cons_succ])
    | (refine ordB_take (v := ?_) rfl rfl ?_ ?_
       rotate_left 1
       focus (intro W hW; obtain ⟨hcW, hfW⟩ := bcell hW; (go_simp <;> with_reducible rfl))
       simp only [Act.put, List.setIfInBounds_toArray, List.set_cons_zero, List.set_cons_succ]))
  refine ordB_nil ?_
  have hGB := hGB.below hU0 gl
  have hb0 := hU0
  clear g0 g1 wx0 wx1 gl wxl hU0 htp htq hwa hwb hwp hwq
  generalize U0 = W1 at *
  have g0 := hGB.cell 0
  have g1 := hGB.cell 1
  have gl := hGB.lt
  simp at g0 g1
  go_upto_region 5 with (go_at_call 16; go_loud (refine (HLP.out _ hp50 hb0).mono ?_; rintro e W2 ⟨Aa, ca, rfl, hsa, hla, hma, hb2⟩))
  have hGB := hGB.below hb2 gl
  have g0 := hGB.cell 0
  have g1 := hGB.cell 1
  have gl := hGB.lt
  simp at g0 g1
  have hb02 := bthen hb0 hb2
  go_upto_region 8 with (go_at_call 16; go_loud (refine (HLQ.out _ hq50 hb02).mono ?_; rintro e W3 ⟨Ab, cb, rfl, hsb, hlb, hmb, hb3⟩))
  have hbE := bthen hbw (bthen hb02 hb3)
  have hsa := hsa.below keeps_can hb3
  have HSA : Hid (∀ W', Below W3.heap.size W3 W' → Calls Try.prog 20 #[.slice Aa m ca, .slice Ab m cb] W' fun e w' => e = .returned (.bool true) ∧ Below W'.heap.size W' w') := fun W' hW' => by
    have h := same_any Aa Ab (La.take m) (Lb.take m) ca cb W' ((slr_preC hsa m).below keeps_can hW') ((slr_preC hsb m).below keeps_can hW') (by rw [List.length_take]; unfold maxLen; omega) (by rw [List.length_take]; unfold maxLen; omega)
    have e1 : (La.take m).length = m := by rw [List.length_take]; omega
    have e2 : (Lb.take m).length = m := by rw [List.length_take]; omega
    rw [decide_eq_true HTK.out, e1, e2] at h
    exact h
  have hmca : (m : Int) ≤ (ca : Int) := by omega
  have hmcb : (m : Int) ≤ (cb : Int) := by omega
  have hm0 : (0 : Int) ≤ (m : Int) := by omega
  have HBE := Lib.hid hbE
  clear hsa hsb hbE hb3 hb02 hb2 hb0
  go_upto_region 9 with fail
  rw [HMI.out]
  rcases hcs with ⟨z1, z2⟩ | ⟨z1, z2⟩ | ⟨z1, z2, z3, z4⟩
  · have y103 : decide (q < p) = false := decide_eq_false (by omega)
    have y798 : decide (p < q) = true := decide_eq_true (by omega)
    have y910 : decide (La.length ≤ Lb.length) = true := decide_eq_true (by omega)
    refine ordB_below (.quiet 0 (.quiet 1 (.quiet 2 (.quiet 3 (.quiet 4 (.quiet 5 (.only 6 (.quiet 7 (.quiet 8 (.quiet 9 (.quiet 10 (.quiet 11 (.quiet 12 (.quiet 13 (.quiet 14 (.quiet 15 (.quiet 16 (.quiet 17 (.quiet 18 (.quiet 19 (.quiet 20 (.quiet 21 (.quiet 22 (.quiet 23 (.quiet 24 (.quiet 25 (.quiet 26 (.quiet 27 (.quiet 28 (.quiet 29 (.quiet 30 (.quiet 31 (.quiet 32 (.quiet 33 (.quiet 34 .done))))))))))))))))))))))))))))))))))) (by kernel_rfl) (by kernel_rfl) (by kernel_rfl) (fun _ _ _ _ _ h => h) ?_
    intro V0 hV0
    iterate 6 (first
      | (refine ordB_skip rfl rfl ?_; simp only [Act.put, List.setIfInBounds_toArray, List.set_cons_zero, List.set_cons_succ])
      | (refine ordB_take (v := ?_) rfl rfl ?_ ?_
         rotate_left 1
         focus (intro W hW; obtain ⟨hcW, hfW⟩ := bcell hW; (go_simp <;> with_reducible rfl))
         simp only [Act.put, List.setIfInBounds_toArray, List.set_cons_zero, List.set_cons_succ]))
    refine ordB_only (opB_call rfl rfl (fun K hK => ?_))
    go_simp
    go_at_call 20
    refine (HSA.out _ hV0).mono ?_
    rintro e V0_1 ⟨rfl, hx6⟩
    refine hK.out _ _ (hV0.trans (hx6.mono hV0.size)) (fun hV0_1 => ?_)
    iterate 28 (first
      | (refine ordB_skip rfl rfl ?_; simp only [Act.put, List.setIfInBounds_toArray, List.set_cons_zero, List.set_cons_succ])
      | (refine ordB_take (v := ?_) rfl rfl ?_ ?_
         rotate_left 1
         focus (intro W hW; obtain ⟨hcW, hfW⟩ := bcell hW; (go_simp <;> with_reducible rfl))
         simp only [Act.put, List.setIfInBounds_toArray, List.set_cons_zero, List.set_cons_succ]))
    refine ordB_nil ?_
    go_wp2_with fail
    go_ret
    exact ⟨rfl, HBE.out.trans (hV0_1.mono HBE.out.size)⟩
  · have y139 : decide (q < p) = true := decide_eq_true (by omega)
    have y46 : decide (p < q) = false := decide_eq_false (by omega)
    have y377 : decide (Lb.length ≤ La.length) = true := decide_eq_true (by omega)
    refine ordB_below (.quiet 0 (.quiet 1 (.quiet 2 (.quiet 3 (.quiet 4 (.quiet 5 (.only 6 (.quiet 7 (.quiet 8 (.quiet 9 (.quiet 10 (.quiet 11 (.quiet 12 (.quiet 13 (.quiet 14 (.quiet 15 (.quiet 16 (.quiet 17 (.quiet 18 (.quiet 19 (.quiet 20 (.quiet 21 (.quiet 22 (.quiet 23 (.quiet 24 (.quiet 25 (.quiet 26 (.quiet 27 (.quiet 28 (.quiet 29 (.quiet 30 (.quiet 31 (.quiet 32 (.quiet 33 (.quiet 34 .done))))))))))))))))))))))))))))))))))) (by kernel_rfl) (by kernel_rfl) (by kernel_rfl) (fun _ _ _ _ _ h => h) ?_
    intro V0 hV0
    iterate 6 (first
      | (refine ordB_skip rfl rfl ?_; simp only [Act.put, List.setIfInBounds_toArray, List.set_cons_zero, List.set_cons_succ])
      | (refine ordB_take (v := ?_) rfl rfl ?_ ?_
         rotate_left 1
         focus (intro W hW; obtain ⟨hcW, hfW⟩ := bcell hW; (go_simp <;> with_reducible rfl))
         simp only [Act.put, List.setIfInBounds_toArray, List.set_cons_zero, List.set_cons_succ]))
    refine ordB_only (opB_call rfl rfl (fun K hK => ?_))
    go_simp
    go_at_call 20
    refine (HSA.out _ hV0).mono ?_
    rintro e V0_1 ⟨rfl, hx6⟩
    refine hK.out _ _ (hV0.trans (hx6.mono hV0.size)) (fun hV0_1 => ?_)
    iterate 28 (first
      | (refine ordB_skip rfl rfl ?_; simp only [Act.put, List.setIfInBounds_toArray, List.set_cons_zero, List.set_cons_succ])
      | (refine ordB_take (v := ?_) rfl rfl ?_ ?_
         rotate_left 1
         focus (intro W hW; obtain ⟨hcW, hfW⟩ := bcell hW; (go_simp <;> with_reducible rfl))
         simp only [Act.put, List.setIfInBounds_toArray, List.set_cons_zero, List.set_cons_succ]))
    refine ordB_nil ?_
    go_wp2_with fail
    go_ret
    exact ⟨rfl, HBE.out.trans (hV0_1.mono HBE.out.size)⟩
  · have y103 : decide (q < p) = false := decide_eq_false (by omega)
    have y46 : decide (p < q) = false := decide_eq_false (by omega)
    have y910 : decide (La.length ≤ Lb.length) = true := decide_eq_true (by omega)
    have y377 : decide (Lb.length ≤ La.length) = true := decide_eq_true (by omega)
    refine ordB_below (.quiet 0 (.quiet 1 (.quiet 2 (.quiet 3 (.quiet 4 (.quiet 5 (.only 6 (.quiet 7 (.quiet 8 (.quiet 9 (.quiet 10 (.quiet 11 (.quiet 12 (.quiet 13 (.quiet 14 (.quiet 15 (.quiet 16 (.quiet 17 (.quiet 18 (.quiet 19 (.quiet 20 (.quiet 21 (.quiet 22 (.quiet 23 (.quiet 24 (.quiet 25 (.quiet 26 (.quiet 27 (.quiet 28 (.quiet 29 (.quiet 30 (.quiet 31 (.quiet 32 (.quiet 33 (.quiet 34 .done))))))))))))))))))))))))))))))))))) (by kernel_rfl) (by kernel_rfl) (by kernel_rfl) (fun _ _ _ _ _ h => h) ?_
    intro V0 hV0
    iterate 6 (first
      | (refine ordB_skip rfl rfl ?_; simp only [Act.put, List.setIfInBounds_toArray, List.set_cons_zero, List.set_cons_succ])
      | (refine ordB_take (v := ?_) rfl rfl ?_ ?_
         rotate_left 1
         focus (intro W hW; obtain ⟨hcW, hfW⟩ := bcell hW; (go_simp <;> with_reducible rfl))
         simp only [Act.put, List.setIfInBounds_toArray, List.set_cons_zero, List.set_cons_succ]))
    refine ordB_only (opB_call rfl rfl (fun K hK => ?_))
    go_simp
    go_at_call 20
    refine (HSA.out _ hV0).mono ?_
    rintro e V0_1 ⟨rfl, hx6⟩
    refine hK.out _ _ (hV0.trans (hx6.mono hV0.size)) (fun hV0_1 => ?_)
    iterate 28 (first
      | (refine ordB_skip rfl rfl ?_; simp only [Act.put, List.setIfInBounds_toArray, List.set_cons_zero, List.set_cons_succ])
      | (refine ordB_take (v := ?_) rfl rfl ?_ ?_
         rotate_left 1
         focus (intro W hW; obtain ⟨hcW, hfW⟩ := bcell hW; (go_simp <;> with_reducible rfl))
         simp only [Act.put, List.setIfInBounds_toArray, List.set_cons_zero, List.set_cons_succ]))
    refine ordB_nil ?_
    go_wp2_with fail
    go_ret
    exact ⟨rfl, HBE.out.trans (hV0_1.mono HBE.out.size)⟩
end Go.Proofs.Ytbikjmafddndpaa
