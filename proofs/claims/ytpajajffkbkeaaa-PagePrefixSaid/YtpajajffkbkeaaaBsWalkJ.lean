/-
  The walks of layer 15: the reference's lists of candidates compared; its List.
-/
import Derived.Test.YtpajajffkbkeaaaBsWalkI
import Derived.Test.YtpajajffkbkeaaaGrWalkQ
namespace Go.Proofs.Ytpajajffkbkeaaa
open Go Go.RowKit

set_option maxRecDepth 100000 in
set_option maxHeartbeats 8000000 in
theorem same_any (A B : Option Addr) (xs ys : List Can) (c d : Nat) (w : World) (hx : SlR 2 RCan w A xs) (hy : SlR 2 RCan w B ys) (hl : xs.length ≤ maxLen) (hl2 : ys.length ≤ maxLen) :
    Calls Try.prog 36 #[.slice A xs.length c, .slice B ys.length d] w fun e w' => e = .returned (.bool (decide (xs = ys))) ∧ Below w.heap.size w w' := by
  unfold maxLen at hl hl2
  by_cases hlen : xs.length = ys.length
  · have HL := Lib.hid hlen
    rw [← hlen]
    clear hlen
    go_enter Try.func36, Try.ntmps36
    go_wp2_with fail
    go_loopw [5] (fun i wr => ∃ k : Nat, k ≤ xs.length ∧ Hid (SameTo xs ys k) ∧ i = .int .i64 k ∧ Below w.heap.size w wr) (fun i _ => xs.length - (intOf i).toNat)
    case atStart => exact ⟨0, by omega, rfl, rfl, Below.refl _ _⟩
    case round =>
      obtain ⟨k, hk, HS, rfl, hb⟩ := hrel
      by_cases hlt : k < xs.length
      · obtain ⟨b, off, x, A1, c1, rfl, hbb, hxx, x0, x1, hxs, hxl, hxm⟩ := (hx.below keeps_can hb).can hlt
        obtain ⟨b', off', y, A2, c2, rfl, hbb', hyy, y0, y1, hys, hyl, hym⟩ := (hy.below keeps_can hb).can (k := k) (by have := HL.out; omega)
        have HX := Lib.hid hxx
        have HY := Lib.hid hyy
        have HI : Hid (∀ W, Below wr.heap.size wr W → Calls Try.prog 17 #[.slice A1 x.links.length c1, .slice A2 y.links.length c2] W fun e w' => e = .returned (.bool (decide (x.links = y.links))) ∧ Below W.heap.size W w') := fun W hW => ints_any A1 A2 x.links y.links c1 c2 W (hxs.below keeps_int hW) (hys.below keeps_int hW) (by omega) (by omega)
        clear hxx hyy hxs hys hxl hxm hyl hym
        by_cases hc : x.cost = y.cost
        · have e1 : (x.cost != y.cost) = false := by simpa using hc
          have HC := Lib.hid hc
          clear hc
          cases hll : decide (x.links = y.links) with
          | true =>
            rw [hll] at HI
            have HE : Hid (x = y) := by have h := of_decide_eq_true hll; have h2 := HC.out; cases x; cases y; simp at h h2; show _ = _; rw [h, h2]
            clear hll
            go_wp2_with fail
            refine ordB_below (.quiet 0 (.quiet 1 (.quiet 2 (.quiet 3 (.quiet 4 (.quiet 5 (.quiet 6 (.quiet 7 (.quiet 8 (.quiet 9 (.quiet 10 (.quiet 11 (.quiet 12 (.quiet 13 (.quiet 14 (.quiet 15 (.quiet 16 (.quiet 17 (.quiet 18 (.quiet 19 (.quiet 20 (.quiet 21 (.only 22 (.quiet 23 (.quiet 24 .done))))))))))))))))))))))))) (by kernel_rfl) (by kernel_rfl) (by kernel_rfl) (fun _ _ _ _ _ h => h) ?_
            intro V0 hV0
            iterate 22 (first
              | (refine ordB_skip rfl rfl ?_; simp only [Act.put, List.setIfInBounds_toArray, List.set_cons_zero, List.set_cons_succ])
              | (refine ordB_take (v := ?_) rfl rfl ?_ ?_
                 rotate_left 1
                 focus (intro W hW; obtain ⟨hcW, hfW⟩ := bcell hW; (go_simp <;> with_reducible rfl))
                 simp only [Act.put, List.setIfInBounds_toArray, List.set_cons_zero, List.set_cons_succ]))
            refine ordB_only (opB_call rfl rfl (fun K hK => ?_))
            go_simp
            go_at_call 17
            refine (HI.out _ hV0).mono ?_
            rintro e V0_1 ⟨rfl, hx⟩
            refine hK.out _ _ (hV0.trans (hx.mono hV0.size)) (fun hV0_1 => ?_)
            iterate 2 (first
              | (refine ordB_skip rfl rfl ?_; simp only [Act.put, List.setIfInBounds_toArray, List.set_cons_zero, List.set_cons_succ])
              | (refine ordB_take (v := ?_) rfl rfl ?_ ?_
                 rotate_left 1
                 focus (intro W hW; obtain ⟨hcW, hfW⟩ := bcell hW; (go_simp <;> with_reducible rfl))
                 simp only [Act.put, List.setIfInBounds_toArray, List.set_cons_zero, List.set_cons_succ]))
            refine ordB_nil ?_
            go_wp2_with fail
            go_roundw
            case rel => exact ⟨k + 1, by omega, HS.out.succ HX.out (by rw [HY.out, HE.out]), by go_num, bthen hb hV0_1⟩
            case measure => simp [intOf]; omega
          | false =>
            rw [hll] at HI
            have HE : Hid (x ≠ y) := fun e => (of_decide_eq_false hll) (by rw [e])
            clear hll
            go_wp2_with fail
            refine ordB_below (.quiet 0 (.quiet 1 (.quiet 2 (.quiet 3 (.quiet 4 (.quiet 5 (.quiet 6 (.quiet 7 (.quiet 8 (.quiet 9 (.quiet 10 (.quiet 11 (.quiet 12 (.quiet 13 (.quiet 14 (.quiet 15 (.quiet 16 (.quiet 17 (.quiet 18 (.quiet 19 (.quiet 20 (.quiet 21 (.only 22 (.quiet 23 (.quiet 24 .done))))))))))))))))))))))))) (by kernel_rfl) (by kernel_rfl) (by kernel_rfl) (fun _ _ _ _ _ h => h) ?_
            intro V0 hV0
            iterate 22 (first
              | (refine ordB_skip rfl rfl ?_; simp only [Act.put, List.setIfInBounds_toArray, List.set_cons_zero, List.set_cons_succ])
              | (refine ordB_take (v := ?_) rfl rfl ?_ ?_
                 rotate_left 1
                 focus (intro W hW; obtain ⟨hcW, hfW⟩ := bcell hW; (go_simp <;> with_reducible rfl))
                 simp only [Act.put, List.setIfInBounds_toArray, List.set_cons_zero, List.set_cons_succ]))
            refine ordB_only (opB_call rfl rfl (fun K hK => ?_))
            go_simp
            go_at_call 17
            refine (HI.out _ hV0).mono ?_
            rintro e V0_1 ⟨rfl, hx⟩
            refine hK.out _ _ (hV0.trans (hx.mono hV0.size)) (fun hV0_1 => ?_)
            iterate 2 (first
              | (refine ordB_skip rfl rfl ?_; simp only [Act.put, List.setIfInBounds_toArray, List.set_cons_zero, List.set_cons_succ])
              | (refine ordB_take (v := ?_) rfl rfl ?_ ?_
                 rotate_left 1
                 focus (intro W hW; obtain ⟨hcW, hfW⟩ := bcell hW; (go_simp <;> with_reducible rfl))
                 simp only [Act.put, List.setIfInBounds_toArray, List.set_cons_zero, List.set_cons_succ]))
            refine ordB_nil ?_
            go_wp2_with fail
            go_ret
            exact ⟨ret_bool (by simp [ne_at HX.out HY.out HE.out]), bthen hb hV0_1⟩
        · have e1 : (x.cost != y.cost) = true := by simpa using hc
          have HE : Hid (x ≠ y) := fun e => hc (by rw [e])
          clear hc
          go_wp2_with fail
          refine ordB_below (.quiet 0 (.quiet 1 (.quiet 2 (.quiet 3 (.quiet 4 (.quiet 5 (.quiet 6 (.quiet 7 (.quiet 8 (.quiet 9 (.quiet 10 (.quiet 11 (.quiet 12 (.quiet 13 (.quiet 14 (.quiet 15 (.quiet 16 (.quiet 17 (.quiet 18 (.quiet 19 (.quiet 20 (.quiet 21 (.only 22 (.quiet 23 (.quiet 24 .done))))))))))))))))))))))))) (by kernel_rfl) (by kernel_rfl) (by kernel_rfl) (fun _ _ _ _ _ h => h) ?_
          intro V0 hV0
          iterate 22 (first
            | (refine ordB_skip rfl rfl ?_; simp only [Act.put, List.setIfInBounds_toArray, List.set_cons_zero, List.set_cons_succ])
            | (refine ordB_take (v := ?_) rfl rfl ?_ ?_
               rotate_left 1
               focus (intro W hW; obtain ⟨hcW, hfW⟩ := bcell hW; (go_simp <;> with_reducible rfl))
               simp only [Act.put, List.setIfInBounds_toArray, List.set_cons_zero, List.set_cons_succ]))
          refine ordB_only (opB_cskip rfl rfl hV0 ?_)
          simp only [Act.put, List.setIfInBounds_toArray, List.set_cons_zero, List.set_cons_succ]
          iterate 2 (first
            | (refine ordB_skip rfl rfl ?_; simp only [Act.put, List.setIfInBounds_toArray, List.set_cons_zero, List.set_cons_succ])
            | (refine ordB_take (v := ?_) rfl rfl ?_ ?_
               rotate_left 1
               focus (intro W hW; obtain ⟨hcW, hfW⟩ := bcell hW; (go_simp <;> with_reducible rfl))
               simp only [Act.put, List.setIfInBounds_toArray, List.set_cons_zero, List.set_cons_succ]))
          refine ordB_nil ?_
          go_wp2_with fail
          go_ret
          exact ⟨ret_bool (by simp [ne_at HX.out HY.out HE.out]), bthen hb hV0⟩
      · go_wp2_with fail
        go_ret
        exact ⟨ret_bool (by simp [HS.out.all (by omega) (by have := HL.out; omega)]), hb⟩
  · go_enter Try.func36, Try.ntmps36
    go_wp2_with fail
    go_ret
    exact ⟨ret_bool (by simp; rintro rfl; exact hlen rfl), Below.refl _ _⟩
theorem slr_preC {α : Type} {s : Nat} {R : World → α → List Value → Prop} {w : World} {A : Option Addr} {xs : List α} (h : SlR s R w A xs) (n : Nat) : SlR s R w A (xs.take n) := fun hne => by
  obtain ⟨b, o, hA, hb, hc⟩ := h (by rintro rfl; simp at hne)
  refine ⟨b, o, hA, hb, fun k x hk => hc k x ?_⟩
  rw [List.getElem?_take] at hk
  split at hk
  · exact hk
  · cases hk
theorem fold_ins_len : ∀ (l out : List Can), (l.foldl insC out).length = out.length + l.length
  | [], out => by simp
  | x :: l, out => by
    rw [List.foldl_cons, fold_ins_len l, (insC_perm out x).length_eq, List.length_cons, List.length_cons]
    omega
theorem ordered_perm_len (l : List Can) : (orderedM l).length = l.length := by
  unfold orderedM
  rw [fold_ins_len]
  simp
def allR (g : Gr) : List Can := orderedM (waysM g 500 g.n.toNat 0)
theorem allR_is {g : Gr} (hg : GrOK g) (h14 : g.ls.length ≤ 14) : IsAll g (allR g) := ref_all hg h14 (by decide)
/-- What the reference's List answers. -/
def IsRefList (g : Gr) (k : Int) (w : World) (e : Ending) (w' : World) : Prop := ∃ (ms : List MC) (A : Option Addr) (c : Nat), e = .returned (.tuple #[.slice A ms.length c, .int .i64 (bestErr g k)]) ∧ SlR 2 RMc w' A ms ∧ MsOK w' ms ∧ ms.length ≤ c ∧ c ≤ maxLen ∧
  (bestErr g k = 0 → ms.map (·.x) = (allR g).take k.toNat) ∧ (bestErr g k ≠ 0 → ms = []) ∧ Below w.heap.size w w'
end Go.Proofs.Ytpajajffkbkeaaa
