/-
  Lib, Blk, GrWalkB, Ret, GrWaysB, GrWalkQ, BsWalkJ, CostWalkB, CostWalkD, CxNod, CxLnk, CostWalkN, CostWalkL, CostWalkM: what the further laws want besides. No conditions.
-/
import Derived.Test.YtfjkmgjjifhdkaaGreatP01
import Derived.Test.YtfjkmgjjifhdkaaGreatP02
import Derived.Test.YtfjkmgjjifhdkaaGreatP03
import Derived.Test.YtfjkmgjjifhdkaaGreatP04
import Derived.Test.YtfjkmgjjifhdkaaGreatP05
import Derived.Test.YtfjkmgjjifhdkaaGreatP06
import Derived.Test.YtfjkmgjjifhdkaaGreatP07
import Derived.Test.YtfjkmgjjifhdkaaGreatP08
import Derived.Test.YtfjkmgjjifhdkaaGreatP09
import Derived.Test.YtfjkmgjjifhdkaaGreatP10
import Derived.Test.YtfjkmgjjifhdkaaGreatP11
import Derived.Test.YtfjkmgjjifhdkaaGreatP12
import Derived.Test.YtfjkmgjjifhdkaaGreatP13
import Derived.Test.YtfjkmgjjifhdkaaGreatP14
import Derived.Test.YtfjkmgjjifhdkaaGreatP15
import Derived.Test.YtfjkmgjjifhdkaaGreatP16
import Derived.Test.YtfjkmgjjifhdkaaGreatP17
import Derived.Test.YtfjkmgjjifhdkaaGreatP18
import Derived.Test.YtfjkmgjjifhdkaaGreatP19
import Derived.Test.YtfjkmgjjifhdkaaGreatP20
import Derived.Test.YtfjkmgjjifhdkaaGreatP21
import Derived.Test.YtfjkmgjjifhdkaaGreatP22
import Derived.Test.YtfjkmgjjifhdkaaGreatP23
import Derived.Test.YtfjkmgjjifhdkaaGreatP24
import Derived.Test.YtfjkmgjjifhdkaaGreatP25
import Derived.Test.YtfjkmgjjifhdkaaGreatP26
import Derived.Test.YtfjkmgjjifhdkaaGreatP27
import Derived.Test.YtfjkmgjjifhdkaaGreatP28
import Derived.Test.YtfjkmgjjifhdkaaGreatP29
import Derived.Test.YtfjkmgjjifhdkaaGreatP30
import Derived.Test.YtfjkmgjjifhdkaaGreatP31
import Derived.Test.YtfjkmgjjifhdkaaGreatP32
import Derived.Test.YtfjkmgjjifhdkaaGreatP33
import Derived.Test.YtfjkmgjjifhdkaaGreatP34
import Derived.Test.YtfjkmgjjifhdkaaGreatP35
import Derived.Test.YtfjkmgjjifhdkaaGreatP36
import Derived.Test.YtfjkmgjjifhdkaaGreatP37
import Derived.Test.YtfjkmgjjifhdkaaGreatP38
import Derived.Test.YtfjkmgjjifhdkaaGreatP39
import Derived.Test.YtfjkmgjjifhdkaaGreatP40
import Derived.Test.YtfjkmgjjifhdkaaGreatP41
import Derived.Test.YtfjkmgjjifhdkaaGreatP42
import Derived.Test.YtfjkmgjjifhdkaaGreatP43
import Derived.Test.YtfjkmgjjifhdkaaGreatP44
import Derived.Test.YtfjkmgjjifhdkaaGreatP45
import Derived.Test.YtfjkmgjjifhdkaaGreatP46
import Derived.Test.YtfjkmgjjifhdkaaGreatP47
import Derived.WalkKit
import Derived.OwnWalk
import Derived.Below
import Derived.Lib.Hide
import Derived.Deep.Draws
import Derived.Deep.QuietTactic
import Derived.Laws.Rows
import Derived.Laws.ResultCell
import Derived.Deep.CutBlock
import Derived.Test.YtfjkmgjjifhdkaaGreatChecked
import Derived.Outline
import Derived.Deep.Light
import Derived.WalkLawsBesides
/-
  Words for memory that all walks of this seat use: a slice that reads as a list of things, whatever memory lies beside it.
-/
namespace Go.Proofs.YtfjkmgjjifhdkaaGreat
open Go Go.RowKit

section
variable {α : Type} {s : Nat} {R : World → α → List Value → Prop} {w w' : World} {A : Option Addr} {xs : List α}

end

theorem new_lt (w : World) (o : Obj) : w.heap.size < (w.alloc o).heap.size := by simp
theorem box_frozen {w wr : World} {cs : Array Value} {t : TypeId} (hb : Below (w.heap.size + 1) (w.alloc (.cells cs t)) wr) (i : Nat) : wr.frozen? ⟨w.heap.size, i, none⟩ = false :=
  (hb.frozen (p := ⟨w.heap.size, i, none⟩) (by show w.heap.size < _; omega)).trans (by
    have h : (w.alloc (.cells cs t)).heap[w.heap.size]? = some (.cells cs t) := heap_alloc_new w _
    unfold World.frozen?
    simp only [h]
    simp)
end Go.Proofs.YtfjkmgjjifhdkaaGreat

/-
  Blocks that are known whole, beside rows of the call's own.
-/
namespace Go.Proofs.YtfjkmgjjifhdkaaGreat
open Go Go.RowKit

section
variable {w w' : World} {g : Nat} {t : TypeId} {cs : Array Value}
end
section
variable {w w' : World} {base : Nat} {e e' : TypeId} {s s' n n' : Nat} {v v' v2 : Value} {xs xs' : List Value}
end
/-- A row of the call's own, as a list of strings or numbers. -/
theorem own_strs {w : World} {base : Nat} {e : TypeId} {v : Value} {n : Nat} {xs : List ByteArray} (h : w.ownsRow base e 1 v n (xs.map Value.string)) (hn : n = xs.length) :
    ∃ A cap, v = .slice A n cap ∧ n ≤ cap ∧ cap ≤ maxLen ∧ SlR 1 RStr w A xs :=
  own_slr (enc := fun s => [.string s]) (by rw [flatMap_one]; exact h) (fun _ => rfl) (fun _ => rfl) hn
end Go.Proofs.YtfjkmgjjifhdkaaGreat

/-
  The walks of layers 15 and 16: lists of whole numbers compared.
-/
namespace Go.Proofs.YtfjkmgjjifhdkaaGreat
open Go Go.RowKit

set_option maxRecDepth 100000 in
set_option maxHeartbeats 4000000 in
theorem ints_any (A B : Option Addr) (xs ys : List Int) (c d : Nat) (w : World) (hx : SlR 1 RInt w A xs) (hy : SlR 1 RInt w B ys) (hl : xs.length ≤ maxLen) (hl2 : ys.length ≤ maxLen) :
    Calls Tryz.prog 62 #[.slice A xs.length c, .slice B ys.length d] w fun e w' => e = .returned (.bool (decide (xs = ys))) ∧ Below w.heap.size w w' := by
  unfold maxLen at hl hl2
  by_cases hlen : xs.length = ys.length
  · have HL := Lib.hid hlen
    rw [← hlen]
    clear hlen
    go_enter Tryz.func62, Tryz.ntmps62
    go_wp2_with fail
    go_loopw [5] (fun i wr => ∃ k : Nat, k ≤ xs.length ∧ Hid (SameTo xs ys k) ∧ i = .int .i64 k ∧ Below w.heap.size w wr) (fun i _ => xs.length - (intOf i).toNat)
    case atStart => exact ⟨0, by omega, rfl, rfl, Below.refl _ _⟩
    case round =>
      obtain ⟨k, hk, HS, rfl, hb⟩ := hrel
      by_cases hlt : k < xs.length
      · obtain ⟨b, off, x, rfl, hbb, hxx, hc0⟩ := (hx.below keeps_int hb).int hlt
        obtain ⟨b', off', y, rfl, hbb', hyy, hd0⟩ := (hy.below keeps_int hb).int (k := k) (by have := HL.out; omega)
        have HX := Lib.hid hxx
        have HY := Lib.hid hyy
        clear hxx hyy
        by_cases he : x = y
        · subst he
          go_wp2_with fail
          go_quiet (fail)
          go_wp2_with fail
          go_roundw
          case rel => exact ⟨k + 1, by omega, HS.out.succ HX.out HY.out, by go_num, below_drewN hb _⟩
          case measure => simp [intOf]; omega
        · have HE := Lib.hid he
          have e1 : (x == y) = false := by simpa using he
          have e2 : (x != y) = true := by simpa using he
          clear he
          go_wp2_with fail
          go_quiet (fail)
          go_wp2_with fail
          go_ret
          exact ⟨ret_bool (by simp [ne_at HX.out HY.out HE.out]), below_drewN hb _⟩
      · go_wp2_with fail
        go_ret
        exact ⟨ret_bool (by simp [HS.out.all (by omega) (by have := HL.out; omega)]), hb⟩
  · go_enter Tryz.func62, Tryz.ntmps62
    go_wp2_with fail
    go_ret
    exact ⟨ret_bool (by simp; rintro rfl; exact hlen rfl), Below.refl _ _⟩

end Go.Proofs.YtfjkmgjjifhdkaaGreat

/-
  Returns of a struct that lies in a block of the call's own.
-/
namespace Go.Proofs.YtfjkmgjjifhdkaaGreat
open Go Go.RowKit

section
variable {P : Program} {fn : Func} {p u : Tmp} {ty : TypeId} {R : Ending → World → Prop} {a : Act} {w : World} {g : Nat} {t : TypeId} {cs : Array Value} {d : TypeDesc}
theorem ret_cell_tmp (hB : Blk w g t cs) (h : fn.results = #[.cell p ty, .tmp u]) (hp : a.tmps.getD p undef = .pointer (some ⟨g, 0, none⟩))
    (hu : P.underlying ty = some d) (hd : (match d with | .struct _ | .array _ _ => true | _ => false) = true) (hi : (P.info? ty).map (·.size) = some cs.size) (hdf : a.defers = [])
    (hR : R (.returned (.tuple #[.agg cs, a.tmps.getD u undef])) w) : bodyPost P fn R .ret a w := by
  refine bodyPost_ret ?_ hdf hR
  have e : ({ fn with results := #[.cell p ty] } : Func).results = #[.cell p ty] := rfl
  rw [results_cell_tmp h]
  have h1 : (loadVar ty ⟨g, 0, none⟩).run P w = .ok (.agg cs) w := run_loadVar_row w g t ty cs (0, 0) d hB hu hd hi
  rw [hp]
  show (((asAddr (.pointer (some ⟨g, 0, none⟩))).run P w).andThen _) = _
  simp only [asAddr, Sem.run_pure, Result.andThen_ok, h1]
end
end Go.Proofs.YtfjkmgjjifhdkaaGreat

/-
  Bounds of the reference's ways; rows beside rows that grow.
-/
namespace Go.Proofs.YtfjkmgjjifhdkaaGreat
open Go Go.RowKit

/-- What is true of each way. -/
def WB (f : Nat) (c : Can) : Prop := c.links.length ≤ f ∧ 0 ≤ c.cost ∧ c.cost ≤ 1000000 * (f : Int)
section
variable {P : Program} {ops : Array Oper} {Q : Exit → Act → World → Prop}
end
end Go.Proofs.YtfjkmgjjifhdkaaGreat

/-
  The walks of layers 15 and 16: the reference's order.
-/
namespace Go.Proofs.YtfjkmgjjifhdkaaGreat
open Go Go.RowKit

section
variable {α : Type} {p : α → Bool}
end
theorem slr_preS {α : Type} {s : Nat} {R : World → α → List Value → Prop} {w : World} {A : Option Addr} {xs : List α} (h : SlR s R w A xs) (n : Nat) : SlR s R w A (xs.take n) := fun hne => by
  obtain ⟨b, o, hA, hb, hc⟩ := h (by rintro rfl; simp at hne)
  refine ⟨b, o, hA, hb, fun k x hk => hc k x ?_⟩
  rw [List.getElem?_take] at hk
  split at hk
  · exact hk
  · cases hk
end Go.Proofs.YtfjkmgjjifhdkaaGreat

/-
  The walks of layer 15: the reference's lists of candidates compared; its List.
-/
namespace Go.Proofs.YtfjkmgjjifhdkaaGreat
open Go Go.RowKit

set_option maxRecDepth 100000 in
set_option maxHeartbeats 8000000 in
theorem same_any (A B : Option Addr) (xs ys : List Can) (c d : Nat) (w : World) (hx : SlR 2 RCan w A xs) (hy : SlR 2 RCan w B ys) (hl : xs.length ≤ maxLen) (hl2 : ys.length ≤ maxLen) :
    Calls Tryz.prog 23 #[.slice A xs.length c, .slice B ys.length d] w fun e w' => e = .returned (.bool (decide (xs = ys))) ∧ Below w.heap.size w w' := by
  unfold maxLen at hl hl2
  by_cases hlen : xs.length = ys.length
  · have HL := Lib.hid hlen
    rw [← hlen]
    clear hlen
    go_enter Tryz.func23, Tryz.ntmps23
    go_wp2_with fail
    go_loopw [5] (fun i wr => ∃ k : Nat, k ≤ xs.length ∧ Hid (SameTo xs ys k) ∧ i = .int .i64 k ∧ Below w.heap.size w wr) (fun i _ => xs.length - (intOf i).toNat)
    case atStart => exact ⟨0, by omega, rfl, rfl, Below.refl _ _⟩
    case round =>
      obtain ⟨k, hk, HS, rfl, hb⟩ := hrel
      by_cases hlt : k < xs.length
      · obtain ⟨b, off, x, A1, c1, rfl, hbb, hxx, x0, x1, hxs, hxl, hxm⟩ := (hx.below keeps_can hb).can hlt
        obtain ⟨b', off', y, A2, c2, rfl, hbb', hyy, y0, y1, hys, hyl, hym⟩ := (hy.below keeps_can hb).can (k := k) (by have := HL.out; omega)
        have HX := Lib.hid hxx
        have HY := Lib.hid hyy
        have HI : Hid (∀ W, Below wr.heap.size wr W → Calls Tryz.prog 62 #[.slice A1 x.links.length c1, .slice A2 y.links.length c2] W fun e w' => e = .returned (.bool (decide (x.links = y.links))) ∧ Below W.heap.size W w') := fun W hW => ints_any A1 A2 x.links y.links c1 c2 W (hxs.below keeps_int hW) (hys.below keeps_int hW) (by omega) (by omega)
        clear hxx hyy hxs hys hxl hxm hyl hym
        by_cases hc : x.cost = y.cost
        · have e1 : (x.cost != y.cost) = false := by simpa using hc
          have HC := Lib.hid hc
          clear hc
          cases hll : decide (x.links = y.links) with
          | true =>
            rw [hll] at HI
            have HE : Hid (x = y) := by have h := of_decide_eq_true hll; have h2 := HC.out; cases x; cases y; simp at h h2; show _ = _; rw [h, h2]
            clear hll
            go_wp2_with fail
            refine ordB_below (.quiet 0 (.quiet 1 (.quiet 2 (.quiet 3 (.quiet 4 (.quiet 5 (.quiet 6 (.quiet 7 (.quiet 8 (.quiet 9 (.quiet 10 (.quiet 11 (.quiet 12 (.quiet 13 (.quiet 14 (.quiet 15 (.quiet 16 (.quiet 17 (.quiet 18 (.quiet 19 (.quiet 20 (.quiet 21 (.only 22 (.quiet 23 (.quiet 24 .done))))))))))))))))))))))))) (by kernel_rfl) (by kernel_rfl) (by kernel_rfl) (fun _ _ _ _ _ h => h) ?_
            intro V0 hV0
            iterate 22 (first
              | (refine ordB_skip rfl rfl ?_; simp only [Act.put, List.setIfInBounds_toArray, List.set_cons_zero, List.set_cons_succ])
              | (refine ordB_take (v := ?_) rfl rfl ?_ ?_
                 rotate_left 1
                 focus (intro W hW; obtain ⟨hcW, hfW⟩ := bcell hW; (go_simp <;> with_reducible rfl))
                 simp only [Act.put, List.setIfInBounds_toArray, List.set_cons_zero, List.set_cons_succ]))
            refine ordB_only (opB_call rfl rfl (fun K hK => ?_))
            go_simp
            go_at_call 62
            refine (HI.out _ hV0).mono ?_
            rintro e V0_1 ⟨rfl, hx⟩
            refine hK.out _ _ (hV0.trans (hx.mono hV0.size)) (fun hV0_1 => ?_)
            iterate 2 (first
              | (refine ordB_skip rfl rfl ?_; simp only [Act.put, List.setIfInBounds_toArray, List.set_cons_zero, List.set_cons_succ])
              | (refine ordB_take (v := ?_) rfl rfl ?_ ?_
                 rotate_left 1
                 focus (intro W hW; obtain ⟨hcW, hfW⟩ := bcell hW; (go_simp <;> with_reducible rfl))
                 simp only [Act.put, List.setIfInBounds_toArray, List.set_cons_zero, List.set_cons_succ]))
            refine ordB_nil ?_
            go_wp2_with fail
            go_roundw
            case rel => exact ⟨k + 1, by omega, HS.out.succ HX.out (by rw [HY.out, HE.out]), by go_num, bthen hb hV0_1⟩
            case measure => simp [intOf]; omega
          | false =>
            rw [hll] at HI
            have HE : Hid (x ≠ y) := fun e => (of_decide_eq_false hll) (by rw [e])
            clear hll
            go_wp2_with fail
            refine ordB_below (.quiet 0 (.quiet 1 (.quiet 2 (.quiet 3 (.quiet 4 (.quiet 5 (.quiet 6 (.quiet 7 (.quiet 8 (.quiet 9 (.quiet 10 (.quiet 11 (.quiet 12 (.quiet 13 (.quiet 14 (.quiet 15 (.quiet 16 (.quiet 17 (.quiet 18 (.quiet 19 (.quiet 20 (.quiet 21 (.only 22 (.quiet 23 (.quiet 24 .done))))))))))))))))))))))))) (by kernel_rfl) (by kernel_rfl) (by kernel_rfl) (fun _ _ _ _ _ h => h) ?_
            intro V0 hV0
            iterate 22 (first
              | (refine ordB_skip rfl rfl ?_; simp only [Act.put, List.setIfInBounds_toArray, List.set_cons_zero, List.set_cons_succ])
              | (refine ordB_take (v := ?_) rfl rfl ?_ ?_
                 rotate_left 1
                 focus (intro W hW; obtain ⟨hcW, hfW⟩ := bcell hW; (go_simp <;> with_reducible rfl))
                 simp only [Act.put, List.setIfInBounds_toArray, List.set_cons_zero, List.set_cons_succ]))
            refine ordB_only (opB_call rfl rfl (fun K hK => ?_))
            go_simp
            go_at_call 62
            refine (HI.out _ hV0).mono ?_
            rintro e V0_1 ⟨rfl, hx⟩
            refine hK.out _ _ (hV0.trans (hx.mono hV0.size)) (fun hV0_1 => ?_)
            iterate 2 (first
              | (refine ordB_skip rfl rfl ?_; simp only [Act.put, List.setIfInBounds_toArray, List.set_cons_zero, List.set_cons_succ])
              | (refine ordB_take (v := ?_) rfl rfl ?_ ?_
                 rotate_left 1
                 focus (intro W hW; obtain ⟨hcW, hfW⟩ := bcell hW; (go_simp <;> with_reducible rfl))
                 simp only [Act.put, List.setIfInBounds_toArray, List.set_cons_zero, List.set_cons_succ]))
            refine ordB_nil ?_
            go_wp2_with fail
            go_ret
            exact ⟨ret_bool (by simp [ne_at HX.out HY.out HE.out]), bthen hb hV0_1⟩
        · have e1 : (x.cost != y.cost) = true := by simpa using hc
          have HE : Hid (x ≠ y) := fun e => hc (by rw [e])
          clear hc
          go_wp2_with fail
          refine ordB_below (.quiet 0 (.quiet 1 (.quiet 2 (.quiet 3 (.quiet 4 (.quiet 5 (.quiet 6 (.quiet 7 (.quiet 8 (.quiet 9 (.quiet 10 (.quiet 11 (.quiet 12 (.quiet 13 (.quiet 14 (.quiet 15 (.quiet 16 (.quiet 17 (.quiet 18 (.quiet 19 (.quiet 20 (.quiet 21 (.only 22 (.quiet 23 (.quiet 24 .done))))))))))))))))))))))))) (by kernel_rfl) (by kernel_rfl) (by kernel_rfl) (fun _ _ _ _ _ h => h) ?_
          intro V0 hV0
          iterate 22 (first
            | (refine ordB_skip rfl rfl ?_; simp only [Act.put, List.setIfInBounds_toArray, List.set_cons_zero, List.set_cons_succ])
            | (refine ordB_take (v := ?_) rfl rfl ?_ ?_
               rotate_left 1
               focus (intro W hW; obtain ⟨hcW, hfW⟩ := bcell hW; (go_simp <;> with_reducible rfl))
               simp only [Act.put, List.setIfInBounds_toArray, List.set_cons_zero, List.set_cons_succ]))
          refine ordB_only (opB_cskip rfl rfl hV0 ?_)
          simp only [Act.put, List.setIfInBounds_toArray, List.set_cons_zero, List.set_cons_succ]
          iterate 2 (first
            | (refine ordB_skip rfl rfl ?_; simp only [Act.put, List.setIfInBounds_toArray, List.set_cons_zero, List.set_cons_succ])
            | (refine ordB_take (v := ?_) rfl rfl ?_ ?_
               rotate_left 1
               focus (intro W hW; obtain ⟨hcW, hfW⟩ := bcell hW; (go_simp <;> with_reducible rfl))
               simp only [Act.put, List.setIfInBounds_toArray, List.set_cons_zero, List.set_cons_succ]))
          refine ordB_nil ?_
          go_wp2_with fail
          go_ret
          exact ⟨ret_bool (by simp [ne_at HX.out HY.out HE.out]), bthen hb hV0⟩
      · go_wp2_with fail
        go_ret
        exact ⟨ret_bool (by simp [HS.out.all (by omega) (by have := HL.out; omega)]), hb⟩
  · go_enter Tryz.func23, Tryz.ntmps23
    go_wp2_with fail
    go_ret
    exact ⟨ret_bool (by simp; rintro rfl; exact hlen rfl), Below.refl _ _⟩
end Go.Proofs.YtfjkmgjjifhdkaaGreat

/-
  The walks of layer 11: sums, searches and comparisons over slices.
-/
namespace Go.Proofs.YtfjkmgjjifhdkaaGreat
open Go Go.RowKit

/-! syllabaryref02.In. -/
/-! syllabaryref11.Total. -/
/-! syllabaryref11.Sum. -/
/-! syllabaryref11.Less. -/
set_option maxRecDepth 100000 in
set_option maxHeartbeats 400000 in
theorem co_less_any (p q : Pr) (w : World) : Calls Tryz.prog 76 #[.agg #[.int .i64 p.a, .int .i64 p.b, .int .i64 p.n], .agg #[.int .i64 q.a, .int .i64 q.b, .int .i64 q.n]] w fun e w' => e = .returned (.bool (lessP p q)) ∧ Below w.heap.size w w' := by
  unfold lessP
  by_cases h1 : p.a < q.a
  · go_enter Tryz.func76, Tryz.ntmps76
    go_wp2
    go_ret
    exact ⟨ret_bool (by simp [h1]), ((Below.refl _ _).alloc (Nat.le_refl _) _).alloc (by simp) _⟩
  · by_cases h2 : p.a = q.a
    · go_enter Tryz.func76, Tryz.ntmps76
      go_wp2
      go_ret
      exact ⟨ret_bool (by first | (simp; done) | simp [h1, h2]), ((Below.refl _ _).alloc (Nat.le_refl _) _).alloc (by simp) _⟩
    · go_enter Tryz.func76, Tryz.ntmps76
      go_wp2
      go_ret
      exact ⟨ret_bool (by first | (simp; done) | simp [h1, h2]), ((Below.refl _ _).alloc (Nat.le_refl _) _).alloc (by simp) _⟩
end Go.Proofs.YtfjkmgjjifhdkaaGreat

/-
  The walks of layer 11: comparisons of lists, validity.
-/
namespace Go.Proofs.YtfjkmgjjifhdkaaGreat
open Go Go.RowKit

theorem bytes_ne {x y : ByteArray} (h : ¬ x = y) : (x.toList == y.toList) = false := by
  rw [beq_eq_false_iff_ne, ByteArray.toList_eq, ByteArray.toList_eq]
  intro e
  exact h (by cases x; cases y; congr; exact Array.toList_inj.1 e)

end Go.Proofs.YtfjkmgjjifhdkaaGreat

/-
  The plain law of layer 20: the nodes as the reference goes through them, their indices, the links. No program in sight; no conditions.
-/
namespace Go.Proofs.YtfjkmgjjifhdkaaGreat
open List

/-! Indices. -/
theorem ix_at {l : List (Int × Int)} (h : l.Nodup) {j : Nat} {p : Int × Int} (hj : l[j]? = some p) : ixL l p = j := by
  obtain ⟨hk, hp⟩ := List.getElem?_eq_some_iff.1 hj
  unfold ixL
  rw [List.findIdx_eq hk]
  refine ⟨by simp [hp], fun i hi => ?_⟩
  have : l[i] ≠ l[j] := fun e => by
    have := pairwise_iff_getElem.1 h i j (by omega) hk hi
    exact this e
  rw [hp] at this
  simpa using this
/-! What is wanted of a node: where it lies among the others. -/
theorem node_lt {x : La} (h : LaOK x) {prev : Int} {i j : Nat} {p q : Int × Int} (hi : (nodesL x prev)[i]? = some p) (hj : (nodesL x prev)[j]? = some q) (hpq : p.1 < q.1) : i < j := by
  rcases Nat.lt_trichotomy i j with h1 | h1 | h1
  · exact h1
  · subst h1; rw [hi] at hj; obtain rfl := Option.some.inj hj; omega
  · obtain ⟨hil, rfl⟩ := List.getElem?_eq_some_iff.1 hi
    obtain ⟨hjl, rfl⟩ := List.getElem?_eq_some_iff.1 hj
    have := pairwise_iff_getElem.1 (nodesL_sort h prev) j i hjl hil h1
    rw [ltP_iff] at this
    omega
theorem node_last {x : La} (h : LaOK x) (prev : Int) (hn : 1 ≤ x.n) : (nodesL x prev)[(nodesL x prev).length - 1]? = some (x.n, -1) := by
  have hm : (x.n, -1) ∈ nodesL x prev := by
    unfold nodesL tailL
    rw [if_neg (by omega)]
    exact mem_cons_of_mem _ ((sortU_mem _ _).2 mem_cons_self)
  have hg := ix_get hm
  obtain ⟨hlt, _⟩ := List.getElem?_eq_some_iff.1 hg
  rcases Nat.lt_or_ge (ixL (nodesL x prev) (x.n, -1)) ((nodesL x prev).length - 1) with h1 | h1
  · exfalso
    have hl : (nodesL x prev)[(nodesL x prev).length - 1]? = some ((nodesL x prev)[(nodesL x prev).length - 1]'(by omega)) := List.getElem?_eq_getElem (by omega)
    have h2 := pairwise_iff_getElem.1 (nodesL_sort h prev) _ _ hlt (by omega) h1
    rw [List.getElem?_eq_getElem hlt] at hg
    rw [Option.some.inj hg] at h2
    obtain ⟨q, hq⟩ : ∃ q, (nodesL x prev)[(nodesL x prev).length - 1]'(by omega) = q := ⟨_, rfl⟩
    have h3 : q ∈ nodesL x prev := by rw [← hq]; exact getElem_mem _
    rw [hq] at h2
    rw [ltP_iff] at h2
    simp only at h2
    unfold nodesL tailL at h3
    rw [if_neg (by omega)] at h3
    rcases mem_cons.1 h3 with h4 | h4
    · rw [h4] at h2; simp only at h2; omega
    · rw [sortU_mem, arr_mem h] at h4
      rcases h4 with h4 | h4
      · rw [h4] at h2; simp only at h2; omega
      · have := h4.1
        omega
  · rw [show (nodesL x prev).length - 1 = ixL (nodesL x prev) (x.n, -1) by omega]; exact hg
theorem node_first (x : La) (prev : Int) : (nodesL x prev)[0]? = some (0, prev) := rfl
/-! The edges that begin at a place. -/
end Go.Proofs.YtfjkmgjjifhdkaaGreat

/-
  The plain law of layer 20: the links of a lattice's graph with a model after a word. No program in sight; no conditions.
-/
namespace Go.Proofs.YtfjkmgjjifhdkaaGreat
open List

theorem lksTo_mem {x : La} {m : Mo} {prev : Int} {l : Lk} : ∀ j, j ≤ (nodesL x prev).length → (l ∈ lksTo x m prev j ↔ ∃ (i k : Nat) (p : Int × Int) (e : Ed), i < j ∧ (nodesL x prev)[i]? = some p ∧ x.es[k]? = some e ∧ e.fr = p.1 ∧ l = cx_mkLk x m prev i p.2 k)
  | 0, _ => by simp [lksTo]
  | j + 1, hj => by
    have hl : (nodesL x prev)[j]? = some (nodesL x prev)[j] := List.getElem?_eq_getElem (by omega)
    rw [lksTo_succ hl, mem_append, lksTo_mem j (by omega), mem_map]
    constructor
    · rintro (⟨i, k, p, e, h1, h2⟩ | ⟨k, hk, rfl⟩)
      · exact ⟨i, k, p, e, by omega, h2⟩
      · obtain ⟨e, he, hf⟩ := frE_mem.1 hk
        exact ⟨j, k, _, e, by omega, hl, he, hf, rfl⟩
    · rintro ⟨i, k, p, e, h1, h2, h3, h4, rfl⟩
      rcases Nat.lt_or_ge i j with h5 | h5
      · exact .inl ⟨i, k, p, e, h5, h2, h3, h4, rfl⟩
      · obtain rfl : i = j := by omega
        rw [hl] at h2
        obtain rfl := Option.some.inj h2
        exact .inr ⟨k, frE_mem.2 ⟨e, h3, h4⟩, rfl⟩
theorem lksL_mem {x : La} {m : Mo} {prev : Int} {l : Lk} : l ∈ lksL x m prev ↔ ∃ (i k : Nat) (p : Int × Int) (e : Ed), (nodesL x prev)[i]? = some p ∧ x.es[k]? = some e ∧ e.fr = p.1 ∧ l = cx_mkLk x m prev i p.2 k := by
  unfold lksL
  rw [lksTo_mem _ (Nat.le_refl _)]
  exact ⟨fun ⟨i, k, p, e, _, h⟩ => ⟨i, k, p, e, h⟩, fun ⟨i, k, p, e, h⟩ => ⟨i, k, p, e, (List.getElem?_eq_some_iff.1 h.1).1, h⟩⟩
end Go.Proofs.YtfjkmgjjifhdkaaGreat

/-
  The walks of layer 11: a pair put into an increasing list (the reference).
-/
namespace Go.Proofs.YtfjkmgjjifhdkaaGreat
open Go Go.RowKit

def encP (x : Pr) : List Value := [.int .i64 x.a, .int .i64 x.b, .int .i64 x.n]
def addStep (p : Pr) (st : List Pr × Bool) (q : Pr) : List Pr × Bool :=
  if !st.2 && lessP p q then (st.1 ++ [p] ++ [q], true)
  else if q.a = p.a ∧ q.b = p.b then (st.1 ++ [⟨q.a, q.b, q.n + p.n⟩], true) else (st.1 ++ [q], st.2)
def addTo (p : Pr) (l : List Pr) (k : Nat) : List Pr × Bool := (l.take k).foldl (addStep p) ([], false)
/-- What add returns. -/
def addP (l : List Pr) (p : Pr) : List Pr := if (addTo p l l.length).2 then (addTo p l l.length).1 else (addTo p l l.length).1 ++ [p]
theorem addTo_succ {p : Pr} {l : List Pr} {k : Nat} {q : Pr} (hx : l[k]? = some q) : addTo p l (k + 1) = addStep p (addTo p l k) q := by
  unfold addTo; rw [take_succ_of hx, List.foldl_append]; rfl
theorem less_ne {p q : Pr} (h : lessP p q = true) : ¬ (q.a = p.a ∧ q.b = p.b) := by unfold lessP at h; simp at h; omega
theorem addTo_len (p : Pr) (l : List Pr) (k : Nat) : (addTo p l k).1.length ≤ 2 * k := by
  unfold addTo
  have : ∀ (l : List Pr) (st : List Pr × Bool), (l.foldl (addStep p) st).1.length ≤ st.1.length + 2 * l.length := by
    intro l
    induction l with
    | nil => intro st; simp
    | cons x l ih =>
      intro st
      have h1 := ih (addStep p st x)
      have h2 : (addStep p st x).1.length ≤ st.1.length + 2 := by unfold addStep; split <;> (try split) <;> simp
      simp only [List.foldl_cons, List.length_cons]
      omega
  have h := this (l.take k) ([], false)
  have h2 : (l.take k).length ≤ k := List.length_take_le _ _
  simp only [List.length_nil] at h
  omega
theorem pair_info : (Tryz.prog.info? 111).map (fun i => (i.zero, i.size, i.bytes)) = some (some (.agg #[.int .i64 0, .int .i64 0, .int .i64 0]), 3, 24) := by kernel_rfl
theorem encP_snoc (L : List Pr) (p : Pr) : (L ++ [p]).flatMap encP = L.flatMap encP ++ encP p := by simp

set_option maxRecDepth 100000 in
set_option maxHeartbeats 4000000 in
theorem add_any (v0 v1 v3 : Value) (A : Option Addr) (xs : List Pr) (c : Nat) (p : Pr) (w : World) (hx : SlR 3 RPr w A xs) (hl : xs.length ≤ 65536) (hN : Within 4294967296 (xs.map Pr.n)) (hpn : -4294967296 ≤ p.n ∧ p.n ≤ 4294967296) :
    Calls Tryz.prog 43 #[.agg #[v0, v1, .slice A xs.length c, v3], .agg #[.int .i64 p.a, .int .i64 p.b, .int .i64 p.n]] w fun e w' => ∃ v, e = .returned v ∧ w'.ownsRow w.heap.size 111 3 v (addP xs p).length ((addP xs p).flatMap encP) ∧ Below w.heap.size w w' := by
  obtain ⟨i0, hi, hz0, hz1, hz2⟩ := info_parts pair_info
  have HBW : Hid (∀ W, Below (w.heap.size + 2) ((w.alloc (.cells #[v0, v1, .slice A xs.length c, v3] 56)).alloc (.cells #[.int .i64 p.a, .int .i64 p.b, .int .i64 p.n] 111)) W → Below w.heap.size w W) := fun W hW => (((Below.refl _ _).alloc (Nat.le_refl _) _).alloc (by simp) _).trans (hW.mono (by omega))
  go_enter Tryz.func43, Tryz.ntmps43
  go_wp2_with fail
  go_loopw [5, 6, 7, 8] (fun out d i _ wr => ∃ k : Nat, ∃ L : List Pr, ∃ b : Bool, k ≤ xs.length ∧ Hid (addTo p xs k = (L, b)) ∧ L.length ≤ 2 * k ∧ i = .int .i64 k ∧ d = .bool b ∧ wr.ownsRow (w.heap.size + 2) 111 3 out L.length (L.flatMap encP) ∧ Below (w.heap.size + 2) ((w.alloc (.cells #[v0, v1, .slice A xs.length c, v3] 56)).alloc (.cells #[.int .i64 p.a, .int .i64 p.b, .int .i64 p.n] 111)) wr) (fun _ _ i _ _ => xs.length - (intOf i).toNat)
  case atStart => exact ⟨0, [], false, by omega, rfl, by simp, rfl, rfl, by simpa using own_empty ((w.alloc (.cells #[v0, v1, .slice A xs.length c, v3] 56)).alloc (.cells #[.int .i64 p.a, .int .i64 p.b, .int .i64 p.n] 111)) 111 3 (w.heap.size + 2) (by simp), (Below.refl _ _).alloc (by simp) _⟩
  case round =>
    obtain ⟨k, L, b, hk, HL, hLk, rfl, rfl, hown, hb⟩ := hrel
    have hsz : w.heap.size + 2 ≤ wr.heap.size := by have := hb.size; simp at this; omega
    have hm2 : wr.cell? ⟨w.heap.size, 2, none⟩ = some (.slice A xs.length c) := (hb.cell (p := ⟨w.heap.size, 2, none⟩) (by show w.heap.size < _; omega)).trans ((World.cell?_alloc_lt _ _ ⟨w.heap.size, 2, none⟩ (by simp)).trans (new_cell _ _ _ 2))
    have hpb : ∀ o, wr.cell? ⟨w.heap.size + 1, o, none⟩ = (#[.int .i64 p.a, .int .i64 p.b, .int .i64 p.n] : Array Value)[o]? := fun o => (hb.cell (p := ⟨w.heap.size + 1, o, none⟩) (by show w.heap.size + 1 < _; omega)).trans (by simp)
    have hp0 : wr.cell? ⟨w.heap.size + 1, 0, none⟩ = some (.int .i64 p.a) := hpb 0
    have hp1 : wr.cell? ⟨w.heap.size + 1, 1, none⟩ = some (.int .i64 p.b) := hpb 1
    have hp2 : wr.cell? ⟨w.heap.size + 1, 2, none⟩ = some (.int .i64 p.n) := hpb 2
    clear hpb
    have hs0 : w.heap.size < wr.heap.size := by omega
    have hs1 : w.heap.size + 1 < wr.heap.size := by omega
    by_cases hlt : k < xs.length
    · obtain ⟨bk, off, q, rfl, hbb, hqq, hc0', hc1', hc2'⟩ := hx.pr hlt
      have hbel := HBW.out _ hb
      have hc0 := (hbel.cell (p := ⟨bk, _, none⟩) hbb).trans hc0'
      have hc1 := (hbel.cell (p := ⟨bk, _, none⟩) hbb).trans hc1'
      have hc2 := (hbel.cell (p := ⟨bk, _, none⟩) hbb).trans hc2'
      have hqn := hN q.n (List.mem_map.2 ⟨q, List.mem_of_getElem? hqq, rfl⟩)
      have HX := Lib.hid hqq
      clear hqq hc0' hc1' hc2'
      have hlen' := addTo_len p xs (k + 1)
      rw [addTo_succ HX.out, HL.out] at hlen'
      have HLen := Lib.hid hlen'
      clear hlen'
      have HF : Hid (∀ W, Below (wr.heap.size + 1) (wr.alloc (.cells #[.int .i64 q.a, .int .i64 q.b, .int .i64 q.n] 111)) W → W.cell? ⟨wr.heap.size, 0, none⟩ = some (.int .i64 q.a) ∧ W.cell? ⟨wr.heap.size, 1, none⟩ = some (.int .i64 q.b) ∧ W.cell? ⟨wr.heap.size, 2, none⟩ = some (.int .i64 q.n) ∧
          W.cell? ⟨w.heap.size + 1, 0, none⟩ = some (.int .i64 p.a) ∧ W.cell? ⟨w.heap.size + 1, 1, none⟩ = some (.int .i64 p.b) ∧ W.cell? ⟨w.heap.size + 1, 2, none⟩ = some (.int .i64 p.n) ∧ W.frozen? ⟨wr.heap.size, 2, none⟩ = false ∧ wr.heap.size < W.heap.size ∧
          W.ownsRow (w.heap.size + 2) 111 3 u5 L.length (L.flatMap encP) ∧ Below (w.heap.size + 2) wr W) := fun W hW =>
        ⟨box_cell hW 0, box_cell hW 1, box_cell hW 2, ((unbox hW).cell (p := ⟨w.heap.size + 1, 0, none⟩) hs1).trans hp0, ((unbox hW).cell (p := ⟨w.heap.size + 1, 1, none⟩) hs1).trans hp1, ((unbox hW).cell (p := ⟨w.heap.size + 1, 2, none⟩) hs1).trans hp2, box_frozen hW 2, box_size hW, own_below hown (unbox hW), (unbox hW).mono hsz⟩
      have hwn : -9223372036854775808 ≤ q.n + p.n ∧ q.n + p.n ≤ 9223372036854775807 := by omega
      have heq : ((q.a == p.a) = true ∧ (q.b == p.b) = true) ∨ ((q.a == p.a) = true ∧ (q.b == p.b) = false) ∨ (q.a == p.a) = false := by
        cases q.a == p.a <;> cases q.b == p.b <;> simp
      cases b with
      | true =>
        rcases heq with ⟨e1, e2⟩ | ⟨e1, e2⟩ | e1
        · have HN := Lib.hid (show addTo p xs (k + 1) = (L ++ [⟨q.a, q.b, q.n + p.n⟩], true) by rw [addTo_succ HX.out, HL.out]; unfold addStep; rw [if_pos (show q.a = p.a ∧ q.b = p.b from ⟨by simpa using e1, by simpa using e2⟩)]; rfl)
          go_wp2_with (first | (at_builtin; refine wpList_app1 rfl _ _ 54 rfl (w.heap.size + 2) 111 i0 _ 3 24 Tryz.underlying54 hi hz0 hz1 hz2 rfl (by decide) _ _ _ rfl (wr.alloc (.cells #[.int .i64 q.a, .int .i64 q.b, .int .i64 (q.n + p.n)] 111)) [.int .i64 q.a, .int .i64 q.b, .int .i64 (q.n + p.n)] rfl (hown.alloc _) _ rfl (by simp) rfl (by simp [Value.oneCell']) (by omega) (by decide) (by simp; omega) ?_; intro v2 w2 hown2 hb2 ha2))
          go_roundw
          case rel => exact ⟨k + 1, L ++ [(⟨q.a, q.b, q.n + p.n⟩ : Pr)], true, by omega, HN.out, by simp; omega, by go_num, rfl, by rw [encP_snoc, List.length_append]; exact hown2, hb.trans (((Below.refl _ _).alloc hsz _).trans hb2)⟩
          case measure => simp [intOf]; omega
        · have HN := Lib.hid (show addTo p xs (k + 1) = (L ++ [q], true) by rw [addTo_succ HX.out, HL.out]; unfold addStep; rw [if_neg (show ¬ (q.a = p.a ∧ q.b = p.b) from fun h => by simp [h.2] at e2)]; rfl)
          go_wp2_with (first | (at_builtin; refine wpList_app1 rfl _ _ 54 rfl (w.heap.size + 2) 111 i0 _ 3 24 Tryz.underlying54 hi hz0 hz1 hz2 rfl (by decide) _ _ _ rfl (wr.alloc (.cells #[.int .i64 q.a, .int .i64 q.b, .int .i64 q.n] 111)) [.int .i64 q.a, .int .i64 q.b, .int .i64 q.n] rfl (hown.alloc _) _ rfl (by simp) rfl (by simp [Value.oneCell']) (by omega) (by decide) (by simp; omega) ?_; intro v2 w2 hown2 hb2 ha2))
          go_roundw
          case rel => exact ⟨k + 1, L ++ [q], true, by omega, HN.out, by simp; omega, by go_num, rfl, by rw [encP_snoc, List.length_append]; exact hown2, hb.trans (((Below.refl _ _).alloc hsz _).trans hb2)⟩
          case measure => simp [intOf]; omega
        · have HN := Lib.hid (show addTo p xs (k + 1) = (L ++ [q], true) by rw [addTo_succ HX.out, HL.out]; unfold addStep; rw [if_neg (show ¬ (q.a = p.a ∧ q.b = p.b) from fun h => by simp [h.1] at e1)]; rfl)
          go_wp2_with (first | (at_builtin; refine wpList_app1 rfl _ _ 54 rfl (w.heap.size + 2) 111 i0 _ 3 24 Tryz.underlying54 hi hz0 hz1 hz2 rfl (by decide) _ _ _ rfl (wr.alloc (.cells #[.int .i64 q.a, .int .i64 q.b, .int .i64 q.n] 111)) [.int .i64 q.a, .int .i64 q.b, .int .i64 q.n] rfl (hown.alloc _) _ rfl (by simp) rfl (by simp [Value.oneCell']) (by omega) (by decide) (by simp; omega) ?_; intro v2 w2 hown2 hb2 ha2))
          go_roundw
          case rel => exact ⟨k + 1, L ++ [q], true, by omega, HN.out, by simp; omega, by go_num, rfl, by rw [encP_snoc, List.length_append]; exact hown2, hb.trans (((Below.refl _ _).alloc hsz _).trans hb2)⟩
          case measure => simp [intOf]; omega
      | false =>
        cases hless : lessP p q
        · rcases heq with ⟨e1, e2⟩ | ⟨e1, e2⟩ | e1
          · have HN := Lib.hid (show addTo p xs (k + 1) = (L ++ [⟨q.a, q.b, q.n + p.n⟩], true) by rw [addTo_succ HX.out, HL.out]; unfold addStep; rw [hless, if_neg (by simp), if_pos (show q.a = p.a ∧ q.b = p.b from ⟨by simpa using e1, by simpa using e2⟩)])
            go_wp2_with (first | (go_at_call 76; refine (co_less_any p q _).mono ?_; rintro e w1 ⟨rfl, hbL⟩; rw [hless]; obtain ⟨q0, q1, q2, p0, p1, p2, fz, sz, hown1, hbw1⟩ := HF.out _ (bx hbL)) | (at_builtin; refine wpList_app1 rfl _ _ 54 rfl (w.heap.size + 2) 111 i0 _ 3 24 Tryz.underlying54 hi hz0 hz1 hz2 rfl (by decide) _ _ _ rfl (w1.setCell ⟨wr.heap.size, 2, none⟩ (.int .i64 (q.n + p.n))) [.int .i64 q.a, .int .i64 q.b, .int .i64 (q.n + p.n)] rfl (own_set hown1 (own_lt hown (Nat.le_refl _)) _) _ rfl (by simp) rfl (by simp [Value.oneCell']) (by omega) (by decide) (by simp; omega) ?_; intro v2 w2 hown2 hb2 ha2))
            go_roundw
            case rel => exact ⟨k + 1, L ++ [(⟨q.a, q.b, q.n + p.n⟩ : Pr)], true, by omega, HN.out, by simp; omega, by go_num, rfl, by rw [encP_snoc, List.length_append]; exact hown2, (hb.trans hbw1).trans (((Below.refl _ _).setCell (by show _ ≤ wr.heap.size; omega) _).trans hb2)⟩
            case measure => simp [intOf]; omega
          · have HN := Lib.hid (show addTo p xs (k + 1) = (L ++ [q], false) by rw [addTo_succ HX.out, HL.out]; unfold addStep; rw [hless, if_neg (by simp), if_neg (show ¬ (q.a = p.a ∧ q.b = p.b) from fun h => by simp [h.2] at e2)])
            go_wp2_with (first | (go_at_call 76; refine (co_less_any p q _).mono ?_; rintro e w1 ⟨rfl, hbL⟩; rw [hless]; obtain ⟨q0, q1, q2, p0, p1, p2, fz, sz, hown1, hbw1⟩ := HF.out _ (bx hbL)) | (at_builtin; refine wpList_app1 rfl _ _ 54 rfl (w.heap.size + 2) 111 i0 _ 3 24 Tryz.underlying54 hi hz0 hz1 hz2 rfl (by decide) _ _ _ rfl w1 [.int .i64 q.a, .int .i64 q.b, .int .i64 q.n] rfl hown1 _ rfl (by simp) rfl (by simp [Value.oneCell']) (by omega) (by decide) (by omega) ?_; intro v2 w2 hown2 hb2 ha2))
            go_roundw
            case rel => exact ⟨k + 1, L ++ [q], false, by omega, HN.out, by simp; omega, by go_num, rfl, by rw [encP_snoc, List.length_append]; exact hown2, (hb.trans hbw1).trans hb2⟩
            case measure => simp [intOf]; omega
          · have HN := Lib.hid (show addTo p xs (k + 1) = (L ++ [q], false) by rw [addTo_succ HX.out, HL.out]; unfold addStep; rw [hless, if_neg (by simp), if_neg (show ¬ (q.a = p.a ∧ q.b = p.b) from fun h => by simp [h.1] at e1)])
            go_wp2_with (first | (go_at_call 76; refine (co_less_any p q _).mono ?_; rintro e w1 ⟨rfl, hbL⟩; rw [hless]; obtain ⟨q0, q1, q2, p0, p1, p2, fz, sz, hown1, hbw1⟩ := HF.out _ (bx hbL)) | (at_builtin; refine wpList_app1 rfl _ _ 54 rfl (w.heap.size + 2) 111 i0 _ 3 24 Tryz.underlying54 hi hz0 hz1 hz2 rfl (by decide) _ _ _ rfl w1 [.int .i64 q.a, .int .i64 q.b, .int .i64 q.n] rfl hown1 _ rfl (by simp) rfl (by simp [Value.oneCell']) (by omega) (by decide) (by omega) ?_; intro v2 w2 hown2 hb2 ha2))
            go_roundw
            case rel => exact ⟨k + 1, L ++ [q], false, by omega, HN.out, by simp; omega, by go_num, rfl, by rw [encP_snoc, List.length_append]; exact hown2, (hb.trans hbw1).trans hb2⟩
            case measure => simp [intOf]; omega
        · have HN := Lib.hid (show addTo p xs (k + 1) = (L ++ [p] ++ [q], true) by rw [addTo_succ HX.out, HL.out]; simp [addStep, hless])
          have hne := less_ne hless
          have hneq : (q.a == p.a) = false ∨ ((q.a == p.a) = true ∧ (q.b == p.b) = false) := by
            by_cases h1 : q.a = p.a
            · exact .inr ⟨by simpa using h1, by simpa using fun h2 => hne ⟨h1, h2⟩⟩
            · exact .inl (by simpa using h1)
          clear hne heq
          rcases hneq with e1 | ⟨e1, e2⟩
          all_goals
            go_wp2_with (first | (go_at_call 76; refine (co_less_any p q _).mono ?_; rintro e w1 ⟨rfl, hbL⟩; rw [hless]; obtain ⟨q0, q1, q2, p0, p1, p2, fz, sz, hown1, hbw1⟩ := HF.out _ (bx hbL)) | (at_builtin; refine wpList_app1 rfl _ _ 54 rfl (w.heap.size + 2) 111 i0 _ 3 24 Tryz.underlying54 hi hz0 hz1 hz2 rfl (by decide) _ _ _ rfl w2 [.int .i64 q.a, .int .i64 q.b, .int .i64 q.n] rfl hown2 _ rfl (by simp) rfl (by simp [Value.oneCell']) (by omega) (by decide) (by have := hb2.size; omega) ?_; intro v3 w3 hown3 hb3 ha3) | (at_builtin; refine wpList_app1 rfl _ _ 54 rfl (w.heap.size + 2) 111 i0 _ 3 24 Tryz.underlying54 hi hz0 hz1 hz2 rfl (by decide) _ _ _ rfl w1 [.int .i64 p.a, .int .i64 p.b, .int .i64 p.n] rfl hown1 _ rfl (by simp) rfl (by simp [Value.oneCell']) (by omega) (by decide) (by omega) ?_; intro v2 w2 hown2 hb2 ha2; have r0 := (ha2.cell (o := 0) sz (own_lt hown (Nat.le_refl _))).trans q0; have r1 := (ha2.cell (o := 1) sz (own_lt hown (Nat.le_refl _))).trans q1; have r2 := (ha2.cell (o := 2) sz (own_lt hown (Nat.le_refl _))).trans q2; have t0 := (hb2.cell (p := ⟨w.heap.size + 1, 0, none⟩) (by show w.heap.size + 1 < _; omega)).trans p0; have t1 := (hb2.cell (p := ⟨w.heap.size + 1, 1, none⟩) (by show w.heap.size + 1 < _; omega)).trans p1))
            go_roundw
            case rel => exact ⟨k + 1, L ++ [p] ++ [q], true, by omega, HN.out, by simp; omega, by go_num, rfl, by rw [encP_snoc, encP_snoc, List.length_append, List.length_append]; exact hown3, ((hb.trans hbw1).trans hb2).trans hb3⟩
            case measure => simp [intOf]; omega
    · have HE := Lib.hid (show addTo p xs xs.length = (L, b) by rw [← HL.out]; congr 1; omega)
      have HB := Lib.hid (HBW.out _ hb)
      cases b with
      | true =>
        have HR := Lib.hid (show addP xs p = L by unfold addP; rw [HE.out]; rfl)
        go_wp2_with fail
        go_ret
        exact ⟨_, rfl, by rw [HR.out]; exact own_base hown (by omega), HB.out⟩
      | false =>
        have HR := Lib.hid (show addP xs p = L ++ [p] by unfold addP; rw [HE.out]; rfl)
        go_wp2_with (first | (at_builtin; refine wpList_app1 rfl _ _ 54 rfl (w.heap.size + 2) 111 i0 _ 3 24 Tryz.underlying54 hi hz0 hz1 hz2 rfl (by decide) _ _ _ rfl wr [.int .i64 p.a, .int .i64 p.b, .int .i64 p.n] rfl hown _ rfl (by simp) rfl (by simp [Value.oneCell']) (by omega) (by decide) hsz ?_; intro v1 w1 hown1 hb1 ha1))
        go_ret
        exact ⟨_, rfl, by rw [HR.out, encP_snoc, List.length_append]; exact own_base hown1 (by omega), HB.out.trans (hb1.mono (by omega))⟩
end Go.Proofs.YtfjkmgjjifhdkaaGreat

/-
  The walks of layer 11: a word put into an increasing list (the reference).
-/
namespace Go.Proofs.YtfjkmgjjifhdkaaGreat
open Go Go.RowKit

def insStep (s : ByteArray) (st : List ByteArray × Bool) (x : ByteArray) : List ByteArray × Bool :=
  (if !st.2 && ltS s x then st.1 ++ [s] ++ [x] else st.1 ++ [x], (st.2 || ltS s x) || decide (s = x))
def insTo (s : ByteArray) (l : List ByteArray) (k : Nat) : List ByteArray × Bool := (l.take k).foldl (insStep s) ([], false)
/-- What insert returns. -/
def insW (l : List ByteArray) (s : ByteArray) : List ByteArray := if (insTo s l l.length).2 then (insTo s l l.length).1 else (insTo s l l.length).1 ++ [s]
theorem insTo_succ {s : ByteArray} {l : List ByteArray} {k : Nat} {x : ByteArray} (hx : l[k]? = some x) : insTo s l (k + 1) = insStep s (insTo s l k) x := by
  unfold insTo; rw [take_succ_of hx, List.foldl_append]; rfl
theorem insStep_len (s : ByteArray) (st : List ByteArray × Bool) (x : ByteArray) : (insStep s st x).1.length ≤ st.1.length + 2 := by
  unfold insStep; dsimp only; split <;> simp
theorem insTo_len (s : ByteArray) (l : List ByteArray) (k : Nat) : (insTo s l k).1.length ≤ 2 * k := by
  unfold insTo
  have : ∀ (l : List ByteArray) (st : List ByteArray × Bool), (l.foldl (insStep s) st).1.length ≤ st.1.length + 2 * l.length := by
    intro l
    induction l with
    | nil => intro st; simp
    | cons x l ih =>
      intro st
      have h1 := ih (insStep s st x)
      have h2 := insStep_len s st x
      simp only [List.foldl_cons, List.length_cons]
      omega
  have h := this (l.take k) ([], false)
  have h2 : (l.take k).length ≤ k := List.length_take_le _ _
  simp only [List.length_nil] at h
  omega
theorem str_info : (Tryz.prog.info? 9).map (fun i => (i.zero, i.size, i.bytes)) = some (some (.string ByteArray.empty), 1, 16) := by kernel_rfl
theorem bytes_eqb (x y : ByteArray) : (x.toList == y.toList) = decide (x = y) := by
  by_cases h : x = y
  · subst h; simp
  · rw [bytes_ne h]; simp [h]

set_option maxRecDepth 100000 in
set_option maxHeartbeats 2000000 in
theorem insert_any (A : Option Addr) (l : List ByteArray) (c : Nat) (s : ByteArray) (w : World) (hx : SlR 1 RStr w A l) (hl : l.length ≤ 65536) :
    Calls Tryz.prog 41 #[.slice A l.length c, .string s] w fun e w' => ∃ v, e = .returned v ∧ w'.ownsRow w.heap.size 9 1 v (insW l s).length ((insW l s).map Value.string) ∧ Below w.heap.size w w' := by
  obtain ⟨i0, hi, hz0, hz1, hz2⟩ := info_parts str_info
  go_enter Tryz.func41, Tryz.ntmps41
  go_wp2_with fail
  go_loopw [5, 6, 7] (fun out d i wr => ∃ k : Nat, ∃ L : List ByteArray, ∃ b : Bool, k ≤ l.length ∧ Hid (insTo s l k = (L, b)) ∧ L.length ≤ 2 * k ∧ i = .int .i64 k ∧ d = .bool b ∧ wr.ownsRow w.heap.size 9 1 out L.length (L.map Value.string) ∧ Below w.heap.size w wr) (fun _ _ i _ => l.length - (intOf i).toNat)
  case atStart => exact ⟨0, [], false, by omega, rfl, by simp, rfl, rfl, own_empty w _ _ _ (Nat.le_refl _), (Below.refl _ _).alloc (Nat.le_refl _) _⟩
  case round =>
    obtain ⟨k, L, b, hk, HL, hLk, rfl, rfl, hown, hb⟩ := hrel
    by_cases hlt : k < l.length
    · obtain ⟨bk, off, x, rfl, hbb, hxx, hcx0⟩ := hx.str hlt
      have hcx := (hb.cell (p := ⟨bk, _, none⟩) hbb).trans hcx0
      clear hcx0
      have HX := Lib.hid hxx
      clear hxx
      have hlen' := insTo_len s l (k + 1)
      rw [insTo_succ HX.out, HL.out] at hlen'
      cases b with
      | true =>
        have HN := Lib.hid (show insTo s l (k + 1) = (L ++ [x], true) by rw [insTo_succ HX.out, HL.out]; simp [insStep])
        go_wp2_with (first | (at_builtin; refine wpList_app1 rfl _ _ 53 rfl w.heap.size 9 i0 _ 1 16 Tryz.underlying53 hi hz0 hz1 hz2 rfl (by decide) _ _ _ rfl wr [.string x] rfl hown _ rfl (by simp) rfl (by simp [Value.oneCell']) (by omega) (by decide) hb.size ?_; intro v2 w2 hown2 hb2 ha2))
        go_roundw
        case rel => exact ⟨k + 1, L ++ [x], true, by omega, HN.out, by simp; omega, by go_num, rfl, by simpa using hown2, hb.trans hb2⟩
        case measure => simp [intOf]; omega
      | false =>
        cases hlt' : ltS s x
        · have hltb : Op.bytesLess s.toList x.toList = false := hlt'
          by_cases he : s = x
          · have hbe : (s.toList == x.toList) = true := by rw [bytes_eqb]; simp [he]
            have HN := Lib.hid (show insTo s l (k + 1) = (L ++ [x], true) by rw [insTo_succ HX.out, HL.out]; unfold insStep; rw [hlt']; simp [he])
            clear he
            go_wp2_with (first | (at_builtin; refine wpList_app1 rfl _ _ 53 rfl w.heap.size 9 i0 _ 1 16 Tryz.underlying53 hi hz0 hz1 hz2 rfl (by decide) _ _ _ rfl wr [.string x] rfl hown _ rfl (by simp) rfl (by simp [Value.oneCell']) (by omega) (by decide) hb.size ?_; intro v2 w2 hown2 hb2 ha2))
            go_roundw
            case rel => exact ⟨k + 1, L ++ [x], true, by omega, HN.out, by simp; omega, by go_num, rfl, by simpa using hown2, hb.trans hb2⟩
            case measure => simp [intOf]; omega
          · have hbe : (s.toList == x.toList) = false := by rw [bytes_eqb]; simp [he]
            have HN := Lib.hid (show insTo s l (k + 1) = (L ++ [x], false) by rw [insTo_succ HX.out, HL.out]; unfold insStep; rw [hlt']; simp [he])
            clear he
            go_wp2_with (first | (at_builtin; refine wpList_app1 rfl _ _ 53 rfl w.heap.size 9 i0 _ 1 16 Tryz.underlying53 hi hz0 hz1 hz2 rfl (by decide) _ _ _ rfl wr [.string x] rfl hown _ rfl (by simp) rfl (by simp [Value.oneCell']) (by omega) (by decide) hb.size ?_; intro v2 w2 hown2 hb2 ha2))
            go_roundw
            case rel => exact ⟨k + 1, L ++ [x], false, by omega, HN.out, by simp; omega, by go_num, rfl, by simpa using hown2, hb.trans hb2⟩
            case measure => simp [intOf]; omega
        · have hltb : Op.bytesLess s.toList x.toList = true := hlt'
          have HN := Lib.hid (show insTo s l (k + 1) = (L ++ [s] ++ [x], true) by rw [insTo_succ HX.out, HL.out]; simp [insStep, hlt'])
          go_wp2_with (first | (at_builtin; refine wpList_app1 rfl _ _ 53 rfl w.heap.size 9 i0 _ 1 16 Tryz.underlying53 hi hz0 hz1 hz2 rfl (by decide) _ _ _ rfl w1 [.string x] rfl hown1 _ rfl (by simp) rfl (by simp [Value.oneCell']) (by omega) (by decide) (Nat.le_trans hb.size hb1.size) ?_; intro v2 w2 hown2 hb2 ha2) | (at_builtin; refine wpList_app1 rfl _ _ 53 rfl w.heap.size 9 i0 _ 1 16 Tryz.underlying53 hi hz0 hz1 hz2 rfl (by decide) _ _ _ rfl wr [.string s] rfl hown _ rfl (by simp) rfl (by simp [Value.oneCell']) (by omega) (by decide) hb.size ?_; intro v1 w1 hown1 hb1 ha1; have hcx1 := (hb1.cell (p := ⟨bk, _, none⟩) hbb).trans hcx))
          go_roundw
          case rel => exact ⟨k + 1, L ++ [s] ++ [x], true, by omega, HN.out, by simp; omega, by go_num, rfl, by simpa using hown2, hb.trans (hb1.trans hb2)⟩
          case measure => simp [intOf]; omega
    · have HE := Lib.hid (show insTo s l l.length = (L, b) by rw [← HL.out]; congr 1; omega)
      cases b with
      | true =>
        have HR := Lib.hid (show insW l s = L by unfold insW; rw [HE.out]; rfl)
        go_wp2_with fail
        go_ret
        exact ⟨_, rfl, by rw [HR.out]; exact hown, hb⟩
      | false =>
        have HR := Lib.hid (show insW l s = L ++ [s] by unfold insW; rw [HE.out]; rfl)
        go_wp2_with (first | (at_builtin; refine wpList_app1 rfl _ _ 53 rfl w.heap.size 9 i0 _ 1 16 Tryz.underlying53 hi hz0 hz1 hz2 rfl (by decide) _ _ _ rfl wr [.string s] rfl hown _ rfl (by simp) rfl (by simp [Value.oneCell']) (by omega) (by decide) hb.size ?_; intro v1 w1 hown1 hb1 ha1))
        go_ret
        exact ⟨_, rfl, by rw [HR.out]; simpa using hown1, hb.trans hb1⟩
end Go.Proofs.YtfjkmgjjifhdkaaGreat

/-
  The walks of layer 11: a word out of letters (the reference).
-/
namespace Go.Proofs.YtfjkmgjjifhdkaaGreat
open Go Go.RowKit

def letter (x : Int) : ByteArray := (ByteArray.mk #[97, 98, 99, 65, 66, 49]).extract (x % 6).toNat (x % 6 + 1).toNat
def wordTo (l : List Int) (k : Nat) : ByteArray := (l.take k).foldl (fun S x => S ++ letter x) (ByteArray.mk #[])
/-- What word returns. -/
def wordOf (l : List Int) : ByteArray := if l.isEmpty then ByteArray.mk #[97] else wordTo l 3
theorem letter_cases (x : Int) : letter x = ByteArray.mk #[97] ∨ letter x = ByteArray.mk #[98] ∨ letter x = ByteArray.mk #[99] ∨ letter x = ByteArray.mk #[65] ∨ letter x = ByteArray.mk #[66] ∨ letter x = ByteArray.mk #[49] := by
  have h : x % 6 = 0 ∨ x % 6 = 1 ∨ x % 6 = 2 ∨ x % 6 = 3 ∨ x % 6 = 4 ∨ x % 6 = 5 := by omega
  unfold letter
  rcases h with h | h | h | h | h | h
  · rw [h]; exact .inl (by rfl)
  · rw [h]; exact .inr (.inl (by rfl))
  · rw [h]; exact .inr (.inr (.inl (by rfl)))
  · rw [h]; exact .inr (.inr (.inr (.inl (by rfl))))
  · rw [h]; exact .inr (.inr (.inr (.inr (.inl (by rfl)))))
  · rw [h]; exact .inr (.inr (.inr (.inr (.inr (by rfl)))))
theorem ret_str {a b : ByteArray} (h : a = b) : Ending.returned (.string a) = .returned (.string b) := by rw [h]
theorem wordTo_succ {l : List Int} {k : Nat} {x : Int} (hx : l[k]? = some x) : wordTo l (k + 1) = wordTo l k ++ letter x := by
  unfold wordTo; rw [take_succ_of hx, List.foldl_append]; rfl
theorem plainS_append (a b : ByteArray) : plainS (a ++ b) = (plainS a && plainS b) := by
  unfold plainS; simp
theorem letter_ok (x : Int) : (letter x).size = 1 ∧ plainS (letter x) = true := by
  rcases letter_cases x with h | h | h | h | h | h <;> rw [h] <;> exact ⟨by rfl, by decide +kernel⟩
theorem wordTo_ok (l : List Int) : ∀ k, k ≤ l.length → (wordTo l k).size = k ∧ plainS (wordTo l k) = true := by
  intro k
  induction k with
  | zero => intro _; exact ⟨rfl, rfl⟩
  | succ k ih =>
    intro hk
    obtain ⟨h1, h2⟩ := ih (by omega)
    rw [wordTo_succ (List.getElem?_eq_getElem (by omega))]
    have := letter_ok l[k]
    exact ⟨by rw [ByteArray.size_append, h1, this.1], by rw [plainS_append, h2, this.2]; rfl⟩
theorem wordTo_min (l : List Int) (k : Nat) : wordTo l k = wordTo l (min k l.length) := by
  unfold wordTo; rw [List.take_eq_take_min]
theorem wordOf_ok (l : List Int) : wordS (wordOf l) = true := by
  cases l with
  | nil => decide +kernel
  | cons x l =>
    have h : wordOf (x :: l) = wordTo (x :: l) (min 3 (x :: l).length) := by rw [← wordTo_min]; rfl
    rw [h]
    have := wordTo_ok (x :: l) (min 3 (x :: l).length) (by omega)
    unfold wordS
    rw [this.1, this.2]
    simp only [List.length_cons, Bool.and_true, Bool.and_eq_true, decide_eq_true_eq]
    omega

set_option maxRecDepth 100000 in
set_option maxHeartbeats 2000000 in
theorem rword_any (A : Option Addr) (l : List Int) (c : Nat) (w : World) (hx : SlR 1 RU8 w A l) (hl : l.length ≤ maxLen) (hb8 : ∀ x ∈ l, 0 ≤ x ∧ x ≤ 255) :
    Calls Tryz.prog 42 #[.slice A l.length c] w fun e w' => e = .returned (.string (wordOf l)) ∧ Below w.heap.size w w' := by
  unfold maxLen at hl
  go_enter Tryz.func42, Tryz.ntmps42
  go_wp2_with fail
  go_loopw [3, 4] (fun out i wr => ∃ k : Nat, ∃ S : ByteArray, k ≤ l.length ∧ k ≤ 3 ∧ Hid (S = wordTo l k) ∧ i = .int .i64 k ∧ out = .string S ∧ Below w.heap.size w wr) (fun _ i _ => 3 - (intOf i).toNat)
  case atStart => exact ⟨0, ByteArray.mk #[], by omega, by omega, rfl, rfl, rfl, Below.refl _ _⟩
  case round =>
    obtain ⟨k, S, hk, hk3, HS, rfl, rfl, hb⟩ := hrel
    have hszN := wordTo_ok l k hk
    have hsz : S.size ≤ 3 := by rw [HS.out, hszN.1]; exact hk3
    by_cases hlt : k < l.length
    · by_cases hlt3 : k < 3
      · obtain ⟨bk, off, x, rfl, hbb, hxx, hcx0⟩ := hx.u8 hlt
        have hcx := (hb.cell (p := ⟨bk, _, none⟩) hbb).trans hcx0
        have HX := Lib.hid hxx
        have hx8 := hb8 x (List.mem_of_getElem? hxx)
        clear hcx0 hxx hszN
        have hm0 : 0 ≤ x % 6 := by omega
        have hm1 : x % 6 ≤ 5 := by omega
        have hwr : IntKind.u8.wrap (x % 6 + 1) = x % 6 + 1 := by unfold IntKind.wrap; simp [IntKind.bits, IntKind.signed]; omega
        have hki : (k : Int) < (l.length : Int) := by omega
        have hk0 : (0 : Int) ≤ (k : Int) := by omega
        go_wp2_with fail
        go_quiet (fail)
        go_wp2_with fail
        go_roundw
        case rel => exact ⟨k + 1, S ++ letter x, by omega, by omega, (by rw [wordTo_succ HX.out, HS.out] : S ++ letter x = wordTo l (k + 1)), by go_num, rfl, below_drewN hb _⟩
        case measure => simp [intOf]; omega
      · obtain rfl : k = 3 := by omega
        have hne : S.toList.isEmpty = false := by
          rw [ByteArray.toList_eq, List.isEmpty_eq_false_iff]
          intro e
          have : S.size = 0 := by simpa using congrArg List.length e
          rw [HS.out, hszN.1] at this; cases this
        have HR := Lib.hid (show wordOf l = S by
          have : l.isEmpty = false := by cases l with | nil => simp at hlt | cons _ _ => rfl
          unfold wordOf; rw [this, HS.out]; rfl)
        clear hszN
        go_wp2_with fail
        go_ret
        exact ⟨ret_str HR.out.symm, hb⟩
    · obtain rfl : k = l.length := by omega
      by_cases h0 : l = []
      · subst h0
        obtain rfl : S = ByteArray.mk #[] := HS.out
        clear hszN hsz
        go_wp2_with fail
        go_ret
        exact ⟨rfl, hb⟩
      · have hne : S.toList.isEmpty = false := by
          rw [ByteArray.toList_eq, List.isEmpty_eq_false_iff]
          intro e
          have : S.size = 0 := by simpa using congrArg List.length e
          rw [HS.out, hszN.1] at this
          exact h0 (List.length_eq_zero_iff.1 this)
        have HR := Lib.hid (show wordOf l = S by
          have : l.isEmpty = false := by cases l with | nil => exact absurd rfl h0 | cons _ _ => rfl
          unfold wordOf; rw [this, HS.out, wordTo_min l 3, Nat.min_eq_right hk3]; rfl)
        clear hszN
        by_cases h3 : l.length < 3
        · go_wp2_with fail
          go_ret
          exact ⟨ret_str HR.out.symm, hb⟩
        · go_wp2_with fail
          go_ret
          exact ⟨ret_str HR.out.symm, hb⟩
end Go.Proofs.YtfjkmgjjifhdkaaGreat
