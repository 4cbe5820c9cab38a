/-
  CxWalkC, OrdS, CxSort, joined. No conditions.
-/
import Derived.Test.YtcimnkijpifkjaaQ08
import Derived.Test.YtcimnkijpifkjaaQ13
import Derived.Test.YtcimnkijpifkjaaQ03
import Derived.Test.YtcimnkijpifkjaaQ02
import Derived.Test.YtcimnkijpifkjaaShelf
import Derived.Test.YtcimnkijpifkjaaQ06
import Derived.Shelf.SlSortCmp.WholeK
/-
  The walks of layer 20: whether a lattice fits a model, for the reference and for the program; where an edge leads.
-/
namespace Go.Proofs.Ytcimnkijpifkjaa
open Go Go.RowKit

set_option maxRecDepth 100000 in
set_option maxHeartbeats 8000000 in
theorem reffits_any (x : La) (A : Option Addr) (c : Nat) (m : Mo) (A1 A2 A3 : Option Addr) (c1 c2 c3 : Nat) (w : World) (hx : SlR 4 REd w A x.es) (hl : x.es.length ≤ maxLen) (hm : MoR w m A1 A2 A3) :
    Calls Try.prog 35 #[.agg #[.int .i64 x.n, .slice A x.es.length c], .agg #[.slice A1 m.ws.length c1, .slice A2 m.cs.length c2, .slice A3 m.ps.length c3, .int .i64 m.back]] w fun e w' => e = .returned (.bool (decide (FitsL x m.ws.length ∧ MoOK m))) ∧ Below w.heap.size w w' := by
  obtain ⟨w2, hw2⟩ : ∃ w2, (w.alloc (.cells #[.int .i64 x.n, .slice A x.es.length c] 38)).alloc (.cells #[.slice A1 m.ws.length c1, .slice A2 m.cs.length c2, .slice A3 m.ps.length c3, .int .i64 m.back] 34) = w2 := ⟨_, rfl⟩
  have hb2 : Below w.heap.size w w2 := by rw [← hw2]; exact nw _ (nw _ (Below.refl _ _))
  have hLB : Blk w2 w.heap.size 38 #[.int .i64 x.n, .slice A x.es.length c] := by rw [← hw2]; exact (Blk.new _ _ _).alloc _
  have hMB : Blk w2 (w.heap.size + 1) 34 #[.slice A1 m.ws.length c1, .slice A2 m.cs.length c2, .slice A3 m.ps.length c3, .int .i64 m.back] := by rw [← hw2]; exact Blk.new_ (by simp)
  have HW2 := Lib.hid hw2
  have HBX : Hid (∀ W, Below w2.heap.size w2 W → (W.cell? ⟨w.heap.size, 0, none⟩ = some (.int .i64 x.n) ∧ W.cell? ⟨w.heap.size, 1, none⟩ = some (.slice A x.es.length c)) ∧ (W.cell? ⟨w.heap.size + 1, 0, none⟩ = some (.slice A1 m.ws.length c1) ∧ W.cell? ⟨w.heap.size + 1, 1, none⟩ = some (.slice A2 m.cs.length c2) ∧ W.cell? ⟨w.heap.size + 1, 2, none⟩ = some (.slice A3 m.ps.length c3) ∧ W.cell? ⟨w.heap.size + 1, 3, none⟩ = some (.int .i64 m.back)) ∧ w.heap.size < W.heap.size ∧ w.heap.size + 1 < W.heap.size) := fun W hW => by
    have e1 := hLB.below hW hLB.lt
    have e2 := hMB.below hW hMB.lt
    exact ⟨⟨by rw [e1.cell]; rfl, by rw [e1.cell]; rfl⟩, ⟨by rw [e2.cell]; rfl, by rw [e2.cell]; rfl, by rw [e2.cell]; rfl, by rw [e2.cell]; rfl⟩, e1.lt, e2.lt⟩
  have HB2 := Lib.hid hb2
  clear hw2 hLB hMB hb2
  have HVL : Hid (∀ W, Below w2.heap.size w2 W → Calls Try.prog 61 #[.agg #[.int .i64 x.n, .slice A x.es.length c]] W fun e w' => e = .returned (.bool (decide (LaOK x))) ∧ Below W.heap.size W w') := fun W hW => reflvalid_any A c x W (hx.below keeps_ed (bthen HB2.out hW)) hl
  have HVM : Hid (∀ W, Below w2.heap.size w2 W → Calls Try.prog 34 #[.agg #[.slice A1 m.ws.length c1, .slice A2 m.cs.length c2, .slice A3 m.ps.length c3, .int .i64 m.back]] W fun e w' => e = .returned (.bool (decide (MoOK m))) ∧ Below W.heap.size W w') := fun W hW => co_refvalid_any m A1 A2 A3 c1 c2 c3 W (hm.below (bthen HB2.out hW))
  have HX : Hid (∀ W, Below w2.heap.size w2 W → SlR 4 REd W A x.es) := fun W hW => hx.below keeps_ed (bthen HB2.out hW)
  have hl1 := hm.l1
  unfold maxLen at hl
  obtain ⟨v1, hv1⟩ : ∃ v, decide (LaOK x) = v := ⟨_, rfl⟩
  obtain ⟨v2, hv2⟩ : ∃ v, decide (MoOK m) = v := ⟨_, rfl⟩
  rw [hv1] at HVL
  rw [hv2] at HVM
  have HV1 := Lib.hid hv1
  have HV2 := Lib.hid hv2
  clear hv1 hv2 hx hm
  have h22 := Below.refl w2.heap.size w2
  obtain ⟨⟨l0, l1⟩, ⟨m0, m1, m2, m3⟩, ll, ml⟩ := HBX.out _ h22
  cases v1 with
  | false =>
    have HR : Hid (decide (FitsL x m.ws.length ∧ MoOK m) = false) := by show _ = _; exact decide_eq_false fun h => by have := HV1.out; rw [decide_eq_true h.1.1] at this; cases this
    go_enter Try.func35, Try.ntmps35
    go_upto_region 1 with fail
    rw [HW2.out]
    go_wp2_with (go_at_call 61; go_loud (refine (HVL.out _ h22).mono ?_; rintro e w3 ⟨rfl, hb3⟩))
    go_ret
    exact ⟨by rw [HR.out]; rfl, bthen HB2.out hb3⟩
  | true =>
  cases v2 with
  | false =>
    have HR : Hid (decide (FitsL x m.ws.length ∧ MoOK m) = false) := by show _ = _; exact decide_eq_false fun h => by have := HV2.out; rw [decide_eq_true h.2] at this; cases this
    go_enter Try.func35, Try.ntmps35
    go_upto_region 1 with fail
    rw [HW2.out]
    go_wp2_with (first | (go_at_call 61; go_loud (refine (HVL.out _ h22).mono ?_; rintro e w3 ⟨rfl, hb3⟩; clear l0 l1 m0 m1 m2 m3 ll ml; obtain ⟨⟨l0, l1⟩, ⟨m0, m1, m2, m3⟩, ll, ml⟩ := HBX.out _ hb3)) | (go_at_call 34; go_loud (refine (HVM.out _ hb3).mono ?_; rintro e w4 ⟨rfl, hb4⟩)))
    go_ret
    exact ⟨by rw [HR.out]; rfl, bthen HB2.out (bthen hb3 hb4)⟩
  | true =>
    go_enter Try.func35, Try.ntmps35
    go_upto_region 1 with fail
    rw [HW2.out]
    go_wp2_with (first | (go_at_call 61; go_loud (refine (HVL.out _ h22).mono ?_; rintro e w3 ⟨rfl, hb3⟩; clear l0 l1 m0 m1 m2 m3 ll ml; obtain ⟨⟨l0, l1⟩, ⟨m0, m1, m2, m3⟩, ll, ml⟩ := HBX.out _ hb3)) | (go_at_call 34; go_loud (refine (HVM.out _ hb3).mono ?_; rintro e w4 ⟨rfl, hb4⟩)))
    have hb24 := bthen hb3 hb4
    clear l0 l1 m0 m1 m2 m3 ll ml
    go_loopw [5] (fun i wr => ∃ k : Nat, k ≤ x.es.length ∧ Hid (∀ e ∈ x.es.take k, e.wd < (m.ws.length : Int)) ∧ i = .int .i64 k ∧ Below w2.heap.size w2 wr) (fun i _ => x.es.length - (intOf i).toNat)
    case atStart => exact ⟨0, by omega, (by show ∀ e ∈ x.es.take 0, _; simp), rfl, hb24⟩
    case round =>
      obtain ⟨k, hk, HS, rfl, hbr⟩ := hrel
      obtain ⟨⟨l0, l1⟩, ⟨m0, m1, m2, m3⟩, ll, ml⟩ := HBX.out _ hbr
      by_cases hlt : k < x.es.length
      · obtain ⟨b, off, e, rfl, hbb, hee, d0, d1, d2, d3⟩ := (HX.out _ hbr).ed hlt
        have HL := Lib.hid hee
        clear hee
        by_cases hw : e.wd < (m.ws.length : Int)
        · have z1 : decide ((m.ws.length : Int) ≤ e.wd) = false := decide_eq_false (by omega)
          have HES : Hid (∀ e ∈ x.es.take (k + 1), e.wd < (m.ws.length : Int)) := by
            show ∀ e ∈ x.es.take (k + 1), _
            rw [take_snoc_of HL.out]
            intro e' he'
            rcases List.mem_append.1 he' with h | h
            · exact HS.out e' h
            · rw [List.mem_singleton.1 h]; exact hw
          clear hw
          go_upto_region 6 with fail
          refine ordB_below (.quiet 0 (.quiet 1 (.quiet 2 (.quiet 3 (.quiet 4 (.quiet 5 (.quiet 6 (.quiet 7 (.quiet 8 (.quiet 9 .done)))))))))) (by kernel_rfl) (by kernel_rfl) (by kernel_rfl) (fun _ _ _ _ _ h => h) ?_
          intro V0 hV0
          iterate 10 (first
            | (refine ordB_skip rfl rfl ?_; simp only [Act.put, List.setIfInBounds_toArray, List.set_cons_zero, List.set_cons_succ])
            | (refine ordB_take (v := ?_) rfl rfl ?_ ?_
               rotate_left 1
               focus (intro W hW; obtain ⟨hcW, hfW⟩ := bcell hW; (go_simp <;> with_reducible rfl))
               simp only [Act.put, List.setIfInBounds_toArray, List.set_cons_zero, List.set_cons_succ]))
          refine ordB_nil ?_
          have HBE := Lib.hid (hbr.trans (hV0.mono hbr.size))
          clear z1
          go_wp2_with fail
          go_roundw
          case rel => exact ⟨k + 1, by omega, HES.out, by go_num, HBE.out⟩
          case measure => simp [intOf]; omega
        · have z1 : decide ((m.ws.length : Int) ≤ e.wd) = true := decide_eq_true (by omega)
          have HR : Hid (decide (FitsL x m.ws.length ∧ MoOK m) = false) := by show _ = _; exact decide_eq_false fun h => hw (h.1.2 e (List.mem_of_getElem? HL.out))
          clear hw
          go_upto_region 6 with fail
          refine ordB_below (.quiet 0 (.quiet 1 (.quiet 2 (.quiet 3 (.quiet 4 (.quiet 5 (.quiet 6 (.quiet 7 (.quiet 8 (.quiet 9 .done)))))))))) (by kernel_rfl) (by kernel_rfl) (by kernel_rfl) (fun _ _ _ _ _ h => h) ?_
          intro V0 hV0
          iterate 10 (first
            | (refine ordB_skip rfl rfl ?_; simp only [Act.put, List.setIfInBounds_toArray, List.set_cons_zero, List.set_cons_succ])
            | (refine ordB_take (v := ?_) rfl rfl ?_ ?_
               rotate_left 1
               focus (intro W hW; obtain ⟨hcW, hfW⟩ := bcell hW; (go_simp <;> with_reducible rfl))
               simp only [Act.put, List.setIfInBounds_toArray, List.set_cons_zero, List.set_cons_succ]))
          refine ordB_nil ?_
          have HBE := Lib.hid (hbr.trans (hV0.mono hbr.size))
          clear z1
          go_wp2_with fail
          go_ret
          exact ⟨by rw [HR.out]; rfl, bthen HB2.out HBE.out⟩
      · obtain rfl : k = x.es.length := by omega
        have HR : Hid (decide (FitsL x m.ws.length ∧ MoOK m) = true) := by
          show _ = _
          have := HS.out
          rw [List.take_length] at this
          exact decide_eq_true ⟨⟨of_decide_eq_true HV1.out, this⟩, of_decide_eq_true HV2.out⟩
        go_wp2_with fail
        go_ret
        exact ⟨by rw [HR.out]; rfl, bthen HB2.out hbr⟩

/-- The first edge with a word that is none of nw words, or -1. -/
def ixE (es : List Ed) (nw : Int) : Int := if (∀ e ∈ es, e.wd < nw) then -1 else (es.findIdx (fun e => decide (nw ≤ e.wd)) : Int)
theorem ixE_neg {es : List Ed} {nw : Int} (h : ∀ e ∈ es, e.wd < nw) : ixE es nw = -1 := if_pos h
theorem ixE_at {es : List Ed} {nw : Int} {k : Nat} {e : Ed} (h : ∀ e ∈ es.take k, e.wd < nw) (he : es[k]? = some e) (hw : nw ≤ e.wd) : ixE es nw = (k : Int) := by
  obtain ⟨hk, rfl⟩ := List.getElem?_eq_some_iff.1 he
  unfold ixE
  rw [if_neg (fun h2 => by have := h2 _ (List.getElem_mem hk); omega)]
  congr 1
  rw [List.findIdx_eq hk]
  refine ⟨by simpa using hw, fun j hj => ?_⟩
  have := h es[j] (List.mem_take_iff_getElem.2 ⟨j, by omega, rfl⟩)
  simp; omega
theorem ixE_iff {es : List Ed} {nw : Int} : ixE es nw < 0 ↔ ∀ e ∈ es, e.wd < nw := by
  unfold ixE
  split
  · rename_i h; simp; exact h
  · rename_i h; constructor
    · intro h2; omega
    · intro h2; exact absurd h2 h
set_option maxRecDepth 100000 in
set_option maxHeartbeats 4000000 in
theorem fclo_any (e : Ed) (bM nwn : Nat) (A1 : Option Addr) (c1 : Nat) (w : World) (hM : w.cell? ⟨bM, 0, none⟩ = some (.slice A1 nwn c1)) (hbl : bM < w.heap.size) :
    Calls Try.prog 68 #[vEd e, .pointer (some ⟨bM, 0, none⟩)] w fun r w' => r = .returned (.bool (decide ((nwn : Int) ≤ e.wd))) ∧ Below w.heap.size w w' := by
  have hne : bM ≠ w.heap.size := by omega
  have hMn : (w.alloc (.cells #[.int .i64 e.fr, .int .i64 e.to, .int .i64 e.wd, .int .i64 e.co] 43)).cell? ⟨bM, 0, none⟩ = some (.slice A1 nwn c1) := ((nw _ (Below.refl _ _)).cell (p := ⟨bM, 0, none⟩) hbl).trans hM
  obtain ⟨v, hv⟩ : ∃ v, decide ((nwn : Int) ≤ e.wd) = v := ⟨_, rfl⟩
  rw [hv]
  go_enter Try.func68, Try.ntmps68
  go_wp2_with fail
  go_ret
  exact ⟨by first | rfl | (rw [← hv]; rfl), nw _ (Below.refl _ _)⟩
set_option maxRecDepth 100000 in
set_option maxHeartbeats 4000000 in
theorem indexE_any (A : Option Addr) (es : List Ed) (c bM nwn : Nat) (A1 : Option Addr) (c1 : Nat) (w : World) (hx : SlR 4 REd w A es) (hl : es.length ≤ maxLen) (hM : w.cell? ⟨bM, 0, none⟩ = some (.slice A1 nwn c1)) (hbl : bM < w.heap.size) :
    Calls Try.prog 86 #[.slice A es.length c, .func (.func 68) #[] #[.pointer (some ⟨bM, 0, none⟩)]] w fun r w' => r = .returned (.int .i64 (ixE es nwn)) ∧ Below w.heap.size w w' := by
  unfold maxLen at hl
  have HC : Hid (∀ (W : World) (e : Ed), Below w.heap.size w W → Calls Try.prog 68 #[vEd e, .pointer (some ⟨bM, 0, none⟩)] W fun r w' => r = .returned (.bool (decide ((nwn : Int) ≤ e.wd))) ∧ Below W.heap.size W w') :=
    fun W e hW => fclo_any e bM nwn A1 c1 W ((hW.cell (p := ⟨bM, 0, none⟩) hbl).trans hM) (Nat.lt_of_lt_of_le hbl hW.size)
  clear hM
  go_enter Try.func86, Try.ntmps86
  go_wp2_with fail
  go_loopw [8] (fun i wr => ∃ k : Nat, k ≤ es.length ∧ Hid (∀ e ∈ es.take k, e.wd < (nwn : Int)) ∧ i = .int .i64 k ∧ Below w.heap.size w wr) (fun i _ => es.length - (intOf i).toNat)
  case atStart => exact ⟨0, by omega, (by show ∀ e ∈ es.take 0, _; simp), rfl, Below.refl _ _⟩
  case round =>
    obtain ⟨k, hk, HS, rfl, hbr⟩ := hrel
    by_cases hlt : k < es.length
    · obtain ⟨b, off, e, rfl, hbb, hee, d0, d1, d2, d3⟩ := (hx.below keeps_ed hbr).ed hlt
      have HL := Lib.hid hee
      have HC2 := Lib.hid (HC.out wr e hbr)
      obtain ⟨v, hv⟩ : ∃ v, decide ((nwn : Int) ≤ e.wd) = v := ⟨_, rfl⟩
      rw [hv] at HC2
      have HV := Lib.hid hv
      have HBr := Lib.hid hbr
      clear hee hv hbr
      cases v with
      | true =>
        have HR : Hid (ixE es nwn = (k : Int)) := ixE_at HS.out HL.out (of_decide_eq_true HV.out)
        go_wp2_with (go_at_call 68; go_loud (refine HC2.out.mono ?_; rintro e' w3 ⟨rfl, hb3⟩))
        go_ret
        exact ⟨by rw [HR.out]; rfl, bthen HBr.out hb3⟩
      | false =>
        have HES : Hid (∀ e ∈ es.take (k + 1), e.wd < (nwn : Int)) := by
          show ∀ e ∈ es.take (k + 1), _
          rw [take_snoc_of HL.out]
          intro e' he'
          rcases List.mem_append.1 he' with h | h
          · exact HS.out e' h
          · have := of_decide_eq_false HV.out
            rw [List.mem_singleton.1 h]; omega
        go_wp2_with (go_at_call 68; go_loud (refine HC2.out.mono ?_; rintro e' w3 ⟨rfl, hb3⟩))
        go_roundw
        case rel => exact ⟨k + 1, by omega, HES.out, by go_num, bthen HBr.out hb3⟩
        case measure => simp [intOf]; omega
    · have HR : Hid (ixE es nwn = -1) := by
        show _ = _
        have := HS.out
        rw [List.take_of_length_le (by omega)] at this
        exact ixE_neg this
      go_wp2_with fail
      go_ret
      exact ⟨by rw [HR.out]; rfl, hbr⟩
set_option maxRecDepth 100000 in
set_option maxHeartbeats 4000000 in
theorem containsE_any (A : Option Addr) (es : List Ed) (c bM nwn : Nat) (A1 : Option Addr) (c1 : Nat) (w : World) (hx : SlR 4 REd w A es) (hl : es.length ≤ maxLen) (hM : w.cell? ⟨bM, 0, none⟩ = some (.slice A1 nwn c1)) (hbl : bM < w.heap.size) :
    Calls Try.prog 67 #[.slice A es.length c, .func (.func 68) #[] #[.pointer (some ⟨bM, 0, none⟩)]] w fun r w' => r = .returned (.bool (!decide (∀ e ∈ es, e.wd < (nwn : Int)))) ∧ Below w.heap.size w w' := by
  have HC := Lib.hid (indexE_any A es c bM nwn A1 c1 w hx hl hM hbl)
  have hi := ixE_iff (es := es) (nw := nwn)
  obtain ⟨v, hv⟩ : ∃ v, decide (∀ e ∈ es, e.wd < (nwn : Int)) = v := ⟨_, rfl⟩
  have HR : Hid (v = true ↔ ixE es nwn < 0) := by show _ ↔ _; rw [← hv, decide_eq_true_iff]; exact hi.symm
  rw [hv]
  generalize ixE es nwn = q at *
  clear hi hx hM hv
  by_cases hq : q < 0
  · have hv : v = true := HR.out.2 hq
    subst hv
    have z1 : decide (0 ≤ q) = false := decide_eq_false (by omega)
    have z2 : ¬ 0 ≤ q := by omega
    go_enter Try.func67, Try.ntmps67
    go_wp2_with (go_at_call 86; go_loud (refine HC.out.mono ?_; rintro e' w3 ⟨rfl, hb3⟩))
    go_ret
    exact ⟨by first | rfl | simp [z1], hb3⟩
  · have hv : v = false := by cases v with | false => rfl | true => exact absurd (HR.out.1 rfl) hq
    subst hv
    have z1 : decide (0 ≤ q) = true := decide_eq_true (by omega)
    have z2 : 0 ≤ q := by omega
    go_enter Try.func67, Try.ntmps67
    go_wp2_with (go_at_call 86; go_loud (refine HC.out.mono ?_; rintro e' w3 ⟨rfl, hb3⟩))
    go_ret
    exact ⟨by first | rfl | simp [z1], hb3⟩
set_option maxRecDepth 100000 in
set_option maxHeartbeats 8000000 in
theorem fits_any (x : La) (A : Option Addr) (c : Nat) (m : Mo) (A1 A2 A3 : Option Addr) (c1 c2 c3 : Nat) (prev : Int) (w : World) (hx : SlR 4 REd w A x.es) (hl : x.es.length ≤ maxLen) (_hl1 : m.ws.length ≤ 65536) :
    Calls Try.prog 40 #[.agg #[.int .i64 x.n, .slice A x.es.length c], .agg #[.slice A1 m.ws.length c1, .slice A2 m.cs.length c2, .slice A3 m.ps.length c3, .int .i64 m.back], .int .i64 prev] w fun e w' => e = .returned (.bool (decide ((-1 ≤ prev ∧ prev < (m.ws.length : Int)) ∧ FitsL x m.ws.length))) ∧ Below w.heap.size w w' := by
  obtain ⟨w2, hw2⟩ : ∃ w2, (w.alloc (.cells #[.int .i64 x.n, .slice A x.es.length c] 38)).alloc (.cells #[.slice A1 m.ws.length c1, .slice A2 m.cs.length c2, .slice A3 m.ps.length c3, .int .i64 m.back] 34) = w2 := ⟨_, rfl⟩
  have hb2 : Below w.heap.size w w2 := by rw [← hw2]; exact nw _ (nw _ (Below.refl _ _))
  have hLB : Blk w2 w.heap.size 38 #[.int .i64 x.n, .slice A x.es.length c] := by rw [← hw2]; exact (Blk.new _ _ _).alloc _
  have hMB : Blk w2 (w.heap.size + 1) 34 #[.slice A1 m.ws.length c1, .slice A2 m.cs.length c2, .slice A3 m.ps.length c3, .int .i64 m.back] := by rw [← hw2]; exact Blk.new_ (by simp)
  have HW2 := Lib.hid hw2
  have HBX : Hid (∀ W, Below w2.heap.size w2 W → (W.cell? ⟨w.heap.size, 0, none⟩ = some (.int .i64 x.n) ∧ W.cell? ⟨w.heap.size, 1, none⟩ = some (.slice A x.es.length c)) ∧ (W.cell? ⟨w.heap.size + 1, 0, none⟩ = some (.slice A1 m.ws.length c1) ∧ W.cell? ⟨w.heap.size + 1, 1, none⟩ = some (.slice A2 m.cs.length c2) ∧ W.cell? ⟨w.heap.size + 1, 2, none⟩ = some (.slice A3 m.ps.length c3) ∧ W.cell? ⟨w.heap.size + 1, 3, none⟩ = some (.int .i64 m.back)) ∧ w.heap.size < W.heap.size ∧ w.heap.size + 1 < W.heap.size) := fun W hW => by
    have e1 := hLB.below hW hLB.lt
    have e2 := hMB.below hW hMB.lt
    exact ⟨⟨by rw [e1.cell]; rfl, by rw [e1.cell]; rfl⟩, ⟨by rw [e2.cell]; rfl, by rw [e2.cell]; rfl, by rw [e2.cell]; rfl, by rw [e2.cell]; rfl⟩, e1.lt, e2.lt⟩
  have HB2 := Lib.hid hb2
  clear hw2 hLB hMB hb2
  have HVL : Hid (∀ W, Below w2.heap.size w2 W → Calls Try.prog 66 #[.agg #[.int .i64 x.n, .slice A x.es.length c]] W fun e w' => e = .returned (.bool (decide (LaOK x))) ∧ Below W.heap.size W w') := fun W hW => lvalid_any A c x W (hx.below keeps_ed (bthen HB2.out hW)) hl
  have HCT : Hid (∀ W, Below w2.heap.size w2 W → Calls Try.prog 67 #[.slice A x.es.length c, .func (.func 68) #[] #[.pointer (some ⟨w.heap.size + 1, 0, none⟩)]] W fun r w' => r = .returned (.bool (!decide (∀ e ∈ x.es, e.wd < (m.ws.length : Int)))) ∧ Below W.heap.size W w') := fun W hW => by
    obtain ⟨⟨l0, l1⟩, ⟨m0, m1, m2, m3⟩, ll, ml⟩ := HBX.out _ hW
    exact containsE_any A x.es c _ m.ws.length A1 c1 W (hx.below keeps_ed (bthen HB2.out hW)) hl m0 ml
  have HRR : Hid (decide ((-1 ≤ prev ∧ prev < (m.ws.length : Int)) ∧ FitsL x m.ws.length) = (decide (-1 ≤ prev) && (decide (prev < (m.ws.length : Int)) && (decide (LaOK x) && decide (∀ e ∈ x.es, e.wd < (m.ws.length : Int)))))) := by
    show _ = _
    rw [Bool.eq_iff_iff]
    simp [FitsL, and_assoc]
  unfold maxLen at hl
  obtain ⟨v1, hv1⟩ : ∃ v, decide (LaOK x) = v := ⟨_, rfl⟩
  obtain ⟨v2, hv2⟩ : ∃ v, decide (∀ e ∈ x.es, e.wd < (m.ws.length : Int)) = v := ⟨_, rfl⟩
  rw [hv1] at HVL HRR
  rw [hv2] at HCT HRR
  obtain ⟨vr, hvr⟩ : ∃ v, decide ((-1 ≤ prev ∧ prev < (m.ws.length : Int)) ∧ FitsL x m.ws.length) = v := ⟨_, rfl⟩
  rw [hvr] at HRR ⊢
  clear hv1 hv2 hvr hx
  have h22 := Below.refl w2.heap.size w2
  obtain ⟨⟨l0, l1⟩, ⟨m0, m1, m2, m3⟩, ll, ml⟩ := HBX.out _ h22
  by_cases hp : prev < -1
  · have HR : Hid (vr = false) := by show _ = _; rw [HRR.out, decide_eq_false (show ¬ -1 ≤ prev by omega)]; rfl
    go_enter Try.func40, Try.ntmps40
    go_upto_region 1 with fail
    rw [HW2.out]
    go_wp2_with fail
    go_ret
    exact ⟨by rw [HR.out]; rfl, HB2.out⟩
  by_cases hq : (m.ws.length : Int) ≤ prev
  · have HR : Hid (vr = false) := by show _ = _; rw [HRR.out, decide_eq_false (show ¬ prev < (m.ws.length : Int) by omega)]; simp
    have z1 : ¬ prev < -1 := hp
    go_enter Try.func40, Try.ntmps40
    go_upto_region 1 with fail
    rw [HW2.out]
    go_wp2_with fail
    go_ret
    exact ⟨by rw [HR.out]; rfl, HB2.out⟩
  have HRS : Hid (vr = (v1 && v2)) := by show _ = _; rw [HRR.out, decide_eq_true (show -1 ≤ prev by omega), decide_eq_true (show prev < (m.ws.length : Int) by omega)]; rfl
  have z1 : decide (prev < -1) = false := decide_eq_false hp
  have z2 : decide ((m.ws.length : Int) ≤ prev) = false := decide_eq_false hq
  cases v1 with
  | false =>
    have HR : Hid (vr = false) := by show _ = _; rw [HRS.out]; rfl
    go_enter Try.func40, Try.ntmps40
    go_upto_region 1 with fail
    rw [HW2.out]
    go_wp2_with (go_at_call 66; go_loud (refine (HVL.out _ h22).mono ?_; rintro e w3 ⟨rfl, hb3⟩))
    go_ret
    exact ⟨by rw [HR.out]; rfl, bthen HB2.out hb3⟩
  | true =>
    have HR : Hid (vr = v2) := by show _ = _; rw [HRS.out]; rfl
    go_enter Try.func40, Try.ntmps40
    go_upto_region 1 with fail
    rw [HW2.out]
    go_wp2_with (first | (go_at_call 66; go_loud (refine (HVL.out _ h22).mono ?_; rintro e w3 ⟨rfl, hb3⟩; clear l0 l1 m0 m1 m2 m3 ll ml; obtain ⟨⟨l0, l1⟩, ⟨m0, m1, m2, m3⟩, ll, ml⟩ := HBX.out _ hb3)) | (go_at_call 67; go_loud (refine (HCT.out _ hb3).mono ?_; rintro e w4 ⟨rfl, hb4⟩)))
    go_ret
    exact ⟨by rw [HR.out]; cases v2 <;> rfl, bthen HB2.out (bthen hb3 hb4)⟩
set_option maxRecDepth 100000 in
set_option maxHeartbeats 8000000 in
theorem arrival_any (x : La) (A : Option Addr) (c : Nat) (e : Ed) (w : World) :
    Calls Try.prog 58 #[.agg #[.int .i64 x.n, .slice A x.es.length c], vEd e] w fun r w' => r = .returned (.agg #[.int .i64 (arrL x.n e).1, .int .i64 (arrL x.n e).2]) ∧ Below w.heap.size w w' := by
  obtain ⟨w2, hw2⟩ : ∃ w2, ((w.alloc (.cells #[.int .i64 x.n, .slice A x.es.length c] 38)).alloc (.cells #[.int .i64 e.fr, .int .i64 e.to, .int .i64 e.wd, .int .i64 e.co] 43)).alloc (.cells #[.int .i64 0, .int .i64 0] 127) = w2 := ⟨_, rfl⟩
  have hb2 : Below w.heap.size w w2 := by rw [← hw2]; exact nw _ (nw _ (nw _ (Below.refl _ _)))
  have hL : Blk w2 w.heap.size 38 #[.int .i64 x.n, .slice A x.es.length c] := by rw [← hw2]; exact ((Blk.new _ _ _).alloc _).alloc _
  have hE : Blk w2 (w.heap.size + 1) 43 #[.int .i64 e.fr, .int .i64 e.to, .int .i64 e.wd, .int .i64 e.co] := by rw [← hw2]; exact (Blk.new_ (by simp)).alloc _
  have hR : Blk w2 (w.heap.size + 2) 127 #[.int .i64 0, .int .i64 0] := by rw [← hw2]; exact Blk.new_ (by simp)
  have HW2 := Lib.hid hw2
  have HRB := Lib.hid hR
  have HBW := Lib.hid hb2
  have l0 := hL.cell 0
  have ll := hL.lt
  have e1 := hE.cell 1
  have e2 := hE.cell 2
  have el := hE.lt
  have r0 := hR.cell 0
  have r1 := hR.cell 1
  have rf0 := hR.frozen 0
  have rf1 := hR.frozen 1
  have rl := hR.lt
  simp at l0 e1 e2 r0 r1
  clear hw2 hb2 hL hE hR
  have HEN : Hid (∀ a b : Int, ∀ W, ((w2.setCell ⟨w.heap.size + 2, 0, none⟩ (.int .i64 a)).setCell ⟨w.heap.size + 2, 1, none⟩ (.int .i64 b)) = W → Below w.heap.size w W ∧ Blk W (w.heap.size + 2) 127 #[.int .i64 a, .int .i64 b]) := fun a b W h => by
    subst h
    refine ⟨(HBW.out.setCell (p := ⟨w.heap.size + 2, 0, none⟩) (by show w.heap.size ≤ w.heap.size + 2; omega) _).setCell (p := ⟨w.heap.size + 2, 1, none⟩) (by show w.heap.size ≤ w.heap.size + 2; omega) _, ?_⟩
    have := (HRB.out.set_ 0 (.int .i64 a)).set_ 1 (.int .i64 b)
    simpa using this
  by_cases hn : e.to = x.n
  · have HR : Hid (arrL x.n e = (x.n, -1)) := by show _ = _; unfold arrL; rw [if_pos hn]
    have z1 : (e.to == x.n) = true := by simpa using hn
    clear hn
    go_enter Try.func58, Try.ntmps58
    go_upto_region 1 with fail
    rw [HW2.out]
    go_wp2_with fail
    obtain ⟨h1, h2⟩ := HEN.out x.n (-1) _ rfl
    refine ret_cell h2 rfl rfl Try.underlying127 rfl (by kernel_rfl) rfl ?_
    rw [HR.out]
    exact ⟨rfl, h1⟩
  · have HR : Hid (arrL x.n e = (e.to, e.wd)) := by show _ = _; unfold arrL; rw [if_neg hn]
    have z1 : (e.to == x.n) = false := by simpa using hn
    clear hn
    go_enter Try.func58, Try.ntmps58
    go_upto_region 1 with fail
    rw [HW2.out]
    go_wp2_with fail
    obtain ⟨h1, h2⟩ := HEN.out e.to e.wd _ rfl
    refine ret_cell h2 rfl rfl Try.underlying127 rfl (by kernel_rfl) rfl ?_
    rw [HR.out]
    exact ⟨rfl, h1⟩
end Go.Proofs.Ytcimnkijpifkjaa

/-
  A region that draws its order, walked as a tree, under any condition on the world that holds throughout; all blocks but one as they were.
-/
namespace Go.Proofs.Ytcimnkijpifkjaa
open Go Go.RowKit

theorem ordB_start {P : Program} {ops : Array Oper} {Q : Exit → Act → World → Prop} {id : Nat} {a : Act} {w : World} (S : World → Prop) (t : OTree) (hm : P.follows .mixedOrders = true) (hs : Region.noSelect ops = true) (hg : goodTree ops t = true)
    (hQ : ∀ d v c a w, Q (.panic c) (Act.put a (some d) v) w → Q (.panic c) a w) (hS : S w.drew) (h : wpB P ops Q S t a w.drew) : (Code.region id ops true).wp P Q a w := by
  unfold goodTree at hg
  simp only [Bool.and_eq_true, decide_eq_true_eq] at hg
  exact wp_region_held_drew hm hS fun hS => wpAnyH_of_tree hs hQ t _ _ a _ hg.1 hg.2 hS h
/-- All old blocks but g are as they were. -/
structure ButB (g : Nat) (w w' : World) : Prop where
  size : w.heap.size ≤ w'.heap.size
  block : ∀ b, b < w.heap.size → b ≠ g → w'.heap[b]? = w.heap[b]?
section
variable {g : Nat} {w w' w2 : World}
theorem ButB.refl (g : Nat) (w : World) : ButB g w w := ⟨Nat.le_refl _, fun _ _ _ => rfl⟩
theorem ButB.of_below (h : Below w.heap.size w w') : ButB g w w' := ⟨h.size, fun b hb _ => h.block b hb⟩
theorem ButB.trans (h : ButB g w w') (h2 : ButB g w' w2) : ButB g w w2 := ⟨Nat.le_trans h.size h2.size, fun b hb hn => (h2.block b (Nat.lt_of_lt_of_le hb h.size) hn).trans (h.block b hb hn)⟩
theorem ButB.set_ (h : ButB g w w') (o : Nat) (v : Value) : ButB g w (w'.setCell ⟨g, o, none⟩ v) := ⟨by simpa using h.size, fun b hb hn => (Below.heap_setCell w' ⟨g, o, none⟩ v b hn).trans (h.block b hb hn)⟩
theorem ButB.cell (h : ButB g w w') : ∀ b o, b < w.heap.size → b ≠ g → w'.cell? ⟨b, o, none⟩ = w.cell? ⟨b, o, none⟩ := fun b _ hb hn => World.cell?_of_block (h.block b hb hn)
theorem ButB.blk {b : Nat} {t : TypeId} {cs : Array Value} (h : ButB g w w') (hb : Blk w b t cs) (hn : b ≠ g) : Blk w' b t cs := (h.block b hb.lt hn).trans hb
end
end Go.Proofs.Ytcimnkijpifkjaa

/-
  The walks of layer 20: pairs of numbers in memory, how two of them are compared, a row of them sorted.
-/
namespace Go.Proofs.Ytcimnkijpifkjaa
open Go Go.RowKit Go.Shelf Go.Lib Go.Sort

abbrev Pt := Int × Int
def encPt (p : Pt) : List Value := [.int .i64 p.1, .int .i64 p.2]
abbrev vPt (p : Pt) : Value := .agg #[.int .i64 p.1, .int .i64 p.2]
def RPt (_ : World) (p : Pt) (vs : List Value) : Prop := vs = [.int .i64 p.1, .int .i64 p.2]
theorem keeps_pt : Keeps RPt := fun _ _ _ _ _ h => h
theorem SlR.pt {w : World} {A : Option Addr} {k : Nat} {xs : List Pt} (h : SlR 2 RPt w A xs) (hk : k < xs.length) : ∃ b off x, A = some ⟨b, off, none⟩ ∧ b < w.heap.size ∧ xs[k]? = some x ∧
    w.cell? ⟨b, off + k * 2, none⟩ = some (.int .i64 x.1) ∧ w.cell? ⟨b, off + k * 2 + 1, none⟩ = some (.int .i64 x.2) := by
  obtain ⟨b, off, x, vs, hA, hlt, hx, hr, _, hv⟩ := h.at_ hk
  exact ⟨b, off, x, hA, hlt, hx, hv 0 _ (by rw [hr]; rfl), hv 1 _ (by rw [hr]; rfl)⟩
def cmpP (x y : Pt) : Int := cmpL [x.1, x.2] [y.1, y.2]
theorem lt_cmpP (x y : Pt) : ltOf cmpP x y = ltP x y := by
  unfold ltOf cmpP ltP
  rw [Bool.eq_iff_iff, decide_eq_true_iff, cmpL_lt]
  unfold lexLt lexLt lexLt
  by_cases h1 : x.1 < y.1
  · simp [h1]
  · by_cases h2 : y.1 < x.1
    · simp [h1, h2]; omega
    · have e : x.1 = y.1 := by omega
      by_cases h3 : x.2 < y.2
      · simp [e, h3]
      · simp [e, h3]
theorem swo_cmpP : SWO (ltOf cmpP) where
  irrefl x := by rw [lt_cmpP]; exact ltP_irr x
  trans x y z h1 h2 := by rw [lt_cmpP] at *; exact ltP_trans h1 h2
  ntrans x y z h1 h2 := by
    rw [lt_cmpP] at *
    cases h : ltP x z with
    | false => rfl
    | true =>
      rcases ltP_total y z with h3 | h3 | h3
      · rw [h3] at h2; cases h2
      · rw [h3] at h1; rw [h1] at h; cases h
      · rw [ltP_trans h h3] at h1; cases h1
/-- The world with draws and new blocks. -/
def GrownP (w W : World) : Prop := ∃ q os, W = grow (w.drewN q) os
theorem GrownP.start {w : World} : GrownP w w.drew := ⟨1, #[], by rw [grow_empty]; rfl⟩
theorem GrownP.refl (w : World) : GrownP w w := ⟨0, #[], by rw [grow_empty]; rfl⟩
theorem GrownP.below {w W : World} (h : GrownP w W) : RowKit.Below w.heap.size w W := by
  obtain ⟨q, os, rfl⟩ := h
  exact ⟨rfl, rfl, rfl, by show w.heap.size ≤ (w.heap ++ os).size; simp, fun k hk => by show (w.heap ++ os)[k]? = _; rw [Array.getElem?_append_left hk]⟩
theorem GrownP.trans {a b c : World} (h : GrownP a b) (h2 : GrownP b c) : GrownP a c := by
  obtain ⟨q, os, rfl⟩ := h
  obtain ⟨q2, os2, rfl⟩ := h2
  exact ⟨q + q2, os ++ os2, by rw [← grow_grow, ← World.drewN_drewN]; rfl⟩
theorem GrownP.alloc {w W : World} (h : GrownP w W) (o : Obj) : GrownP w (W.alloc o) := h.trans ⟨0, #[o], by rw [alloc_eq_grow]; rfl⟩
set_option maxRecDepth 100000 in
set_option maxHeartbeats 4000000 in
theorem closP_any (x y : Pt) (w : World) : Calls Try.prog 82 #[vPt x, vPt y] w fun e w' => e = .returned (.int .i64 (cmpP x y)) ∧ GrownP w w' := by
  obtain ⟨w2, hw2⟩ : ∃ w2, (w.alloc (.cells #[.int .i64 x.1, .int .i64 x.2] 127)).alloc (.cells #[.int .i64 y.1, .int .i64 y.2] 127) = w2 := ⟨_, rfl⟩
  have hG2 : GrownP w w2 := by rw [← hw2]; exact ((GrownP.refl w).alloc _).alloc _
  have hA : Blk w2 w.heap.size 127 ([x.1, x.2].map (Value.int .i64)).toArray := by rw [← hw2]; exact (Blk.new _ _ _).alloc _
  have hB : Blk w2 (w.heap.size + 1) 127 ([y.1, y.2].map (Value.int .i64)).toArray := by rw [← hw2]; exact Blk.new_ (by simp)
  have HW2 := Lib.hid hw2
  have HCC : Hid (∀ W, GrownP w2 W → Calls Try.prog 78 #[.slice (some ⟨w.heap.size, 0, none⟩) 2 2, .slice (some ⟨w.heap.size + 1, 0, none⟩) 2 2] W fun e w' => e = .returned (.int .i64 (cmpP x y)) ∧ W = w') := fun W hW => by
    have e1 := hA.below hW.below hA.lt
    have e2 := hB.below hW.below hB.lt
    exact compare_any (some ⟨w.heap.size, 0, none⟩) (some ⟨w.heap.size + 1, 0, none⟩) [x.1, x.2] [y.1, y.2] 2 2 W (slr_blk (enc := fun x => [Value.int .i64 x]) (by rw [flatMap_one]; exact e1) (fun _ => rfl) (fun _ => rfl)) (slr_blk (enc := fun x => [Value.int .i64 x]) (by rw [flatMap_one]; exact e2) (fun _ => rfl) (fun _ => rfl)) (by unfold maxLen; simp) (by unfold maxLen; simp)
  have HG := Lib.hid hG2
  have al := hA.lt
  have bl := hB.lt
  generalize cmpP x y = cv at *
  clear hw2 hG2 hA hB
  go_enter Try.func82, Try.ntmps82
  go_upto_region 1 with fail
  rw [HW2.out]
  refine ordB_start (GrownP w2) (.quiet 0 (.quiet 1 (.only 2 (.quiet 3 .done)))) (by kernel_rfl) (by kernel_rfl) (by kernel_rfl) (fun _ _ _ _ _ h => h) GrownP.start ?_
  have hV0 : GrownP w2 w2.drew := GrownP.start
  obtain ⟨V0, qqV0⟩ : ∃ W, w2.drew = W := ⟨_, rfl⟩
  rw [qqV0] at hV0 ⊢
  clear qqV0
  iterate 2 (first
    | (refine ordB_skip rfl rfl ?_; simp only [Act.put, List.setIfInBounds_toArray, List.set_cons_zero, List.set_cons_succ])
    | (refine ordB_take (v := ?_) rfl rfl ?_ ?_
       rotate_left 1
       focus (intro W hW; obtain ⟨hcW, hfW⟩ := bcell hW.below; (go_simp <;> with_reducible rfl))
       simp only [Act.put, List.setIfInBounds_toArray, List.set_cons_zero, List.set_cons_succ]))
  refine ordB_only (opB_call rfl rfl (fun K hK => ?_))
  go_simp
  go_at_call 78
  refine (HCC.out V0 hV0).mono ?_
  rintro e w' ⟨rfl, rfl⟩
  refine hK.out _ _ hV0 (fun hV0_1 => ?_)
  iterate 1 (first
    | (refine ordB_skip rfl rfl ?_; simp only [Act.put, List.setIfInBounds_toArray, List.set_cons_zero, List.set_cons_succ])
    | (refine ordB_take (v := ?_) rfl rfl ?_ ?_
       rotate_left 1
       focus (intro W hW; obtain ⟨hcW, hfW⟩ := bcell hW.below; (go_simp <;> with_reducible rfl))
       simp only [Act.put, List.setIfInBounds_toArray, List.set_cons_zero, List.set_cons_succ]))
  refine ordB_nil ?_
  go_wp2_with fail
  go_ret
  exact ⟨rfl, HG.out.trans hV0_1⟩
theorem swP_below {w : World} {blk off n base : Nat} {d : Array Pt} {os : Array Obj} (hb : base ≤ blk) (hbase : base ≤ w.heap.size) : Go.RowKit.Below base w (sortWorldK encPt 2 w blk off n d os) where
  os := rfl
  tape := rfl
  output := rfl
  size := by
    unfold sortWorldK
    rw [size_grow, size_putRowK]
    show w.heap.size ≤ w.heap.size + _
    omega
  block := fun k hk => by
    unfold sortWorldK
    have h1 : k < (putRowK encPt 2 (Sort.ahead w n) blk off d).heap.size := by rw [size_putRowK]; show k < w.heap.size; omega
    rw [heap_grow_old _ _ h1]
    show (w.heap.modify blk _)[k]? = _
    rw [Array.getElem?_modify, if_neg (by omega)]
theorem swP_but {w : World} {blk off n : Nat} {d : Array Pt} {os : Array Obj} : ButB blk w (sortWorldK encPt 2 w blk off n d os) where
  size := by
    unfold sortWorldK
    rw [size_grow, size_putRowK]
    show w.heap.size ≤ w.heap.size + _
    omega
  block := fun k hk hn => by
    unfold sortWorldK
    have h1 : k < (putRowK encPt 2 (Sort.ahead w n) blk off d).heap.size := by rw [size_putRowK]; show k < w.heap.size; omega
    rw [heap_grow_old _ _ h1]
    show (w.heap.modify blk _)[k]? = _
    rw [Array.getElem?_modify, if_neg (fun e => hn e.symm)]
theorem isAggP : ∀ w, (isAgg 127).run Try.prog w = .ok true w := Try.isAgg127
theorem sizeP : ∀ w, (Go.sizeOf 127).run Try.prog w = .ok 2 w := Try.sizeOf127
theorem holdsP_of {w : World} {blk off : Nat} {d : Array Pt} (h : ∀ i (hi : i < d.size), w.cell? ⟨blk, off + i * 2, none⟩ = some (.int .i64 d[i].1) ∧ w.cell? ⟨blk, off + i * 2 + 1, none⟩ = some (.int .i64 d[i].2) ∧
    w.frozen? ⟨blk, off + i * 2, none⟩ = false ∧ w.frozen? ⟨blk, off + i * 2 + 1, none⟩ = false) : HoldsK encPt 2 w blk off d := by
  intro j hj
  rw [size_flatK] at hj
  rw [get_flatK _ _ _ _ hj]
  have hi : j / 2 < d.size := by omega
  obtain ⟨h0, h1, h2, h3⟩ := h (j / 2) hi
  have e : d[j / 2]! = d[j / 2] := by rw [getElem!_pos d (j / 2) hi]
  rw [e]
  rcases Nat.mod_two_eq_zero_or_one j with hm | hm
  · rw [hm, show off + j = off + j / 2 * 2 by omega]
    exact ⟨h0, h2⟩
  · rw [hm, show off + j = off + j / 2 * 2 + 1 by omega]
    exact ⟨h1, h3⟩
theorem holdsP_to {w : World} {blk off : Nat} {d : Array Pt} (h : HoldsK encPt 2 w blk off d) (i : Nat) (hi : i < d.size) : w.cell? ⟨blk, off + i * 2, none⟩ = some (.int .i64 d[i].1) ∧ w.cell? ⟨blk, off + i * 2 + 1, none⟩ = some (.int .i64 d[i].2) ∧
    w.frozen? ⟨blk, off + i * 2, none⟩ = false ∧ w.frozen? ⟨blk, off + i * 2 + 1, none⟩ = false := by
  have h0 := h.cell hi (show 0 < 2 by omega)
  have h1 := h.cell hi (show 1 < 2 by omega)
  have e : d[i]! = d[i] := by rw [getElem!_pos d i hi]
  rw [e] at h0 h1
  exact ⟨h0.1, h1.1, h0.2, h1.2⟩
theorem holdsP_slr {w : World} {blk off : Nat} {d : Array Pt} (h : HoldsK encPt 2 w blk off d) (hb : blk < w.heap.size) : SlR 2 RPt w (some ⟨blk, off, none⟩) d.toList := fun _ => by
  refine ⟨blk, off, rfl, hb, fun k x hx => ⟨encPt x, rfl, rfl, fun j v hj => ?_⟩⟩
  obtain ⟨hk, rfl⟩ := List.getElem?_eq_some_iff.1 hx
  obtain ⟨h0, h1, _⟩ := holdsP_to h k (by simpa using hk)
  rw [Array.getElem_toList] at hj
  match j, hj with
  | 0, hj => simp [encPt] at hj; rw [← hj]; exact h0
  | 1, hj => simp [encPt] at hj; rw [← hj]; exact h1
  | j + 2, hj => simp [encPt] at hj
theorem own_holdsP {w : World} {base : Nat} {v : Value} {L : List Pt} (h : w.ownsRow base 127 2 v L.length (L.flatMap encPt)) (hn : L ≠ []) :
    ∃ g cap, v = .slice (some ⟨g, 0, none⟩) L.length cap ∧ base ≤ g ∧ g < w.heap.size ∧ L.length ≤ cap ∧ cap ≤ maxLen ∧ HoldsK encPt 2 w g 0 L.toArray := by
  have hs := own_slr (R := RPt) h (fun _ => rfl) (fun _ => rfl) rfl
  rcases h.2 with ⟨rfl, h0⟩ | ⟨g, cap, cur, rfl, hg, hh, hnc, hcm, hcs, htk⟩
  · exact absurd (List.length_eq_zero_iff.1 h0) hn
  · obtain ⟨A, cap', e, _, _, hslr⟩ := hs
    injection e with e1 _ e3
    subst e1
    subst e3
    obtain ⟨b, off, e, hb, hc⟩ := hslr hn
    injection e with e
    injection e with e1 e2
    subst e1
    subst e2
    have hB : Blk w g 127 cur := hh
    refine ⟨g, cap, rfl, hg, hb, hnc, hcm, holdsP_of fun i hi => ?_⟩
    simp at hi
    obtain ⟨vs, rfl, _, hv⟩ := hc i L[i] (List.getElem?_eq_getElem hi)
    exact ⟨by have := hv 0 _ rfl; simpa using this, by have := hv 1 _ rfl; simpa using this, hB.frozen _, hB.frozen _⟩
theorem permP {d d' : Array Pt} (h : PermIn 0 d.size d d') : d'.toList.Perm d.toList := by
  obtain ⟨h1, _, h3⟩ := h
  have e1 : d'.extract 0 d.size = d' := by rw [← h1]; simp
  have e2 : d.extract 0 d.size = d := by simp
  rwa [e1, e2] at h3
theorem sortedP_pw {lt : Pt → Pt → Bool} {n : Nat} {d : Array Pt} (h : SortedIn lt 0 n d) (hn : d.size = n) : d.toList.Pairwise (fun x y => lt y x = false) := by
  rw [List.pairwise_iff_getElem]
  intro i j hi hj hij
  have := h i j (Nat.zero_le _) hij (by simp at hj; omega)
  simp at hi hj
  rw [getElem!_pos d j hj, getElem!_pos d i hi] at this
  simpa using this
set_option maxHeartbeats 2000000 in
/-- Pairs sorted in place. -/
theorem sortP_any (base : Nat) (v : Value) (L : List Pt) (w : World) (h : w.ownsRow base 127 2 v L.length (L.flatMap encPt)) (hn : L ≠ []) (hlen : L.length ≤ 50000) :
    Calls Try.prog 81 #[v, .func (.func 82) #[] #[]] w fun e w' => e = .returned (.tuple #[]) ∧
      ∃ g cap L', v = .slice (some ⟨g, 0, none⟩) L.length cap ∧ base ≤ g ∧ L'.Perm L ∧ L'.Pairwise LeP ∧ SlR 2 RPt w' (some ⟨g, 0, none⟩) L' ∧ ButB g w w' ∧ ∀ b, b ≤ g → Go.RowKit.Below b w w' := by
  obtain ⟨g, cap, rfl, hg, hgl, hnc, hcm, hH⟩ := own_holdsP h hn
  have eg : ∀ args w, (callFunc 82 args).run Try.prog w = .ok (.enter 82 args) w := enters_of Try.func82 (by kernel_rfl) rfl
  have hcmp : CmpLays Try.prog 82 #[] encPt 2 cmpP g 0 L.toArray.size w := fun m os dk hdk x y => by
    refine (closP_any x y _).mono ?_
    rintro e w' ⟨rfl, q, os', rfl⟩
    exact ⟨rfl, q, os', rfl⟩
  have hcon := AnyQ.slices_SortFunc Try.sortPrs 2 isAggP sizeP encPt (fun _ => rfl) (fun x v hv => by simp [encPt] at hv; rcases hv with rfl | rfl <;> rfl) cmpP swo_cmpP 82 #[] g 0 cap L.toArray w eg hcmp hH (by omega) (by simp; omega)
  change Calls Try.prog 81 _ _ _ at hcon
  rw [show L.toArray.size = L.length by simp] at hcon
  refine hcon.mono ?_
  rintro e w' ⟨rfl, d', n, os, hp, hs, rfl⟩
  have hds : d'.size = L.length := by have := hp.1; simpa using this
  have hH' : HoldsK encPt 2 (sortWorldK encPt 2 w g 0 n d' os) g 0 d' := holdsK_sortWorldK_c _ _ _ _ _ L.toArray d' n os hH (by omega) (by have := hp.1; simpa using this)
  refine ⟨rfl, g, cap, d'.toList, rfl, hg, ?_, ?_, holdsP_slr hH' (Nat.lt_of_lt_of_le hgl swP_but.size), swP_but, fun b hb => swP_below hb (by omega)⟩
  · have hp' : PermIn 0 L.toArray.size L.toArray d' := by rw [show L.toArray.size = L.length by simp]; exact hp
    have := permP hp'
    simpa using this
  · refine (sortedP_pw hs hds).imp fun {a b} h => ?_
    rw [lt_cmpP] at h
    exact h
end Go.Proofs.Ytcimnkijpifkjaa
