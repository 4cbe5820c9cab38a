/-
  The walks of layer 20: ways that are chosen by numbers.
-/
import Derived.Test.YtfjkmgjjifhdkaaZ35
import Derived.Test.YtfjkmgjjifhdkaaZ39
import Derived.Deep.DeepCutAuto
namespace Go.Proofs.Ytfjkmgjjifhdkaa
open Go Go.RowKit

/-- A way through x. -/
def IsWayR (x : La) (w : World) (r : Ending) (w' : World) : Prop := ∃ (B : Option Addr) (c : Nat) (o : List Int), r = .returned (.tuple #[.slice B o.length c, .bool true]) ∧ SlR 1 RInt w' B o ∧ WayTo x 0 o x.n ∧ o.length ≤ 40 ∧ o.length ≤ c ∧ c ≤ maxLen ∧ Below w.heap.size w w'
set_option maxRecDepth 100000 in
set_option maxHeartbeats 16000000 in
theorem way_any (x : La) (A : Option Addr) (c : Nat) (C : Option Addr) (l : List Int) (cC : Nat) (w : World) (hx : SlR 4 REd w A x.es) (hok : LaOK x) (hes : x.es.length ≤ 1000) (hfull : ∀ p, 0 ≤ p → p < x.n → frI x.es p x.es.length ≠ []) (hc : SlR 1 RU8 w C l) (_hl : l.length ≤ 1000) (hlb : ∀ y ∈ l, 0 ≤ y ∧ y ≤ 255) :
    Calls Try.prog 10 #[.agg #[.int .i64 x.n, .slice A x.es.length c], .slice C l.length cC] w (IsWayR x w) := by
  obtain ⟨j0, hj, hy0, hy1, hy2⟩ := info_parts bint_inf
  have hn40 := hok.1
  obtain ⟨w1, hw1⟩ : ∃ w1, w.alloc (.cells #[.int .i64 x.n, .slice A x.es.length c] 38) = w1 := ⟨_, rfl⟩
  have hb1 : Below w.heap.size w w1 := by rw [← hw1]; exact nw _ (Below.refl _ _)
  have hB1 : Blk w1 w.heap.size 38 #[.int .i64 x.n, .slice A x.es.length c] := by rw [← hw1]; exact Blk.new _ _ _
  have HW1 := Lib.hid hw1
  have c0 := hB1.cell 0
  have c1 := hB1.cell 1
  have lb := hB1.lt
  simp at c0 c1
  obtain ⟨w2, hw2⟩ : ∃ W, w1.alloc (.cells #[] 3) = W := ⟨_, rfl⟩
  have hb2 : Below w1.heap.size w1 w2 := by rw [← hw2]; exact nw _ (Below.refl _ _)
  have hO0 : w2.ownsRow w1.heap.size 3 1 (.slice (some ⟨w1.heap.size, 0, none⟩) 0 0) 0 [] := by rw [← hw2]; exact own_empty w1 3 1 w1.heap.size (Nat.le_refl _)
  have hsz : w2.heap.size = w1.heap.size + 1 := by rw [← hw2]; simp
  have HWW := Lib.hid hw2
  have HBW := Lib.hid (bthen hb1 hb2)
  have hB2 := hB1.below hb2 hB1.lt
  have hLb := hB1.lt
  obtain ⟨b1, hb1e⟩ : ∃ b, w1.heap.size = b := ⟨_, rfl⟩
  rw [hb1e] at hO0 hLb hsz
  have HSZ := Lib.hid hsz
  have HO0 := Lib.hid hO0
  have HBE := Lib.hid hb1e
  have HX : Hid (∀ W, Below b1 w2 W → SlR 4 REd W A x.es) := fun W hW => hx.below keeps_ed (HBW.out.trans (hW.mono (Nat.le_of_lt hLb)))
  have HC : Hid (∀ W, Below b1 w2 W → SlR 1 RU8 W C l) := fun W hW => hc.below keeps_u8 (HBW.out.trans (hW.mono (Nat.le_of_lt hLb)))
  have HCE : Hid (∀ W, Below b1 w2 W → (W.cell? ⟨w.heap.size, 0, none⟩ = some (.int .i64 x.n) ∧ W.cell? ⟨w.heap.size, 1, none⟩ = some (.slice A x.es.length c)) ∧ w.heap.size < W.heap.size) := fun W hW => by
    have e1 := hB2.below hW hLb
    exact ⟨⟨by rw [e1.cell]; rfl, by rw [e1.cell]; rfl⟩, e1.lt⟩
  have HOK := Lib.hid hok
  have HFU := Lib.hid hfull
  have HLB := Lib.hid hlb
  clear hw1 hw2 hb1e hb1 hb2 hO0 hsz hB2 hx hc hok hfull hlb
  go_enter Try.func10, Try.ntmps10
  go_upto_region 1 with fail
  rw [HW1.out]
  go_upto_region 2 with fail
  rw [HWW.out, HBE.out]
  clear c0 c1 lb
  go_wp2_with fail
  go_loopw [6, 7, 8] (fun a v i wr => ∃ (j : Nat) (p : Int) (o : List Int) (V : Value), V = v ∧ a = .int .i64 p ∧ i = .int .i64 j ∧ j ≤ 40 ∧ o.length = j ∧ (j : Int) ≤ p ∧ 0 ≤ p ∧ p ≤ x.n ∧ WayTo x 0 o p ∧ Hid (wr.ownsRow b1 3 1 V j (o.map (Value.int .i64))) ∧ Below b1 w2 wr) (fun _ _ i _ => 41 - (intOf i).toNat)
  case atStart => exact ⟨0, 0, [], _, rfl, rfl, rfl, by omega, rfl, by omega, by omega, by omega, rfl, HO0, Below.refl _ _⟩
  case round =>
    obtain ⟨W0, rfl⟩ : ∃ V, V = wr := ⟨wr, rfl⟩
    obtain ⟨j, p, o, V, rfl, rfl, rfl, hj40, hoj, hjp, hp0, hpn, hwt, HOV, hbr⟩ := hrel
    have HWT := Lib.hid hwt
    have HOJ := Lib.hid hoj
    obtain ⟨⟨l0, l1⟩, ll⟩ := HCE.out _ hbr
    have HBr := Lib.hid hbr
    clear hwt hoj hbr
    by_cases hlt : p < x.n
    · have hj4 : j < 40 := by omega
      have hj4' : (j : Int) < 40 := by omega
      have hsb0 : b1 < W0.heap.size := by have := HBr.out.size; have := HSZ.out; omega
      go_upto_region 6 with fail
      obtain ⟨W1, hW1⟩ : ∃ W, W0.alloc (.cells #[] 3) = W := ⟨_, rfl⟩
      have hbW1 : Below W0.heap.size W0 W1 := by rw [← hW1]; exact nw _ (Below.refl _ _)
      have hOF : W1.ownsRow W0.heap.size 3 1 (.slice (some ⟨W0.heap.size, 0, none⟩) 0 0) 0 [] := by rw [← hW1]; exact own_empty W0 3 1 W0.heap.size (Nat.le_refl _)
      rw [hW1]
      have HOF := Lib.hid hOF
      have HBW1 := Lib.hid hbW1
      have h01 := hbW1.size
      obtain ⟨b2, hb2e⟩ : ∃ b, W0.heap.size = b := ⟨_, rfl⟩
      have HB2E := Lib.hid hb2e
      rw [hb2e] at HOF HBW1 hsb0 h01 ⊢
      clear hW1 hbW1 hOF hb2e l0 l1 ll
      obtain ⟨⟨l0, l1⟩, ll⟩ := HCE.out _ (HBr.out.trans (HBW1.out.mono (Nat.le_of_lt hsb0)))
      go_wp2_with fail
      go_loopw [9, 10] (fun v i wr => ∃ (k : Nat) (V2 : Value), V2 = v ∧ i = .int .i64 k ∧ k ≤ x.es.length ∧ Hid (wr.ownsRow b2 3 1 V2 (frI x.es p k).length ((frI x.es p k).map (Value.int .i64))) ∧ Below b2 W1 wr) (fun _ i _ => x.es.length - (intOf i).toNat)
      case atStart => exact ⟨0, _, rfl, rfl, by omega, (by show W1.ownsRow _ _ _ _ _ _; simpa [frI, frTo] using HOF.out), Below.refl _ _⟩
      case round =>
        obtain ⟨k, V2, rfl, rfl, hk, HO2, hbr2⟩ := hrel
        have HB1 := Lib.hid (HBr.out.trans ((HBW1.out.trans hbr2).mono (Nat.le_of_lt hsb0)))
        clear l0 l1 ll
        obtain ⟨⟨l0, l1⟩, ll⟩ := HCE.out _ HB1.out
        have hfl := frI_len x.es p k
        by_cases hlk : k < x.es.length
        · obtain ⟨bE, oE, e, hAE, hbE, hee, f0, f1, f2, f3⟩ := (HX.out _ HB1.out).ed hlk
          subst hAE
          have HFS := Lib.hid (frI_succ (v := p) hee)
          have HBr2 := Lib.hid hbr2
          have hfl2 : (frI x.es p k).length ≤ 1000000 := by omega
          have hsb2 : b2 ≤ wr.heap.size := by have := hbr2.size; omega
          clear hee hbr2
          obtain ⟨ef, et, ew, ec⟩ := e
          simp only at f0 f1 f2 f3 HFS
          by_cases hfr : ef = p
          · have z1 : (ef == p) = true := by simpa using hfr
            rw [if_pos hfr] at HFS
            clear hfr
            go_wp2_with (first | (at_builtin; refine wpList_app1 rfl _ _ 31 rfl (b2) 3 j0 _ 1 8 Try.underlying31 hj hy0 hy1 hy2 rfl (by decide) _ _ _ rfl wr [.int .i64 (k : Int)] rfl HO2.out _ rfl (by simp) rfl (by simp [Value.oneCell']) hfl2 (by decide) hsb2 ?_; intro v5 w5 hown5 hb5 ha5))
            go_roundw
            case rel => exact ⟨k + 1, _, rfl, by go_num, by omega, (by show w5.ownsRow _ _ _ _ _ _; rw [HFS.out, List.length_append, List.map_append]; exact hown5), HBr2.out.trans hb5⟩
            case measure => simp [intOf]; omega
          · have z1 : (ef == p) = false := by simpa using hfr
            rw [if_neg hfr] at HFS
            clear hfr
            go_wp2_with fail
            go_roundw
            case rel => exact ⟨k + 1, V2, rfl, by go_num, by omega, (by show wr.ownsRow _ _ _ _ _ _; rw [HFS.out]; exact HO2.out), HBr2.out⟩
            case measure => simp [intOf]; omega
        · obtain rfl : k = x.es.length := by omega
          have HO3 : Hid (wr.ownsRow b1 3 1 V j (o.map (Value.int .i64))) := own_below HOV.out (by rw [HB2E.out]; exact HBW1.out.trans hbr2)
          obtain ⟨n7, hn7⟩ : ∃ n, (frI x.es p x.es.length).length = n := ⟨_, rfl⟩
          have h7 : 1 ≤ n7 := by
            rcases Nat.eq_zero_or_pos n7 with h | h
            · exact absurd (List.length_eq_zero_iff.1 (hn7.trans h)) (HFU.out p hp0 hlt)
            · exact h
          have h71 : n7 ≤ 1000 := by omega
          rw [hn7] at HO2
          have HN7 := Lib.hid hn7
          obtain ⟨AF, cF, hVF, hcF, hcmF, hsF⟩ := own_ints HO2.out hn7.symm
          have HSF := Lib.hid hsF
          have HO2 : Hid (wr.ownsRow W0.heap.size 3 1 (.slice AF n7 cF) n7 ((frI x.es p x.es.length).map (Value.int .i64))) := by show wr.ownsRow _ _ _ _ _ _; rw [HB2E.out, ← hVF]; exact HO2.out
          subst hVF
          have z7 : ((n7 : Int) == 0) = false := by simp; omega
          have z8 : ¬ (n7 : Int) = 0 := by omega
          have hwr1 : wr.heap.size ≥ b2 := by have := hbr2.size; omega
          clear hn7 hsF hbr2
          by_cases hjl : j < l.length
          · obtain ⟨bC, oC, y, hAC, hbC, hyy, dC⟩ := (HC.out _ HB1.out).u8 hjl
            subst hAC
            have hyb := HLB.out y (List.mem_of_getElem? hyy)
            obtain ⟨q, hq⟩ : ∃ q : Nat, y % (n7 : Int) = (q : Int) := ⟨(y % (n7 : Int)).toNat, by have := Int.emod_nonneg y (show (n7 : Int) ≠ 0 by omega); omega⟩
            have hql : q < n7 := by have := Int.emod_lt_of_pos y (show (0 : Int) < (n7 : Int) by omega); omega
            have hqt : y.tmod (n7 : Int) = (q : Int) := by rw [Int.tmod_eq_emod_of_nonneg hyb.1]; exact hq
            have hyw : IntKind.i64.wrap y = y := IntWalk.i64_in _ (by omega)
            have hjl' : (j : Int) < (l.length : Int) := by omega
            clear hyy hq
            have hqI : (q : Int) < (n7 : Int) := by omega
            have hq0 : (0 : Int) ≤ (q : Int) := by omega
            have hqw : IntKind.i64.wrap (q : Int) = (q : Int) := IntWalk.i64_in _ (by omega)
            obtain ⟨bF, oF, kv, hAF, hbF, hkv, dF⟩ := HSF.out.int (k := q) (by rw [HN7.out]; exact hql)
            subst hAF
            obtain ⟨kk, e, hkk, hee, hefr⟩ := frI_mem (List.mem_of_getElem? hkv)
            subst hkk
            have hkkl := (List.getElem?_eq_some_iff.1 hee).1
            have hkkI : (kk : Int) < (x.es.length : Int) := by omega
            have hkk0 : (0 : Int) ≤ (kk : Int) := by omega
            have hokE := (HOK.out.2.2.1 e (List.mem_of_getElem? hee)).1
            have HWN := Lib.hid (HWT.out.snoc hee hefr)
            have HEE := Lib.hid hee
            obtain ⟨ef, et, ew, ec⟩ := e
            simp only at hokE hefr HWN
            have hneF : V.ownBlock ≠ some bF := own_lt HOV.out (by rw [HB2E.out]; exact own_block_le HO2.out bF rfl)
            have hjw : j ≤ 1000000 := by omega
            have hbs : b1 ≤ wr.heap.size := by have := HB1.out.size; omega
            have hfl' := hbF
            clear hkv hee
            go_upto_region 17 with (at_builtin; refine wpList_app1 rfl _ _ 31 rfl (b1) 3 j0 _ 1 8 Try.underlying31 hj hy0 hy1 hy2 rfl (by decide) _ _ _ rfl wr [.int .i64 (kk : Int)] rfl HO3.out _ rfl (by simp) rfl (by simp [Value.oneCell']) hjw (by decide) hbs ?_; intro v5 W5 hown5 hb5 ha5)
            have HB5 := Lib.hid (HB1.out.trans hb5)
            have HO5 : Hid (W5.ownsRow b1 3 1 v5 (j + 1) ((o ++ [(kk : Int)]).map (Value.int .i64))) := by show W5.ownsRow _ _ _ _ _ _; rw [List.map_append]; exact hown5
            have dF5 : W5.cell? ⟨bF, oF + q, none⟩ = some (.int .i64 (kk : Int)) := (World.cell?_of_block (ha5.keep bF hbF hneF)).trans dF
            have hbF5 : bF < W5.heap.size := Nat.lt_of_lt_of_le hbF hb5.size
            obtain ⟨b9, off9, e9, hA9, hb9, hee9, f0, f1, f2, f3⟩ := (HX.out W5 HB5.out).ed hkkl
            rw [HEE.out] at hee9
            obtain rfl := Option.some.inj hee9
            subst hA9
            simp only at f0 f1 f2 f3
            obtain ⟨⟨l0, l1⟩, ll⟩ := HCE.out _ HB5.out
            clear hown5 hb5 ha5 dF
            refine ordB_below (.quiet 0 (.quiet 1 (.quiet 2 (.quiet 3 (.quiet 4 (.quiet 5 (.quiet 6 (.quiet 7 (.quiet 8 (.quiet 9 .done)))))))))) (by kernel_rfl) (by kernel_rfl) (by kernel_rfl) (fun _ _ _ _ _ h => h) ?_
            intro V0 hV0
            iterate 10 (first
              | (refine ordB_skip rfl rfl ?_; simp only [Act.put, List.setIfInBounds_toArray, List.set_cons_zero, List.set_cons_succ])
              | (refine ordB_take (v := ?_) rfl rfl ?_ ?_
                 rotate_left 1
                 focus (intro W hW; obtain ⟨hcW, hfW⟩ := bcell hW; (go_simp <;> with_reducible rfl))
                 simp only [Act.put, List.setIfInBounds_toArray, List.set_cons_zero, List.set_cons_succ]))
            refine ordB_nil ?_
            have HBE := Lib.hid (HB5.out.trans (hV0.mono (show b1 ≤ W5.heap.size by have := HB5.out.size; have := HSZ.out; omega)))
            have HOE := Lib.hid (own_below HO5.out hV0)
            go_wp2_with fail
            go_roundw
            case rel => exact ⟨j + 1, et, o ++ [(kk : Int)], _, rfl, rfl, by go_num, by omega, by rw [List.length_append, HOJ.out]; rfl, by omega, by omega, by omega, HWN.out, (by show Hid _; exact HOE), HBE.out⟩
            case measure => simp [intOf]; omega
          · have hjl' : ¬ (j : Int) < (l.length : Int) := by omega
            have h7' : 0 < n7 := h7
            have hqI : (0 : Int) < (n7 : Int) := by omega
            have hq0 : (0 : Int) ≤ (0 : Int) := by omega
            have hqw : IntKind.i64.wrap (0 : Int) = (0 : Int) := IntWalk.i64_in _ (by omega)
            obtain ⟨bF, oF, kv, hAF, hbF, hkv, dF⟩ := HSF.out.int (k := 0) (by rw [HN7.out]; exact h7)
            rw [Nat.add_zero] at dF
            subst hAF
            obtain ⟨kk, e, hkk, hee, hefr⟩ := frI_mem (List.mem_of_getElem? hkv)
            subst hkk
            have hkkl := (List.getElem?_eq_some_iff.1 hee).1
            have hkkI : (kk : Int) < (x.es.length : Int) := by omega
            have hkk0 : (0 : Int) ≤ (kk : Int) := by omega
            have hokE := (HOK.out.2.2.1 e (List.mem_of_getElem? hee)).1
            have HWN := Lib.hid (HWT.out.snoc hee hefr)
            have HEE := Lib.hid hee
            obtain ⟨ef, et, ew, ec⟩ := e
            simp only at hokE hefr HWN
            have hneF : V.ownBlock ≠ some bF := own_lt HOV.out (by rw [HB2E.out]; exact own_block_le HO2.out bF rfl)
            have hjw : j ≤ 1000000 := by omega
            have hbs : b1 ≤ wr.heap.size := by have := HB1.out.size; omega
            have hfl' := hbF
            clear hkv hee
            go_upto_region 17 with (at_builtin; refine wpList_app1 rfl _ _ 31 rfl (b1) 3 j0 _ 1 8 Try.underlying31 hj hy0 hy1 hy2 rfl (by decide) _ _ _ rfl wr [.int .i64 (kk : Int)] rfl HO3.out _ rfl (by simp) rfl (by simp [Value.oneCell']) hjw (by decide) hbs ?_; intro v5 W5 hown5 hb5 ha5)
            have HB5 := Lib.hid (HB1.out.trans hb5)
            have HO5 : Hid (W5.ownsRow b1 3 1 v5 (j + 1) ((o ++ [(kk : Int)]).map (Value.int .i64))) := by show W5.ownsRow _ _ _ _ _ _; rw [List.map_append]; exact hown5
            have dF5 : W5.cell? ⟨bF, oF, none⟩ = some (.int .i64 (kk : Int)) := (World.cell?_of_block (ha5.keep bF hbF hneF)).trans dF
            have hbF5 : bF < W5.heap.size := Nat.lt_of_lt_of_le hbF hb5.size
            obtain ⟨b9, off9, e9, hA9, hb9, hee9, f0, f1, f2, f3⟩ := (HX.out W5 HB5.out).ed hkkl
            rw [HEE.out] at hee9
            obtain rfl := Option.some.inj hee9
            subst hA9
            simp only at f0 f1 f2 f3
            obtain ⟨⟨l0, l1⟩, ll⟩ := HCE.out _ HB5.out
            clear hown5 hb5 ha5 dF
            refine ordB_below (.quiet 0 (.quiet 1 (.quiet 2 (.quiet 3 (.quiet 4 (.quiet 5 (.quiet 6 (.quiet 7 (.quiet 8 (.quiet 9 .done)))))))))) (by kernel_rfl) (by kernel_rfl) (by kernel_rfl) (fun _ _ _ _ _ h => h) ?_
            intro V0 hV0
            iterate 10 (first
              | (refine ordB_skip rfl rfl ?_; simp only [Act.put, List.setIfInBounds_toArray, List.set_cons_zero, List.set_cons_succ])
              | (refine ordB_take (v := ?_) rfl rfl ?_ ?_
                 rotate_left 1
                 focus (intro W hW; obtain ⟨hcW, hfW⟩ := bcell hW; (go_simp <;> with_reducible rfl))
                 simp only [Act.put, List.setIfInBounds_toArray, List.set_cons_zero, List.set_cons_succ]))
            refine ordB_nil ?_
            have HBE := Lib.hid (HB5.out.trans (hV0.mono (show b1 ≤ W5.heap.size by have := HB5.out.size; have := HSZ.out; omega)))
            have HOE := Lib.hid (own_below HO5.out hV0)
            go_wp2_with fail
            go_roundw
            case rel => exact ⟨j + 1, et, o ++ [(kk : Int)], _, rfl, rfl, by go_num, by omega, by rw [List.length_append, HOJ.out]; rfl, by omega, by omega, by omega, HWN.out, (by show Hid _; exact HOE), HBE.out⟩
            case measure => simp [intOf]; omega
    · have hpe : p = x.n := by omega
      have HWE : Hid (WayTo x 0 o x.n) := hpe ▸ HWT.out
      obtain ⟨AV, cV, hV, hcV, hcmV, hsV⟩ := own_ints HOV.out HOJ.out.symm
      have HE := Lib.hid (And.intro hcV hcmV)
      have HSV := Lib.hid hsV
      subst hV
      clear hsV hpe hcV hcmV
      have z1 : decide (p < x.n) = false := decide_eq_false hlt
      by_cases h40 : j < 40
      · have z2 : (j : Int) < 40 := by omega
        go_wp2_with fail
        go_ret2
        exact ⟨AV, cV, o, by rw [HOJ.out]; rfl, HSV.out, HWE.out, by rw [HOJ.out]; exact hj40, by rw [HOJ.out]; exact HE.out.1, HE.out.2, HBW.out.trans (HBr.out.mono (Nat.le_of_lt hLb))⟩
      · have z2 : ¬ (j : Int) < 40 := by omega
        go_wp2_with fail
        go_ret2
        exact ⟨AV, cV, o, by rw [HOJ.out]; rfl, HSV.out, HWE.out, by rw [HOJ.out]; exact hj40, by rw [HOJ.out]; exact HE.out.1, HE.out.2, HBW.out.trans (HBr.out.mono (Nat.le_of_lt hLb))⟩
end Go.Proofs.Ytfjkmgjjifhdkaa
