/-
  The walks of layer 20: the nodes of a lattice's graph for the reference, and its search among them.
-/
import Derived.Test.YtcimnkijpifkjaaQ16
namespace Go.Proofs.Ytcimnkijpifkjaa
open Go Go.RowKit

theorem endsE_true {x : La} {p w : Int} {e : Ed} (h : e ∈ x.es) (h1 : e.to = p) (h2 : e.wd = w) : cx_endsB x p w = true := List.any_eq_true.2 ⟨e, h, by simp [h1, h2]⟩
theorem endsE_false {x : La} {p w : Int} (h : ∀ e ∈ x.es, ¬ (e.to = p ∧ e.wd = w)) : cx_endsB x p w = false := by
  unfold cx_endsB
  rw [List.any_eq_false]
  intro e he
  simpa using h e he
set_option maxRecDepth 100000 in
set_option maxHeartbeats 8000000 in
theorem ends_any (x : La) (A : Option Addr) (c : Nat) (p q : Int) (w : World) (hx : SlR 4 REd w A x.es) (hl : x.es.length ≤ maxLen) :
    Calls Try.prog 43 #[.agg #[.int .i64 x.n, .slice A x.es.length c], .agg #[.int .i64 p, .int .i64 q]] w fun e w' => e = .returned (.bool (cx_endsB x p q)) ∧ Below w.heap.size w w' := by
  unfold maxLen at hl
  obtain ⟨w2, hw2⟩ : ∃ w2, (w.alloc (.cells #[.int .i64 x.n, .slice A x.es.length c] 38)).alloc (.cells #[.int .i64 p, .int .i64 q] 97) = w2 := ⟨_, rfl⟩
  have hb2 : Below w.heap.size w w2 := by rw [← hw2]; exact nw _ (nw _ (Below.refl _ _))
  have hLB : Blk w2 w.heap.size 38 #[.int .i64 x.n, .slice A x.es.length c] := by rw [← hw2]; exact (Blk.new _ _ _).alloc _
  have hNB : Blk w2 (w.heap.size + 1) 97 #[.int .i64 p, .int .i64 q] := by rw [← hw2]; exact Blk.new_ (by simp)
  have HW2 := Lib.hid hw2
  have HB2 := Lib.hid hb2
  have HBX : Hid (∀ W, Below w2.heap.size w2 W → (W.cell? ⟨w.heap.size, 0, none⟩ = some (.int .i64 x.n) ∧ W.cell? ⟨w.heap.size, 1, none⟩ = some (.slice A x.es.length c)) ∧ (W.cell? ⟨w.heap.size + 1, 0, none⟩ = some (.int .i64 p) ∧ W.cell? ⟨w.heap.size + 1, 1, none⟩ = some (.int .i64 q)) ∧ w.heap.size < W.heap.size ∧ w.heap.size + 1 < W.heap.size) := fun W hW => by
    have e1 := hLB.below hW hLB.lt
    have e2 := hNB.below hW hNB.lt
    exact ⟨⟨by rw [e1.cell]; rfl, by rw [e1.cell]; rfl⟩, ⟨by rw [e2.cell]; rfl, by rw [e2.cell]; rfl⟩, e1.lt, e2.lt⟩
  clear hw2 hb2 hLB hNB
  obtain ⟨⟨l0, l1⟩, ⟨p0, p1⟩, ll, pl⟩ := HBX.out _ (Below.refl _ _)
  go_enter Try.func43, Try.ntmps43
  go_upto_region 1 with fail
  rw [HW2.out]
  clear l0 l1 p0 p1 ll pl
  go_wp2_with fail
  go_loopw [5] (fun i wr => ∃ k : Nat, k ≤ x.es.length ∧ Hid (∀ e ∈ x.es.take k, ¬ (e.to = p ∧ e.wd = q)) ∧ i = .int .i64 k ∧ Below w2.heap.size w2 wr) (fun i _ => x.es.length - (intOf i).toNat)
  case atStart => exact ⟨0, by omega, (by show ∀ e ∈ x.es.take 0, _; simp), rfl, Below.refl _ _⟩
  case round =>
    obtain ⟨k, hk, HS, rfl, hbr⟩ := hrel
    have HBr := Lib.hid hbr
    obtain ⟨⟨l0, l1⟩, ⟨p0, p1⟩, ll, pl⟩ := HBX.out _ hbr
    by_cases hlt : k < x.es.length
    · obtain ⟨b, off, e, rfl, hbb, hee, d0, d1, d2, d3⟩ := (hx.below keeps_ed (bthen HB2.out hbr)).ed hlt
      have HL := Lib.hid hee
      have hkI : (k : Int) < (x.es.length : Int) := by omega
      have hk0 : (0 : Int) ≤ (k : Int) := by omega
      obtain ⟨t, ht⟩ : ∃ t, e.to = t := ⟨_, rfl⟩
      obtain ⟨u, hu⟩ : ∃ u, e.wd = u := ⟨_, rfl⟩
      rw [ht] at d1
      rw [hu] at d2
      have HT := Lib.hid ht
      have HU := Lib.hid hu
      clear hee ht hu hbr
      have HNO : Hid (¬ (t = p ∧ u = q) → ∀ e ∈ x.es.take (k + 1), ¬ (e.to = p ∧ e.wd = q)) := fun hn e' he' => by
        rw [take_snoc_of HL.out] at he'
        rcases List.mem_append.1 he' with h | h
        · exact HS.out e' h
        · rw [List.mem_singleton.1 h, HT.out, HU.out]; exact hn
      by_cases h1 : t = p
      · by_cases h2 : u = q
        · have HR : Hid (cx_endsB x p q = true) := endsE_true (List.mem_of_getElem? HL.out) (HT.out.trans h1) (HU.out.trans h2)
          have z1 : (t == p) = true := by simpa using h1
          have z2 : (u == q) = true := by simpa using h2
          clear h1 h2
          go_upto_region 4 with fail
          refine ordB_below (.quiet 0 (.quiet 1 (.quiet 2 (.quiet 3 (.quiet 4 (.quiet 5 (.quiet 6 (.quiet 7 (.quiet 8 (.quiet 9 (.quiet 10 (.quiet 11 (.quiet 12 (.quiet 13 (.quiet 14 (.quiet 15 (.quiet 16 (.quiet 17 (.quiet 18 (.quiet 19 .done)))))))))))))))))))) (by kernel_rfl) (by kernel_rfl) (by kernel_rfl) (fun _ _ _ _ _ h => h) ?_
          intro V0 hV0
          iterate 20 (first
            | (refine ordB_skip rfl rfl ?_; simp only [Act.put, List.setIfInBounds_toArray, List.set_cons_zero, List.set_cons_succ])
            | (refine ordB_take (v := ?_) rfl rfl ?_ ?_
               rotate_left 1
               focus (intro W hW; obtain ⟨hcW, hfW⟩ := bcell hW; (go_simp <;> with_reducible rfl))
               simp only [Act.put, List.setIfInBounds_toArray, List.set_cons_zero, List.set_cons_succ]))
          refine ordB_nil ?_
          have HBE := Lib.hid (HBr.out.trans (hV0.mono HBr.out.size))
          go_wp2_with fail
          go_ret
          exact ⟨by rw [HR.out]; rfl, bthen HB2.out HBE.out⟩
        · have HES := Lib.hid (HNO.out fun h => h2 h.2)
          have z1 : (t == p) = true := by simpa using h1
          have z2 : (u == q) = false := by simpa using h2
          clear h1 h2
          go_upto_region 4 with fail
          refine ordB_below (.quiet 0 (.quiet 1 (.quiet 2 (.quiet 3 (.quiet 4 (.quiet 5 (.quiet 6 (.quiet 7 (.quiet 8 (.quiet 9 (.quiet 10 (.quiet 11 (.quiet 12 (.quiet 13 (.quiet 14 (.quiet 15 (.quiet 16 (.quiet 17 (.quiet 18 (.quiet 19 .done)))))))))))))))))))) (by kernel_rfl) (by kernel_rfl) (by kernel_rfl) (fun _ _ _ _ _ h => h) ?_
          intro V0 hV0
          iterate 20 (first
            | (refine ordB_skip rfl rfl ?_; simp only [Act.put, List.setIfInBounds_toArray, List.set_cons_zero, List.set_cons_succ])
            | (refine ordB_take (v := ?_) rfl rfl ?_ ?_
               rotate_left 1
               focus (intro W hW; obtain ⟨hcW, hfW⟩ := bcell hW; (go_simp <;> with_reducible rfl))
               simp only [Act.put, List.setIfInBounds_toArray, List.set_cons_zero, List.set_cons_succ]))
          refine ordB_nil ?_
          have HBE := Lib.hid (HBr.out.trans (hV0.mono HBr.out.size))
          go_wp2_with fail
          go_roundw
          case rel => exact ⟨k + 1, by omega, HES.out, by go_num, HBE.out⟩
          case measure => simp [intOf]; omega
      · have HES := Lib.hid (HNO.out fun h => h1 h.1)
        have z1 : (t == p) = false := by simpa using h1
        clear h1
        go_upto_region 4 with fail
        refine ordB_below (.quiet 0 (.quiet 1 (.quiet 2 (.quiet 3 (.quiet 4 (.quiet 5 (.quiet 6 (.quiet 7 (.quiet 8 (.quiet 9 (.quiet 10 (.quiet 11 (.quiet 12 (.quiet 13 (.quiet 14 (.quiet 15 (.quiet 16 (.quiet 17 (.quiet 18 (.quiet 19 .done)))))))))))))))))))) (by kernel_rfl) (by kernel_rfl) (by kernel_rfl) (fun _ _ _ _ _ h => h) ?_
        intro V0 hV0
        iterate 20 (first
          | (refine ordB_skip rfl rfl ?_; simp only [Act.put, List.setIfInBounds_toArray, List.set_cons_zero, List.set_cons_succ])
          | (refine ordB_take (v := ?_) rfl rfl ?_ ?_
             rotate_left 1
             focus (intro W hW; obtain ⟨hcW, hfW⟩ := bcell hW; (go_simp <;> with_reducible rfl))
             simp only [Act.put, List.setIfInBounds_toArray, List.set_cons_zero, List.set_cons_succ]))
        refine ordB_nil ?_
        have HBE := Lib.hid (HBr.out.trans (hV0.mono HBr.out.size))
        go_wp2_with fail
        go_roundw
        case rel => exact ⟨k + 1, by omega, HES.out, by go_num, HBE.out⟩
        case measure => simp [intOf]; omega
    · have HR : Hid (cx_endsB x p q = false) := by
        have := HS.out
        rw [List.take_of_length_le (by omega)] at this
        exact endsE_false this
      go_wp2_with fail
      go_ret
      exact ⟨by rw [HR.out]; rfl, bthen HB2.out HBr.out⟩
theorem node_info : (Try.prog.info? 97).map (fun i => (i.zero, i.size, i.bytes)) = some (some (.agg #[.int .i64 0, .int .i64 0]), 2, 16) := by kernel_rfl
set_option maxRecDepth 100000 in
set_option maxHeartbeats 8000000 in
theorem rnodes_any (x : La) (A : Option Addr) (c nwn : Nat) (prev : Int) (w : World) (hx : SlR 4 REd w A x.es) (hf : FitsL x nwn) (hnw : nwn ≤ 200) :
    Calls Try.prog 21 #[.agg #[.int .i64 x.n, .slice A x.es.length c], .int .i64 (nwn : Int), .int .i64 prev] w fun e w' => ∃ B c', e = .returned (.slice B (nodesL x prev).length c') ∧ SlR 2 RPt w' B (nodesL x prev) ∧ Below w.heap.size w w' := by
  obtain ⟨i0, hi, hz0, hz1, hz2⟩ := info_parts node_info
  have hlm : x.es.length ≤ maxLen := by have := hf.1.2.1; unfold maxLen; omega
  have hn40 := hf.1.1
  obtain ⟨w1, hw1⟩ : ∃ w1, w.alloc (.cells #[.int .i64 x.n, .slice A x.es.length c] 38) = w1 := ⟨_, rfl⟩
  have hb1 : Below w.heap.size w w1 := by rw [← hw1]; exact nw _ (Below.refl _ _)
  have hB1 : Blk w1 w.heap.size 38 #[.int .i64 x.n, .slice A x.es.length c] := by rw [← hw1]; exact Blk.new _ _ _
  have HW1 := Lib.hid hw1
  obtain ⟨w2, hw2⟩ : ∃ W, w1.alloc (.cells #[.int .i64 0, .int .i64 prev] 97) = W := ⟨_, rfl⟩
  have hb2 : Below w1.heap.size w1 w2 := by rw [← hw2]; exact nw _ (Below.refl _ _)
  have hO0 : w2.ownsRow w1.heap.size 97 2 (.slice (some ⟨w1.heap.size, 0, none⟩) 1 1) 1 [.int .i64 0, .int .i64 prev] := by rw [← hw2]; exact own_lit w1 #[.int .i64 0, .int .i64 prev] 97 2 1 w1.heap.size w1.heap.size rfl (Nat.le_refl _) rfl (by decide)
  have HWW := Lib.hid hw2
  obtain ⟨b1, hb1e⟩ : ∃ b, w1.heap.size = b := ⟨_, rfl⟩
  have hsz : w2.heap.size = b1 + 1 := by rw [← hw2]; simp; exact hb1e
  have hB2 := hB1.below hb2 hB1.lt
  have hLb : w.heap.size < b1 := by have := hB1.lt; omega
  have HBW := Lib.hid (bthen hb1 hb2)
  rw [hb1e] at hO0
  have HO0 := Lib.hid hO0
  have HSZ := Lib.hid hsz
  have HBE := Lib.hid hb1e
  have HX : Hid (∀ W, Below b1 w2 W → SlR 4 REd W A x.es) := fun W hW => hx.below keeps_ed (HBW.out.trans (hW.mono (Nat.le_of_lt hLb)))
  have HCE : Hid (∀ W, Below b1 w2 W → (W.cell? ⟨w.heap.size, 0, none⟩ = some (.int .i64 x.n) ∧ W.cell? ⟨w.heap.size, 1, none⟩ = some (.slice A x.es.length c)) ∧ w.heap.size < W.heap.size) := fun W hW => by
    have e1 := hB2.below hW hLb
    exact ⟨⟨by rw [e1.cell]; rfl, by rw [e1.cell]; rfl⟩, e1.lt⟩
  have HF := Lib.hid hf
  have HEN : Hid (∀ W p q, Below b1 w2 W → Calls Try.prog 43 #[.agg #[.int .i64 x.n, .slice A x.es.length c], .agg #[.int .i64 p, .int .i64 q]] W fun e w' => e = .returned (.bool (cx_endsB x p q)) ∧ Below W.heap.size W w') := fun W p q hW => ends_any x A c p q W (HX.out W hW) hlm
  have HST := PartN.start hf
  have c0 := hB1.cell 0
  have c1 := hB1.cell 1
  have lb := hB1.lt
  simp at c0 c1
  clear hw1 hw2 hb1e hb1 hb2 hO0 hsz hB2 hx hf
  go_enter Try.func21, Try.ntmps21
  go_upto_region 1 with fail
  rw [HW1.out]
  go_upto_region 2 with fail
  rw [HWW.out, HBE.out]
  clear c0 c1 lb
  go_wp2_with fail
  go_loopw [7, 8] (fun v pv wr => ∃ (p : Int) (t : List Pt) (V : Value), V = v ∧ pv = .int .i64 p ∧ 1 ≤ p ∧ (p ≤ x.n ∨ (x.n = 0 ∧ p = 1 ∧ t = [])) ∧ Hid (PartN x p 0 t) ∧ (t.length : Int) ≤ 200 * (p - 1) ∧ Hid (wr.ownsRow b1 97 2 V (1 + t.length) (((0, prev) :: t).flatMap encPt)) ∧ Below b1 w2 wr) (fun _ pv _ => (x.n - intOf pv).toNat)
  case atStart => exact ⟨1, [], _, rfl, rfl, by omega, (by
    rcases (show x.n = 0 ∨ 1 ≤ x.n by omega) with h | h
    · exact .inr ⟨h, rfl, rfl⟩
    · exact .inl h), HST, by simp, HO0, Below.refl _ _⟩
  case round =>
    obtain ⟨p, t, V, rfl, rfl, hp1, hpx, HP, htl, HO, hbr⟩ := hrel
    obtain ⟨⟨l0, l1⟩, ll⟩ := HCE.out _ hbr
    by_cases hlt : p < x.n
    · have hpx2 : p ≤ x.n := by omega
      go_wp2_with fail
      go_loopw [7, 9] (fun v qv wr => ∃ (q : Nat) (t : List Pt) (V : Value), V = v ∧ qv = .int .i64 (q : Int) ∧ q ≤ nwn ∧ Hid (PartN x p (q : Int) t) ∧ (t.length : Int) ≤ 200 * (p - 1) + q ∧ Hid (wr.ownsRow b1 97 2 V (1 + t.length) (((0, prev) :: t).flatMap encPt)) ∧ Below b1 w2 wr) (fun _ qv _ => nwn - (intOf qv).toNat)
      case atStart => exact ⟨0, t, _, rfl, rfl, by omega, HP, by omega, HO, hbr⟩
      case round =>
        obtain ⟨wr2, rfl⟩ : ∃ V, V = wr := ⟨wr, rfl⟩
        obtain ⟨q, t, V, rfl, rfl, hq, HP, htl, HO, hbr2⟩ := hrel
        clear l0 l1 ll
        obtain ⟨⟨l0, l1⟩, ll⟩ := HCE.out _ hbr2
        by_cases hq2 : q < nwn
        · have HEC := Lib.hid (HEN.out wr2 p (q : Int) hbr2)
          have HAR := Lib.hid (cx_endsB_iff (x := x) (p := p) (w := (q : Int)) hlt)
          obtain ⟨v, hv⟩ : ∃ v, cx_endsB x p (q : Int) = v := ⟨_, rfl⟩
          rw [hv] at HEC HAR
          have hsb : b1 ≤ wr2.heap.size := by have := hbr2.size; have := HSZ.out; omega
          have HB2r := Lib.hid hbr2
          have hpw : IntKind.i64.wrap p = p := IntWalk.i64_in _ (by omega)
          have htl2 : 1 + t.length ≤ 1000000 := by omega
          clear hv hbr2
          cases v with
          | false =>
            have HPN := Lib.hid (HP.out.miss fun h => by have := HAR.out.2 h; cases this)
            go_wp2_with (go_at_call 43; go_loud (refine HEC.out.mono ?_; rintro e w3 ⟨rfl, hb3⟩))
            go_roundw
            case rel => exact ⟨q + 1, t, _, rfl, by go_num, by omega, HPN.out, by omega, own_below HO.out hb3, HB2r.out.trans (hb3.mono hsb)⟩
            case measure => simp [intOf]; omega
          | true =>
            have HPN := Lib.hid (HP.out.hit (HAR.out.1 rfl))
            go_wp2_with (first | (go_at_call 43; go_loud (refine HEC.out.mono ?_; rintro e w3 ⟨rfl, hb3⟩; have hs3 := hb3.size)) | (at_builtin; refine wpList_app1 rfl _ _ 63 rfl (b1) 97 i0 _ 2 16 Try.underlying63 hi hz0 hz1 hz2 rfl (by decide) _ _ _ rfl w3 [.int .i64 p, .int .i64 (q : Int)] rfl (own_below HO.out hb3) _ rfl (by simp) rfl (by simp [Value.oneCell']) htl2 (by decide) (by omega) ?_; intro v3 w4 hown2 hb4 ha4))
            go_roundw
            case rel => exact ⟨q + 1, t ++ [(p, (q : Int))], _, rfl, by go_num, by omega, HPN.out, by simp; omega, (by
              show w4.ownsRow _ _ _ _ _ _
              rw [List.length_append, ← List.cons_append, flat_snoc]
              exact hown2), (HB2r.out.trans (hb3.mono hsb)).trans hb4⟩
            case measure => simp [intOf]; omega
        · obtain rfl : q = nwn := by omega
          have HPN := Lib.hid (HP.out.next HF.out)
          have hpw : IntKind.i64.wrap (p + 1) = p + 1 := IntWalk.i64_in _ (by omega)
          have HB2r := Lib.hid hbr2
          clear hbr2
          go_wp2_with fail
          go_roundw
          case rel => exact ⟨p + 1, t, _, rfl, by first | rfl | go_num, by omega, by omega, HPN.out, by omega, HO.out, HB2r.out⟩
          case measure => simp [intOf]; omega
    · have HBr := Lib.hid hbr
      by_cases hn : x.n = 0
      · have ht : t = [] := by
          rcases hpx with h | h
          · omega
          · exact h.2.2
        have HR : Hid (nodesL x prev = [(0, prev)]) := by show _ = _; unfold nodesL tailL; rw [if_pos hn]
        subst ht
        obtain ⟨B, c', he, _, _, hs⟩ := own_slr (α := Pt) (enc := encPt) (R := RPt) (xs := [(0, prev)]) HO.out (fun _ => rfl) (fun _ => rfl) rfl
        have HS := Lib.hid hs
        have z1 : ¬ 0 < x.n := by omega
        subst he
        clear hn hbr hs
        go_wp2_with fail
        go_ret
        rw [HR.out]
        exact ⟨_, ⟨_, rfl⟩, HS.out, HBW.out.trans (HBr.out.mono (Nat.le_of_lt hLb))⟩
      · have hpn : p = x.n := by omega
        have HR : Hid (nodesL x prev = ((0, prev) :: t) ++ [(x.n, -1)]) := by
          show _ = _
          unfold nodesL
          rw [← HP.out.all HF.out (by omega) hpn]
          rfl
        have z1 : 0 < x.n := by omega
        have hsb : b1 ≤ wr.heap.size := by have := hbr.size; have := HSZ.out; omega
        have htl2 : 1 + t.length ≤ 1000000 := by omega
        clear hn hpn hbr hpx hp1
        go_wp2_with (first | (at_builtin; refine wpList_app1 rfl _ _ 63 rfl (b1) 97 i0 _ 2 16 Try.underlying63 hi hz0 hz1 hz2 rfl (by decide) _ _ _ rfl wr [.int .i64 x.n, .int .i64 (-1)] rfl HO.out _ rfl (by simp) rfl (by simp [Value.oneCell']) htl2 (by decide) hsb ?_; intro v3 w4 hown2 hb4 ha4))
        go_ret
        have hO4 : w4.ownsRow b1 97 2 v3 (1 + t.length + 1) ((((0, prev) :: t) ++ [(x.n, -1)]).flatMap encPt) := by rw [flat_snoc]; exact hown2
        obtain ⟨B, c', he, _, _, hs⟩ := own_slr (α := Pt) (enc := encPt) (R := RPt) hO4 (fun _ => rfl) (fun _ => rfl) (by simp; omega)
        subst he
        rw [HR.out]
        have hL : List.length ((0, prev) :: t ++ [(x.n, (-1 : Int))]) = 1 + t.length + 1 := by simp; omega
        exact ⟨B, ⟨c', by rw [hL]; rfl⟩, hs, HBW.out.trans ((HBr.out.trans hb4).mono (Nat.le_of_lt hLb))⟩
set_option maxRecDepth 100000 in
set_option maxHeartbeats 8000000 in
theorem rfind_any (x : La) (A : Option Addr) (c : Nat) (prev : Int) (B : Option Addr) (cB : Nat) (e : Ed) (nl : Nat) (w : World) (hok : LaOK x) (he : e ∈ x.es) (hn : SlR 2 RPt w B (nodesL x prev)) (hnl : (nodesL x prev).length = nl) (hnm : nl ≤ 1000000) :
    Calls Try.prog 37 #[.slice B nl cB, .agg #[.int .i64 x.n, .slice A x.es.length c], vEd e] w fun r w' => r = .returned (.int .i64 (ixL (nodesL x prev) (arrL x.n e) : Int)) ∧ Below w.heap.size w w' := by
  obtain ⟨w2, hw2⟩ : ∃ w2, (w.alloc (.cells #[.int .i64 x.n, .slice A x.es.length c] 38)).alloc (.cells #[.int .i64 e.fr, .int .i64 e.to, .int .i64 e.wd, .int .i64 e.co] 43) = w2 := ⟨_, rfl⟩
  have hb2 : Below w.heap.size w w2 := by rw [← hw2]; exact nw _ (nw _ (Below.refl _ _))
  have hLB : Blk w2 w.heap.size 38 #[.int .i64 x.n, .slice A x.es.length c] := by rw [← hw2]; exact (Blk.new _ _ _).alloc _
  have hEB : Blk w2 (w.heap.size + 1) 43 #[.int .i64 e.fr, .int .i64 e.to, .int .i64 e.wd, .int .i64 e.co] := by rw [← hw2]; exact Blk.new_ (by simp)
  have HW2 := Lib.hid hw2
  have HB2 := Lib.hid hb2
  have hin := arr_in hok prev he
  have hig := ix_get hin
  have HFI : Hid (∀ j p, 1 ≤ j → (nodesL x prev)[j]? = some p → ((p.1 = e.to ∧ (e.to = x.n ∨ p.2 = e.wd)) ↔ p = arrL x.n e)) := fun j p hj hp => find_iff hok he hj hp
  have hnd := nodesL_nodup hok prev
  have hix1 : 1 ≤ ixL (nodesL x prev) (arrL x.n e) := by
    rcases Nat.eq_zero_or_pos (ixL (nodesL x prev) (arrL x.n e)) with h | h
    · exfalso
      rw [h, node_first] at hig
      have h2 := Option.some.inj hig
      have h3 := (hok.2.2.1 e he).1
      unfold arrL at h2
      split at h2
      · have := congrArg Prod.fst h2; simp at this; omega
      · have := congrArg Prod.fst h2; simp at this; omega
    · exact h
  have HIG : Hid ((nodesL x prev)[ixL (nodesL x prev) (arrL x.n e)]? = some (arrL x.n e)) := hig
  have HND := Lib.hid hnd
  obtain ⟨nd, hndE⟩ : ∃ nd, nodesL x prev = nd := ⟨_, rfl⟩
  obtain ⟨ap, hap⟩ : ∃ p, arrL x.n e = p := ⟨_, rfl⟩
  rw [hndE] at hn hnl HFI HND HIG hix1 ⊢
  rw [hap] at HFI HIG hix1 ⊢
  have HNL := Lib.hid hnl
  have HN2 : Hid (∀ W, Below w2.heap.size w2 W → SlR 2 RPt W B nd) := fun W hW => hn.below keeps_pt (bthen HB2.out hW)
  have HCE : Hid (∀ W, Below w2.heap.size w2 W → W.cell? ⟨w.heap.size, 0, none⟩ = some (.int .i64 x.n) ∧ (W.cell? ⟨w.heap.size + 1, 1, none⟩ = some (.int .i64 e.to) ∧ W.cell? ⟨w.heap.size + 1, 2, none⟩ = some (.int .i64 e.wd)) ∧ w.heap.size < W.heap.size ∧ w.heap.size + 1 < W.heap.size) := fun W hW => by
    have e1 := hLB.below hW hLB.lt
    have e2 := hEB.below hW hEB.lt
    exact ⟨by rw [e1.cell]; rfl, ⟨by rw [e2.cell]; rfl, by rw [e2.cell]; rfl⟩, e1.lt, e2.lt⟩
  obtain ⟨et, het⟩ : ∃ t, e.to = t := ⟨_, rfl⟩
  obtain ⟨ew, hew⟩ : ∃ t, e.wd = t := ⟨_, rfl⟩
  rw [het] at HFI HCE
  rw [hew] at HFI HCE
  clear hw2 hb2 hLB hEB hin hig hnd hndE hap hnl hn het hew
  go_enter Try.func37, Try.ntmps37
  go_upto_region 1 with fail
  rw [HW2.out]
  go_wp2_with fail
  go_loopw [7] (fun i wr => ∃ k : Nat, 1 ≤ k ∧ k ≤ nl ∧ k ≤ ixL nd ap ∧ i = .int .i64 k ∧ Below w2.heap.size w2 wr) (fun i _ => nl - (intOf i).toNat)
  case atStart => exact ⟨1, Nat.le_refl _, by have := (List.getElem?_eq_some_iff.1 HIG.out).1; rw [HNL.out] at this; omega, hix1, rfl, Below.refl _ _⟩
  case round =>
    obtain ⟨k, hk1, hk, hki, rfl, hbr⟩ := hrel
    have HBr := Lib.hid hbr
    have hkl : k < nl := by have := (List.getElem?_eq_some_iff.1 HIG.out).1; rw [HNL.out] at this; omega
    obtain ⟨l0, ⟨e1, e2⟩, ll, el⟩ := HCE.out _ hbr
    obtain ⟨b, off, p, rfl, hbb, hpp, d0, d1⟩ := (HN2.out _ hbr).pt (k := k) (by rw [HNL.out]; exact hkl)
    have HIF := Lib.hid (HFI.out k p hk1 hpp)
    have HPP := Lib.hid hpp
    have hkI : (k : Int) < (nl : Int) := by omega
    have hk0 : (0 : Int) ≤ (k : Int) := by omega
    obtain ⟨pa, pb⟩ := p
    simp only at d0 d1
    clear hpp hbr
    have HYES : Hid ((pa, pb) = ap → ixL nd ap = k) := fun h => ix_at HND.out (h ▸ HPP.out)
    have HNOT : Hid (¬ (pa, pb) = ap → k + 1 ≤ ixL nd ap) := fun h => by
      rcases Nat.lt_or_ge k (ixL nd ap) with h1 | h1
      · exact h1
      · exfalso
        have h2 : ixL nd ap = k := by omega
        have h3 := HIG.out
        rw [h2, HPP.out] at h3
        exact h (Option.some.inj h3)
    by_cases h1 : pa = et
    · by_cases h2 : et = x.n
      · have HR := Lib.hid (HYES.out (HIF.out.1 ⟨h1, .inl h2⟩))
        have z1 : (pa == et) = true := by simpa using h1
        have z2 : (et == x.n) = true := by simpa using h2
        clear h1 h2
        go_upto_region 4 with fail
        refine ordB_below (.quiet 0 (.quiet 1 (.quiet 2 (.quiet 3 (.quiet 4 (.quiet 5 (.quiet 6 (.quiet 7 (.quiet 8 (.quiet 9 (.quiet 10 (.quiet 11 (.quiet 12 (.quiet 13 (.quiet 14 (.quiet 15 (.quiet 16 (.quiet 17 (.quiet 18 (.quiet 19 (.quiet 20 (.quiet 21 (.quiet 22 (.quiet 23 (.quiet 24 .done))))))))))))))))))))))))) (by kernel_rfl) (by kernel_rfl) (by kernel_rfl) (fun _ _ _ _ _ h => h) ?_
        intro V0 hV0
        iterate 25 (first
          | (refine ordB_skip rfl rfl ?_; simp only [Act.put, List.setIfInBounds_toArray, List.set_cons_zero, List.set_cons_succ])
          | (refine ordB_take (v := ?_) rfl rfl ?_ ?_
             rotate_left 1
             focus (intro W hW; obtain ⟨hcW, hfW⟩ := bcell hW; (go_simp <;> with_reducible rfl))
             simp only [Act.put, List.setIfInBounds_toArray, List.set_cons_zero, List.set_cons_succ]))
        refine ordB_nil ?_
        have HBE := Lib.hid (HBr.out.trans (hV0.mono HBr.out.size))
        go_wp2_with fail
        go_ret
        exact ⟨by rw [HR.out]; rfl, bthen HB2.out HBE.out⟩
      · by_cases h3 : pb = ew
        · have HR := Lib.hid (HYES.out (HIF.out.1 ⟨h1, .inr h3⟩))
          have z1 : (pa == et) = true := by simpa using h1
          have z2 : (et == x.n) = false := by simpa using h2
          have z3 : (pb == ew) = true := by simpa using h3
          clear h1 h2 h3
          go_upto_region 4 with fail
          refine ordB_below (.quiet 0 (.quiet 1 (.quiet 2 (.quiet 3 (.quiet 4 (.quiet 5 (.quiet 6 (.quiet 7 (.quiet 8 (.quiet 9 (.quiet 10 (.quiet 11 (.quiet 12 (.quiet 13 (.quiet 14 (.quiet 15 (.quiet 16 (.quiet 17 (.quiet 18 (.quiet 19 (.quiet 20 (.quiet 21 (.quiet 22 (.quiet 23 (.quiet 24 .done))))))))))))))))))))))))) (by kernel_rfl) (by kernel_rfl) (by kernel_rfl) (fun _ _ _ _ _ h => h) ?_
          intro V0 hV0
          iterate 25 (first
            | (refine ordB_skip rfl rfl ?_; simp only [Act.put, List.setIfInBounds_toArray, List.set_cons_zero, List.set_cons_succ])
            | (refine ordB_take (v := ?_) rfl rfl ?_ ?_
               rotate_left 1
               focus (intro W hW; obtain ⟨hcW, hfW⟩ := bcell hW; (go_simp <;> with_reducible rfl))
               simp only [Act.put, List.setIfInBounds_toArray, List.set_cons_zero, List.set_cons_succ]))
          refine ordB_nil ?_
          have HBE := Lib.hid (HBr.out.trans (hV0.mono HBr.out.size))
          go_wp2_with fail
          go_ret
          exact ⟨by rw [HR.out]; rfl, bthen HB2.out HBE.out⟩
        · have hnx := HNOT.out fun h => by
            have h4 := HIF.out.2 h
            rcases h4.2 with h5 | h5
            · exact h2 h5
            · exact h3 h5
          have z1 : (pa == et) = true := by simpa using h1
          have z2 : (et == x.n) = false := by simpa using h2
          have z3 : (pb == ew) = false := by simpa using h3
          clear h1 h2 h3
          go_upto_region 4 with fail
          refine ordB_below (.quiet 0 (.quiet 1 (.quiet 2 (.quiet 3 (.quiet 4 (.quiet 5 (.quiet 6 (.quiet 7 (.quiet 8 (.quiet 9 (.quiet 10 (.quiet 11 (.quiet 12 (.quiet 13 (.quiet 14 (.quiet 15 (.quiet 16 (.quiet 17 (.quiet 18 (.quiet 19 (.quiet 20 (.quiet 21 (.quiet 22 (.quiet 23 (.quiet 24 .done))))))))))))))))))))))))) (by kernel_rfl) (by kernel_rfl) (by kernel_rfl) (fun _ _ _ _ _ h => h) ?_
          intro V0 hV0
          iterate 25 (first
            | (refine ordB_skip rfl rfl ?_; simp only [Act.put, List.setIfInBounds_toArray, List.set_cons_zero, List.set_cons_succ])
            | (refine ordB_take (v := ?_) rfl rfl ?_ ?_
               rotate_left 1
               focus (intro W hW; obtain ⟨hcW, hfW⟩ := bcell hW; (go_simp <;> with_reducible rfl))
               simp only [Act.put, List.setIfInBounds_toArray, List.set_cons_zero, List.set_cons_succ]))
          refine ordB_nil ?_
          have HBE := Lib.hid (HBr.out.trans (hV0.mono HBr.out.size))
          go_wp2_with fail
          go_roundw
          case rel => exact ⟨k + 1, by omega, by omega, hnx, by go_num, HBE.out⟩
          case measure => simp [intOf]; omega
    · have hnx := HNOT.out fun h => h1 (HIF.out.2 h).1
      have z1 : (pa == et) = false := by simpa using h1
      clear h1
      go_upto_region 4 with fail
      refine ordB_below (.quiet 0 (.quiet 1 (.quiet 2 (.quiet 3 (.quiet 4 (.quiet 5 (.quiet 6 (.quiet 7 (.quiet 8 (.quiet 9 (.quiet 10 (.quiet 11 (.quiet 12 (.quiet 13 (.quiet 14 (.quiet 15 (.quiet 16 (.quiet 17 (.quiet 18 (.quiet 19 (.quiet 20 (.quiet 21 (.quiet 22 (.quiet 23 (.quiet 24 .done))))))))))))))))))))))))) (by kernel_rfl) (by kernel_rfl) (by kernel_rfl) (fun _ _ _ _ _ h => h) ?_
      intro V0 hV0
      iterate 25 (first
        | (refine ordB_skip rfl rfl ?_; simp only [Act.put, List.setIfInBounds_toArray, List.set_cons_zero, List.set_cons_succ])
        | (refine ordB_take (v := ?_) rfl rfl ?_ ?_
           rotate_left 1
           focus (intro W hW; obtain ⟨hcW, hfW⟩ := bcell hW; (go_simp <;> with_reducible rfl))
           simp only [Act.put, List.setIfInBounds_toArray, List.set_cons_zero, List.set_cons_succ]))
      refine ordB_nil ?_
      have HBE := Lib.hid (HBr.out.trans (hV0.mono HBr.out.size))
      go_wp2_with fail
      go_roundw
      case rel => exact ⟨k + 1, by omega, by omega, hnx, by go_num, HBE.out⟩
      case measure => simp [intOf]; omega
end Go.Proofs.Ytcimnkijpifkjaa
