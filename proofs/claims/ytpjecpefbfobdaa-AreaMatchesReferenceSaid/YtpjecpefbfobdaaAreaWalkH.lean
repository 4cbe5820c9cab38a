/-
  The walks of layer 21: Touch.
-/
import Derived.Test.YtpjecpefbfobdaaAreaWalkG
import Derived.Test.YtpjecpefbfobdaaAreaRow
namespace Go.Proofs.Ytpjecpefbfobdaa
open Go Go.RowKit Go.Sort

set_option maxHeartbeats 4000000 in
set_option maxRecDepth 100000 in
theorem touch_any (us : List Ar) (A : Option Addr) (c : Nat) (v1 v2 : Value) (ts : List Tp) (B : Option Addr) (d : Nat) (p : Pt) (w : World) (hx : SlR 5 RAr w A us) (hl : us.length ≤ 60000) (ha : ∀ a ∈ us, ArOK a) (hinc : IncA us)
    (hy : SlR 4 RTp w B ts) (hl2 : ts.length ≤ 65536) (hT : ∀ t ∈ ts, TpOK t) :
    Calls Try.prog 15 #[.agg #[.slice A us.length c, v1, v2], .slice B ts.length d, vPt p] w fun e w' => ∃ A' c', e = .returned (.tuple #[.slice A' (touchOf us ts p).1.length c', .int .i64 (touchOf us ts p).2]) ∧
      SlR 2 RCho w' A' (touchOf us ts p).1 ∧ Below w.heap.size w w' := by
  obtain ⟨i0, hi, hz0, hz1, hz2⟩ := info_parts cho_info
  obtain ⟨w3, hw3⟩ : ∃ w3, ((w.alloc (.cells #[.slice A us.length c, v1, v2] 31)).alloc (.cells #[.int .i64 p.x, .int .i64 p.y] 36)).alloc (.cells #[.int .i64 p.x, .int .i64 p.y] 3) = w3 := ⟨_, rfl⟩
  have hbw3 : Below w.heap.size w w3 := by rw [← hw3]; exact nw _ (nw _ (nw _ (Below.refl _ _)))
  have HB0 : Hid (Blk w3 w.heap.size 31 #[.slice A us.length c, v1, v2]) := by rw [← hw3]; exact ((Blk.new _ _ _).alloc _).alloc _
  have HB1 : Hid (Blk w3 (w.heap.size + 1) 36 #[.int .i64 p.x, .int .i64 p.y]) := by rw [← hw3]; exact (Blk.new_ (by simp)).alloc _
  have hB2 : Blk w3 (w.heap.size + 1 + 1) 3 #[.int .i64 p.x, .int .i64 p.y] := by rw [← hw3]; exact Blk.new_ (by simp)
  have hsz3 : w3.heap.size = w.heap.size + 1 + 1 + 1 := by rw [← hw3]; simp
  have HI : Hid (Calls Try.prog 31 #[.slice (some ⟨w.heap.size + 1 + 1, 0, none⟩) 2 2] w3 fun e w' => e = .returned (.bool (insideB p)) ∧ w3 = w') := by
    have := coordinates_any (some ⟨w.heap.size + 1 + 1, 0, none⟩) [p.x, p.y] 2 w3 (fun _ => ⟨_, 0, rfl, hB2.lt, fun k x hx => by
      match k, hx with
      | 0, hx => simp at hx; subst hx; exact ⟨_, rfl, rfl, fun j v hj => by (match j, hj with | 0, hj => simp at hj; rw [← hj]; exact hB2.cell 0 | j + 1, hj => simp at hj)⟩
      | 1, hx => simp at hx; subst hx; exact ⟨_, rfl, rfl, fun j v hj => by (match j, hj with | 0, hj => simp at hj; rw [← hj]; exact hB2.cell 1 | j + 1, hj => simp at hj)⟩
      | k + 2, hx => simp at hx⟩) (by simp)
    have e : [p.x, p.y].all coordB = insideB p := by simp [insideB]
    rw [e] at this
    exact this
  have HW3 := Lib.hid hw3
  clear hw3 hB2
  cases hin : insideB p with
  | false =>
    have HT := Lib.hid (show touchOf us ts p = ([], 1) by unfold touchOf; rw [hin]; rfl)
    rw [hin] at HI
    go_enter Try.func15, Try.ntmps15
    go_wp2_with (go_at_call 31; go_loud (rw [HW3.out]; refine HI.out.mono ?_; rintro e w4 ⟨rfl, rfl⟩))
    go_ret2
    exact ⟨none, 0, by rw [HT.out]; rfl, by rw [HT.out]; exact SlR.nil, hbw3⟩
  | true =>
    have hp := inside_ok hin
    rw [hin] at HI
    have HS0 : Hid (∀ (W : World) (k : Int), Below w.heap.size w W → Calls Try.prog 21 #[.slice B ts.length d, .int .u8 k] W fun e w' => e = .returned (vPt (shiftOf ts k)) ∧ Below W.heap.size W w') := fun W k hW =>
      shift_any B ts d k W (hy.below keeps_tp hW) hl2 hT
    have HC0 : Hid (∀ (W : World) (a : Ar), a ∈ us → Calls Try.prog 32 #[vAr a, vPt (shiftOf ts a.key), vPt p] W fun e w' => e = .returned (.int .i64 (choOf a ts p).cost) ∧ Below W.heap.size W w') := fun W a hm =>
      price_any a _ p W (ha a hm) (shift_small hT) hp
    have HX2 := Lib.hid hx
    have HT0 : Hid (∀ L, chosOf us ts p = L → touchOf us ts p = if L = [] then ([], 210) else (fewOf L, 0)) := fun L hL => by unfold touchOf; rw [hin, hL]; simp
    have HInc := Lib.hid (chos_inc (ts := ts) (p := p) hinc)
    clear hx hy hT ha hp hin hinc
    go_enter Try.func15, Try.ntmps15
    go_wp2_with (go_at_call 31; go_loud (rw [HW3.out]; refine HI.out.mono ?_; rintro e w4 ⟨rfl, rfl⟩; have k00 := HB0.out.cell 0; have kl0 := HB0.out.lt; simp at k00))
    go_loopw [8, 24] (fun out i wr => ∃ k : Nat, ∃ L : List Cho, k ≤ us.length ∧ Hid (L = chosOf (us.take k) ts p) ∧ L.length ≤ k ∧ i = .int .i64 k ∧ wr.ownsRow (w.heap.size + 2) 67 2 out L.length (L.flatMap encCho) ∧ Below (w.heap.size + 2) w3 wr) (fun _ i _ => us.length - (intOf i).toNat)
    case atStart => exact ⟨0, [], by omega, rfl, by simp, rfl, own_nil _ _ _ _, Below.refl _ _⟩
    case round =>
      obtain ⟨k, L, hk, HL, hLk, rfl, hown, hb⟩ := hrel
      have hbsz := hb.size
      have hbw : Below w.heap.size w wr := hbw3.trans (hb.mono (by omega))
      have x1 := HB1.out.below hb (by omega)
      have c10 := x1.cell 0
      have c11 := x1.cell 1
      have l1 := x1.lt
      simp at c10 c11
      clear x1
      by_cases hlt : k < us.length
      · obtain ⟨b, off, a, rfl, hbb, haa, d0, d1, d2, d3, d4⟩ := (HX2.out.below keeps_ar hbw).ar hlt
        have HA := Lib.hid haa
        have HN := Lib.hid (chos_snoc us ts p k a haa)
        have HC : Hid (∀ (W : World), Calls Try.prog 32 #[vAr a, vPt (shiftOf ts a.key), vPt p] W fun e w' => e = .returned (.int .i64 (choOf a ts p).cost) ∧ Below W.heap.size W w') := fun W => HC0.out W a (List.mem_of_getElem? haa)
        obtain ⟨W1, hW1⟩ : ∃ W1, wr.alloc (.cells #[.int .u8 a.key, .int .i64 a.x0, .int .i64 a.y0, .int .i64 a.x1, .int .i64 a.y1] 57) = W1 := ⟨_, rfl⟩
        have hbW1 : Below (w.heap.size + 2) w3 W1 := by rw [← hW1]; exact hb.alloc (by omega) _
        have hown1 : W1.ownsRow (w.heap.size + 2) 67 2 u8 L.length (L.flatMap encCho) := by rw [← hW1]; exact hown.alloc _
        have hwr1 : W1.heap.size = wr.heap.size + 1 := by rw [← hW1]; simp
        have x2 : Blk W1 wr.heap.size 57 #[.int .u8 a.key, .int .i64 a.x0, .int .i64 a.y0, .int .i64 a.x1, .int .i64 a.y1] := by rw [← hW1]; exact Blk.new _ _ _
        have x1 := HB1.out.below hbW1 (by omega)
        have f0 := x2.cell 0
        have f1 := x2.cell 1
        have f2 := x2.cell 2
        have f3 := x2.cell 3
        have f4 := x2.cell 4
        have g0 := x1.cell 0
        have g1 := x1.cell 1
        have l2 := x2.lt
        have l1' := x1.lt
        simp at f0 f1 f2 f3 f4 g0 g1
        have HS : Hid (∀ W, Below W1.heap.size W1 W → Calls Try.prog 21 #[.slice B ts.length d, .int .u8 a.key] W fun e w' => e = .returned (vPt (shiftOf ts a.key)) ∧ Below W.heap.size W w') := fun W hW =>
          HS0.out W a.key (hbw3.trans ((hbW1.trans (hW.mono (by omega))).mono (by omega)))
        have hkey : (choOf a ts p).key = a.key := rfl
        generalize choOf a ts p = x at *
        generalize shiftOf ts a.key = s at *
        have HOwn := Lib.hid hown1
        have HBW1 := Lib.hid hbW1
        have HW1 := Lib.hid hW1
        have HR1 := Lib.hid hwr1
        have HZ3 := Lib.hid hsz3
        clear haa hown hb hbw x1 x2 hW1 hown1 hbW1 hwr1 hsz3 hbsz
        go_wp2_with fail
        rw [HW1.out]
        refine ord_below [(0, false), (1, false), (2, false), (3, false), (5, false), (4, true), (6, true), (7, false)] (by kernel_rfl) (by kernel_rfl) (by kernel_rfl) (fun _ _ _ _ _ h => h) ?_
        intro W0 hS0
        iterate 5 (first
          | (refine ord_skip rfl rfl ?_; simp only [Act.put, List.setIfInBounds_toArray, List.set_cons_zero, List.set_cons_succ])
          | (refine ord_take (v := ?_) rfl rfl ?_ ?_
             rotate_left 1
             focus (intro W hW; obtain ⟨hcW, hfW⟩ := bcell hW; (go_simp <;> with_reducible rfl))
             simp only [Act.put, List.setIfInBounds_toArray, List.set_cons_zero, List.set_cons_succ]))
        refine ord_call rfl rfl (fun K hK => ?_)
        go_simp
        (go_at_call 21; refine ((HS.out _ hS0).mono ?_); rintro e w1 ⟨rfl, hbC⟩; refine hK.out _ _ (hS0.trans (hbC.mono hS0.size)) (fun hS1 => ?_); clear hS0 hbC)
        skip
        refine ord_call rfl rfl (fun K hK => ?_)
        go_simp
        (go_at_call 32; refine ((HC.out _).mono ?_); rintro e w5 ⟨rfl, hbC⟩; refine hK.out _ _ (hS1.trans (hbC.mono hS1.size)) (fun hS2 => ?_))
        skip
        iterate 1 (first
          | (refine ord_skip rfl rfl ?_; simp only [Act.put, List.setIfInBounds_toArray, List.set_cons_zero, List.set_cons_succ])
          | (refine ord_take (v := ?_) rfl rfl ?_ ?_
             rotate_left 1
             focus (intro W hW; obtain ⟨hcW, hfW⟩ := bcell hW; (go_simp <;> with_reducible rfl))
             simp only [Act.put, List.setIfInBounds_toArray, List.set_cons_zero, List.set_cons_succ]))
        refine ord_nil ?_
        have hwr1 := HR1.out
        have hsz3 := HZ3.out
        have e0 := (hS2.cell (p := ⟨wr.heap.size, 0, none⟩) l2).trans f0
        have hown1 := own_below HOwn.out hS2
        have hs2 := hS2.size
        have hb1 := HBW1.out.trans (hS2.mono (by omega))
        have hl3 : wr.heap.size < w5.heap.size := by omega
        by_cases h1 : x.cost ≤ 1000
        · go_wp2_with (first | (at_builtin; refine wpList_app1 rfl _ _ 39 rfl (w.heap.size + 2) 67 i0 _ 2 16 Try.underlying39 hi hz0 hz1 hz2 rfl (by decide) _ _ _ rfl _ [.int .u8 a.key, .int .i64 x.cost] rfl hown1 _ rfl (by simp) rfl (by simp [Value.oneCell']) (by omega) (by decide) (by omega) ?_; intro v4 w4 hown4 hb4 ha4))
          go_roundw
          case rel => exact ⟨k + 1, L ++ [x], by omega, by show L ++ [x] = _; rw [HN.out, if_pos h1, HL.out], by simp; omega, by go_num, by rw [enc_snoc, List.length_append]; unfold encCho; rw [hkey]; exact hown4, hb1.trans hb4⟩
          case measure => simp [intOf]; omega
        · go_wp2_with fail
          go_roundw
          case rel => exact ⟨k + 1, L, by omega, by show L = _; rw [HN.out, if_neg h1, HL.out]; simp, by omega, by go_num, hown1, hb1⟩
          case measure => simp [intOf]; omega
      · have HF0 : Hid (chosOf us ts p = L) := by show chosOf us ts p = L; rw [HL.out, List.take_of_length_le (by omega)]
        have HF : Hid (touchOf us ts p = if L = [] then ([], 210) else (fewOf L, 0)) := HT0.out L HF0.out
        have HIL : Hid (IncK L) := by have := HInc.out; rw [HF0.out] at this; exact this
        have HBB := Lib.hid hbw
        by_cases he : L = []
        · subst he
          rw [if_pos rfl] at HF
          obtain ⟨A3, cap, rfl, hcap, hcm, hslr⟩ := own_slr (R := RCho) hown (fun _ => rfl) (fun _ => rfl) rfl
          simp only [List.length_nil] at hcap
          clear hb hown hslr hbw
          go_wp2_with fail
          go_ret2
          exact ⟨none, 0, by rw [HF.out]; rfl, by rw [HF.out]; exact SlR.nil, HBB.out⟩
        · have hlen : L.length ≠ 0 := fun h => he (List.length_eq_zero_iff.1 h)
          rw [if_neg he] at HF
          obtain ⟨g, cap, rfl, hg, hgs, hcap, hcm, hH⟩ := own_holds hown he
          have HE := Lib.hid he
          have hwr := HBB.out.size
          clear he hb hown hbw c10 c11 l1
          by_cases h8 : L.length ≤ 8
          · have HO := Lib.hid (order1_new g 0 cap w.heap.size L.toArray L.length wr (by simp) hH hgs (by omega) (by omega))
            simp only [List.size_toArray] at HO
            clear hH
            go_wp2_with (go_at_call 37; go_loud (refine HO.out.mono ?_; rintro e w6 ⟨rfl, d', hp', hs', hH', hb6⟩))
            go_ret2
            have e1 : d'.toList = fewOf L := by
              rw [few_small h8]
              refine sorted_small HIL.out (permIn_perm (by simpa using hp')) ?_
              refine List.Pairwise.imp ?_ (sortedIn_pw hs' (by simpa using hp'.1))
              intro x y h
              rw [lt_byKey] at h
              simpa using h
            have e2 : (fewOf L).length = L.length := by rw [few_small h8]
            exact ⟨some ⟨g, 0, none⟩, cap, by rw [HF.out]; simp [e2], by rw [HF.out, ← e1]; exact holds_slr hH' (Nat.lt_of_lt_of_le hgs hb6.size), HBB.out.trans hb6⟩
          · have HO := Lib.hid (order2_new g 0 cap w.heap.size L.toArray L.length wr (by simp) hH hgs (by omega) (by omega))
            simp only [List.size_toArray] at HO
            clear hH
            go_wp2_with (first | (go_at_call 37; go_loud (refine HO.out.mono ?_; rintro e w6 ⟨rfl, d1, hp', hs', hH', hb6⟩; have hs6 := hb6.size; have hg6 := Nat.lt_of_lt_of_le hgs hs6; have hd1 : d1.size = L.length := (by simpa using hp'.1); have HO1 := Lib.hid (order1_new g 0 8 w.heap.size (d1.extract 0 8) 8 w6 (by simp; omega) (holds_take hH' 8 (by omega)) hg6 (by omega) (by omega)); have HD := Lib.hid hp'; have HSD := Lib.hid hs'; have HB6 := Lib.hid hb6; have HD1 := Lib.hid hd1; clear hp' hs' hH' hb6 hd1)) | (go_at_call 37; go_loud (refine HO1.out.mono ?_; rintro e w7 ⟨rfl, d2, hp2, hs2, hH2, hb7⟩)))
            go_ret2
            have e0 : (d1.extract 0 8).toList = d1.toList.take 8 := by simp
            have e1 : d2.toList = fewOf L := by
              refine few_sorted HIL.out (permIn_perm (by simpa using HD.out)) ?_ (by have := permIn_perm hp2; rwa [e0] at this) ?_
              · refine List.Pairwise.imp ?_ (sortedIn_pw HSD.out HD1.out)
                intro x y h
                rw [lt_byBoth] at h
                simp [lessC] at h ⊢
                exact h
              · refine List.Pairwise.imp ?_ (sortedIn_pw hs2 hp2.1)
                intro x y h
                rw [lt_byKey] at h
                simpa using h
            have e2 : (fewOf L).length = 8 := by
              rw [← e1]
              have := hp2.1
              have h1 := HD1.out
              simp at this ⊢
              omega
            exact ⟨some ⟨g, 0, none⟩, 8, by rw [HF.out]; simp [e2], by rw [HF.out, ← e1]; exact holds_slr hH2 (Nat.lt_of_lt_of_le hg6 hb7.size), HBB.out.trans (HB6.out.trans hb7)⟩
end Go.Proofs.Ytpjecpefbfobdaa
