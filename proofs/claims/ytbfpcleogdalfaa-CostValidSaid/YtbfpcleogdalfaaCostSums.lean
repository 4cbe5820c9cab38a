/-
  CostSums: the plain law, the walk.
-/
import Derived.Test.YtbfpcleogdalfaaCostLearns
namespace Go.Proofs.Ytbfpcleogdalfaa
open Go Go.RowKit

theorem next_csl (m : Mo) (p v n : Int) : (nextM m p v n).cs.length = m.cs.length := by unfold nextM; simp
theorem mo_ext {a b : Mo} (h1 : a.ws = b.ws) (h2 : a.cs = b.cs) (h3 : a.ps = b.ps) (h4 : a.back = b.back) : a = b := by cases a; cases b; simp_all
theorem set_twice {l : List Int} {j : Nat} (n o : Int) (hj : j < l.length) : (l.set j (l.getD j 0 + n)).set j ((l.set j (l.getD j 0 + n)).getD j 0 + o) = l.set j (l.getD j 0 + (n + o)) := by
  rw [List.set_set]
  congr 1
  rw [List.getD_eq_getElem?_getD (l := l.set _ _), List.getElem?_set_self hj]
  simp; omega
theorem set_comm_ {l : List Int} {j k : Nat} (n o : Int) (hj : j < l.length) (hk : k < l.length) :
    (l.set j (l.getD j 0 + n)).set k ((l.set j (l.getD j 0 + n)).getD k 0 + o) = (l.set k (l.getD k 0 + o)).set j ((l.set k (l.getD k 0 + o)).getD j 0 + n) := by
  by_cases h : j = k
  · subst h
    rw [set_twice n o hj, set_twice o n hj, Int.add_comm n o]
  · rw [List.getD_eq_getElem?_getD (l := l.set j _), List.getElem?_set_ne h, List.getD_eq_getElem?_getD (l := l.set k _), List.getElem?_set_ne (Ne.symm h), List.set_comm _ _ h]
    simp
theorem next_twice (m : Mo) (p v n o : Int) (hv : 0 ≤ v ∧ v < m.cs.length) : nextM (nextM m p v n) p v o = nextM m p v (n + o) := by
  obtain ⟨j, rfl⟩ := Int.eq_ofNat_of_zero_le hv.1
  refine mo_ext rfl ?_ ?_ rfl
  · exact set_twice n o (by omega)
  · unfold nextM
    by_cases h : 0 ≤ p
    · simp only [if_pos h, countP_eq]
      exact insP_twice _ _ _ _ _
    · simp only [if_neg h]
theorem next_comm (m : Mo) (p v n q y o : Int) (hv : 0 ≤ v ∧ v < m.cs.length) (hy : 0 ≤ y ∧ y < m.cs.length) : nextM (nextM m p v n) q y o = nextM (nextM m q y o) p v n := by
  obtain ⟨j, rfl⟩ := Int.eq_ofNat_of_zero_le hv.1
  obtain ⟨k, rfl⟩ := Int.eq_ofNat_of_zero_le hy.1
  refine mo_ext rfl ?_ ?_ rfl
  · exact set_comm_ n o (by omega) (by omega)
  · unfold nextM
    by_cases h : 0 ≤ p
    · by_cases h2 : 0 ≤ q
      · simp only [if_pos h, if_pos h2, countP_eq]
        exact insP_comm _ _ _
      · simp only [if_pos h, if_neg h2]
    · by_cases h2 : 0 ≤ q
      · simp only [if_neg h, if_pos h2]
      · simp only [if_neg h, if_neg h2]
set_option maxRecDepth 100000 in
set_option maxHeartbeats 8000000 in
theorem costSums_any (x : Raw) (A1 A2 A3 : Option Addr) (c1 c2 c3 : Nat) (u0 u1 u2 u3 u4 u5 : Int) (w : World) (h : RawR w x A1 A2 A3) (hu0 : 0 ≤ u0 ∧ u0 ≤ 255) (hu1 : 0 ≤ u1 ∧ u1 ≤ 255) (hu2 : 0 ≤ u2 ∧ u2 ≤ 255) (hu3 : 0 ≤ u3 ∧ u3 ≤ 255) (hu4 : 0 ≤ u4 ∧ u4 ≤ 255) (hu5 : 0 ≤ u5 ∧ u5 ≤ 255) :
    Calls Try.prog 9 #[.agg #[.slice A1 x.words.length c1, .slice A2 x.counts.length c2, .slice A3 x.uses.length c3, .int .u8 x.back], .agg #[.int .u8 u0, .int .u8 u1, .int .u8 u2, .int .u8 u3, .int .u8 u4, .int .u8 u5]] w fun e w' => e = .returned (.bool true) ∧ Below w.heap.size w w' := by
  have hlim := made_lim x h.b2 h.b3 h.bk
  have HLIM := Lib.hid hlim
  have HBX := Lib.hid (show Below w.heap.size w ((w.alloc (.cells #[.slice A1 x.words.length c1, .slice A2 x.counts.length c2, .slice A3 x.uses.length c3, .int .u8 x.back] 26)).alloc (.cells #[.int .u8 u0, .int .u8 u1, .int .u8 u2, .int .u8 u3, .int .u8 u4, .int .u8 u5] 59)) from ((Below.refl w.heap.size w).alloc (Nat.le_refl _) (.cells #[.slice A1 x.words.length c1, .slice A2 x.counts.length c2, .slice A3 x.uses.length c3, .int .u8 x.back] 26)).alloc (by simp) (.cells #[.int .u8 u0, .int .u8 u1, .int .u8 u2, .int .u8 u3, .int .u8 u4, .int .u8 u5] 59))
  have HR := Lib.hid (h.below HBX.out)
  have HK0 := Lib.hid ((Blk.new w 26 #[.slice A1 x.words.length c1, .slice A2 x.counts.length c2, .slice A3 x.uses.length c3, .int .u8 x.back]).alloc (.cells #[.int .u8 u0, .int .u8 u1, .int .u8 u2, .int .u8 u3, .int .u8 u4, .int .u8 u5] 59))
  have HK1 := Lib.hid (Blk.new_ (w := (w.alloc (.cells #[.slice A1 x.words.length c1, .slice A2 x.counts.length c2, .slice A3 x.uses.length c3, .int .u8 x.back] 26))) (t := 59) (cs := #[.int .u8 u0, .int .u8 u1, .int .u8 u2, .int .u8 u3, .int .u8 u4, .int .u8 u5]) (g := w.heap.size + 1) (by simp))
  clear h hlim
  go_enter Try.func9, Try.ntmps9
  go_wp2_with (first | (go_at_call 10; go_loud (refine (sanity_any _).mono ?_; rintro e w1 ⟨rfl, hb1⟩; have hkr := HK0.out.below hb1 HK0.out.lt; have rw0 := hkr.cell 0; have rw1 := hkr.cell 1; have rw2 := hkr.cell 2; have rw3 := hkr.cell 3)) | (go_at_call 11; go_loud (refine (made_any x A1 A2 A3 c1 c2 c3 _ (HR.out.below hb1)).mono ?_; rintro e w2 ⟨B1, B2, B3, d1, d2, d3, rfl, hmor, hcaps, hb2⟩; have y0 := (mb_new hmor hcaps).b.cell 0)))
  have hb12 := hb1.trans (hb2.mono hb1.size)
  have HMB := Lib.hid (mb_new hmor hcaps)
  have HB := Lib.hid ((HBX.out.trans (hb12.mono HBX.out.size)).alloc (Nat.le_trans HBX.out.size hb12.size) (.cells #[.slice B1 (madeM x).ws.length d1, .slice B2 (madeM x).cs.length d2, .slice B3 (madeM x).ps.length d3, .int .i64 (madeM x).back] 34))
  have HKB1 := Lib.hid ((HK1.out.below hb12 HK1.out.lt).alloc (.cells #[.slice B1 (madeM x).ws.length d1, .slice B2 (madeM x).cs.length d2, .slice B3 (madeM x).ps.length d3, .int .i64 (madeM x).back] 34))
  clear hb1 hb2 hb12 hkr rw0 rw1 rw2 rw3 HK0 HR HBX hmor hcaps HK1
  generalize w2.alloc (.cells #[.slice B1 (madeM x).ws.length d1, .slice B2 (madeM x).cs.length d2, .slice B3 (madeM x).ps.length d3, .int .i64 (madeM x).back] 34) = W at *
  generalize w2.heap.size = g at *
  generalize madeM x = m at *
  obtain ⟨hl, hw2, hw8⟩ := HLIM.out
  have HOK := Lib.hid hl.ok
  have HL := Lib.hid hl
  have HCL := Lib.hid (show m.cs.length = m.ws.length from hl.ok.1.1.2.1)
  clear hl HLIM
  have hw2' := hw2
  clear hw2
  have hkb := HKB1.out
  have b0 := hkb.cell 0
  have b1 := hkb.cell 1
  have b2 := hkb.cell 2
  have b3 := hkb.cell 3
  have b4 := hkb.cell 4
  have b5 := hkb.cell 5
  have hkl := hkb.lt
  have hv0 : IntKind.i64.wrap u0 = u0 := IntWalk.i64_in _ (by omega)
  have hv1 : IntKind.i64.wrap u1 = u1 := IntWalk.i64_in _ (by omega)
  have hv2 : IntKind.i64.wrap u2 = u2 := IntWalk.i64_in _ (by omega)
  have hv3 : IntKind.i64.wrap u3 = u3 := IntWalk.i64_in _ (by omega)
  have hv4 : IntKind.i64.wrap u4 = u4 := IntWalk.i64_in _ (by omega)
  have hv5 : IntKind.i64.wrap u5 = u5 := IntWalk.i64_in _ (by omega)
  have ht0 : u0.tmod ((m.ws.length : Int) + 1) = u0 % ((m.ws.length : Int) + 1) := Int.tmod_eq_emod_of_nonneg hu0.1
  have hr0 := Int.emod_nonneg u0 (show (m.ws.length : Int) + 1 ≠ 0 by omega)
  have hs0 := Int.emod_lt_of_pos u0 (show 0 < (m.ws.length : Int) + 1 by omega)
  have hw0 : IntKind.i64.wrap (u0 % ((m.ws.length : Int) + 1) - 1) = u0 % ((m.ws.length : Int) + 1) - 1 := IntWalk.i64_in _ (by omega)
  have hx0 : IntKind.i64.wrap (u0 % ((m.ws.length : Int) + 1)) = u0 % ((m.ws.length : Int) + 1) := IntWalk.i64_in _ (by omega)
  have ht1 : u1.tmod (m.ws.length : Int) = u1 % (m.ws.length : Int) := Int.tmod_eq_emod_of_nonneg hu1.1
  have hr1 := Int.emod_nonneg u1 (show (m.ws.length : Int) ≠ 0 by omega)
  have hs1 := Int.emod_lt_of_pos u1 (show 0 < (m.ws.length : Int) by omega)
  have hw1 : IntKind.i64.wrap (u1 % (m.ws.length : Int)) = u1 % (m.ws.length : Int) := IntWalk.i64_in _ (by omega)
  have hw2 : IntKind.i64.wrap (1 + u2) = 1 + u2 := IntWalk.i64_in _ (by omega)
  have ht3 : u3.tmod ((m.ws.length : Int) + 1) = u3 % ((m.ws.length : Int) + 1) := Int.tmod_eq_emod_of_nonneg hu3.1
  have hr3 := Int.emod_nonneg u3 (show (m.ws.length : Int) + 1 ≠ 0 by omega)
  have hs3 := Int.emod_lt_of_pos u3 (show 0 < (m.ws.length : Int) + 1 by omega)
  have hw3 : IntKind.i64.wrap (u3 % ((m.ws.length : Int) + 1) - 1) = u3 % ((m.ws.length : Int) + 1) - 1 := IntWalk.i64_in _ (by omega)
  have hx3 : IntKind.i64.wrap (u3 % ((m.ws.length : Int) + 1)) = u3 % ((m.ws.length : Int) + 1) := IntWalk.i64_in _ (by omega)
  have ht4 : u4.tmod (m.ws.length : Int) = u4 % (m.ws.length : Int) := Int.tmod_eq_emod_of_nonneg hu4.1
  have hr4 := Int.emod_nonneg u4 (show (m.ws.length : Int) ≠ 0 by omega)
  have hs4 := Int.emod_lt_of_pos u4 (show 0 < (m.ws.length : Int) by omega)
  have hw4 : IntKind.i64.wrap (u4 % (m.ws.length : Int)) = u4 % (m.ws.length : Int) := IntWalk.i64_in _ (by omega)
  have hw5 : IntKind.i64.wrap (1 + u5) = 1 + u5 := IntWalk.i64_in _ (by omega)
  have hw7 : IntKind.i64.wrap ((m.ws.length : Int) + 1) = (m.ws.length : Int) + 1 := IntWalk.i64_in _ (by omega)
  have hne : ¬ m.ws = [] := fun e => by rw [e] at hw2' ; simp at hw2'
  have hn1 : ¬ ((m.ws.length : Int) + 1 = 0) := by omega
  go_wp2_with fail
  refine ord_below [(0, false), (1, false), (2, false), (3, false), (4, false), (5, false), (6, false), (7, false), (8, false), (9, false), (10, false), (11, false), (12, false), (13, false), (14, false), (15, false), (16, false), (17, false), (18, false), (19, false), (20, false), (21, false)] (by kernel_rfl) (by kernel_rfl) (by kernel_rfl) (fun _ _ _ _ _ h => h) ?_
  intro W0 hS0
  repeat (first
    | (refine ord_skip rfl rfl ?_; simp only [Act.put, List.setIfInBounds_toArray, List.set_cons_zero, List.set_cons_succ])
    | (refine ord_cskip rfl rfl (by assumption) ?_; simp only [Act.put, List.setIfInBounds_toArray, List.set_cons_zero, List.set_cons_succ])
    | (refine ord_take (v := ?_) rfl rfl ?_ ?_
       rotate_left 1
       focus (intro W hW; obtain ⟨hcW, hfW⟩ := bcell hW; (go_simp <;> with_reducible rfl))
       simp only [Act.put, List.setIfInBounds_toArray, List.set_cons_zero, List.set_cons_succ])
    | (refine ord_call rfl rfl (fun K hK => ?_)
       go_simp
       first
         | (fail)))
  refine ord_nil ?_
  have hS1 := hS0
  have hkb2 := hkb.below hS0 hkb.lt
  clear hS0 b0 b1 b2 b3 b4 b5 hkl
  have b0 := hkb2.cell 0
  have b1 := hkb2.cell 1
  have b2 := hkb2.cell 2
  have b3 := hkb2.cell 3
  have b4 := hkb2.cell 4
  have b5 := hkb2.cell 5
  have hkl := hkb2.lt
  go_wp2_with fail
  refine ord_below [(0, false), (1, false), (2, false), (3, false), (4, false), (5, false), (6, false), (7, false), (8, false), (9, false), (10, false), (11, false), (12, false), (13, false), (14, false), (15, false), (16, false), (17, false), (18, false), (19, false), (20, false), (21, false)] (by kernel_rfl) (by kernel_rfl) (by kernel_rfl) (fun _ _ _ _ _ h => h) ?_
  intro W0 hS0
  repeat (first
    | (refine ord_skip rfl rfl ?_; simp only [Act.put, List.setIfInBounds_toArray, List.set_cons_zero, List.set_cons_succ])
    | (refine ord_cskip rfl rfl (by assumption) ?_; simp only [Act.put, List.setIfInBounds_toArray, List.set_cons_zero, List.set_cons_succ])
    | (refine ord_take (v := ?_) rfl rfl ?_ ?_
       rotate_left 1
       focus (intro W hW; obtain ⟨hcW, hfW⟩ := bcell hW; (go_simp <;> with_reducible rfl))
       simp only [Act.put, List.setIfInBounds_toArray, List.set_cons_zero, List.set_cons_succ])
    | (refine ord_call rfl rfl (fun K hK => ?_)
       go_simp
       first
         | (fail)))
  refine ord_nil ?_
  have HBB := Lib.hid (hS1.trans (hS0.mono hS1.size))
  have hm := HMB.out.below HBB.out
  clear hv0 hv1 hv2 hv3 hv4 hv5 b0 b1 b2 b3 b4 b5 hkl hkb hkb2 hS0 hS1 y0 ht0 hw0 ht1 hw1 ht3 hw3 ht4 hw4 hw2 hw5 hw7 hx0 hx3 hne hn1
  have hp : -1 ≤ u0 % ((m.ws.length : Int) + 1) - 1 ∧ u0 % ((m.ws.length : Int) + 1) - 1 < m.ws.length := by omega
  have hv : 0 ≤ u1 % (m.ws.length : Int) ∧ u1 % (m.ws.length : Int) < m.ws.length := ⟨hr1, hs1⟩
  have hq : -1 ≤ u3 % ((m.ws.length : Int) + 1) - 1 ∧ u3 % ((m.ws.length : Int) + 1) - 1 < m.ws.length := by omega
  have hy : 0 ≤ u4 % (m.ws.length : Int) ∧ u4 % (m.ws.length : Int) < m.ws.length := ⟨hr4, hs4⟩
  have hn : 1 ≤ 1 + u2 ∧ 1 + u2 ≤ 256 := by omega
  have ho : 1 ≤ 1 + u5 ∧ 1 + u5 ≤ 256 := by omega
  clear hr0 hs0 hr1 hs1 hr3 hs3 hr4 hs4
  generalize u0 % ((m.ws.length : Int) + 1) - 1 = p at *
  generalize u1 % (m.ws.length : Int) = v at *
  generalize u3 % ((m.ws.length : Int) + 1) - 1 = q at *
  generalize u4 % (m.ws.length : Int) = y at *
  generalize 1 + u2 = n at *
  generalize 1 + u5 = o at *
  obtain ⟨la, na⟩ := next_lim HL.out p v n hn.1 hv.1 hv.2 hp.2 (by omega) (by omega)
  obtain ⟨_, nb⟩ := next_lim la p v o ho.1 hv.1 hv.2 hp.2 (by omega) (by omega)
  obtain ⟨_, nc⟩ := next_lim HL.out p v (n + o) (by omega) hv.1 hv.2 hp.2 (by omega) (by omega)
  obtain ⟨_, nd⟩ := next_lim la q y o ho.1 hy.1 hy.2 hq.2 (by omega) (by omega)
  obtain ⟨ld, ne⟩ := next_lim HL.out q y o ho.1 hy.1 hy.2 hq.2 (by omega) (by omega)
  obtain ⟨_, nf⟩ := next_lim ld p v n hn.1 hv.1 hv.2 hp.2 (by omega) (by omega)
  have hac := next_csl m p v n
  have hwn : IntKind.i64.wrap (n + o) = n + o := IntWalk.i64_in _ (by omega)
  have EQ1 := Lib.hid (next_twice m p v n o (by have := HCL.out; omega))
  have EQ2 := Lib.hid (next_comm m p v n q y o (by have := HCL.out; omega) (by have := HCL.out; omega))
  have VA := Lib.hid (show decide (MoOK (nextM m p v n)) = true from decide_eq_true la.ok)
  have VD := Lib.hid (show decide (MoOK (nextM m q y o)) = true from decide_eq_true ld.ok)
  have NA := Lib.hid na
  have NB := Lib.hid nb
  have NC := Lib.hid nc
  have ND := Lib.hid nd
  have NE := Lib.hid ne
  have NF := Lib.hid nf
  clear la ld na nb nc nd ne nf hac
  generalize hga : nextM m p v n = a at *
  generalize hgd : nextM m q y o = d at *
  generalize hgb : nextM a p v o = b at *
  generalize hgc : nextM m p v (n + o) = c at *
  generalize hge : nextM a q y o = c2 at *
  generalize hgf : nextM d p v n = f at *
  clear hga hgd hgb hgc hge hgf
  have qm0 := hm.b.cell 0
  have qm1 := hm.b.cell 1
  have qm2 := hm.b.cell 2
  have qm3 := hm.b.cell 3
  have qml := hm.b.lt
  go_wp2_with fail
  clear qm0 qm1 qm2 qm3 qml
  have HLX := Lib.hid (learn_any m B1 B2 B3 d1 d2 d3 p v n _ hm.r)
  rw [NA.out] at HLX
  refine HLX.out.mono ?_
  rintro e w3 ⟨C1, C2, C3, e1, e2, e3, rfl, hmo, hfc, hbx⟩
  clear HLX
  replace hm := hm.below hbx
  replace HBB := Lib.hid (HBB.out.trans (hbx.mono HBB.out.size))
  clear hbx
  go_wp2_with fail
  have ha := mb_new hmo hfc
  replace hm := hm.alloc (.cells #[.slice C1 a.ws.length e1, .slice C2 a.cs.length e2, .slice C3 a.ps.length e3, .int .i64 a.back] 34)
  replace HBB := Lib.hid (HBB.out.alloc HBB.out.size (.cells #[.slice C1 a.ws.length e1, .slice C2 a.cs.length e2, .slice C3 a.ps.length e3, .int .i64 a.back] 34))
  clear hmo hfc
  generalize w3.alloc (.cells #[.slice C1 a.ws.length e1, .slice C2 a.cs.length e2, .slice C3 a.ps.length e3, .int .i64 a.back] 34) = yw3 at *
  generalize w3.heap.size = ga at *
  have HVX := Lib.hid (refvalid_any a C1 C2 C3 e1 e2 e3 _ ha.r)
  rw [VA.out] at HVX
  refine HVX.out.mono ?_
  rintro e w4 ⟨rfl, hbx⟩
  clear HVX
  replace hm := hm.below hbx
  replace ha := ha.below hbx
  replace HBB := Lib.hid (HBB.out.trans (hbx.mono HBB.out.size))
  clear hbx
  have qa0 := ha.b.cell 0
  have qa1 := ha.b.cell 1
  have qa2 := ha.b.cell 2
  have qa3 := ha.b.cell 3
  have qal := ha.b.lt
  go_wp2_with fail
  clear qa0 qa1 qa2 qa3 qal
  have HLX := Lib.hid (learn_any a C1 C2 C3 e1 e2 e3 p v o _ ha.r)
  rw [NB.out] at HLX
  refine HLX.out.mono ?_
  rintro e w5 ⟨D1, D2, D3, f1, f2, f3, rfl, hmo, hfc, hbx⟩
  clear HLX
  replace hm := hm.below hbx
  replace ha := ha.below hbx
  replace HBB := Lib.hid (HBB.out.trans (hbx.mono HBB.out.size))
  clear hbx
  have qm0 := hm.b.cell 0
  have qm1 := hm.b.cell 1
  have qm2 := hm.b.cell 2
  have qm3 := hm.b.cell 3
  have qml := hm.b.lt
  go_wp2_with fail
  clear qm0 qm1 qm2 qm3 qml
  have hb := mb_new hmo hfc
  replace hm := hm.alloc (.cells #[.slice D1 b.ws.length f1, .slice D2 b.cs.length f2, .slice D3 b.ps.length f3, .int .i64 b.back] 34)
  replace ha := ha.alloc (.cells #[.slice D1 b.ws.length f1, .slice D2 b.cs.length f2, .slice D3 b.ps.length f3, .int .i64 b.back] 34)
  replace HBB := Lib.hid (HBB.out.alloc HBB.out.size (.cells #[.slice D1 b.ws.length f1, .slice D2 b.cs.length f2, .slice D3 b.ps.length f3, .int .i64 b.back] 34))
  clear hmo hfc
  generalize w5.alloc (.cells #[.slice D1 b.ws.length f1, .slice D2 b.cs.length f2, .slice D3 b.ps.length f3, .int .i64 b.back] 34) = yw5 at *
  generalize w5.heap.size = gb at *
  have HLX := Lib.hid (learn_any m B1 B2 B3 d1 d2 d3 p v (n + o) _ hm.r)
  rw [NC.out] at HLX
  refine HLX.out.mono ?_
  rintro e w6 ⟨E1, E2, E3, k1, k2, k3, rfl, hmo, hfc, hbx⟩
  clear HLX
  replace hm := hm.below hbx
  replace ha := ha.below hbx
  replace hb := hb.below hbx
  replace HBB := Lib.hid (HBB.out.trans (hbx.mono HBB.out.size))
  clear hbx
  have qa0 := ha.b.cell 0
  have qa1 := ha.b.cell 1
  have qa2 := ha.b.cell 2
  have qa3 := ha.b.cell 3
  have qal := ha.b.lt
  go_wp2_with fail
  clear qa0 qa1 qa2 qa3 qal
  have hc := mb_new hmo hfc
  replace hm := hm.alloc (.cells #[.slice E1 c.ws.length k1, .slice E2 c.cs.length k2, .slice E3 c.ps.length k3, .int .i64 c.back] 34)
  replace ha := ha.alloc (.cells #[.slice E1 c.ws.length k1, .slice E2 c.cs.length k2, .slice E3 c.ps.length k3, .int .i64 c.back] 34)
  replace hb := hb.alloc (.cells #[.slice E1 c.ws.length k1, .slice E2 c.cs.length k2, .slice E3 c.ps.length k3, .int .i64 c.back] 34)
  replace HBB := Lib.hid (HBB.out.alloc HBB.out.size (.cells #[.slice E1 c.ws.length k1, .slice E2 c.cs.length k2, .slice E3 c.ps.length k3, .int .i64 c.back] 34))
  clear hmo hfc
  generalize w6.alloc (.cells #[.slice E1 c.ws.length k1, .slice E2 c.cs.length k2, .slice E3 c.ps.length k3, .int .i64 c.back] 34) = yw6 at *
  generalize w6.heap.size = gc at *
  have HLX := Lib.hid (learn_any a C1 C2 C3 e1 e2 e3 q y o _ ha.r)
  rw [ND.out] at HLX
  refine HLX.out.mono ?_
  rintro e w7 ⟨F1, F2, F3, l1, l2, l3, rfl, hmo, hfc, hbx⟩
  clear HLX
  replace hm := hm.below hbx
  replace ha := ha.below hbx
  replace hb := hb.below hbx
  replace hc := hc.below hbx
  replace HBB := Lib.hid (HBB.out.trans (hbx.mono HBB.out.size))
  clear hbx
  have qm0 := hm.b.cell 0
  have qm1 := hm.b.cell 1
  have qm2 := hm.b.cell 2
  have qm3 := hm.b.cell 3
  have qml := hm.b.lt
  go_wp2_with fail
  clear qm0 qm1 qm2 qm3 qml
  have hc2 := mb_new hmo hfc
  replace hm := hm.alloc (.cells #[.slice F1 c2.ws.length l1, .slice F2 c2.cs.length l2, .slice F3 c2.ps.length l3, .int .i64 c2.back] 34)
  replace ha := ha.alloc (.cells #[.slice F1 c2.ws.length l1, .slice F2 c2.cs.length l2, .slice F3 c2.ps.length l3, .int .i64 c2.back] 34)
  replace hb := hb.alloc (.cells #[.slice F1 c2.ws.length l1, .slice F2 c2.cs.length l2, .slice F3 c2.ps.length l3, .int .i64 c2.back] 34)
  replace hc := hc.alloc (.cells #[.slice F1 c2.ws.length l1, .slice F2 c2.cs.length l2, .slice F3 c2.ps.length l3, .int .i64 c2.back] 34)
  replace HBB := Lib.hid (HBB.out.alloc HBB.out.size (.cells #[.slice F1 c2.ws.length l1, .slice F2 c2.cs.length l2, .slice F3 c2.ps.length l3, .int .i64 c2.back] 34))
  clear hmo hfc
  generalize w7.alloc (.cells #[.slice F1 c2.ws.length l1, .slice F2 c2.cs.length l2, .slice F3 c2.ps.length l3, .int .i64 c2.back] 34) = yw7 at *
  generalize w7.heap.size = gc2 at *
  have HLX := Lib.hid (learn_any m B1 B2 B3 d1 d2 d3 q y o _ hm.r)
  rw [NE.out] at HLX
  refine HLX.out.mono ?_
  rintro e w8 ⟨G1, G2, G3, r1, r2, r3, rfl, hmo, hfc, hbx⟩
  clear HLX
  replace hm := hm.below hbx
  replace ha := ha.below hbx
  replace hb := hb.below hbx
  replace hc := hc.below hbx
  replace hc2 := hc2.below hbx
  replace HBB := Lib.hid (HBB.out.trans (hbx.mono HBB.out.size))
  clear hbx
  have qb0 := hb.b.cell 0
  have qb1 := hb.b.cell 1
  have qb2 := hb.b.cell 2
  have qb3 := hb.b.cell 3
  have qbl := hb.b.lt
  have qc0 := hc.b.cell 0
  have qc1 := hc.b.cell 1
  have qc2 := hc.b.cell 2
  have qc3 := hc.b.cell 3
  have qcl := hc.b.lt
  go_wp2_with fail
  clear qb0 qb1 qb2 qb3 qbl
  clear qc0 qc1 qc2 qc3 qcl
  have hd := mb_new hmo hfc
  replace hm := hm.alloc (.cells #[.slice G1 d.ws.length r1, .slice G2 d.cs.length r2, .slice G3 d.ps.length r3, .int .i64 d.back] 34)
  replace ha := ha.alloc (.cells #[.slice G1 d.ws.length r1, .slice G2 d.cs.length r2, .slice G3 d.ps.length r3, .int .i64 d.back] 34)
  replace hb := hb.alloc (.cells #[.slice G1 d.ws.length r1, .slice G2 d.cs.length r2, .slice G3 d.ps.length r3, .int .i64 d.back] 34)
  replace hc := hc.alloc (.cells #[.slice G1 d.ws.length r1, .slice G2 d.cs.length r2, .slice G3 d.ps.length r3, .int .i64 d.back] 34)
  replace hc2 := hc2.alloc (.cells #[.slice G1 d.ws.length r1, .slice G2 d.cs.length r2, .slice G3 d.ps.length r3, .int .i64 d.back] 34)
  replace HBB := Lib.hid (HBB.out.alloc HBB.out.size (.cells #[.slice G1 d.ws.length r1, .slice G2 d.cs.length r2, .slice G3 d.ps.length r3, .int .i64 d.back] 34))
  clear hmo hfc
  generalize w8.alloc (.cells #[.slice G1 d.ws.length r1, .slice G2 d.cs.length r2, .slice G3 d.ps.length r3, .int .i64 d.back] 34) = yw8 at *
  generalize w8.heap.size = gd at *
  have HSX := Lib.hid (same_any b c D1 D2 D3 E1 E2 E3 f1 f2 f3 k1 k2 k3 _ hb.r hc.r)
  rw [show decide (SameM b c) = true from decide_eq_true ((sameM_iff _ _).2 EQ1.out)] at HSX
  refine HSX.out.mono ?_
  rintro e w9 ⟨rfl, hbx⟩
  clear HSX
  replace hm := hm.below hbx
  replace ha := ha.below hbx
  replace hb := hb.below hbx
  replace hc := hc.below hbx
  replace hc2 := hc2.below hbx
  replace hd := hd.below hbx
  replace HBB := Lib.hid (HBB.out.trans (hbx.mono HBB.out.size))
  clear hbx
  have qd0 := hd.b.cell 0
  have qd1 := hd.b.cell 1
  have qd2 := hd.b.cell 2
  have qd3 := hd.b.cell 3
  have qdl := hd.b.lt
  go_wp2_with fail
  clear qd0 qd1 qd2 qd3 qdl
  have HVX := Lib.hid (refvalid_any d G1 G2 G3 r1 r2 r3 _ hd.r)
  rw [VD.out] at HVX
  refine HVX.out.mono ?_
  rintro e w10 ⟨rfl, hbx⟩
  clear HVX
  replace hm := hm.below hbx
  replace ha := ha.below hbx
  replace hb := hb.below hbx
  replace hc := hc.below hbx
  replace hc2 := hc2.below hbx
  replace hd := hd.below hbx
  replace HBB := Lib.hid (HBB.out.trans (hbx.mono HBB.out.size))
  clear hbx
  have qd0 := hd.b.cell 0
  have qd1 := hd.b.cell 1
  have qd2 := hd.b.cell 2
  have qd3 := hd.b.cell 3
  have qdl := hd.b.lt
  go_wp2_with fail
  clear qd0 qd1 qd2 qd3 qdl
  have HLX := Lib.hid (learn_any d G1 G2 G3 r1 r2 r3 p v n _ hd.r)
  rw [NF.out] at HLX
  refine HLX.out.mono ?_
  rintro e w11 ⟨H1, H2, H3, s1, s2, s3, rfl, hmo, hfc, hbx⟩
  clear HLX
  replace hm := hm.below hbx
  replace ha := ha.below hbx
  replace hb := hb.below hbx
  replace hc := hc.below hbx
  replace hc2 := hc2.below hbx
  replace hd := hd.below hbx
  replace HBB := Lib.hid (HBB.out.trans (hbx.mono HBB.out.size))
  clear hbx
  have qc20 := hc2.b.cell 0
  have qc21 := hc2.b.cell 1
  have qc22 := hc2.b.cell 2
  have qc23 := hc2.b.cell 3
  have qc2l := hc2.b.lt
  go_wp2_with fail
  clear qc20 qc21 qc22 qc23 qc2l
  have hf := mb_new hmo hfc
  replace hm := hm.alloc (.cells #[.slice H1 f.ws.length s1, .slice H2 f.cs.length s2, .slice H3 f.ps.length s3, .int .i64 f.back] 34)
  replace ha := ha.alloc (.cells #[.slice H1 f.ws.length s1, .slice H2 f.cs.length s2, .slice H3 f.ps.length s3, .int .i64 f.back] 34)
  replace hb := hb.alloc (.cells #[.slice H1 f.ws.length s1, .slice H2 f.cs.length s2, .slice H3 f.ps.length s3, .int .i64 f.back] 34)
  replace hc := hc.alloc (.cells #[.slice H1 f.ws.length s1, .slice H2 f.cs.length s2, .slice H3 f.ps.length s3, .int .i64 f.back] 34)
  replace hc2 := hc2.alloc (.cells #[.slice H1 f.ws.length s1, .slice H2 f.cs.length s2, .slice H3 f.ps.length s3, .int .i64 f.back] 34)
  replace hd := hd.alloc (.cells #[.slice H1 f.ws.length s1, .slice H2 f.cs.length s2, .slice H3 f.ps.length s3, .int .i64 f.back] 34)
  replace HBB := Lib.hid (HBB.out.alloc HBB.out.size (.cells #[.slice H1 f.ws.length s1, .slice H2 f.cs.length s2, .slice H3 f.ps.length s3, .int .i64 f.back] 34))
  clear hmo hfc
  generalize w11.alloc (.cells #[.slice H1 f.ws.length s1, .slice H2 f.cs.length s2, .slice H3 f.ps.length s3, .int .i64 f.back] 34) = yw11 at *
  generalize w11.heap.size = gf at *
  have HSX := Lib.hid (same_any c2 f F1 F2 F3 H1 H2 H3 l1 l2 l3 s1 s2 s3 _ hc2.r hf.r)
  rw [show decide (SameM c2 f) = true from decide_eq_true ((sameM_iff _ _).2 EQ2.out)] at HSX
  refine HSX.out.mono ?_
  rintro e w12 ⟨rfl, hbx⟩
  clear HSX
  replace hm := hm.below hbx
  replace ha := ha.below hbx
  replace hb := hb.below hbx
  replace hc := hc.below hbx
  replace hc2 := hc2.below hbx
  replace hd := hd.below hbx
  replace hf := hf.below hbx
  replace HBB := Lib.hid (HBB.out.trans (hbx.mono HBB.out.size))
  clear hbx
  go_wp2_with fail
  go_ret
  exact ⟨rfl, HB.out.trans (HBB.out.mono HB.out.size)⟩
end Go.Proofs.Ytbfpcleogdalfaa
