/-
  OuWalkF, OrdU, joined. No conditions.
-/
import Derived.Test.YtkjfdjcagfkdhaaGreatP15
import Derived.Test.YtkjfdjcagfkdhaaGreatP05
/-
  The walk of layer 04's search for chains: its queue is a channel with room.
-/
namespace Go.Proofs.YtkjfdjcagfkdhaaGreat
open Go Go.RowKit

set_option maxRecDepth 100000 in
set_option maxHeartbeats 4000000 in
theorem emptyRule_any (r : Ru) (w : World) : Calls Tryz.prog 91 #[.agg #[.int .i64 r.fr, .int .i64 r.to, .string r.inp, .string r.out, .int .i64 r.co]] w fun e w' => e = .returned (.bool r.mute) ∧ Below w.heap.size w w' := by
  by_cases h : r.inp.size = 0
  · have HM := Lib.hid (show r.mute = true from decide_eq_true h)
    have h1 : r.inp.toList = [] := by rw [Lib.toList_data]; exact List.length_eq_zero_iff.1 h
    go_enter Tryz.func91, Tryz.ntmps91
    go_wp2_with fail
    go_ret
    exact ⟨ret_bool (by rw [HM.out]), nw _ (Below.refl _ _)⟩
  · have HM := Lib.hid (show r.mute = false from decide_eq_false h)
    have h1 : ¬ r.inp.toList = [] := fun e => h (by rw [Lib.toList_data] at e; have := congrArg List.length e; exact this)
    have h2 : r.inp.toList.isEmpty = false := by simpa using h1
    go_enter Tryz.func91, Tryz.ntmps91
    go_wp2_with fail
    go_ret
    exact ⟨ret_bool (by rw [HM.out]), nw _ (Below.refl _ _)⟩
theorem ou_flat : ∀ (l : List Int), l.flatMap (fun x => [Value.int .i64 x]) = l.map (Value.int .i64)
  | [] => rfl
  | x :: l => by rw [List.flatMap_cons, ou_flat l]; rfl
theorem chan_info : (Tryz.prog.info? 3).map (fun i => i.bytes) = some 8 := by kernel_rfl
theorem mkQ (w : World) : (Instr.makeChan 167 (.int .i64 8)).run Tryz.prog w = .ok (.chan (some w.heap.size)) (w.alloc (.chan 8 #[] false 0 0 false)) := by
  obtain ⟨i, hi, hb⟩ := Option.map_eq_some_iff.1 chan_info
  simpa using Conc.run_makeChan (P := Tryz.prog) (w := w) Tryz.underlying167 hi .i64 8 (by omega) (by rw [hb]; omega)
theorem ints_info : (Tryz.prog.info? 64).map (fun i => (i.zero, i.size, i.bytes)) = some (some (.slice none 0 0), 1, 24) := by kernel_rfl
set_option maxRecDepth 100000 in
set_option maxHeartbeats 8000000 in
theorem first05_any (s : Sc) (A : Option Addr) (c : Nat) (m : Int) (w : World) (hs : ScIn w s A c) (hok : ScOK s) (hm : 0 ≤ m ∧ m < s.n) :
    Calls Tryz.prog 90 #[.agg #[.int .i64 s.n, .int .u8 s.acc, .slice A s.rs.length c], .int .i64 m, .int .u8 (2 ^ m.toNat), .func (.func 91) #[] #[]] w (IsChn s m w) := by
  obtain ⟨i0, hi, hy0, hy1, hy2⟩ := info_parts cloneI_info
  obtain ⟨j0, hj0, hz0, hz1, hz2⟩ := info_parts ints_info
  obtain ⟨w1, hw1⟩ : ∃ w1, w.alloc (.cells #[.int .i64 s.n, .int .u8 s.acc, .slice A s.rs.length c] 29) = w1 := ⟨_, rfl⟩
  have hb1 : Below w.heap.size w w1 := by rw [← hw1]; exact nw _ (Below.refl _ _)
  have hB : Blk w1 w.heap.size 29 #[.int .i64 s.n, .int .u8 s.acc, .slice A s.rs.length c] := by rw [← hw1]; exact Blk.new _ _ _
  have HW1 := Lib.hid hw1
  have HB1 := Lib.hid hb1
  have HCE : Hid (∀ W, Below w1.heap.size w1 W → W.cell? ⟨w.heap.size, 0, none⟩ = some (.int .i64 s.n) ∧ W.cell? ⟨w.heap.size, 1, none⟩ = some (.int .u8 s.acc) ∧ W.cell? ⟨w.heap.size, 2, none⟩ = some (.slice A s.rs.length c) ∧ w.heap.size < W.heap.size) := fun W hW => by
    have e1 := hB.below hW hB.lt
    exact ⟨by rw [e1.cell]; rfl, by rw [e1.cell]; rfl, by rw [e1.cell]; rfl, e1.lt⟩
  obtain ⟨b0, b1, b2, bl⟩ := HCE.out _ (Below.refl _ _)
  clear hw1 hb1 hB
  have hn := hok.1
  have hm8 : 0 ≤ m ∧ m < 8 := by omega
  obtain ⟨G, hG⟩ : ∃ G, (2 : Int) ^ m.toNat = G := ⟨_, rfl⟩
  have HONE : Hid (∀ W : World, Calls Tryz.prog 89 #[.int .i64 m] W fun e w' => e = .returned (.int .u8 G) ∧ W = w') := fun W => by rw [← hG]; exact one_any m W hm8
  rw [hG]
  have HG := Lib.hid hG
  have HS := Lib.hid hs
  have hl := hs.len
  have HOK := Lib.hid hok
  clear hs hok
  have hmc := mkQ
  clear hG
  refine calls_of_wpN Tryz.func90 rfl ?_
  simp only [Tryz.ntmps90, List.size_toArray, List.length_cons, List.length_nil, Nat.reduceAdd, Nat.reduceSub, Array.replicate_succ, Array.replicate_zero, List.push_toArray, List.append_toArray, List.nil_append, List.cons_append]
  refine wpN_seq_k ?_
  intro K1 hK1
  refine wpN_of ?_
  go_wp2_with fail
  rw [HW1.out]
  refine wpN_seq_k ?_
  intro K2 hK2
  refine wpN_of ?_
  go_wp2_with fail
  obtain ⟨w2, hw2⟩ : ∃ W, w1.alloc (.chan 8 #[] false 0 0 false) = W := ⟨_, rfl⟩
  have hb2 : Below w1.heap.size w1 w2 := by rw [← hw2]; exact nw _ (Below.refl _ _)
  rw [hw2]
  refine wpN_seq_k ?_
  intro K3 hK3
  refine wpN_of ?_
  go_wp2_with (refine wpList_mk _ rfl _ _ 168 rfl 64 j0 (.slice none 0 0) (.slice none 0 0) Tryz.underlying168 hj0 hz0 hz1 (by rw [hz2]; omega) rfl 8 rfl rfl (by omega) ?_)
  refine wpN_seq_k ?_
  intro K4 hK4
  refine wpN_of ?_
  go_wp2_with (go_at_call 89; go_loud (refine (HONE.out _).mono ?_; rintro e w' ⟨rfl, rfl⟩))
  refine wpN_seq_k ?_
  intro K5 hK5
  refine wpN_region ?_
  show InR _ _ _ [0, 1, 2] _ _
  refine inR_value (v := .chan (some w1.heap.size)) rfl rfl rfl ?_
  refine inR_value (v := .int .i64 m) rfl rfl rfl ?_
  simp only [Act.put, List.getElem_toArray, List.getElem_cons_zero, List.getElem_cons_succ, List.setIfInBounds_toArray, List.set_cons_succ, List.set_cons_zero]
  have hq2 : w2.heap[w1.heap.size]? = some (.chan 8 #[] false 0 0 false) := by rw [← hw2]; show (w1.heap.push _)[w1.heap.size]? = _; simp
  have hc2 : w2.heap.size = w1.heap.size + 1 := by rw [← hw2]; simp
  refine inR_send (c := w1.heap.size) (cap := 8) (s := 0) (r := 0) (buf := #[]) (tm := false) (v := .int .i64 m) (z := .tuple #[]) rfl rfl rfl ((Below.heap_alloc _ _ _ (by omega)).trans hq2) (by simp) ?_
  refine inR_nil ?_
  refine hK5 _ _ ?_
  simp only [Act.put, List.getElem_toArray, List.getElem_cons_zero, List.getElem_cons_succ, List.setIfInBounds_toArray, List.set_cons_succ, List.set_cons_zero, List.push_toArray, List.nil_append]
  clear hK5
  refine wpN_seq_k ?_
  intro K6 hK6
  refine wpN_block ?_
  refine wpN_loopN (outR s w1 (.agg #[.int .i64 s.n, .int .u8 s.acc, .slice A s.rs.length c]) (.func (.func 91) #[] #[]) (.pointer (some ⟨w.heap.size, 0, none⟩)) m G w1.heap.size w2.heap.size) _ ⟨_, _, _, _, _, frF_lit .., by rw [← HG.out]; exact FI.start hm8 hq2 hb2 hc2, rfl⟩ ?_
  clear hq2 hc2 hw2
  rintro N _ W ⟨u, v, f, q, ch, rfl, hI, hN⟩
  obtain ⟨b0, b1, b2, bl⟩ := HCE.out _ hI.bel
  have HI := Lib.hid hI
  clear hI
  unfold frF
  refine wpN_seq_k ?_
  intro K7 hK7
  refine wpN_of ?_
  have hlen : (Builtin.len_ #[167] 3 #[.chan (some w1.heap.size)]).run Tryz.prog W = .ok (.int .i64 (q.length : Int)) W := by
    obtain ⟨sn, rn, hq⟩ := HI.out.qi
    have := Conc.run_len_chan (P := Tryz.prog) 167 3 Tryz.underlying167 hq
    rw [this]
    show Result.ok (Value.int .i64 _) W = _
    simp
  rcases q with _ | ⟨x, q⟩
  · have hl0 : (([] : List Int).length : Int) = 0 := rfl
    rw [hl0] at hlen
    go_wp2_with fail
    refine wpN_of ?_
    go_wp2_with fail
    go_ret
    exact ⟨.inr ⟨rfl, bf_done HI.out.bf HI.out.cl fun r hr => by have := HOK.out.2.2.2.1 r hr; have := this.1; omega⟩, bthen HB1.out HI.out.bel⟩
  · have hl0 : (0 : Int) < (((x :: q).length : Nat) : Int) := by simp
    obtain ⟨n0, hn0⟩ : ∃ n : Nat, (x :: q).length = n := ⟨_, rfl⟩
    rw [hn0] at hl0 hlen
    go_wp2_with fail
    clear hl0 hlen
    refine wpN_block ?_
    refine wpN_seq_k ?_
    intro K8 hK8
    refine wpN_region ?_
    show InR _ _ _ [0, 1, 2] _ _
    refine inR_value (v := .chan (some w1.heap.size)) rfl rfl rfl ?_
    simp only [Act.put, List.getElem_toArray, List.getElem_cons_zero, List.getElem_cons_succ, List.setIfInBounds_toArray, List.set_cons_succ, List.set_cons_zero]
    obtain ⟨sn, rn, hq⟩ := HI.out.qi
    refine inR_recv (c := w1.heap.size) (cap := 8) (s := sn) (r := rn) (tm := false) (closed := false) (z := .int .i64 0) rfl rfl rfl hq (by simp) ?_
    refine inR_value (v := .int .i64 x) rfl rfl rfl ?_
    refine inR_nil ?_
    refine hK8 _ _ ?_
    simp only [Act.put, List.getElem_toArray, List.getElem_cons_zero, List.getElem_cons_succ, List.setIfInBounds_toArray, List.set_cons_succ, List.set_cons_zero]
    have hex : ((List.map (Value.int .i64) (x :: q)).toArray.extract 1) = (q.map (Value.int .i64)).toArray := by
      simp
      exact List.take_of_length_le (by simp)
    rw [hex]
    obtain ⟨W1, hW1⟩ : ∃ W', W.setChan w1.heap.size 8 (q.map (Value.int .i64)).toArray false sn (rn + 1) false = W' := ⟨_, rfl⟩
    have HI1 := Lib.hid (show FI _ _ _ _ _ _ _ _ _ _ W1 from hW1 ▸ HI.out.pop (sn := sn) (rn := rn + 1))
    rw [hW1]
    have hx8 := (HI.out.bf.ins x List.mem_cons_self).1
    have hfx := (HI.out.bf.ins x List.mem_cons_self).2
    clear hq hW1 hex hK8 HI b0 b1 b2 bl
    obtain ⟨b0, b1, b2, bl⟩ := HCE.out _ HI1.out.bel
    refine wpN_seq_k ?_
    intro K9 hK9
    refine wpN_of ?_
    go_wp2_with fail
    refine wpN_block ?_
    refine wpN_loopN (innR s w1 (.agg #[.int .i64 s.n, .int .u8 s.acc, .slice A s.rs.length c]) (.func (.func 91) #[] #[]) (.pointer (some ⟨w.heap.size, 0, none⟩)) m G w1.heap.size w2.heap.size (.slice A s.rs.length c) x N) _ ⟨0, _, _, _, _, _, frG_lit .., HI1.out, ⟨Nat.zero_le _, hfx, by rw [← hN]; simp only [List.length_cons]; omega⟩, rfl⟩ ?_
    clear hn0 hN hfx HI1 b0 b1 b2 bl
    clear v f q ch u
    rintro j _ WJ ⟨k, u, v, f, q, ch, rfl, hI, ⟨hk, hfx, hlt⟩, hj⟩
    have HI := Lib.hid hI
    have HFX := Lib.hid hfx
    clear hI hfx
    obtain ⟨b0, b1, b2, bl⟩ := HCE.out _ HI.out.bel
    unfold frG
    refine wpN_seq_k ?_
    intro K10 hK10
    refine wpN_of ?_
    by_cases hkl : k < s.rs.length
    · have hki : (k : Int) < (s.rs.length : Int) := by omega
      have hk0 : (0 : Int) ≤ (k : Int) := by omega
      go_wp2_with fail
      refine wpN_seq_k ?_
      intro K11 hK11
      refine wpN_of ?_
      go_wp2_with fail
      obtain ⟨b, off, t, rfl, hbb, hxx, d0, d1, d2, d3, d4⟩ := ((HS.out.below (bthen HB1.out HI.out.bel)).sl).ru hkl
      have htm := List.mem_of_getElem? hxx
      have hru := HOK.out.2.2.2.1 t htm
      have hm1 : 0 ≤ t.fr ∧ t.fr < 8 := by have := hru.1; omega
      have hm2 : 0 ≤ t.to ∧ t.to < 8 := by have := hru.1; omega
      have hub := HI.out.b.1
      have HT := Lib.hid (And.intro hxx htm)
      clear hxx htm hru
      refine wpN_seq_k ?_
      intro K12 hK12
      refine wpN_block ?_
      refine wpN_seq_k ?_
      intro K13 hK13
      refine wpN_of ?_
      go_wp2_with fail
      obtain ⟨k1, hk1⟩ : ∃ k1 : Nat, k1 = k + 1 := ⟨_, rfl⟩
      have HK1 := Lib.hid hk1
      have hki1 : (k : Int) + 1 = (k1 : Int) := by omega
      clear hk1
      obtain ⟨W2, hW2⟩ : ∃ W', WJ.alloc (.cells #[.int .i64 t.fr, .int .i64 t.to, .string t.inp, .string t.out, .int .i64 t.co] 55) = W' := ⟨_, rfl⟩
      have hbj : Below WJ.heap.size WJ W2 := by rw [← hW2]; exact nw _ (Below.refl _ _)
      have hX : Blk W2 WJ.heap.size 55 #[.int .i64 t.fr, .int .i64 t.to, .string t.inp, .string t.out, .int .i64 t.co] := by rw [← hW2]; exact Blk.new _ _ _
      rw [hW2]
      obtain ⟨g0, hg⟩ : ∃ b, WJ.heap.size = b := ⟨_, rfl⟩
      have HI2 := Lib.hid (HI.out.grow hbj)
      rw [hg] at hX ⊢
      have HX := Lib.hid hX
      have x0 := hX.cell 0
      have x1 := hX.cell 1
      have x2 := hX.cell 2
      have x3 := hX.cell 3
      have x4 := hX.cell 4
      have xl := hX.lt
      simp at x0 x1 x2 x3 x4
      have HBJ := Lib.hid hbj
      clear hW2 hbj hX hg d0 d1 d2 d3 d4 hbb b0 b1 b2 bl HI
      by_cases he : t.fr = x
      · subst he
        by_cases hmu : t.mute = true
        · refine wpN_seq_k ?_
          intro K14 hK14
          refine wpN_of ?_
          go_wp2_with (go_at_call 91; go_loud (refine (emptyRule_any t _).mono ?_; rintro e W3 ⟨rfl, hb3⟩))
          have HI3 := Lib.hid (HI2.out.grow hb3)
          have HX3 := Lib.hid (HX.out.below hb3 HX.out.lt)
          have HB3 := Lib.hid hb3
          clear x0 x1 x2 x3 x4 xl hb3
          have hcl := HI3.out.ci.len
          obtain ⟨y, hy⟩ : ∃ y, ch[t.fr.toNat]? = some y := ⟨_, List.getElem?_eq_getElem (by omega)⟩
          clear hcl
          have yc : W3.cell? ⟨w2.heap.size, t.fr.toNat, none⟩ = some (.slice y.A y.L.length y.c) := by
            rw [HI3.out.ci.blk.cell]
            simp [hy, vCh]
          have yl := HI3.out.ci.blk.lt
          obtain ⟨hyS, hyC, hyL⟩ := HI3.out.ci.ok y (List.mem_of_getElem? hy)
          have hc8 := cnt_le8 f
          have HYL := Lib.hid hyL
          have hyl : y.L.length ≤ 7 := by omega
          have HYS := Lib.hid hyS
          clear hy hyS hyL hc8
          refine wpN_seq_k ?_
          intro K15 hK15
          refine wpN_of ?_
          go_wp2_with (first | (go_at_call 106; go_loud (refine (cloneI_any y.A y.L y.c _ HYS.out.slr (by omega)).mono ?_; rintro e W4 ⟨v4, rfl, hown4, hb4⟩; have HO4 := Lib.hid hown4; have HB4 := Lib.hid hb4; clear hown4 hb4)) | (at_builtin; go_loud (refine wpList_app1 rfl _ _ 64 rfl W3.heap.size 3 i0 _ 1 8 Tryz.underlying64 hi hy0 hy1 hy2 rfl (by decide) v4 _ _ rfl _ [.int .i64 (k : Int)] rfl HO4.out _ rfl (by simp) rfl (by simp [Value.oneCell']) (by omega) (by decide) (by exact HB4.out.size) ?_; intro v5 W5 hown5 hb5 ha5)))
          have hfm : y.L.flatMap (fun x => [Value.int .i64 x]) ++ [Value.int .i64 (k : Int)] = (y.L ++ [(k : Int)]).map (Value.int .i64) := by
            rw [List.map_append, ou_flat]
            rfl
          rw [hfm] at hown5
          obtain ⟨B5, c5, rfl, hc5a, hc5b, hS5⟩ := own_slt hown5 (by simp)
          obtain ⟨g5, hg5⟩ : ∃ g, B5 = some g := by
            obtain ⟨b, o, cs, h, _⟩ := hS5 (by simp)
            exact ⟨_, h⟩
          subst hg5
          have hb45 : Below W3.heap.size W3 W5 := HB4.out.trans hb5
          have HI5 := Lib.hid (HI3.out.grow hb45)
          have hX5 := HX3.out.below hb45 HX3.out.lt
          have HX5 := Lib.hid hX5
          have x0 := hX5.cell 0
          have x1 := hX5.cell 1
          have x2 := hX5.cell 2
          have x3 := hX5.cell 3
          have x4 := hX5.cell 4
          have xl := hX5.lt
          simp at x0 x1 x2 x3 x4
          have HS5 := Lib.hid hS5
          obtain ⟨c9, hc9⟩ : ∃ n : Nat, y.L.length + 1 = n := ⟨_, rfl⟩
          have HC9 := Lib.hid hc9
          have HC5 := Lib.hid (And.intro hc5a hc5b)
          rw [hc9] at hown5 ⊢
          clear hfm hown5 hb5 ha5 hb45 hX5 HI3 HX3 HO4 HB4 HYS yc yl hS5 hc9 hc5a hc5b
          have hGb := (isB_one hm8).1
          rw [HG.out] at hGb
          refine wpN_seq_k ?_
          intro K16 hK16
          refine wpN_of ?_
          by_cases hto : t.to = m
          · have hbt : G.toNat.testBit t.to.toNat = true := by
              have := (isB_one hm8).2 t.to hm2.1 hm2.2
              rw [HG.out] at this
              rw [this]
              exact decide_eq_true hto
            have HTO := Lib.hid hto
            clear hto
            go_wp2_with (go_at_call 77; go_loud (refine (has_any G t.to _ hGb hm2).mono ?_; rintro e w' ⟨rfl, rfl⟩))
            go_ret
            exact ⟨.inl ⟨g5, y.L ++ [(k : Int)], c5, by rw [List.length_append, ← HC9.out]; rfl, by rw [List.length_append]; show 1 ≤ y.L.length + 1 ∧ y.L.length + 1 ≤ 9; omega, by rw [List.length_append]; exact HC5.out, HS5.out.slr, bf_found HI5.out.bf HT.out.2 hmu rfl hm1 HFX.out HTO.out⟩, bthen HB1.out HI5.out.bel⟩
          · have hbt : G.toNat.testBit t.to.toNat = false := by
              have := (isB_one hm8).2 t.to hm2.1 hm2.2
              rw [HG.out] at this
              rw [this]
              exact decide_eq_false hto
            have HTO := Lib.hid hto
            clear hto
            go_wp2_with (go_at_call 77; go_loud (refine (has_any G t.to _ hGb hm2).mono ?_; rintro e w' ⟨rfl, rfl⟩))
            refine wpN_seq_k ?_
            intro K17 hK17
            refine wpN_of ?_
            by_cases hfs : f t.to = true
            · have hvb : v.toNat.testBit t.to.toNat = true := (HI5.out.b.2 t.to hm2.1 hm2.2).trans hfs
              have HFS := Lib.hid hfs
              clear hfs
              go_wp2_with (go_at_call 77; go_loud (refine (has_any v t.to _ hub hm2).mono ?_; rintro e w' ⟨rfl, rfl⟩))
              refine wpN_of ?_
              go_wp2_with fail
              refine wpN_of ?_
              go_wp2_with fail
              exact ⟨_, by have := HK1.out; omega, k1, _, v, f, q, ch, frG_lit .., HI5.out.pred (by rw [HK1.out]; exact cl_next HI5.out.cl HT.out.1 (fun _ _ => ⟨HFS.out, HTO.out⟩)), ⟨by have := HK1.out; omega, HFX.out, hlt⟩, rfl⟩
            · have hff : f t.to = false := by simpa using hfs
              have hvb : v.toNat.testBit t.to.toNat = false := (HI5.out.b.2 t.to hm2.1 hm2.2).trans hff
              have HFF := Lib.hid hff
              clear hfs hff
              go_wp2_with (go_at_call 77; go_loud (refine (has_any v t.to _ hub hm2).mono ?_; rintro e w' ⟨rfl, rfl⟩))
              refine wpN_cond (t := true) rfl ?_
              show wpN _ (.seq _ _) _ _ _
              refine wpN_seq_k ?_
              intro K18 hK18
              refine wpN_of ?_
              go_wp2_with (go_at_call 89; go_loud (refine (one_any t.to _ hm2).mono ?_; rintro e w' ⟨rfl, rfl⟩))
              rw [or_pow hub hm2]
              have hblk := HI5.out.ci.blk
              have yfz : W5.frozen? ⟨w2.heap.size, t.to.toNat, none⟩ = false := hblk.frozen _
              have hdl := hblk.lt
              have yc : ∃ z, W5.cell? ⟨w2.heap.size, t.to.toNat, none⟩ = some z := by
                have hcl := HI5.out.ci.len
                obtain ⟨z0, hz0⟩ : ∃ z0, ch[t.to.toNat]? = some z0 := ⟨_, List.getElem?_eq_getElem (by omega)⟩
                exact ⟨vCh z0, by rw [hblk.cell]; simp [hz0]⟩
              obtain ⟨z, yc⟩ := yc
              clear hblk
              refine wpN_seq_k ?_
              intro K19 hK19
              refine wpN_of ?_
              go_wp2_with fail
              refine wpN_region ?_
              show InR _ _ _ [0, 1, 2, 3] _ _
              obtain ⟨W6, hW6⟩ : ∃ W', W5.setCell ⟨w2.heap.size, t.to.toNat, none⟩ (.slice (some g5) c9 c5) = W' := ⟨_, rfl⟩
              rw [hW6]
              have hne : g0 ≠ w2.heap.size := fun e => by
                have h1 := HX5.out
                have h2 := HI5.out.ci.blk
                unfold Blk at h1 h2
                rw [e, h2] at h1
                injection h1 with h1
                injection h1 with _ h1
                revert h1
                decide
              have y1 : W6.cell? ⟨g0, 1, none⟩ = some (.int .i64 t.to) := by
                rw [← hW6, ((HX5.out).far (p := ⟨w2.heap.size, t.to.toNat, none⟩) hne _).cell]
                rfl
              refine inR_value (v := .chan (some w1.heap.size)) rfl rfl rfl ?_
              simp only [Act.put, List.getElem_toArray, List.getElem_cons_zero, List.getElem_cons_succ, List.setIfInBounds_toArray, List.set_cons_succ, List.set_cons_zero]
              refine inR_value (v := .pointer (some ⟨g0, 1, none⟩)) (w' := W6) rfl rfl (by first | rfl | (simp [execOp, Act.eval]; done)) ?_
              simp only [Act.put, List.getElem_toArray, List.getElem_cons_zero, List.getElem_cons_succ, List.setIfInBounds_toArray, List.set_cons_succ, List.set_cons_zero]
              refine inR_value (v := .int .i64 t.to) (w' := W6) rfl rfl (by simp [execOp, Act.eval, y1, Instr.loadAt, Instr.sureAddr, loadVar, isAgg, run_underlying Tryz.underlying3]) ?_
              simp only [Act.put, List.getElem_toArray, List.getElem_cons_zero, List.getElem_cons_succ, List.setIfInBounds_toArray, List.set_cons_succ, List.set_cons_zero]
              obtain ⟨sn6, rn6, hq6⟩ := HI5.out.qi
              have hqc : q.length < 8 := by
                have h1 := bf_len HI5.out.bf
                have h2 := cnt_add (f := f) hm2 HFF.out
                have h3 := cnt_le8 (addB f t.to)
                omega
              have hq7 : W6.heap[w1.heap.size]? = some (.chan 8 (q.map (Value.int .i64)).toArray false sn6 rn6 false) := by
                rw [← hW6]
                exact (Below.heap_setCell _ _ _ _ (fun e => HI5.out.ne e.symm)).trans hq6
              refine inR_send (c := w1.heap.size) (cap := 8) (s := sn6) (r := rn6) (tm := false) (v := .int .i64 t.to) (z := .tuple #[]) rfl rfl rfl hq7 (by simpa using hqc) ?_
              refine inR_nil ?_
              refine hK12 _ _ ?_
              simp only [Act.put, List.getElem_toArray, List.getElem_cons_zero, List.getElem_cons_succ]
              have hq8 : (q.map (Value.int .i64)).toArray.push (.int .i64 t.to) = ((q ++ [t.to]).map (Value.int .i64)).toArray := by simp
              rw [hq8]
              have HI6 := Lib.hid (HI5.out.push (y := ⟨some g5, y.L ++ [(k : Int)], c5⟩) HT.out.2 hmu rfl hm1 HFX.out HFF.out hm2 HS5.out (by rw [List.length_append]; exact HC5.out) (by rw [List.length_append]; have := HYL.out; exact this) (sn := sn6 + 1) (rn := rn6))
              have hv6 : vCh ⟨some g5, y.L ++ [(k : Int)], c5⟩ = .slice (some g5) c9 c5 := by
                show Value.slice (some g5) (y.L ++ [(k : Int)]).length c5 = _
                rw [List.length_append, ← HC9.out]
                rfl
              rw [hv6, hW6] at HI6
              have hlt6 : (q ++ [t.to]).length + 2 * (8 - cntB 8 (addB f t.to)) < N := by
                have h2 := cnt_add (f := f) hm2 HFF.out
                have h3 := cnt_le8 (addB f t.to)
                rw [List.length_append]
                show q.length + 1 + _ < N
                omega
              have HLT6 := Lib.hid hlt6
              have HFX6 := Lib.hid (show addB f t.to t.fr = true by unfold addB; rw [HFX.out, Bool.or_true])
              obtain ⟨W7, hW7⟩ : ∃ W', W6.setChan w1.heap.size 8 ((q ++ [t.to]).map (Value.int .i64)).toArray false (sn6 + 1) rn6 false = W' := ⟨_, rfl⟩
              rw [hW7] at HI6 ⊢
              clear hlt6 hq8 hv6 hW7 hW6 hq6 hq7 hqc y1 yc yfz hdl x0 x1 x2 x3 x4 xl hne
              refine wpN_of ?_
              go_wp2_with fail
              exact ⟨_, by have := HK1.out; omega, k1, _, _, _, _, _, frG_lit .., HI6.out.pred (by rw [HK1.out]; exact cl_next HI6.out.cl HT.out.1 (fun _ _ => ⟨by unfold addB; simp, HTO.out⟩)), ⟨by have := HK1.out; omega, HFX6.out, HLT6.out⟩, rfl⟩
        · have hmf : t.mute = false := by simpa using hmu
          clear hmu
          refine wpN_seq_k ?_
          intro K14 hK14
          refine wpN_of ?_
          go_wp2_with (go_at_call 91; go_loud (refine (emptyRule_any t _).mono ?_; rintro e W3 ⟨rfl, hb3⟩))
          refine wpN_of ?_
          go_wp2_with fail
          exact ⟨_, by have := HK1.out; omega, k1, _, v, f, q, ch, frG_lit .., (HI2.out.grow hb3).pred (by rw [HK1.out]; exact cl_next HI2.out.cl HT.out.1 (fun _ h => by rw [hmf] at h; cases h)), ⟨by have := HK1.out; omega, HFX.out, hlt⟩, rfl⟩
      · refine wpN_seq_k ?_
        intro K14 hK14
        refine wpN_of ?_
        go_wp2_with fail
        refine wpN_of ?_
        go_wp2_with fail
        exact ⟨_, by have := HK1.out; omega, k1, _, v, f, q, ch, frG_lit .., HI2.out.pred (by rw [HK1.out]; exact cl_next HI2.out.cl HT.out.1 (fun h => absurd h he)), ⟨by have := HK1.out; omega, HFX.out, hlt⟩, rfl⟩
    · have hki : ¬ (k : Int) < (s.rs.length : Int) := by omega
      go_wp2_with fail
      refine wpN_seq_k ?_
      intro K11 hK11
      refine wpN_of ?_
      go_wp2_with fail
      obtain rfl : k = s.rs.length := by omega
      exact ⟨_, hlt, _, _, _, _, _, frF_lit .., HI.out.pred (cl_all HI.out.cl), rfl⟩
end Go.Proofs.YtkjfdjcagfkdhaaGreat

/-
  As XOrdT; an operation of 'ts' may wait for another one of 'ts' in place of what only reads.
-/
namespace Go.Proofs.YtkjfdjcagfkdhaaGreat
open Go Go.RowKit

section
variable {P : Program} {ops : Array Oper} {Q : Exit → Act → World → Prop} {S : World → Prop} {ts : List Nat}
end
end Go.Proofs.YtkjfdjcagfkdhaaGreat
