/-
  The walks of layer 20: Build.
-/
import Derived.Test.YtfjkmgjjifhdkaaGreatR35
import Derived.Test.YtfjkmgjjifhdkaaGreatR40
import Derived.Deep.DeepCutAuto
namespace Go.Proofs.YtfjkmgjjifhdkaaGreat
open Go Go.RowKit Go.Maps

theorem bint_info : (Tryz.prog.info? 3).map (fun i => (i.zero, i.size, i.bytes)) = some (some (.int .i64 0), 1, 8) := by kernel_rfl
/-- What Build answers: the graph, the last words, the error. -/
structure Bu where
  g : Gr
  last : List Int
  e : Int
def buM (x : La) (m : Mo) (prev : Int) : Bu :=
  if MoOK m then if (-1 ≤ prev ∧ prev < (m.ws.length : Int)) ∧ FitsL x m.ws.length then ⟨grL x m prev, lastL x prev, 0⟩ else ⟨⟨0, []⟩, [], 1⟩ else ⟨⟨0, []⟩, [], 110⟩
def GivesBu (b : Bu) (w : World) (r : Ending) (w' : World) : Prop :=
  ∃ (LA LB : Option Addr) (cA cB : Nat), r = .returned (.tuple #[.agg #[.int .i64 b.g.n, .slice LA b.g.ls.length cA], .slice LB b.last.length cB, .int .i64 b.e]) ∧ SlR 4 RLk w' LA b.g.ls ∧ SlR 1 RInt w' LB b.last ∧ (b.g.ls.length ≤ cA ∧ cA ≤ maxLen) ∧ Below w.heap.size w w' ∧ (∀ a, LA = some a → w.heap.size ≤ a.block) ∧ (∀ a, LB = some a → w.heap.size ≤ a.block)
def lastTo (nd : List Pt) (nl k : Nat) : List Int := (List.range nl).map (fun j => if j < k then (nd.getD j (0, 0)).2 else 0)
theorem lastTo_zero (nd : List Pt) (nl : Nat) : lastTo nd nl 0 = List.replicate nl 0 := by
  unfold lastTo
  apply List.ext_getElem?
  intro j
  by_cases h : j < nl <;> simp [h]
theorem lastTo_succ {nd : List Pt} {nl k : Nat} {p : Pt} (hk : k < nl) (hp : nd[k]? = some p) : lastTo nd nl (k + 1) = (lastTo nd nl k).set k p.2 := by
  unfold lastTo
  rw [range_set (f' := fun j => if j < k + 1 then (nd.getD j (0, 0)).2 else 0) (f := fun j => if j < k then (nd.getD j (0, 0)).2 else 0) hk (fun v _ hv => by
    by_cases h : v < k
    · simp [h, Nat.lt_succ_of_lt h]
    · have : ¬ v < k + 1 := by omega
      simp [h, this])]
  congr 1
  simp [List.getD_eq_getElem?_getD, hp]
theorem lastTo_all (nd : List Pt) : lastTo nd nd.length nd.length = nd.map (·.2) := by
  unfold lastTo
  apply List.ext_getElem?
  intro j
  by_cases h : j < nd.length
  · simp [h, List.getD_eq_getElem?_getD]
  · simp [h]
theorem lastTo_len (nd : List Pt) (nl k : Nat) : (lastTo nd nl k).length = nl := by unfold lastTo; simp
theorem node_bd {x : La} {prev : Int} {nw : Nat} (hf : FitsL x nw) (hp : -1 ≤ prev ∧ prev < (nw : Int)) (hnw : nw ≤ 200) {p : Pt} (h : p ∈ nodesL x prev) : (0 ≤ p.1 ∧ p.1 ≤ x.n) ∧ -1 ≤ p.2 ∧ p.2 < 200 := by
  have hn := hf.1.1
  unfold nodesL at h
  rcases List.mem_cons.1 h with rfl | h
  · exact ⟨⟨Int.le_refl _, hn.1⟩, hp.1, by show prev < 200; omega⟩
  · unfold tailL at h
    split at h
    · cases h
    · rw [sortU_mem, arr_mem hf.1] at h
      rcases h with rfl | h
      · exact ⟨⟨hn.1, Int.le_refl _⟩, by show (-1 : Int) ≤ -1; omega, by show (-1 : Int) < 200; omega⟩
      · have h2 := arr_bd hf h
        have := h.1
        omega
theorem frI_mem {x : La} {v : Int} {i : Int} (h : i ∈ frI x.es v x.es.length) : ∃ (k : Nat) (e : Ed), i = (k : Int) ∧ x.es[k]? = some e ∧ e.fr = v := by
  unfold frI at h
  obtain ⟨k, hk, rfl⟩ := List.mem_map.1 h
  obtain ⟨e, he, hf⟩ := frE_mem.1 (show k ∈ frE x v from hk)
  exact ⟨k, e, rfl, he, hf⟩
set_option maxRecDepth 100000 in
set_option maxHeartbeats 16000000 in
theorem build_any (x : La) (A : Option Addr) (c : Nat) (m : Mo) (A1 A2 A3 : Option Addr) (c1 c2 c3 : Nat) (prev : Int) (w : World) (hx : SlR 4 REd w A x.es) (hes : x.es.length ≤ 100) (hm : MoR w m A1 A2 A3) (hc3 : m.ps.length ≤ c3) (hm3 : c3 ≤ maxLen) :
    Calls Tryz.prog 13 #[.agg #[.int .i64 x.n, .slice A x.es.length c], .agg #[.slice A1 m.ws.length c1, .slice A2 m.cs.length c2, .slice A3 m.ps.length c3, .int .i64 m.back], .int .i64 prev] w (GivesBu (buM x m prev) w) := by
  obtain ⟨i0, hi, hz0, hz1, hz2⟩ := info_parts link_info
  obtain ⟨j0, hj, hy0, hy1, hy2⟩ := info_parts bint_info
  have hmm := @run_makeMap Tryz.prog
  have hl : x.es.length ≤ maxLen := by unfold maxLen; omega
  have hl1 := hm.l1
  obtain ⟨w2, hw2⟩ : ∃ w2, ((w.alloc (.cells #[.int .i64 x.n, .slice A x.es.length c] 27)).alloc (.cells #[.slice A1 m.ws.length c1, .slice A2 m.cs.length c2, .slice A3 m.ps.length c3, .int .i64 m.back] 56)).alloc (.cells #[.int .i64 0, .slice none 0 0] 38) = w2 := ⟨_, rfl⟩
  have hb2 : Below w.heap.size w w2 := by rw [← hw2]; exact nw _ (nw _ (nw _ (Below.refl _ _)))
  have hLB : Blk w2 w.heap.size 27 #[.int .i64 x.n, .slice A x.es.length c] := by rw [← hw2]; exact ((Blk.new _ _ _).alloc _).alloc _
  have hMB : Blk w2 (w.heap.size + 1) 56 #[.slice A1 m.ws.length c1, .slice A2 m.cs.length c2, .slice A3 m.ps.length c3, .int .i64 m.back] := by rw [← hw2]; exact (Blk.new_ (by simp)).alloc _
  have hRB : Blk w2 (w.heap.size + 2) 38 #[.int .i64 0, .slice none 0 0] := by rw [← hw2]; exact Blk.new_ (by simp)
  have HW2 := Lib.hid hw2
  have HBX : Hid (∀ W, Below w2.heap.size w2 W → (W.cell? ⟨w.heap.size, 0, none⟩ = some (.int .i64 x.n) ∧ W.cell? ⟨w.heap.size, 1, none⟩ = some (.slice A x.es.length c)) ∧ (W.cell? ⟨w.heap.size + 1, 0, none⟩ = some (.slice A1 m.ws.length c1) ∧ W.cell? ⟨w.heap.size + 1, 1, none⟩ = some (.slice A2 m.cs.length c2) ∧ W.cell? ⟨w.heap.size + 1, 2, none⟩ = some (.slice A3 m.ps.length c3) ∧ W.cell? ⟨w.heap.size + 1, 3, none⟩ = some (.int .i64 m.back)) ∧ (w.heap.size < W.heap.size ∧ w.heap.size + 1 < W.heap.size) ∧ Blk W (w.heap.size + 2) 38 #[.int .i64 0, .slice none 0 0]) := fun W hW => by
    have e1 := hLB.below hW hLB.lt
    have e2 := hMB.below hW hMB.lt
    exact ⟨⟨by rw [e1.cell]; rfl, by rw [e1.cell]; rfl⟩, ⟨by rw [e2.cell]; rfl, by rw [e2.cell]; rfl, by rw [e2.cell]; rfl, by rw [e2.cell]; rfl⟩, ⟨e1.lt, e2.lt⟩, hRB.below hW hRB.lt⟩
  have HB2 := Lib.hid hb2
  clear hw2 hLB hMB hRB hb2
  have HCV : Hid (∀ W, Below w2.heap.size w2 W → Calls Tryz.prog 44 #[.agg #[.slice A1 m.ws.length c1, .slice A2 m.cs.length c2, .slice A3 m.ps.length c3, .int .i64 m.back]] W fun e w' => e = .returned (.bool (decide (MoOK m))) ∧ Below W.heap.size W w') := fun W hW => co_valid_any m A1 A2 A3 c1 c2 c3 W (hm.below (bthen HB2.out hW))
  have HFT : Hid (∀ W, Below w2.heap.size w2 W → Calls Tryz.prog 45 #[.agg #[.int .i64 x.n, .slice A x.es.length c], .agg #[.slice A1 m.ws.length c1, .slice A2 m.cs.length c2, .slice A3 m.ps.length c3, .int .i64 m.back], .int .i64 prev] W fun e w' => e = .returned (.bool (decide ((-1 ≤ prev ∧ prev < (m.ws.length : Int)) ∧ FitsL x m.ws.length))) ∧ Below W.heap.size W w') := fun W hW => fits_any x A c m A1 A2 A3 c1 c2 c3 prev W (hx.below keeps_ed (bthen HB2.out hW)) hl hl1
  have h22 := Below.refl w2.heap.size w2
  by_cases hmo : ¬ MoOK m
  · have HR : Hid (buM x m prev = ⟨⟨0, []⟩, [], 110⟩) := by show _ = _; unfold buM; rw [if_neg hmo]
    rw [decide_eq_false hmo] at HCV
    obtain ⟨⟨l0, l1⟩, ⟨m0, m1, m2, m3⟩, ⟨ll, ml⟩, hR⟩ := HBX.out _ h22
    clear hmo
    go_enter Tryz.func13, Tryz.ntmps13
    go_upto_region 1 with fail
    rw [HW2.out]
    go_upto_region 2 with (go_at_call 44; go_loud (refine (HCV.out _ h22).mono ?_; rintro e w3 ⟨rfl, hb3⟩))
    obtain ⟨_, _, _, hR3⟩ := HBX.out _ hb3
    have r0 := hR3.cell 0
    have r1 := hR3.cell 1
    have rf0 := hR3.frozen 0
    have rf1 := hR3.frozen 1
    have rl := hR3.lt
    simp at r0 r1
    have HR3 := Lib.hid hR3
    have HB3 := Lib.hid (bthen HB2.out hb3)
    clear hR hR3 hb3 l0 l1 m0 m1 m2 m3
    go_wp2_with fail
    refine ret_cell_tmp2 (t := 38) (cs := #[.int .i64 0, .slice none 0 0]) (by have := (HR3.out.set_ 0 (.int .i64 0)).set_ 1 (.slice none 0 0); simpa using this) rfl rfl Tryz.underlying38 rfl (by kernel_rfl) rfl ?_
    rw [HR.out]
    exact ⟨none, none, 0, 0, rfl, SlR.nil, SlR.nil, ⟨Nat.le_refl _, Nat.zero_le _⟩, (HB3.out.setCell (p := ⟨w.heap.size + 2, 0, none⟩) (by show w.heap.size ≤ w.heap.size + 2; omega) _).setCell (p := ⟨w.heap.size + 2, 1, none⟩) (by show w.heap.size ≤ w.heap.size + 2; omega) _, fun _ h => (by cases h), fun _ h => (by cases h)⟩
  have hmo := Decidable.not_not.1 hmo
  rw [decide_eq_true hmo] at HCV
  by_cases hft : ¬ ((-1 ≤ prev ∧ prev < (m.ws.length : Int)) ∧ FitsL x m.ws.length)
  · have HR : Hid (buM x m prev = ⟨⟨0, []⟩, [], 1⟩) := by show _ = _; unfold buM; rw [if_pos hmo, if_neg hft]
    rw [decide_eq_false hft] at HFT
    obtain ⟨⟨l0, l1⟩, ⟨m0, m1, m2, m3⟩, ⟨ll, ml⟩, hR⟩ := HBX.out _ h22
    clear hmo hft
    go_enter Tryz.func13, Tryz.ntmps13
    go_upto_region 1 with fail
    rw [HW2.out]
    go_upto_region 3 with (go_at_call 44; go_loud (refine (HCV.out _ h22).mono ?_; rintro e w3 ⟨rfl, hb3⟩))
    clear l0 l1 m0 m1 m2 m3 ll ml hR
    obtain ⟨⟨l0, l1⟩, ⟨m0, m1, m2, m3⟩, ⟨ll, ml⟩, hR⟩ := HBX.out _ hb3
    go_upto_region 4 with (go_at_call 45; go_loud (refine (HFT.out _ hb3).mono ?_; rintro e w4 ⟨rfl, hb4⟩))
    have hb24 := bthen hb3 hb4
    obtain ⟨_, _, _, hR3⟩ := HBX.out _ hb24
    have r0 := hR3.cell 0
    have r1 := hR3.cell 1
    have rf0 := hR3.frozen 0
    have rf1 := hR3.frozen 1
    have rl := hR3.lt
    simp at r0 r1
    have HR3 := Lib.hid hR3
    have HB3 := Lib.hid (bthen HB2.out hb24)
    clear hR hR3 hb3 l0 l1 m0 m1 m2 m3 hb4 hb24
    go_wp2_with fail
    refine ret_cell_tmp2 (t := 38) (cs := #[.int .i64 0, .slice none 0 0]) (by have := (HR3.out.set_ 0 (.int .i64 0)).set_ 1 (.slice none 0 0); simpa using this) rfl rfl Tryz.underlying38 rfl (by kernel_rfl) rfl ?_
    rw [HR.out]
    exact ⟨none, none, 0, 0, rfl, SlR.nil, SlR.nil, ⟨Nat.le_refl _, Nat.zero_le _⟩, (HB3.out.setCell (p := ⟨w.heap.size + 2, 0, none⟩) (by show w.heap.size ≤ w.heap.size + 2; omega) _).setCell (p := ⟨w.heap.size + 2, 1, none⟩) (by show w.heap.size ≤ w.heap.size + 2; omega) _, fun _ h => (by cases h), fun _ h => (by cases h)⟩
  have hft := Decidable.not_not.1 hft
  have HR : Hid (buM x m prev = ⟨grL x m prev, lastL x prev, 0⟩) := by show _ = _; unfold buM; rw [if_pos hmo, if_pos hft]
  rw [decide_eq_true hft] at HFT
  obtain ⟨hpv, hfl⟩ := hft
  have HND : Hid (∀ W, Below w2.heap.size w2 W → Calls Tryz.prog 46 #[.agg #[.int .i64 x.n, .slice A x.es.length c], .int .i64 prev] W fun e w' => ∃ B c', e = .returned (.slice B (nodesL x prev).length c') ∧ SlR 2 RPt w' B (nodesL x prev) ∧ Below W.heap.size W w') := fun W hW => nodes_any x A c prev W (hx.below keeps_ed (bthen HB2.out hW)) hfl.1
  have hnw : m.ws.length ≤ 200 := hmo.1.1.1.1.2
  have hn40 := hfl.1.1
  have hln := nodesL_len x prev
  have hbdn := fun p => node_bd hfl hpv hnw (p := p)
  have hnod := nodesL_nodup hfl.1 prev
  have HOK := Lib.hid (And.intro hfl hpv)
  have HMO := Lib.hid hmo
  obtain ⟨nd, hnd⟩ : ∃ nd, nodesL x prev = nd := ⟨_, rfl⟩
  rw [hnd] at HND hln hbdn hnod
  have HNDE := Lib.hid hnd
  obtain ⟨nl, hnl⟩ : ∃ nl, nd.length = nl := ⟨_, rfl⟩
  rw [hnl] at HND hln
  have hnl2 : nl ≤ 102 := by omega
  have hnl2' : (nl : Int) ≤ 102 := by omega
  have HNL := Lib.hid hnl
  have HBD := Lib.hid hbdn
  have HNOD := Lib.hid hnod
  clear hmo hpv hfl hnd hnl hbdn hnod
  obtain ⟨⟨l0, l1⟩, ⟨m0, m1, m2, m3⟩, ⟨ll, ml⟩, hR⟩ := HBX.out _ h22
  go_enter Tryz.func13, Tryz.ntmps13
  go_upto_region 1 with fail
  rw [HW2.out]
  go_upto_region 3 with (go_at_call 44; go_loud (refine (HCV.out _ h22).mono ?_; rintro e w3 ⟨rfl, hb3⟩))
  clear l0 l1 m0 m1 m2 m3 ll ml hR
  obtain ⟨⟨l0, l1⟩, ⟨m0, m1, m2, m3⟩, ⟨ll, ml⟩, hR⟩ := HBX.out _ hb3
  go_upto_region 5 with (go_at_call 45; go_loud (refine (HFT.out _ hb3).mono ?_; rintro e w4 ⟨rfl, hb4⟩))
  have hb24 := bthen hb3 hb4
  clear l0 l1 m0 m1 m2 m3 ll ml hR hb3 hb4
  obtain ⟨⟨l0, l1⟩, ⟨m0, m1, m2, m3⟩, ⟨ll, ml⟩, hR⟩ := HBX.out _ hb24
  go_upto_region 8 with (go_at_call 46; go_loud (refine (HND.out _ hb24).mono ?_; rintro e w5 ⟨B, cB, rfl, hsn, hb5⟩))
  have hb25 := bthen hb24 hb5
  clear l0 l1 m0 m1 m2 m3 ll ml hR hb24 hb5
  go_upto_region 10 with (at_make; go_loud (refine wpList_mk _ rfl _ _ 40 rfl 3 j0 (.int .i64 0) (.int .i64 0) Tryz.underlying40 hj hy0 hy1 (by omega) rfl nl rfl rfl (by omega) ?_))
  obtain ⟨W6, hW6⟩ : ∃ W, (w5.alloc (Obj.map #[] 0)).alloc (.cells (Array.replicate nl (.int .i64 0)) 3) = W := ⟨_, rfl⟩
  have hb56 : Below w5.heap.size w5 W6 := by rw [← hW6]; exact nw _ (nw _ (Below.refl _ _))
  have hM6 : IxM W6 w5.heap.size nd 0 := by
    rw [← hW6]
    exact (IxM.start w5 nd).keep (Below.heap_alloc _ _ _ (by simp))
  have hR6 : Row W6 (w5.heap.size + 1) (lastTo nd nl 0) := by
    rw [← hW6, lastTo_zero]
    have e : (w5.alloc (Obj.map #[] 0)).heap.size = w5.heap.size + 1 := by simp
    have := Row.zeros (w5.alloc (Obj.map #[] 0)) nl
    rw [e] at this
    simpa using this
  rw [hW6]
  obtain ⟨b5, hb5⟩ : ∃ b, w5.heap.size = b := ⟨_, rfl⟩
  have hw5 : w.heap.size + 3 ≤ b5 := by have := HBX.out _ hb25; have := this.2.2.2.lt; omega
  rw [hb5] at hM6 hR6 hb56 ⊢
  have HM6 := Lib.hid hM6
  have HR6 := Lib.hid hR6
  have HB25 := Lib.hid hb25
  have HB5E := Lib.hid hb5
  have HN5 : Hid (∀ W, Below b5 w5 W → SlR 2 RPt W B nd) := fun W hW => hsn.below keeps_pt (hW.mono (by rw [hb5]; exact Nat.le_refl _))
  clear hW6 hM6 hR6 hb25 hb5 hsn hmm
  go_wp2_with fail
  go_loopw [44] (fun i wr => ∃ k : Nat, k ≤ nl ∧ i = .int .i64 k ∧ Hid (IxM wr b5 nd k) ∧ Hid (Row wr (b5 + 1) (lastTo nd nl k)) ∧ Below b5 w5 wr) (fun i _ => nl - (intOf i).toNat)
  case atStart => exact ⟨0, by omega, rfl, HM6, HR6, hb56⟩
  case round =>
    obtain ⟨k, hk, rfl, HM, HRW, hbr⟩ := hrel
    by_cases hlt : k < nl
    · obtain ⟨b, off, q, rfl, hbb, hqq, d0, d1⟩ := (HN5.out _ hbr).pt (k := k) (by rw [HNL.out]; exact hlt)
      have hqb := HBD.out q (List.mem_of_getElem? hqq)
      have HQQ := Lib.hid hqq
      have hq1 : (Lit.int .i64 q.1).wf = true := WalkArith.wf_i64 (by omega)
      have hq2 : (Lit.int .i64 q.2).wf = true := WalkArith.wf_i64 (by omega)
      obtain ⟨kl, hkl⟩ := mapKey_some hq1 hq2
      obtain ⟨D, hown, hD⟩ := HM.out
      obtain ⟨hDM, hD2⟩ : IsMap D ∧ True := ⟨by obtain ⟨es, clock, _, _, _, h⟩ := hown; exact ⟨_, h⟩, trivial⟩
      have HD := Lib.hid (And.intro hDM hD)
      have hMl := HM.out.lt
      have hRl := HRW.out.lt
      have HO := Lib.hid hown
      have HBr := Lib.hid hbr
      clear hqq hown hD hDM hbr
      go_upto_region 13 with fail
      obtain ⟨W7, hW7⟩ : ∃ W, wr.alloc (.cells #[.int .i64 q.1, .int .i64 q.2] 117) = W := ⟨_, rfl⟩
      have hb7 : Below wr.heap.size wr W7 := by rw [← hW7]; exact nw _ (Below.refl _ _)
      have hQ7 : Blk W7 wr.heap.size 117 #[.int .i64 q.1, .int .i64 q.2] := by rw [← hW7]; exact Blk.new _ _ _
      have HO7 : Hid (W7.ownsMap Tryz.prog 117 (plainElem Tryz.prog 3) b5 k D) := by rw [← hW7]; exact HO.out.alloc _
      rw [hW7]
      have e0 := hQ7.cell 0
      have e1 := hQ7.cell 1
      have el := hQ7.lt
      simp at e0 e1
      obtain ⟨tQ, htQ⟩ : ∃ b, wr.heap.size = b := ⟨_, rfl⟩
      have hQ5 : b5 + 1 < tQ := by omega
      rw [htQ] at hQ7 e0 e1 el ⊢
      have HWT := Lib.hid htQ
      have hkm : k < maxLen := by unfold maxLen; omega
      have hkwf : (Lit.int .i64 (k : Int)).wf = true := WalkArith.wf_i64 (by omega)
      have hpl : plainElem (H := Unit) Tryz.prog 3 (.int .i64 (k : Int)) = some (.lit (.int .i64 (k : Int)), []) := plainElem_int Tryz.underlying3 hkwf
      clear hW7 htQ
      go_upto_region 14 with (at_mapUpdate; refine wpList_mapUpdate_own W7 rfl _ _ _ 116 rfl 117 3 mapLaw Tryz.underlying116 _ b5 k D rfl HO7.out hkm _ _ kl rfl rfl hkl _ [] hpl ?_; intro w8 hown8 hgrow8)
      have hb8 : Below b5 w5 w8 := (HBr.out.trans (hb7.mono (by have := HWT.out; omega))).grown hgrow8 (by omega) (fun j hj => by cases hj; exact Nat.le_refl _)
      have hQ8 : Blk w8 tQ 117 #[.int .i64 q.1, .int .i64 q.2] := (hgrow8.block tQ el (by simp; omega)).trans hQ7
      have hR7 : Row W7 (b5 + 1) (lastTo nd nl k) := HRW.out.below hb7 hRl
      have hR8 : Row w8 (b5 + 1) (lastTo nd nl k) := (hgrow8.block (b5 + 1) hR7.lt (by simp)).trans hR7
      have hM8 : IxM w8 b5 nd (k + 1) := IxM.put hown8 HD.out.1 HD.out.2 HNOD.out HQQ.out hkl
      have e0 := hQ8.cell 0
      have e1 := hQ8.cell 1
      have el := hQ8.lt
      simp at e0 e1
      obtain ⟨y, hy⟩ : ∃ y, w8.cell? ⟨b5 + 1, k, none⟩ = some (.int .i64 y) := by
        have hk' : k < (lastTo nd nl k).length := by rw [lastTo_len]; exact hlt
        exact ⟨_, hR8.cell (List.getElem?_eq_getElem hk')⟩
      have hyf := hR8.frozen k
      have hyl := hR8.lt
      have HM8 := Lib.hid hM8
      have HR8 := Lib.hid hR8
      have HB8 := Lib.hid hb8
      clear hgrow8 hown8 hR7 hM8 hR8 hb8 hb7 hQ7 hQ8
      go_wp2_with fail
      go_roundw
      case rel => exact ⟨k + 1, by omega, by go_num, (HM8.out.keep (Below.heap_setCell w8 ⟨b5 + 1, k, none⟩ _ b5 (by simp))), (by
        show Row _ _ _
        rw [lastTo_succ hlt HQQ.out]
        exact HR8.out.set_ k q.2), HB8.out.setCell (p := ⟨b5 + 1, k, none⟩) (by show b5 ≤ b5 + 1; omega) _⟩
      case measure => simp [intOf]; omega
    · obtain rfl : nl = k := by omega
      have hMN := HM.out
      have hRN := HRW.out
      have HSUMM : Hid (Below w2.heap.size w2 wr) := HB25.out.trans (hbr.mono (by have := HB25.out.size; rw [← HB5E.out]; exact this))
      obtain ⟨⟨l0, l1⟩, ⟨m0, m1, m2, m3⟩, ⟨ll, ml⟩, hR⟩ := HBX.out _ HSUMM.out
      obtain ⟨N, hN⟩ : ∃ N : Nat, x.n + 1 = (N : Int) := ⟨(x.n + 1).toNat, by omega⟩
      have HLV := Lib.hid (cleav_any A c x N wr (hx.below keeps_ed (bthen HB2.out HSUMM.out)) HOK.out.1.1 hN)
      have hN1 : 1 ≤ N ∧ N ≤ 41 := by omega
      have HNE := Lib.hid hN
      have HBr := Lib.hid hbr
      clear hN hbr hR
      go_upto_region 17 with (go_at_call 47; go_loud (refine HLV.out.mono ?_; rintro r w9 ⟨gf, rfl, hgf1, hgf2, hE, hb9⟩))
      have hb59 : Below b5 w5 w9 := HBr.out.trans (hb9.mono (by have := hRN.lt; omega))
      obtain ⟨WG, hWG⟩ : ∃ W, w9.alloc (.cells #[.int .i64 (nl : Int), .slice none 0 0] 38) = W := ⟨_, rfl⟩
      have hb9G : Below w9.heap.size w9 WG := by rw [← hWG]; exact nw _ (Below.refl _ _)
      have hGB : Blk WG w9.heap.size 38 #[.int .i64 (nl : Int), .slice none 0 0] := by rw [← hWG]; exact Blk.new _ _ _
      have hsG : WG.heap.size = w9.heap.size + 1 := by rw [← hWG]; simp
      have HK9 : Hid (∀ W, Below w9.heap.size WG W → Below w9.heap.size w9 W) := fun W hW => hb9G.trans hW
      have hR9 : Row w9 (b5 + 1) (lastTo nd nl nl) := hRN.below hb9 hRN.lt
      have hM9 : IxM w9 b5 nd nl := hMN.keep (hb9.block b5 hMN.lt)
      have h29 : Below w2.heap.size w2 w9 := bthen HSUMM.out hb9
      have HM9 := Lib.hid hM9
      have HR9 := Lib.hid hR9
      have HX9 : Hid (∀ W, Below w9.heap.size WG W → SlR 4 REd W A x.es) := fun W hW => hx.below keeps_ed (bthen HB2.out (bthen h29 (HK9.out W hW)))
      have HMR : Hid (∀ W, Below w9.heap.size WG W → MoR W m A1 A2 A3) := fun W hW => hm.below (bthen HB2.out (bthen h29 (HK9.out W hW)))
      have HNB : Hid (∀ W, Below w9.heap.size WG W → SlR 2 RPt W B nd) := fun W hW => HN5.out W (hb59.trans ((HK9.out W hW).mono (by have := hR9.lt; omega)))
      have HIX : Hid (∀ W, Below w9.heap.size WG W → IxM W b5 nd nl) := fun W hW => HM9.out.keep ((HK9.out W hW).block b5 HM9.out.lt)
      have HLR : Hid (∀ W, Below w9.heap.size WG W → Row W (b5 + 1) (lastTo nd nl nl)) := fun W hW => HR9.out.below (HK9.out W hW) HR9.out.lt
      have HBG : Hid (∀ W, Below w9.heap.size WG W → Below w2.heap.size w2 W) := fun W hW => bthen h29 (HK9.out W hW)
      have HFM : Hid (∀ qn : Nat, qn < N → ∃ A' c', ∀ W, Below w9.heap.size WG W → W.cell? ⟨gf, qn, none⟩ = some (.slice A' (frI x.es (qn : Int) x.es.length).length c') ∧ SlR 1 RInt W A' (frI x.es (qn : Int) x.es.length)) := fun qn hq => by
        obtain ⟨b, off, y, A', c', hA, hbb, hyy, hc, hs, _⟩ := (hE w9 ⟨Nat.le_refl _, fun _ _ _ => rfl⟩).sl (k := qn) (by rw [leavE_len]; exact hq)
        obtain ⟨rfl, rfl⟩ : gf = b ∧ 0 = off := by simpa using hA
        rw [leavE_at x hq] at hyy
        obtain rfl := Option.some.inj hyy
        rw [Nat.zero_add] at hc
        exact ⟨A', c', fun W hW => ⟨((HK9.out W hW).cell (p := ⟨gf, qn, none⟩) hgf2).trans hc, hs.below keeps_int (HK9.out W hW)⟩⟩
      obtain ⟨bG, hbG⟩ : ∃ b, w9.heap.size = b := ⟨_, rfl⟩
      rw [hbG] at hGB hsG HX9 HMR HNB HIX HLR HBG HFM hgf2
      have h5G : b5 + 1 < bG := by have := hR9.lt; omega
      have HGB := Lib.hid hGB
      have HSG := Lib.hid hsG
      have HWG := Lib.hid hWG
      have HBGE := Lib.hid hbG
      clear hWG hGB hsG hbG hb59 hb9 hb9G hR9 hM9 h29 hE hMN hRN HM HRW l0 l1 m0 m1 m2 m3 ll ml
      go_upto_region 18 with fail
      rw [HWG.out, HBGE.out]
      have HLT := lksTo_len x m prev
      go_wp2_with fail
      go_loopw [65] (fun i wr => ∃ (k : Nat) (V : Value), k ≤ nl ∧ i = .int .i64 k ∧ Hid (Blk wr bG 38 #[.int .i64 (nl : Int), V]) ∧ Hid (wr.ownsRow (bG + 1) 105 4 V (lksTo x m prev k).length ((lksTo x m prev k).flatMap encLk)) ∧ Below bG WG wr) (fun i _ => nl - (intOf i).toNat)
      case atStart => exact ⟨0, .slice none 0 0, by omega, rfl, HGB, own_nil _ _ _ _, Below.refl _ _⟩
      case round =>
        obtain ⟨k, V, hk, rfl, HG, HO, hbr⟩ := hrel
        by_cases hlt : k < nl
        · obtain ⟨b, off, q, hBA, hbb, hqq, d0, d1⟩ := (HNB.out _ hbr).pt (k := k) (by rw [HNL.out]; exact hlt)
          have hqb := HBD.out q (List.mem_of_getElem? hqq)
          have HQQ := Lib.hid hqq
          subst hBA
          obtain ⟨qa, qb⟩ := q
          simp only at hqb d0 d1
          obtain ⟨qn, hqn⟩ : ∃ qn : Nat, qa = (qn : Int) := ⟨qa.toNat, by omega⟩
          subst hqn
          have hqN : qn < N := by have := HNE.out; omega
          have hqN' : (qn : Int) < (N : Int) := by omega
          have hq0 : (0 : Int) ≤ (qn : Int) := by omega
          obtain ⟨AF, cF, hF⟩ := HFM.out qn hqN
          have HF := Lib.hid hF
          have hfl := frI_len x.es (qn : Int) x.es.length
          have hfm := fun i => frI_mem (x := x) (v := (qn : Int)) (i := i)
          have HLK1 := Lib.hid (lksTo_succ (x := x) (m := m) (prev := prev) (j := k) (p := ((qn : Int), qb)) (by rw [HNDE.out]; exact hqq))
          have HFE : Hid ((frE x (qn : Int)).map (cx_mkLk x m prev k qb) = (frI x.es (qn : Int) x.es.length).map (fun i => cx_mkLk x m prev k qb i.toNat)) := by
            show _ = _
            unfold frI
            rw [List.map_map]
            rfl
          have hlk := HLT k
          have hlk2 : (lksTo x m prev k).length ≤ 10200 := Nat.le_trans hlk (Nat.le_trans (Nat.mul_le_mul (show k ≤ 102 by omega) hes) (by decide))
          obtain ⟨fr, hfr⟩ : ∃ fr, frI x.es (qn : Int) x.es.length = fr := ⟨_, rfl⟩
          rw [hfr] at HF hfl hfm HFE
          have HFI := Lib.hid hfm
          have HBr := Lib.hid hbr
          clear hqq hF hfm hfr hlk HLT hbr
          go_upto_region 21 with fail
          obtain ⟨W1, hW1⟩ : ∃ W, wr.alloc (.cells #[.int .i64 (qn : Int), .int .i64 qb] 117) = W := ⟨_, rfl⟩
          have hb1 : Below wr.heap.size wr W1 := by rw [← hW1]; exact nw _ (Below.refl _ _)
          have hQ1 : Blk W1 wr.heap.size 117 #[.int .i64 (qn : Int), .int .i64 qb] := by rw [← hW1]; exact Blk.new _ _ _
          rw [hW1]
          have hGl := HG.out.lt
          have HG1 := Lib.hid (HG.out.below hb1 hGl)
          have HO1 := Lib.hid (own_below HO.out hb1)
          have HB1 := Lib.hid (HBr.out.trans (hb1.mono (show bG ≤ wr.heap.size by omega)))
          have fc := (HF.out W1 HB1.out).1
          have gfl : gf < W1.heap.size := by have := HB1.out.size; have := HSG.out; omega
          have e0 := hQ1.cell 0
          have e1 := hQ1.cell 1
          have el := hQ1.lt
          simp at e0 e1
          have HQ1 := Lib.hid hQ1
          obtain ⟨tQ, htQ⟩ : ∃ b, wr.heap.size = b := ⟨_, rfl⟩
          have hGQ : bG < tQ := by omega
          rw [htQ] at HQ1 e0 e1 el ⊢
          clear hW1 htQ hb1 hQ1 d0 d1 hbb
          go_wp2_with fail
          go_loopw [76] (fun j wr2 => ∃ (jn : Nat) (V2 : Value), jn ≤ fr.length ∧ j = .int .i64 jn ∧ Hid (Blk wr2 bG 38 #[.int .i64 (nl : Int), V2]) ∧ Hid (wr2.ownsRow (bG + 1) 105 4 V2 ((lksTo x m prev k).length + jn) ((lksTo x m prev k ++ (fr.take jn).map (fun i => cx_mkLk x m prev k qb i.toNat)).flatMap encLk)) ∧ Hid (Blk wr2 tQ 117 #[.int .i64 (qn : Int), .int .i64 qb]) ∧ Below bG WG wr2) (fun j _ => fr.length - (intOf j).toNat)
          case atStart => exact ⟨0, V, by omega, rfl, HG1, (by show W1.ownsRow _ _ _ _ _ _; simpa using HO1.out), HQ1, HB1.out⟩
          case round =>
            obtain ⟨wr2, rfl⟩ : ∃ V, V = wr := ⟨wr, rfl⟩
            obtain ⟨jn, V2, hjn, rfl, HG2, HO2, HQ2, hbr2⟩ := hrel
            obtain ⟨n5, hn5⟩ : ∃ n, (lksTo x m prev k).length + jn = n := ⟨_, rfl⟩
            have hn5b : n5 ≤ 10300 := by omega
            have HN5Q := Lib.hid hn5
            rw [hn5] at HO2
            have hG2l := HG2.out.lt
            have hQ2l := HQ2.out.lt
            by_cases hlj : jn < fr.length
            · obtain ⟨bF, oF, kv, hAF, hbF, hkv, dF⟩ := ((HF.out _ hbr2).2).int hlj
              subst hAF
              obtain ⟨kk, e, rfl, hee, hefr⟩ := HFI.out kv (List.mem_of_getElem? hkv)
              have hkkl := (List.getElem?_eq_some_iff.1 hee).1
              have hem := List.mem_of_getElem? hee
              have hokE := HOK.out.1.1.2.2.1 e hem
              have hwdE := HOK.out.1.2 e hem
              obtain ⟨b, off, e', hAE, hbE, hee', f0, f1, f2, f3⟩ := (HX9.out _ hbr2).ed hkkl
              rw [hee] at hee'
              obtain rfl := Option.some.inj hee'
              have hwn0 := hokE.2.1.1
              have hco0 := hokE.2.2
              have hin := arr_in HOK.out.1.1 prev hem
              rw [HNDE.out] at hin
              have hig := ix_get hin
              have hbda := HBD.out _ hin
              have HTK : Hid (lksTo x m prev k ++ (fr.take (jn + 1)).map (fun i => cx_mkLk x m prev k qb i.toNat) = (lksTo x m prev k ++ (fr.take jn).map (fun i => cx_mkLk x m prev k qb i.toNat)) ++ [cx_mkLk x m prev k qb kk]) := by
                show _ = _
                rw [take_snoc_of hkv, List.map_append, List.append_assoc]
                rfl
              rw [cx_mkLk_at hee, HNDE.out] at HTK
              obtain ⟨wn, hwn⟩ : ∃ wn : Nat, e.wd = (wn : Int) := ⟨e.wd.toNat, by omega⟩
              have hwnl : wn < m.cs.length := by have hcs : m.cs.length = m.ws.length := HMO.out.1.1.2.1; omega
              have hpc := pcost_in HMO.out qb hwnl
              have HPR : Hid (∀ W, Below bG WG W → Calls Tryz.prog 49 #[.agg #[.slice A1 m.ws.length c1, .slice A2 m.cs.length c2, .slice A3 m.ps.length c3, .int .i64 m.back], .int .i64 qb, .int .i64 (wn : Int)] W fun e w' => e = .returned (.int .i64 (pcost m qb wn)) ∧ Below W.heap.size W w') := fun W hW => pair_any m A1 A2 A3 c1 c2 c3 qb wn W (HMR.out W hW) HMO.out hwnl (by omega) hc3 hm3
              have HAR : Hid (∀ W, Calls Tryz.prog 48 #[.agg #[.int .i64 x.n, .slice A x.es.length c], vEd e] W fun r w' => r = .returned (.agg #[.int .i64 (arrL x.n e).1, .int .i64 (arrL x.n e).2]) ∧ Below W.heap.size W w') := fun W => arrival_any x A c e W
              obtain ⟨ef, et, ew, ec⟩ := e
              simp only at hwn f0 f1 f2 f3 hco0 HTK
              subst hwn
              rw [show ((wn : Int)).toNat = wn from Int.toNat_natCast wn] at HTK
              generalize pcost m qb wn = pc at *
              have hwp : IntKind.i64.wrap (ec + pc) = ec + pc := IntWalk.i64_in _ (by omega)
              obtain ⟨ap, hap⟩ : ∃ p, arrL x.n ⟨ef, et, (wn : Int), ec⟩ = p := ⟨_, rfl⟩
              rw [hap] at HAR HTK hig hbda
              obtain ⟨ix, hix⟩ : ∃ i, ixL nd ap = i := ⟨_, rfl⟩
              rw [hix] at HTK hig
              have hixl : ix < nl := by rw [← HNL.out]; exact (List.getElem?_eq_some_iff.1 hig).1
              obtain ⟨ap1, ap2⟩ := ap
              simp only at HAR hbda
              have HIG := Lib.hid hig
              have hw1 : (Lit.int .i64 ap1).wf = true := WalkArith.wf_i64 (by omega)
              have hw2 : (Lit.int .i64 ap2).wf = true := WalkArith.wf_i64 (by omega)
              have hll : (lksTo x m prev k ++ (fr.take jn).map (fun i => cx_mkLk x m prev k qb i.toNat)).length = n5 := by rw [← hn5, List.length_append, List.length_map, List.length_take]; omega
              obtain ⟨LL, hLL⟩ : ∃ L, lksTo x m prev k ++ (fr.take jn).map (fun i => cx_mkLk x m prev k qb i.toNat) = L := ⟨_, rfl⟩
              rw [hLL] at hll HO2 HTK
              have HLL := Lib.hid hll
              obtain ⟨A5, c5, hV2, hc5, hcm5, _⟩ := own_slr (R := RLk) HO2.out (fun _ => rfl) (fun _ => rfl) hll.symm
              clear hLL hll
              subst hV2
              have hkk1 : (kk : Int) < (x.es.length : Int) := by omega
              have hkk0 : (0 : Int) ≤ (kk : Int) := by omega
              have z20 : ((n5 : Int) == 20000) = false := by simp; omega
              obtain ⟨⟨l0, l1⟩, ⟨m0, m1, m2, m3⟩, ⟨ll, ml⟩, _⟩ := HBX.out _ (HBG.out _ hbr2)
              have g1 := HG2.out.cell 1
              simp at g1
              have HB2r := Lib.hid hbr2
              subst hAE
              clear hee hem hefr hkv hin hap hix hig hokE hwdE hbr2 hn5
              go_upto_region 27 with fail
              obtain ⟨W0, hW0⟩ : ∃ W, wr2.alloc (.cells #[.int .i64 ef, .int .i64 et, .int .i64 (wn : Int), .int .i64 ec] 44) = W := ⟨_, rfl⟩
              have hbW0 : Below wr2.heap.size wr2 W0 := by rw [← hW0]; exact nw _ (Below.refl _ _)
              have hEb : Blk W0 wr2.heap.size 44 #[.int .i64 ef, .int .i64 et, .int .i64 (wn : Int), .int .i64 ec] := by rw [← hW0]; exact Blk.new _ _ _
              rw [hW0]
              have hG0 : bG ≤ W0.heap.size := by have := hbW0.size; omega
              have HB0 := Lib.hid (HB2r.out.trans (hbW0.mono (show bG ≤ wr2.heap.size by omega)))
              have HG0 := Lib.hid (HG2.out.below hbW0 hG2l)
              have HQ0 := Lib.hid (HQ2.out.below hbW0 hQ2l)
              have HO0 := Lib.hid (own_below HO2.out hbW0)
              obtain ⟨V2, hV2⟩ : ∃ V2, Value.slice A5 n5 c5 = V2 := ⟨_, rfl⟩
              have hneG : V2.ownBlock ≠ some bG := by rw [← hV2]; exact fun e => by have := own_block_le HO2.out _ e; omega
              have hneL : V2.ownBlock ≠ some w.heap.size := by rw [← hV2]; exact fun e => by have := own_block_le HO2.out _ e; omega
              have hneM : V2.ownBlock ≠ some (w.heap.size + 1) := by rw [← hV2]; exact fun e => by have := own_block_le HO2.out _ e; omega
              have hneX : V2.ownBlock ≠ some b5 := by rw [← hV2]; exact fun e => by have := own_block_le HO2.out _ e; omega
              have hneQ : V2.ownBlock ≠ some tQ := by rw [← hV2]; exact own_blk_ne HO2.out HQ2.out (by decide)
              have hneE : V2.ownBlock ≠ some wr2.heap.size := by rw [← hV2]; exact own_lt HO2.out (Nat.le_refl _)
              have HLK : Hid (∀ W, ButOwn V2 W0 W → (Instr.lookup 116 (.map (some b5)) (.agg #[.int .i64 ap1, .int .i64 ap2]) false).run Tryz.prog W = .ok (.int .i64 (ix : Int)) W) := fun W hW => by
                have h0 := HIX.out _ HB0.out
                exact IxM.look (h0.keep (hW.block b5 h0.lt hneX)) hixl HIG.out hw1 hw2
              obtain ⟨⟨l0, l1⟩, ⟨m0, m1, m2, m3⟩, ⟨ll, ml⟩, _⟩ := HBX.out _ (HBG.out _ HB0.out)
              have g1 := HG0.out.cell 1
              have gl0 := HG0.out.lt
              have q0 := HQ0.out.cell 0
              have q1 := HQ0.out.cell 1
              have ql := HQ0.out.lt
              have e0 := hEb.cell 0
              have e1 := hEb.cell 1
              have e2 := hEb.cell 2
              have e3 := hEb.cell 3
              have el := hEb.lt
              simp at g1 q0 q1 e0 e1 e2 e3
              rw [hV2] at g1 HO0 HG0 ⊢
              obtain ⟨tE, htE⟩ : ∃ b, wr2.heap.size = b := ⟨_, rfl⟩
              rw [htE] at hEb hneE e0 e1 e2 e3 el ⊢
              clear hW0 htE hEb hbW0 hbF dF hbE
              refine ordV_start (ButOwn V2 W0) (fun _ => True) [22] [(0, some false), (1, some false), (2, some false), (3, some false), (4, some false), (5, some false), (8, some false), (9, some false), (10, some false), (11, some false), (12, some false), (13, some false), (14, some false), (15, some false), (6, some true), (7, some false), (16, some true), (17, some false), (18, some false), (19, some true), (20, some true), (21, none), (22, some true)] (by kernel_rfl) (by kernel_rfl) (by kernel_rfl) (fun _ _ _ _ _ h => h) trivial ?_
              have HD : Below W0.heap.size W0 W0.drew := (Below.refl _ _).drew
              obtain ⟨Wd, hWd⟩ : ∃ Wd, W0.drew = Wd := ⟨_, rfl⟩
              rw [hWd] at HD ⊢
              clear hWd
              have HS0 := ButOwn.of_below (v := V2) HD
              iterate 14 (refine ordV_takeS (v := ?_) rfl rfl HS0 ?_ ?_; rotate_left 1; (focus (intro W hW; have hcW := hW.cell; (go_simp <;> (try with_reducible rfl)))); simp only [Act.put, List.setIfInBounds_toArray, List.set_cons_zero, List.set_cons_succ])
              refine ordV_call rfl rfl (fun K hK => ?_)
              go_simp
              go_at_call 48
              refine (HAR.out _).mono ?_
              rintro r Wa ⟨rfl, hba⟩
              have HDa := bthen HD hba
              have HSa := ButOwn.of_below (v := V2) HDa
              refine hK.out _ _ trivial (fun _ _ => HSa) ?_
              clear hK K
              try simp only [Act.put, List.setIfInBounds_toArray, List.set_cons_zero, List.set_cons_succ]
              (refine ordV_takeS (v := ?_) rfl rfl HSa ?_ ?_; rotate_left 1; (focus (intro W hW; have hlk := HLK.out W hW; (go_simp <;> (try with_reducible rfl)))); simp only [Act.put, List.setIfInBounds_toArray, List.set_cons_zero, List.set_cons_succ])
              refine ordV_call rfl rfl (fun K hK => ?_)
              go_simp
              go_at_call 49
              refine (HPR.out _ (HB0.out.trans (HDa.mono hG0))).mono ?_
              rintro r Wb ⟨rfl, hbb⟩
              have HDb := bthen HDa hbb
              have HSb := ButOwn.of_below (v := V2) HDb
              refine hK.out _ _ trivial (fun _ _ => HSb) ?_
              clear hK K
              try simp only [Act.put, List.setIfInBounds_toArray, List.set_cons_zero, List.set_cons_succ]
              iterate 2 (refine ordV_takeS (v := ?_) rfl rfl HSb ?_ ?_; rotate_left 1; (focus (intro W hW; have hcW := hW.cell; (go_simp <;> (try with_reducible rfl)))); simp only [Act.put, List.setIfInBounds_toArray, List.set_cons_zero, List.set_cons_succ])
              refine ordV_call rfl rfl (fun K hK => ?_)
              go_simp
              have HDc := HDb.alloc HDb.size (.cells #[.int .i64 (k : Int), .int .i64 (ix : Int), .int .i64 (kk : Int), .int .i64 (ec + pc)] 105)
              have HSc := ButOwn.of_below (v := V2) HDc
              refine hK.out _ _ trivial (fun _ _ => HSc) ?_
              clear hK K
              try simp only [Act.put, List.setIfInBounds_toArray, List.set_cons_zero, List.set_cons_succ]
              refine ordV_call rfl rfl (fun K hK => ?_)
              refine wp_appS (enc := encLk) (R := RLk) _ _ 36 rfl (bG + 1) 105 i0 _ 4 32 Tryz.underlying36 hi hz0 hz1 hz2 rfl (by decide) V2 _ _ rfl ((own_below HO0.out HDb).alloc _) (some ⟨Wb.heap.size, 0, none⟩) 1 [⟨(k : Int), (ix : Int), (kk : Int), ec + pc⟩] rfl (slr_blk (enc := encLk) (Blk.new_ rfl) (fun _ => rfl) (fun _ => rfl)) (fun _ _ _ h => h) (fun _ => rfl) (fun u hu => by simp [encLk] at hu; rcases hu with rfl | rfl | rfl | rfl <;> rfl) (by simp; omega) (by decide) (by have := HDc.size; omega) ?_
              intro v4 w4 hown4 hb4 ha4
              have HSd := HSc.apps hb4.size ha4
              refine hK.out _ _ trivial (fun _ _ => HSd) ?_
              clear hK K
              have hown5 : w4.ownsRow (bG + 1) 105 4 v4 (n5 + 1) ((LL ++ [Lk.mk (k : Int) (ix : Int) (kk : Int) (ec + pc)]).flatMap encLk) := by rw [flat_snoc]; simpa using hown4
              obtain ⟨A9, c9, hv4, hc9, hcm9, _⟩ := own_slr (R := RLk) hown5 (fun _ => rfl) (fun _ => rfl) (by rw [List.length_append, HLL.out]; rfl)
              subst hv4
              have hG4 := ((HG0.out.below HDb HG0.out.lt).alloc (.cells #[.int .i64 (k : Int), .int .i64 (ix : Int), .int .i64 (kk : Int), .int .i64 (ec + pc)] 105)).apps ha4 hneG
              have hQ4 := ((HQ0.out.below HDb HQ0.out.lt).alloc (.cells #[.int .i64 (k : Int), .int .i64 (ix : Int), .int .i64 (kk : Int), .int .i64 (ec + pc)] 105)).apps ha4 hneQ
              have s1 := hG4.cell 1
              have sf1 := hG4.frozen 1
              have sl := hG4.lt
              simp at s1
              try simp only [Act.put, List.setIfInBounds_toArray, List.set_cons_zero, List.set_cons_succ]
              (refine ordV_takeR (v := ?_) rfl rfl ?_ ?_; rotate_left 1; (focus (intro W hW; (go_simp <;> (try with_reducible rfl)))); simp only [Act.put, List.setIfInBounds_toArray, List.set_cons_zero, List.set_cons_succ])
              refine ordV_call rfl rfl (fun K hK => ?_)
              go_simp
              refine hK.out _ _ trivial (fun _ h => by cases h) ?_
              clear hK K
              refine ordV_nil ?_
              have hFR := HTK.out
              have hne9 := own_blk_ne hown5 hG4 (by decide)
              have HO6 := Lib.hid (own_set hown5 (a := ⟨bG, 1, none⟩) hne9 (.slice A9 (n5 + 1) c9))
              have HG6 := Lib.hid (hG4.set_ 1 (.slice A9 (n5 + 1) c9))
              have HQ6 := Lib.hid (hQ4.far (p := ⟨bG, 1, none⟩) (fun e => by have : tQ = bG := e; omega) (.slice A9 (n5 + 1) c9))
              have HB6 := Lib.hid (((HB0.out.trans (HDc.mono hG0)).trans (hb4.mono (Nat.le_succ bG))).setCell (p := ⟨bG, 1, none⟩) (Nat.le_refl _) (.slice A9 (n5 + 1) c9))
              rw [← hFR] at HO6
              have hn6 : (lksTo x m prev k).length + (jn + 1) = n5 + 1 := by have := HN5Q.out; omega
              clear hFR hown5 hown4 hG4 hQ4 hb4 ha4 HD HDa HDb HDc HS0 HSa HSb HSc HSd hne9 s1 sf1 sl hba hbb l0 l1 m0 m1 m2 m3 ll ml g1 gl0 q0 q1 ql e0 e1 e2 e3 el
              go_wp2_with fail
              go_roundw
              case rel => exact ⟨jn + 1, .slice A9 (n5 + 1) c9, by omega, by go_num, (by show Blk _ _ _ _; simpa using HG6.out), (by rw [hn6]; exact HO6), HQ6, HB6.out⟩
              case measure => simp [intOf]; omega
            · obtain rfl : jn = fr.length := by omega
              have hO := HO2.out
              rw [List.take_length, ← HFE.out, ← HLK1.out] at hO
              have hne : n5 = (lksTo x m prev (k + 1)).length := by rw [HLK1.out, HFE.out, List.length_append, List.length_map]; exact hn5.symm
              rw [hne] at hO
              have HO6 := Lib.hid hO
              have HB6 := Lib.hid hbr2
              clear hO hne hbr2 hn5
              go_wp2_with fail
              go_roundw
              case rel => exact ⟨k + 1, V2, by omega, by go_num, HG2, HO6, HB6.out⟩
              case measure => simp [intOf]; omega
        · obtain rfl : nl = k := by omega
          have HGE : Hid (lksTo x m prev nl = (grL x m prev).ls) := by show lksTo x m prev nl = lksTo x m prev (nodesL x prev).length; rw [HNDE.out, HNL.out]
          have hO := HO.out
          rw [HGE.out] at hO
          have hLR := HLR.out _ hbr
          obtain ⟨_, _, _, hR⟩ := HBX.out _ (HBG.out _ hbr)
          have g0 := HG.out.cell 0
          have g1 := HG.out.cell 1
          have gl := HG.out.lt
          have r0 := hR.cell 0
          have r1 := hR.cell 1
          have rf0 := hR.frozen 0
          have rf1 := hR.frozen 1
          have rl := hR.lt
          simp at g0 g1 r0 r1
          obtain ⟨A5, c5, hV, hc5, hcm5, _⟩ := own_slr (R := RLk) hO (fun _ => rfl) (fun _ => rfl) rfl
          subst hV
          have HOA : Hid (∀ a, A5 = some a → w.heap.size ≤ a.block) := fun a h => by
            have := own_block_le hO a.block (by rw [h]; rfl)
            omega
          have HOB : Hid (w.heap.size ≤ b5 + 1) := by show w.heap.size ≤ b5 + 1; omega
          have hneR : (Value.slice A5 (grL x m prev).ls.length c5).ownBlock ≠ some (w.heap.size + 2) := fun e => by have := own_block_le hO _ e; omega
          have hO2 := own_set (own_set hO (a := ⟨w.heap.size + 2, 0, none⟩) hneR (.int .i64 (nl : Int))) (a := ⟨w.heap.size + 2, 1, none⟩) hneR (.slice A5 (grL x m prev).ls.length c5)
          obtain ⟨A6, c6, hV6, hc6, hcm6, hs6⟩ := own_slr (R := RLk) hO2 (fun _ => rfl) (fun _ => rfl) rfl
          injection hV6 with h1 _ h3
          subst h1 h3
          have hLR2 := (hLR.far (p := ⟨w.heap.size + 2, 0, none⟩) (by show b5 + 1 ≠ w.heap.size + 2; omega) (.int .i64 (nl : Int))).far (p := ⟨w.heap.size + 2, 1, none⟩) (by show b5 + 1 ≠ w.heap.size + 2; omega) (.slice A5 (grL x m prev).ls.length c5)
          have hRE := (hR.set_ 0 (.int .i64 (nl : Int))).set_ 1 (.slice A5 (grL x m prev).ls.length c5)
          have hBE := (((bthen HB2.out (HBG.out _ hbr))).setCell (p := ⟨w.heap.size + 2, 0, none⟩) (by show w.heap.size ≤ w.heap.size + 2; omega) (.int .i64 (nl : Int))).setCell (p := ⟨w.heap.size + 2, 1, none⟩) (by show w.heap.size ≤ w.heap.size + 2; omega) (.slice A5 (grL x m prev).ls.length c5)
          have hGn : (grL x m prev).n = (nl : Int) := by show (((nodesL x prev).length : Nat) : Int) = _; rw [HNDE.out, HNL.out]
          have hLL : lastTo nd nl nl = lastL x prev := by
            have := lastTo_all nd
            rw [HNL.out] at this
            unfold lastL
            rw [HNDE.out]
            exact this
          have HEND : Hid (SlR 4 RLk (((wr.setCell ⟨w.heap.size + 2, 0, none⟩ (.int .i64 (nl : Int))).setCell ⟨w.heap.size + 2, 1, none⟩ (.slice A5 (grL x m prev).ls.length c5))) A5 (grL x m prev).ls ∧ SlR 1 RInt (((wr.setCell ⟨w.heap.size + 2, 0, none⟩ (.int .i64 (nl : Int))).setCell ⟨w.heap.size + 2, 1, none⟩ (.slice A5 (grL x m prev).ls.length c5))) (some ⟨b5 + 1, 0, none⟩) (lastL x prev) ∧ (lastL x prev).length = nl ∧ (grL x m prev).n = (nl : Int)) := ⟨hs6, by rw [← hLL]; exact hLR2.slr, by rw [← hLL, lastTo_len], hGn⟩
          have HRE := Lib.hid hRE
          have HBE := Lib.hid hBE
          have HCC := Lib.hid (And.intro hc5 hcm5)
          clear hO hLR hR hO2 hs6 hLR2 hRE hBE hGn hLL hneR hbr HG HO
          obtain ⟨GLS, hGLS⟩ : ∃ l, (grL x m prev).ls = l := ⟨_, rfl⟩
          rw [hGLS] at HRE HBE HEND HCC g1
          have HGLS := Lib.hid hGLS
          clear hGLS
          go_wp2_with fail
          refine ret_cell_tmp2 (t := 38) (cs := #[.int .i64 (nl : Int), .slice A5 GLS.length c5]) (by simpa using HRE.out) rfl rfl Tryz.underlying38 rfl (by kernel_rfl) rfl ?_
          rw [HR.out]
          refine ⟨A5, some ⟨b5 + 1, 0, none⟩, c5, nl, ?_, ?_, HEND.out.2.1, ?_, HBE.out, HOA.out, fun a h => by injection h with h; subst h; exact HOB.out⟩
          · show Ending.returned (.tuple #[.agg #[.int .i64 (nl : Int), .slice A5 GLS.length c5], .slice (some ⟨b5 + 1, 0, none⟩) nl nl, .int .i64 0]) = .returned (.tuple #[.agg #[.int .i64 (grL x m prev).n, .slice A5 (grL x m prev).ls.length c5], .slice (some ⟨b5 + 1, 0, none⟩) (lastL x prev).length nl, .int .i64 0])
            rw [HGLS.out, HEND.out.2.2.1, HEND.out.2.2.2]
          · show SlR 4 RLk _ A5 (grL x m prev).ls
            rw [HGLS.out]
            exact HEND.out.1
          · show (grL x m prev).ls.length ≤ c5 ∧ c5 ≤ maxLen
            rw [HGLS.out]
            exact HCC.out
end Go.Proofs.YtfjkmgjjifhdkaaGreat
