/-
  CxWalkO, CxWy, joined. No conditions.
-/
import Derived.Test.YtfjkmgjjifhdkaaZ42
import Derived.Test.YtfjkmgjjifhdkaaZ17
import Derived.Test.YtfjkmgjjifhdkaaZ18
/-
  The walks of layer 20: the labels of a candidate.
-/
namespace Go.Proofs.Ytfjkmgjjifhdkaa
open Go Go.RowKit

/-- The label of a link. -/
def lbAt (g : List Lk) (i : Int) : Int :=
  match g[i.toNat]? with
  | some l => l.lb
  | none => 0
set_option maxRecDepth 100000 in
set_option maxHeartbeats 16000000 in
theorem labels_any (gn : Int) (AG : Option Addr) (g : List Lk) (cG : Nat) (AC : Option Addr) (cl : List Int) (cC : Nat) (cost : Int) (w : World)
    (hg : SlR 4 RLk w AG g) (hc : SlR 1 RInt w AC cl) (hcl : cl.length ≤ 1000) (hI : ∀ i ∈ cl, ∃ (p : Nat) (l : Lk), i = (p : Int) ∧ g[p]? = some l) :
    Calls Try.prog 13 #[.agg #[.int .i64 gn, .slice AG g.length cG], .agg #[.slice AC cl.length cC, .int .i64 cost]] w (GivesIs (cl.map (lbAt g)) w) := by
  obtain ⟨j0, hj, hy0, hy1, hy2⟩ := info_parts bint_inf
  obtain ⟨w3, hw3⟩ : ∃ W, (w.alloc (.cells #[.int .i64 gn, .slice AG g.length cG] 42)).alloc (.cells #[.slice AC cl.length cC, .int .i64 cost] 55) = W := ⟨_, rfl⟩
  have hb3 : Below w.heap.size w w3 := by rw [← hw3]; exact nw _ (nw _ (Below.refl _ _))
  have hGB : Blk w3 w.heap.size 42 #[.int .i64 gn, .slice AG g.length cG] := by rw [← hw3]; exact (Blk.new _ _ _).alloc _
  have hCB : Blk w3 (w.heap.size + 1) 55 #[.slice AC cl.length cC, .int .i64 cost] := by rw [← hw3]; exact Blk.new_ (by simp)
  have HW3 := Lib.hid hw3
  have HBW := Lib.hid hb3
  have HCE : Hid (∀ W, Below w3.heap.size w3 W → W.cell? ⟨w.heap.size, 1, none⟩ = some (.slice AG g.length cG) ∧ W.cell? ⟨w.heap.size + 1, 0, none⟩ = some (.slice AC cl.length cC) ∧ w.heap.size + 1 < W.heap.size) := fun W hW => by
    have e2 := hGB.below hW hGB.lt
    have e3 := hCB.below hW hCB.lt
    exact ⟨by rw [e2.cell]; rfl, by rw [e3.cell]; rfl, e3.lt⟩
  have HXX : Hid (∀ W, Below w3.heap.size w3 W → SlR 4 RLk W AG g ∧ SlR 1 RInt W AC cl) := fun W hW => by
    have h := HBW.out.trans (hW.mono HBW.out.size)
    exact ⟨hg.below keeps_lk h, hc.below keeps_int h⟩
  have HI := Lib.hid hI
  clear hw3 hb3 hGB hCB hg hc hI
  obtain ⟨w4, hw4⟩ : ∃ W, w3.alloc (.cells #[] 3) = W := ⟨_, rfl⟩
  have hB4 : Below w3.heap.size w3 w4 := by rw [← hw4]; exact nw _ (Below.refl _ _)
  have hO4 : w4.ownsRow w3.heap.size 3 1 (.slice (some ⟨w3.heap.size, 0, none⟩) 0 0) 0 [] := by rw [← hw4]; exact own_empty w3 3 1 w3.heap.size (Nat.le_refl _)
  have HW4 := Lib.hid hw4
  obtain ⟨b1, hb1⟩ : ∃ b, w3.heap.size = b := ⟨_, rfl⟩
  rw [hb1] at hO4 hB4 HCE HXX
  have HB4 := Lib.hid hB4
  have HO4 := Lib.hid hO4
  have HBE := Lib.hid hb1
  clear hO4 hB4 hb1 hw4
  go_enter Try.func13, Try.ntmps13
  go_upto_region 1 with fail
  rw [HW3.out]
  go_upto_region 2 with fail
  rw [HW4.out, HBE.out]
  go_wp2_with fail
  go_loopw [5, 6] (fun v i wr => ∃ (j : Nat) (V : Value), V = v ∧ i = .int .i64 j ∧ j ≤ cl.length ∧ Hid (wr.ownsRow b1 3 1 V j (((cl.take j).map (lbAt g)).map (Value.int .i64))) ∧ Below b1 w3 wr) (fun _ i _ => cl.length - (intOf i).toNat)
  case atStart => exact ⟨0, _, rfl, rfl, by omega, HO4, HB4.out⟩
  case round =>
    obtain ⟨W0, rfl⟩ : ∃ V, V = wr := ⟨wr, rfl⟩
    obtain ⟨j, V, rfl, rfl, hj5, HOV, hbr⟩ := hrel
    have HBR := Lib.hid hbr
    have hbs : b1 ≤ W0.heap.size := by have := HBE.out; have := hbr.size; omega
    clear hbr
    by_cases hlt : j < cl.length
    · obtain ⟨⟨g0, q0, ll⟩, hs2, hs3⟩ := And.intro (HCE.out _ HBR.out) (HXX.out _ (Below.refl _ _))
      obtain ⟨bC, oC, iv, hAC, hbC, hiv, dC⟩ := hs3.int hlt
      subst hAC
      obtain ⟨p, lk, hip, hlk⟩ := HI.out iv (List.mem_of_getElem? hiv)
      subst hip
      have HWS : Hid ((cl.take (j + 1)).map (lbAt g) = (cl.take j).map (lbAt g) ++ [lk.lb]) := by
        show _ = _
        rw [List.take_add_one, hiv]
        simp [lbAt, hlk]
      have hpl := (List.getElem?_eq_some_iff.1 hlk).1
      obtain ⟨bG, oG, lk', hAG, hbG, hlk', g1, g2, g3, g4⟩ := hs2.lk hpl
      rw [hlk] at hlk'
      obtain rfl := Option.some.inj hlk'
      subst hAG
      obtain ⟨la, lt, lb, lc⟩ := lk
      simp only at g3 HWS
      have hpI : (p : Int) < (g.length : Int) := by omega
      have hpG : (p : Int) ≥ 0 := by omega
      have hp0 : (0 : Int) ≤ (p : Int) := by omega
      have hp1 : ¬ (p : Int) < 0 := by omega
      have hjm : j ≤ 1000000 := by omega
      have hjI : (j : Int) < (cl.length : Int) := by omega
      have hj0 : (0 : Int) ≤ (j : Int) := by omega
      rw [HBE.out] at hbC hbG
      have HDC := Lib.hid dC
      have HG3 := Lib.hid g3
      replace dC := (World.cell?_of_block (HBR.out.block bC hbC)).trans dC
      have hlC : bC < W0.heap.size := by omega
      have lb0 : w.heap.size < W0.heap.size := by omega
      have lb1 : w.heap.size + 1 < W0.heap.size := by omega
      clear hiv hlk hlk' hs2 hs3 g1 g2 g3 g4
      go_upto_region 5 with fail
      refine ordB_below (.quiet 0 (.quiet 1 (.quiet 2 (.quiet 3 (.quiet 4 (.quiet 5 (.quiet 6 (.quiet 7 (.quiet 8 (.quiet 9 (.quiet 10 (.quiet 11 (.quiet 12 (.quiet 13 (.quiet 14 (.quiet 15 (.quiet 16 .done))))))))))))))))) (by kernel_rfl) (by kernel_rfl) (by kernel_rfl) (fun _ _ _ _ _ h => h) ?_
      intro V0 hV0
      iterate 17 (first
        | (refine ordB_skip rfl rfl ?_; simp only [Act.put, List.setIfInBounds_toArray, List.set_cons_zero, List.set_cons_succ])
        | (refine ordB_take (v := ?_) rfl rfl ?_ ?_
           rotate_left 1
           focus (intro W hW; obtain ⟨hcW, hfW⟩ := bcell hW; (go_simp <;> with_reducible rfl))
           simp only [Act.put, List.setIfInBounds_toArray, List.set_cons_zero, List.set_cons_succ]))
      refine ordB_nil ?_
      have HBV := Lib.hid (HBR.out.trans (hV0.mono hbs))
      have HOE := Lib.hid (own_below HOV.out hV0)
      have hbs5 : b1 ≤ V0.heap.size := by have := hV0.size; omega
      clear dC g0 q0 ll hV0 hlC lb0 lb1
      obtain ⟨g0, q0, ll⟩ := HCE.out _ HBV.out
      have dC := (World.cell?_of_block (HBV.out.block bC hbC)).trans HDC.out
      have g3 := (World.cell?_of_block (HBV.out.block bG hbG)).trans HG3.out
      have hlC : bC < V0.heap.size := by omega
      have hlG : bG < V0.heap.size := by omega
      have ll0 : w.heap.size < V0.heap.size := by omega
      have ll1 : w.heap.size + 1 < V0.heap.size := by omega
      have hn0 : V.ownBlock ≠ some w.heap.size := fun e => by have := own_block_le HOV.out _ e; have := HBE.out; have := (HCE.out _ (Below.refl _ _)).2.2; omega
      have hn1 : V.ownBlock ≠ some (w.heap.size + 1) := fun e => by have := own_block_le HOV.out _ e; have := HBE.out; have := (HCE.out _ (Below.refl _ _)).2.2; omega
      have hn3 : V.ownBlock ≠ some bC := fun e => by have := own_block_le HOV.out _ e; omega
      have hn4 : V.ownBlock ≠ some bG := fun e => by have := own_block_le HOV.out _ e; omega
      go_upto_region 6 with fail
      refine ordV_start (ButOwn V V0) (fun _ => True) [] [(0, some false), (1, some false), (2, some false), (3, some false), (4, some false), (5, some false), (6, some false), (7, some false), (8, some false), (9, some false), (10, some false), (11, some true), (12, some true), (13, none)] (by kernel_rfl) (by kernel_rfl) (by kernel_rfl) (fun _ _ _ _ _ h => h) trivial ?_
      have HD : Below V0.heap.size V0 V0.drew := (Below.refl _ _).drew
      obtain ⟨Wd, hWd⟩ : ∃ Wd, V0.drew = Wd := ⟨_, rfl⟩
      rw [hWd] at HD ⊢
      clear hWd
      have HS0 := ButOwn.of_below (v := V) HD
      iterate 11 (refine ordV_takeS (v := ?_) rfl rfl HS0 ?_ ?_; rotate_left 1; (focus (intro W hW; have hcW := hW.cell; (go_simp <;> (try with_reducible rfl)))); simp only [Act.put, List.setIfInBounds_toArray, List.set_cons_zero, List.set_cons_succ])
      refine ordV_call rfl rfl (fun K hK => ?_)
      go_simp
      have HDc := HD.alloc HD.size (.cells #[.int .i64 lb] 3)
      have HSc := ButOwn.of_below (v := V) HDc
      refine hK.out _ _ trivial (fun _ _ => HSc) ?_
      clear hK K
      try simp only [Act.put, List.setIfInBounds_toArray, List.set_cons_zero, List.set_cons_succ]
      refine ordV_call rfl rfl (fun K hK => ?_)
      refine wp_appS (enc := fun s : Int => [Value.int .i64 s]) (R := RInt) _ _ 31 rfl b1 3 j0 _ 1 8 Try.underlying31 hj hy0 hy1 hy2 rfl (by decide) V _ _ rfl ((own_below HOE.out HD).alloc _) (some ⟨Wd.heap.size, 0, none⟩) 1 [lb] rfl (slr_blk (enc := fun s : Int => [Value.int .i64 s]) (Blk.new_ rfl) (fun _ => rfl) (fun _ => rfl)) (fun _ _ _ h => h) (fun _ => rfl) (fun u hu => by simp at hu; subst hu; rfl) (by simp; omega) (by decide) (by have := HDc.size; omega) ?_
      intro v4 w4 hown4 hb4 ha4
      have HSd := HSc.apps hb4.size ha4
      refine hK.out _ _ trivial (fun _ _ => HSd) ?_
      clear hK K
      try simp only [Act.put, List.setIfInBounds_toArray, List.set_cons_zero, List.set_cons_succ]
      iterate 1 (refine ordV_takeR (v := ?_) rfl rfl ?_ ?_; rotate_left 1; (focus (intro W hW; (go_simp <;> (try with_reducible rfl)))); try simp only [Act.put, List.setIfInBounds_toArray, List.set_cons_zero, List.set_cons_succ])
      refine ordV_nil ?_
      have hown5 : Hid (w4.ownsRow b1 3 1 v4 (j + 1) (((cl.take (j + 1)).map (lbAt g)).map (Value.int .i64))) := by show w4.ownsRow _ _ _ _ _ _; rw [HWS.out, List.map_append]; exact hown4
      have HB5 := Lib.hid ((HBV.out.trans (HDc.mono hbs5)).trans hb4)
      clear hown4 hb4 ha4 HD HDc HS0 HSc HSd g0 q0 ll dC g3
      go_wp2_with fail
      go_roundw
      case rel => exact ⟨j + 1, v4, rfl, by go_num, by omega, hown5, HB5.out⟩
      case measure => simp [intOf]; omega
    · obtain ⟨g0, q0, ll⟩ := HCE.out _ HBR.out
      obtain rfl : j = cl.length := by omega
      obtain ⟨AV, cV, hV, hcV, hcmV, hsV⟩ := own_ints (xs := cl.map (lbAt g)) (by have := HOV.out; rwa [List.take_length] at this) (by simp)
      subst hV
      have HE := Lib.hid (And.intro hcV hcmV)
      have HSV := Lib.hid hsV
      clear hcV hcmV hsV
      go_wp2_with fail
      go_ret
      exact ⟨AV, cV, by simp, HSV.out, by simpa using HE.out, HBW.out.trans (HBR.out.mono (by have := HBE.out; have := HBW.out.size; omega))⟩
end Go.Proofs.Ytfjkmgjjifhdkaa

/-
  Layer 20: the first candidates of a lattice's graph, their edges, words and number. No conditions.
-/
namespace Go.Proofs.Ytfjkmgjjifhdkaa
open Go Go.RowKit

theorem grL_n (x : La) (m : Mo) (prev : Int) : (grL x m prev).n = ((nodesL x prev).length : Int) := rfl
theorem list20_any (x : La) (m : Mo) (prev : Int) (A : Option Addr) (c : Nat) (k : Nat) (w : World) {nl : Nat} (hnl : (nodesL x prev).length = nl) {G : List Lk} (hG : lksL x m prev = G) (hg : GrOK (grL x m prev)) (hk : k ≤ 50) (hx : SlR 4 RLk w A G) :
    Calls Try.prog 9 #[.agg #[.int .i64 (nl : Int), .slice A G.length c], .int .i64 (k : Int)] w fun e w' => ∃ (L : List Can) (B : Option Addr) (d : Nat), e = .returned (.tuple #[.slice B L.length d, .int .i64 0]) ∧ SlR 2 RCan w' B L ∧ Hid (IsList (grL x m prev) k L) ∧ Below w.heap.size w w' := by
  subst hnl hG
  have h20 := hg.len
  refine (list_any A c (grL x m prev) (k : Int) w hx (by unfold maxLen; omega)).mono ?_
  rintro e w' ⟨ms, B, d, he, h1, h2, _, _, h5, _, h7⟩
  have h0 : bestErr (grL x m prev) (k : Int) = 0 := by
    unfold bestErr
    rw [if_neg (by rw [grB_iff.2 hg]; decide), if_neg (by omega)]
  rw [h0] at he h5
  have h6 := h5 rfl
  rw [Int.toNat_natCast] at h6
  exact ⟨ms.map (·.x), B, d, by rw [List.length_map]; exact he, mc_can h1 h2, Lib.hid h6, h7⟩
theorem cnt_small {x : La} (h : LaOK x) (h13 : x.es.length ≤ 13) : 0 ≤ cntM x ∧ cntM x ≤ 8192 := by
  have h1 := cntL_bd x x.es.length (Nat.le_refl _) x.n.toNat
  have h2 : (2 : Int) ^ x.es.length ≤ 2 ^ 13 := by have h : (2 : Nat) ^ x.es.length ≤ 2 ^ 13 := Nat.pow_le_pow_right (by decide) h13; exact_mod_cast h
  unfold cntM
  omega
theorem nW_cnt {x : La} {m : Mo} {prev : Int} (hg : GrOK (grL x m prev)) (hf : LaOK x) : (nW (grL x m prev) 0 : Int) = cntM x := by rw [nW_first hg hf, cntM_ways hf]
theorem num20_any (x : La) (m : Mo) (prev : Int) (A : Option Addr) (c : Nat) (w : World) {nl : Nat} (hnl : (nodesL x prev).length = nl) {G : List Lk} (hG : lksL x m prev = G) (hg : GrOK (grL x m prev)) (hf : LaOK x) (h13 : x.es.length ≤ 13) (hx : SlR 4 RLk w A G) :
    Calls Try.prog 15 #[.agg #[.int .i64 (nl : Int), .slice A G.length c]] w fun e w' => e = .returned (.int .i64 (cntM x)) ∧ Below w.heap.size w w' := by
  subst hnl hG
  have h20 := hg.len
  have h := number_any A c (grL x m prev) w hx (by unfold maxLen; omega)
  have hn : numOf (grL x m prev) = cntM x := by
    have h1 := nW_cnt hg hf
    have h2 := cnt_small hf h13
    unfold numOf
    rw [if_pos (grB_iff.2 hg), numM_eq hg]
    unfold capN
    omega
  rw [hn] at h
  exact h
theorem list_count {x : La} {m : Mo} {prev : Int} (hg : GrOK (grL x m prev)) (hf : LaOK x) {k : Nat} {L : List Can} (h : IsList (grL x m prev) k L) : min (cntM x) (k : Int) = (L.length : Int) := by
  have h1 := isList_len hg h
  have h2 := nW_cnt hg hf
  omega
/-- What a candidate of a lattice's graph is. -/
structure CanF (x : La) (m : Mo) (prev : Int) (G : List Lk) (c : Can) (l : List Int) : Prop where
  way : WayTo x 0 l x.n
  cost : c.cost = wsum x m prev l
  len : c.links.length ≤ 200
  same : l.length = c.links.length
  lk : ∀ i ∈ c.links, LkIn x.es G i
  lab : c.links.map (lbAt G) = l
theorem way_in {x : La} {m : Mo} {prev : Int} (hg : GrOK (grL x m prev)) : ∀ (w : List Int) (v : Int), wayB (grL x m prev) v w = true → ∀ i ∈ w, LkIn x.es (lksL x m prev) i
  | i :: w, v, hw, j, hj => by
    obtain ⟨h1, h2⟩ := way_cons.1 hw
    rcases List.mem_cons.1 hj with rfl | hj
    · obtain ⟨a, b, _⟩ := lvs_iff.1 h1
      have h3 := lkAt_mem ⟨a, b⟩
      have h4 : lkAt (grL x m prev) j ∈ lksL x m prev := List.mem_of_getElem? h3
      obtain ⟨i', k, p, e, _, h6, _, h7⟩ := lksL_mem.1 h4
      refine ⟨j.toNat, _, k, e, by omega, h3, ?_, h6⟩
      rw [h7, cx_mkLk_at h6]
    · exact way_in hg w _ h2 j hj
theorem lbAt_lk (x : La) (m : Mo) (prev : Int) {i : Int} (h : LkIn x.es (lksL x m prev) i) : lbAt (lksL x m prev) i = (lkAt (grL x m prev) i).lb := by
  obtain ⟨p, l, q, e, rfl, h2, _, _⟩ := h
  unfold lbAt lkAt
  rw [Int.toNat_natCast, h2, List.getD_eq_getElem?_getD]
  show l.lb = ((lksL x m prev)[p]?.getD default).lb
  rw [h2]
  rfl
theorem canF {x : La} {m : Mo} {prev : Int} (hg : GrOK (grL x m prev)) (hf : LaOK x) (hn : (nodesL x prev).length ≤ 200) {c : Can} (hc : IsCan (grL x m prev) c) : CanF x m prev (lksL x m prev) c (labL (grL x m prev) c.links) := by
  obtain ⟨h1, h2⟩ := way_lab hg hf c.links 0 (0, prev) (node_first x prev) hc.1
  have h3 := way_bd hg hc.1
  rw [grL_n] at h3
  have h4 := way_in hg c.links 0 hc.1
  refine ⟨h1, hc.2.trans h2, by omega, lab_len _ _, h4, ?_⟩
  unfold labL
  exact List.map_congr_left fun i hi => lbAt_lk x m prev (h4 i hi)
theorem can_labs {x : La} {m : Mo} {prev : Int} {c d : Can} (hc : IsCan (grL x m prev) c) (hd : IsCan (grL x m prev) d) (h : labL (grL x m prev) c.links = labL (grL x m prev) d.links) : c = d := by
  have h1 := lab_inj _ _ 0 hc.1 hd.1 h
  obtain ⟨l1, c1⟩ := c
  obtain ⟨l2, c2⟩ := d
  have h2 := hc.2
  have h3 := hd.2
  simp only at h1 h2 h3
  subst h1
  rw [h2, h3]
theorem wd_at {es : List Ed} {G : List Lk} {cl : List Int} (h : ∀ i ∈ cl, LkIn es G i) {j : Nat} {k w : Int} (hk : (cl.map (lbAt G))[j]? = some k) (hw : (cl.map (wdAt es G))[j]? = some w) : ∃ (q : Nat) (e : Ed), k = (q : Int) ∧ es[q]? = some e ∧ w = e.wd := by
  rw [List.getElem?_map] at hk hw
  cases hi : cl[j]? with
  | none => rw [hi] at hk; cases hk
  | some i =>
    rw [hi] at hk hw
    obtain ⟨p, l, q, e, rfl, h2, h3, h4⟩ := h i (List.mem_of_getElem? hi)
    have e1 : lbAt G (p : Int) = (q : Int) := by unfold lbAt; rw [Int.toNat_natCast, h2]; exact h3
    have e2 : wdAt es G (p : Int) = e.wd := by unfold wdAt; rw [Int.toNat_natCast, h2]; simp only [h3, Int.toNat_natCast, h4]
    exact ⟨q, e, (Option.some.inj hk).symm.trans e1, h4, (Option.some.inj hw).symm.trans e2⟩
theorem lkIn_lab {es : List Ed} {G : List Lk} {i : Int} (h : LkIn es G i) : ∃ (p : Nat) (l : Lk), i = (p : Int) ∧ G[p]? = some l := by
  obtain ⟨p, l, _, _, h1, h2, _⟩ := h
  exact ⟨p, l, h1, h2⟩
end Go.Proofs.Ytfjkmgjjifhdkaa
