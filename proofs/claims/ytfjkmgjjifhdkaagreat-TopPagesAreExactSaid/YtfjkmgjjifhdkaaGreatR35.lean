/-
  CxWalkE, CxMap, CostMath3, CxLnk, joined. No conditions.
-/
import Derived.Test.YtfjkmgjjifhdkaaGreatR34
import Derived.Test.YtfjkmgjjifhdkaaGreatR13
import Derived.Test.YtfjkmgjjifhdkaaGreatR08
import Derived.Maps.OwnOps
import Derived.DeepKeys4
import Derived.Test.YtfjkmgjjifhdkaaGreatR33
import Derived.Test.YtfjkmgjjifhdkaaGreatR01
/-
  The walks of layer 20: the edges that leave each place.
-/
namespace Go.Proofs.YtfjkmgjjifhdkaaGreat
open Go Go.RowKit

def frI (es : List Ed) (v : Int) (k : Nat) : List Int := (frTo es v k).map (fun i : Nat => (i : Int))
theorem frI_succ {es : List Ed} {v : Int} {k : Nat} {e : Ed} (h : es[k]? = some e) : frI es v (k + 1) = if e.fr = v then frI es v k ++ [(k : Int)] else frI es v k := by
  unfold frI
  rw [frTo_succ h]
  split
  · simp
  · rfl
theorem frI_len (es : List Ed) (v : Int) (k : Nat) : (frI es v k).length ≤ k := by unfold frI; rw [List.length_map]; exact frTo_len es v k
/-- What leaving answers. -/
def leavE (x : La) (n : Nat) : List (List Int) := (List.range n).map (fun v : Nat => frI x.es (v : Int) x.es.length)
theorem leavE_len (x : La) (n : Nat) : (leavE x n).length = n := by unfold leavE; simp
theorem leavE_at (x : La) {n v : Nat} (hv : v < n) : (leavE x n)[v]? = some (frI x.es (v : Int) x.es.length) := by unfold leavE; simp [hv]
set_option maxRecDepth 100000 in
set_option maxHeartbeats 8000000 in
theorem cleav_any (A : Option Addr) (c : Nat) (x : La) (N : Nat) (w : World) (hx : SlR 4 REd w A x.es) (hok : LaOK x) (hN : x.n + 1 = (N : Int)) :
    Calls Tryz.prog 47 #[.agg #[.int .i64 x.n, .slice A x.es.length c]] w fun e w' => ∃ gf, e = .returned (.slice (some ⟨gf, 0, none⟩) N N) ∧ w.heap.size ≤ gf ∧ gf < w'.heap.size ∧
      Hid (∀ W, NewEq w.heap.size w' W → SlR 1 RSl W (some ⟨gf, 0, none⟩) (leavE x N)) ∧ Below w.heap.size w w' := by
  have hlen := hok.2.1
  obtain ⟨i0, hi, hz0, hz1, hz2⟩ := info_parts bint_inf
  obtain ⟨i1, hi1, hy0, hy1, hy2⟩ := info_parts bints_inf
  have hn := hok.1
  have hwN : IntKind.i64.wrap (x.n + 1) = (N : Int) := by rw [IntWalk.i64_in _ (by omega)]; exact hN
  have hN1 : 1 ≤ N := by omega
  have hN41 : N ≤ 41 := by omega
  obtain ⟨w1, hw1⟩ : ∃ w1, w.alloc (.cells #[.int .i64 x.n, .slice A x.es.length c] 27) = w1 := ⟨_, rfl⟩
  have hb1 : Below w.heap.size w w1 := by rw [← hw1]; exact nw _ (Below.refl _ _)
  have hB1 : Blk w1 w.heap.size 27 #[.int .i64 x.n, .slice A x.es.length c] := by rw [← hw1]; exact Blk.new _ _ _
  have HW1 := Lib.hid hw1
  have k0 := hB1.cell 0
  have k1 := hB1.cell 1
  have kl := hB1.lt
  simp at k0 k1
  have HG := Lib.hid hok
  clear hw1 hok
  go_enter Tryz.func47, Tryz.ntmps47
  go_upto_region 1 with fail
  rw [HW1.out]
  go_upto_region 2 with (at_make; go_loud (refine wpList_mk _ rfl _ _ 91 rfl 40 i1 (.slice none 0 0) (.slice none 0 0) Tryz.underlying91 hi1 hy0 hy1 (by omega) rfl N rfl rfl (by omega) ?_))
  obtain ⟨W1, hW1⟩ : ∃ W, w1.alloc (.cells (Array.replicate N (Value.slice none 0 0)) 40) = W := ⟨_, rfl⟩
  have hb2 : Below w1.heap.size w1 W1 := by rw [← hW1]; exact nw _ (Below.refl _ _)
  have hF1 : Blk W1 w1.heap.size 40 ((List.range N).map (fun _ => Value.slice none 0 0)).toArray := by
    rw [← hW1, show ((List.range N).map (fun _ => Value.slice none 0 0)).toArray = Array.replicate N (Value.slice none 0 0) by simp [List.map_const']]
    exact Blk.new _ _ _
  rw [hW1]
  have hbw := bthen hb1 hb2
  have hB2 := hB1.below hb2 hB1.lt
  obtain ⟨gf, hgf⟩ : ∃ b, w1.heap.size = b := ⟨_, rfl⟩
  rw [hgf] at hF1 kl ⊢
  have hwg : w.heap.size ≤ gf := by have := hb1.size; omega
  have k0 := hB2.cell 0
  have k1 := hB2.cell 1
  have klW := hB2.lt
  simp at k0 k1
  have HX : Hid (∀ W, Below gf W1 W → SlR 4 REd W A x.es) := fun W hW => hx.below keeps_ed (hbw.trans (hW.mono hwg))
  clear hW1 hgf hb1 hb2 hB1 hx
  have hF1l := hF1.lt
  have HF1 := Lib.hid hF1
  have hO1 : OwnV (gf + 1) N W1 (fun _ => Value.slice none 0 0) (fun v => frI x.es (v : Int) 0) := ⟨fun v _ => own_nil _ _ _ _, fun u v _ _ _ g hg => by simp [Value.ownBlock] at hg⟩
  have HO1 := Lib.hid hO1
  clear hF1 hO1
  go_wp2_with fail
  go_loopw [13] (fun i wr => ∃ (k : Nat) (V : Nat → Value), k ≤ x.es.length ∧ i = .int .i64 k ∧ Hid (Blk wr gf 40 ((List.range N).map V).toArray) ∧ Hid (OwnV (gf + 1) N wr V (fun v => frI x.es (v : Int) k)) ∧ Below gf W1 wr) (fun i _ => x.es.length - (intOf i).toNat)
  case atStart => exact ⟨0, _, by omega, rfl, HF1, HO1, Below.refl _ _⟩
  case round =>
    obtain ⟨k, V, hk, rfl, HF, HO, hbr⟩ := hrel
    have hFl := HF.out.lt
    by_cases hlt : k < x.es.length
    · obtain ⟨b, off, l, rfl, hbb, hll, d0, d1, d2, d3⟩ := (HX.out _ hbr).ed hlt
      obtain ⟨⟨o1, o2, o3⟩, _, _⟩ := HG.out.2.2.1 l (List.mem_of_getElem? hll)
      obtain ⟨fn, hfr⟩ : ∃ fn : Nat, l.fr = (fn : Int) := ⟨l.fr.toNat, by omega⟩
      have hfN : fn < N := by omega
      have hfN' : (fn : Int) < (N : Int) := by omega
      have hf0 : (0 : Int) ≤ (fn : Int) := by omega
      have e0 := (hB2.below hbr kl).cell 0
      have e1 := (hB2.below hbr kl).cell 1
      simp at e0 e1
      have HLS : Hid (∀ v : Nat, frI x.es (v : Int) (k + 1) = if l.fr = (v : Int) then frI x.es (v : Int) k ++ [(k : Int)] else frI x.es (v : Int) k) := fun v => frI_succ hll
      have hlen1 : (frI x.es (fn : Int) k).length ≤ 20000 := by have := frI_len x.es (fn : Int) k; omega
      have hk20 : k ≤ 20000 := by omega
      have HFE := Lib.hid hfr
      clear hll o2 o3 k0 k1 hfr
      go_upto_region 5 with fail
      obtain ⟨W2, hW2⟩ : ∃ W, wr.alloc (.cells #[.int .i64 l.fr, .int .i64 l.to, .int .i64 l.wd, .int .i64 l.co] 44) = W := ⟨_, rfl⟩
      have hb3 : Below wr.heap.size wr W2 := by rw [← hW2]; exact nw _ (Below.refl _ _)
      have hLb : Blk W2 wr.heap.size 44 #[.int .i64 l.fr, .int .i64 l.to, .int .i64 l.wd, .int .i64 l.co] := by rw [← hW2]; exact Blk.new _ _ _
      rw [hW2]
      have HFR := Lib.hid (HF.out.below hb3 hFl)
      have HOV := Lib.hid (HO.out.below hb3)
      have HOW := Lib.hid (HOV.out.own fn hfN)
      have hvg : (V fn).ownBlock ≠ some gf := own_blk_ne HOW.out HFR.out (by decide)
      have hvl : (V fn).ownBlock ≠ some wr.heap.size := own_blk_ne HOW.out hLb (by decide)
      have HBR := Lib.hid (hbr.trans (hb3.mono (Nat.le_of_lt hFl)))
      have hgt : gf ≠ wr.heap.size := by omega
      obtain ⟨t8, ht8⟩ : ∃ b, wr.heap.size = b := ⟨_, rfl⟩
      rw [ht8] at hLb hvl hgt ⊢
      have q0 := hLb.cell 0
      have ql := hLb.lt
      have r0 := HFR.out.cell fn
      have rl := HFR.out.lt
      have hVat : ((List.range N).map V).toArray[fn]? = some (V fn) := by simp [hfN]
      rw [hVat] at r0
      simp at q0
      rw [HFE.out] at q0
      clear hW2 ht8 d0 d1 d2 d3 hb3 e0 e1 hbb
      refine ordV_start (ButOwn (V fn) W2) (fun _ => True) [12] [(0, some false), (1, some false), (2, some false), (3, some false), (4, some false), (5, some false), (6, some false), (7, some false), (8, some false), (9, some true), (10, some true), (11, some false), (12, some true)] (by kernel_rfl) (by kernel_rfl) (by kernel_rfl) (fun _ _ _ _ _ h => h) trivial ?_
      have HD : RowKit.Below W2.heap.size W2 W2.drew := (Below.refl _ _).drew
      obtain ⟨Wd, hWd⟩ : ∃ Wd, W2.drew = Wd := ⟨_, rfl⟩
      rw [hWd] at HD ⊢
      clear hWd
      have HS0 := ButOwn.of_below (v := V fn) HD
      iterate 9 (refine ordV_takeS (v := ?_) rfl rfl HS0 ?_ ?_; rotate_left 1; (focus (intro W hW; have hcW := hW.cell; (go_simp <;> (try with_reducible rfl)))); simp only [Act.put, List.setIfInBounds_toArray, List.set_cons_zero, List.set_cons_succ])
      refine ordV_call rfl rfl (fun K hK => ?_)
      go_simp
      have HD2 := HD.alloc HD.size (.cells #[.int .i64 (k : Int)] 3)
      have HS1 := ButOwn.of_below (v := V fn) HD2
      refine hK.out _ _ trivial (fun _ _ => HS1) ?_
      clear hK K
      try simp only [Act.put, List.setIfInBounds_toArray, List.set_cons_zero, List.set_cons_succ]
      refine ordV_call rfl rfl (fun K hK => ?_)
      refine wp_appS (enc := fun x => [Value.int .i64 x]) (R := RInt) _ _ 40 rfl (gf + 1) 3 i0 _ 1 8 Tryz.underlying40 hi hz0 hz1 hz2 rfl (by decide) (V fn) _ _ rfl ((own_below HOW.out HD).alloc _) (some ⟨Wd.heap.size, 0, none⟩) 1 [(k : Int)] rfl (slr_blk (enc := fun x => [Value.int .i64 x]) (Blk.new_ rfl) (fun _ => rfl) (fun _ => rfl)) (fun _ _ _ h => h) (fun _ => rfl) (fun u hu => by simp at hu; subst hu; rfl) (by simp; omega) (by decide) (by have := HD2.size; omega) ?_
      intro v4 w4 hown4 hb4 ha4
      have HS2 := HS1.apps hb4.size ha4
      refine hK.out _ _ trivial (fun _ _ => HS2) ?_
      clear hK K
      have hown5 : w4.ownsRow (gf + 1) 3 1 v4 ((frI x.es (fn : Int) k).length + 1) ((frI x.es (fn : Int) k ++ [(k : Int)]).map (Value.int .i64)) := by rw [List.map_append]; exact hown4
      obtain ⟨A9, c9, rfl, hc9, hcm9, _⟩ := own_ints hown5 (by simp)
      have hF4 := ((HFR.out.below HD HFR.out.lt).alloc (.cells #[.int .i64 (k : Int)] 3)).apps ha4 hvg
      have hL4 := ((hLb.below HD hLb.lt).alloc (.cells #[.int .i64 (k : Int)] 3)).apps ha4 hvl
      have sF := hF4.lt
      have cF := hF4.frozen fn
      have cF1 := hF4.cell fn
      have l4 := hL4.cell 0
      simp at l4
      rw [HFE.out] at l4
      rw [hVat] at cF1
      try simp only [Act.put, List.setIfInBounds_toArray, List.set_cons_zero, List.set_cons_succ]
      iterate 1 (refine ordV_takeS (v := ?_) rfl rfl HS2 ?_ ?_; rotate_left 1; (focus (intro W hW; have hcW := hW.cell; (go_simp <;> (try with_reducible rfl)))); simp only [Act.put, List.setIfInBounds_toArray, List.set_cons_zero, List.set_cons_succ])
      refine ordV_call rfl rfl (fun K hK => ?_)
      go_simp
      refine hK.out _ _ trivial (fun _ h => by cases h) ?_
      clear hK K
      refine ordV_nil ?_
      have hF5 := hF4.set_ fn (.slice A9 ((frI x.es (fn : Int) k).length + 1) c9)
      rw [show (((List.range N).map V).toArray.setIfInBounds fn (.slice A9 ((frI x.es (fn : Int) k).length + 1) c9)) = ((List.range N).map (updF V fn (.slice A9 ((frI x.es (fn : Int) k).length + 1) c9))).toArray by rw [range_upd V hfN]; simp] at hF5
      have hOV5 := (((HOV.out.below HD).below (nw (.cells #[.int .i64 (k : Int)] 3) (Below.refl Wd.heap.size Wd))).step hfN ha4 (L' := fun v => frI x.es (v : Int) (k + 1)) (by
        show w4.ownsRow _ _ _ _ (frI x.es (fn : Int) (k + 1)).length ((frI x.es (fn : Int) (k + 1)).map _)
        rw [HLS.out fn, if_pos HFE.out, List.length_append]; exact hown5) (fun v hv => by
        show frI x.es (v : Int) (k + 1) = _
        rw [HLS.out v, if_neg (by rw [HFE.out]; omega)])).set_ (p := ⟨gf, fn, none⟩) (Nat.lt_succ_self gf) (.slice A9 ((frI x.es (fn : Int) k).length + 1) c9)
      have hbE := (((HBR.out.trans (HD.mono (Nat.le_of_lt rl))).alloc (Nat.le_trans (Nat.le_of_lt rl) HD.size) (.cells #[.int .i64 (k : Int)] 3)).trans (hb4.mono (Nat.le_succ gf))).setCell (p := ⟨gf, fn, none⟩) (Nat.le_refl _) (.slice A9 ((frI x.es (fn : Int) k).length + 1) c9)
      have HF5 := Lib.hid hF5
      have HOV5 := Lib.hid hOV5
      have HBE := Lib.hid hbE
      clear hF5 hOV5 hbE hF4 hL4 cF cF1 l4 sF hown5 hown4 hb4 ha4 HS0 HS1 HS2 HD HD2
      go_wp2_with fail
      go_roundw
      case rel => exact ⟨k + 1, _, by omega, by go_num, HF5, HOV5, HBE.out⟩
      case measure => simp [intOf]; omega
    · obtain rfl : k = x.es.length := by omega
      have HBE := Lib.hid (hbw.trans (hbr.mono hwg))
      have HE : Hid (∀ W, NewEq w.heap.size wr W → SlR 1 RSl W (some ⟨gf, 0, none⟩) (leavE x N)) := fun W hW _ => by
        have hFW : Blk W gf 40 ((List.range N).map V).toArray := (hW.2 gf hwg hFl).trans HF.out
        refine ⟨gf, 0, rfl, hFW.lt, fun v y hv => ?_⟩
        have hvN : v < N := by have := (List.getElem?_eq_some_iff.1 hv).1; rw [leavE_len] at this; exact this
        rw [leavE_at x hvN] at hv
        obtain rfl := Option.some.inj hv
        obtain ⟨A', c', h1, h2, h3, h4⟩ := HO.out.slr (W := W) ⟨hW.1, fun b hb hl => hW.2 b (by omega) hl⟩ hvN
        refine ⟨[V v], ⟨A', c', by rw [h1], h4, h2, h3⟩, rfl, fun j u hj => ?_⟩
        match j, hj with
        | 0, hj =>
          simp at hj
          subst hj
          rw [hFW.cell]
          simp [hvN]
      clear hbr
      go_wp2_with fail
      go_ret
      exact ⟨gf, rfl, hwg, hFl, HE, HBE.out⟩
end Go.Proofs.YtfjkmgjjifhdkaaGreat

/-
  Words for memory of layer 20: a map of the call's own, from pairs of numbers to their places in a list.
-/
namespace Go.Proofs.YtfjkmgjjifhdkaaGreat
open Go Go.RowKit Go.Maps

theorem mapLaidOut : laidOutB Tryz.prog = true := by kernel_rfl
set_option maxRecDepth 100000 in
theorem mapRow : (117 : TypeId) < Tryz.prog.types.size := of_decide_eq_true (by kernel_rfl)
theorem mapWide : (match Tryz.prog.underlying 117 with | some (.array _ _) | some (.struct _) => true | _ => false) = true := by kernel_rfl
set_option maxRecDepth 100000 in
theorem mapLaw : Keyed Tryz.prog 117 := Keyed.of_law (deep_law_laid mapLaidOut (m := 2) (by omega) mapRow (by kernel_rfl) mapWide)
theorem mapZero (w : World) : (zeroValue 3).run Tryz.prog w = .ok (.int .i64 0) w := by kernel_rfl
theorem mapFormed {c0 c1 : Value} : (Value.agg #[c0, c1]).formed Tryz.prog 117 = true := by
  have hc : Tryz.prog.cellsOf 117 = 2 := by kernel_rfl
  simp [Value.formed, Tryz.underlying117, hc]
set_option maxRecDepth 100000 in
theorem keyInt {n : Nat} {x : Int} (h : (Lit.int .i64 x).wf = true) : Program.keyLits Tryz.prog (n + 1) 3 [.int .i64 x] = some [.int .i64 x] := by
  unfold Program.keyLits
  rw [Tryz.underlying3]
  show (if IntKind.i64 = IntKind.i64 ∧ (Lit.int .i64 x).wf = true then some [Lit.int .i64 x] else none) = _
  rw [if_pos ⟨rfl, h⟩]
set_option maxRecDepth 100000 in
theorem mapKey_some {p : Pt} (h1 : (Lit.int .i64 p.1).wf = true) (h2 : (Lit.int .i64 p.2).wf = true) : ∃ kl, keyOf Tryz.prog 117 (vPt p) = some kl := by
  have hk : Tryz.prog.keyType 117 = true := by kernel_rfl
  unfold keyOf
  rw [Tryz.underlying117]
  simp only [hk, mapFormed, Bool.true_and, if_true]
  have hs : ∃ n, Tryz.prog.types.size = n + 1 := ⟨Tryz.prog.types.size - 1, by have h : 0 < Tryz.prog.types.size := Nat.lt_of_le_of_lt (Nat.zero_le _) mapRow; omega⟩
  obtain ⟨n, hn⟩ := hs
  rw [hn]
  have hc : Tryz.prog.cellsOf 3 = 1 := by kernel_rfl
  have hc2 : Tryz.prog.cellsOf 117 = 2 := by kernel_rfl
  have e1 := keyInt (n := n) h1
  have e2 := keyInt (n := n) h2
  have hl : Program.keyLits Tryz.prog (n + 1 + 1) 117 [.int .i64 p.1, .int .i64 p.2] = some [.int .i64 p.1, .int .i64 p.2] := by
    unfold Program.keyLits
    rw [Tryz.underlying117]
    show (if [Value.int .i64 p.1, .int .i64 p.2].length = Tryz.prog.cellsOf 117 then ((List.range 2).mapM fun i => Tryz.prog.keyLits (n + 1) 3 (([Value.int .i64 p.1, .int .i64 p.2].drop (i * Tryz.prog.cellsOf 3)).take (Tryz.prog.cellsOf 3))).map List.flatten else none) = _
    rw [hc, hc2, if_pos (show ([Value.int .i64 p.1, .int .i64 p.2] : List Value).length = 2 from rfl)]
    show (([0, 1] : List Nat).mapM fun i => Tryz.prog.keyLits (n + 1) 3 (([Value.int .i64 p.1, .int .i64 p.2].drop (i * 1)).take 1)).map List.flatten = _
    simp [e1, e2]
  show ∃ kl, Option.map _ (Program.keyLits Tryz.prog (n + 1 + 1) 117 [.int .i64 p.1, .int .i64 p.2]) = some kl
  rw [hl]
  exact ⟨_, rfl⟩
/-- A map from the first k pairs of l to their places. -/
def IxM (w : World) (b : Nat) (l : List Pt) (k : Nat) : Prop := ∃ D : DataW Unit, w.ownsMap Tryz.prog 117 (plainElem Tryz.prog 3) b k D ∧
  ∀ (j : Nat) (p : Pt) (kl : Lit), j < k → l[j]? = some p → keyOf Tryz.prog 117 (vPt p) = some kl → D.atKey kl (.lit (.int .i64 0)) = .lit (.int .i64 (j : Int))
theorem IxM.start (w : World) (l : List Pt) : IxM (w.alloc (.map #[] 0)) w.heap.size l 0 := ⟨_, World.ownsMap_made w _ _ _, fun j _ _ h => absurd h (by omega)⟩
theorem IxM.keep {w w' : World} {b k : Nat} {l : List Pt} (h : IxM w b l k) (hb : w'.heap[b]? = w.heap[b]?) : IxM w' b l k := by
  obtain ⟨D, ⟨es, clock, h1, h2, h3, h4⟩, h5⟩ := h
  exact ⟨D, ⟨es, clock, hb.trans h1, h2, h3, h4⟩, h5⟩
theorem IxM.lt {w : World} {b k : Nat} {l : List Pt} (h : IxM w b l k) : b < w.heap.size := by
  obtain ⟨D, h1, _⟩ := h
  exact h1.lt
set_option maxRecDepth 100000 in
theorem IxM.look {w : World} {b k : Nat} {l : List Pt} (h : IxM w b l k) {j : Nat} {p : Pt} (hj : j < k) (hp : l[j]? = some p) (h1 : (Lit.int .i64 p.1).wf = true) (h2 : (Lit.int .i64 p.2).wf = true) :
    (Instr.lookup 116 (.map (some b)) (vPt p) false).run Tryz.prog w = .ok (.int .i64 (j : Int)) w := by
  obtain ⟨D, hO, hD⟩ := h
  obtain ⟨kl, hk⟩ := mapKey_some h1 h2
  obtain ⟨c, hrun, hat, _⟩ := hO.lookup_int mapLaw Tryz.underlying116 Tryz.underlying3 (mapZero w) hk
  rw [hD j p kl hj hp hk] at hat
  injection hat with hat
  injection hat with _ hat
  rw [hat]
  exact hrun
theorem IxM.put {w' : World} {b k : Nat} {l : List Pt} {D : DataW Unit} {kl : Lit} {p : Pt} (hO' : w'.ownsMap Tryz.prog 117 (plainElem Tryz.prog 3) b (k + 1) (D.put kl (.lit (.int .i64 (k : Int)))))
    (hM : IsMap D) (hD : ∀ (j : Nat) (p : Pt) (kl : Lit), j < k → l[j]? = some p → keyOf Tryz.prog 117 (vPt p) = some kl → D.atKey kl (.lit (.int .i64 0)) = .lit (.int .i64 (j : Int)))
    (hn : l.Nodup) (hp : l[k]? = some p) (hk : keyOf Tryz.prog 117 (vPt p) = some kl) : IxM w' b l (k + 1) := by
  refine ⟨_, hO', fun j q kq hj hq hkq => ?_⟩
  rcases Nat.lt_or_ge j k with h | h
  · have hne : kq ≠ kl := fun e => by
      subst e
      have := mapLaw.inj hkq hk
      simp only [Value.agg.injEq] at this
      have hpq : q = p := by
        have h2 := congrArg Array.toList this
        simp at h2
        exact Prod.ext h2.1 h2.2
      subst hpq
      obtain ⟨h3, h4⟩ := List.getElem?_eq_some_iff.1 hq
      obtain ⟨h5, h6⟩ := List.getElem?_eq_some_iff.1 hp
      exact (List.pairwise_iff_getElem.1 hn j k h3 h5 h) (h4.trans h6.symm)
    rw [atKey_put_other hne]
    exact hD j q kq h hq hkq
  · obtain rfl : j = k := by omega
    rw [hq] at hp
    obtain rfl := Option.some.inj hp
    rw [hkq] at hk
    obtain rfl := Option.some.inj hk
    exact atKey_put_same hM (mapLaw.key hkq) _ _
end Go.Proofs.YtfjkmgjjifhdkaaGreat

/-
  The plain mathematics of layer 11, continued: searches by halves, costs of pairs.
-/
namespace Go.Proofs.YtfjkmgjjifhdkaaGreat
open Go Go.RowKit

/-- p has the words of g, or comes after it. -/
def reachB (g p : Pr) : Bool := decide (g.a < p.a) || (p.a == g.a && decide (g.b ≤ p.b))
theorem lessP_reach {g p q : Pr} (h : lessP p q = true) (hr : reachB g p = true) : reachB g q = true := by
  unfold lessP at h; unfold reachB at *
  simp at *
  omega
/-- Where the pairs begin that are reached. -/
def cutP (ps : List Pr) (g : Pr) : Nat := ps.findIdx (reachB g)
theorem reach_mono {ps : List Pr} {g : Pr} (h : IncPAt ps ps.length) : ∀ (d i : Nat) (x y : Pr), ps[i]? = some x → ps[i + d]? = some y → reachB g x = true → reachB g y = true := by
  intro d
  induction d with
  | zero => intro i x y hx hy hr; simp at hy; rw [hx] at hy; rw [← Option.some.inj hy]; exact hr
  | succ d ih =>
    intro i x y hx hy hr
    have hlt : i + d + 1 < ps.length := by
      obtain ⟨hlt, _⟩ := List.getElem?_eq_some_iff.1 hy
      omega
    have h1 := ih i x ps[i + d] hx (List.getElem?_eq_getElem (by omega)) hr
    exact lessP_reach (h (i + d) ps[i + d] y hlt (List.getElem?_eq_getElem (by omega)) (by rw [← hy]; rfl)) h1
/-- What the search by halves knows. -/
structure Halves (ps : List Pr) (g : Pr) (lo hi : Nat) : Prop where
  hle : lo ≤ hi
  hhi : hi ≤ ps.length
  below : ∀ i x, i < lo → ps[i]? = some x → reachB g x = false
  above : ∀ i x, hi ≤ i → ps[i]? = some x → reachB g x = true
theorem Halves.start (ps : List Pr) (g : Pr) : Halves ps g 0 ps.length :=
  ⟨Nat.zero_le _, Nat.le_refl _, fun _ _ h => absurd h (by omega), fun i x h hx => by
    obtain ⟨hlt, _⟩ := List.getElem?_eq_some_iff.1 hx
    omega⟩
theorem Halves.left {ps : List Pr} {g p : Pr} {lo hi k : Nat} (h : Halves ps g lo hi) (hinc : incP ps = true) (h1 : lo ≤ k) (h2 : k < hi) (hp : ps[k]? = some p) (hr : reachB g p = true) : Halves ps g lo k :=
  ⟨h1, by have := h.hhi; omega, h.below, fun i x hi' hx => reach_mono ((incP_iff ps).1 hinc) (i - k) k p x hp (by rw [← hx]; congr 1; omega) hr⟩
theorem Halves.right {ps : List Pr} {g p : Pr} {lo hi k : Nat} (h : Halves ps g lo hi) (hinc : incP ps = true) (h2 : k < hi) (hp : ps[k]? = some p) (hr : reachB g p = false) : Halves ps g (k + 1) hi :=
  ⟨h2, h.hhi, (fun i x hi' hx => by
    cases hx' : reachB g x
    · rfl
    · have := reach_mono ((incP_iff ps).1 hinc) (k - i) i x p hx (by rw [← hp]; congr 1; omega) hx'
      rw [hr] at this; cases this), h.above⟩
theorem Halves.cut {ps : List Pr} {g : Pr} {k : Nat} (h : Halves ps g k k) : cutP ps g = k := by
  unfold cutP
  by_cases hk : k < ps.length
  · rw [List.findIdx_eq hk]
    exact ⟨h.above k ps[k] (Nat.le_refl _) (List.getElem?_eq_getElem hk), fun j hj => h.below j _ hj (List.getElem?_eq_getElem (by omega))⟩
  · have : k = ps.length := by have := h.hhi; omega
    subst this
    rw [List.findIdx_eq_length]
    intro x hx
    obtain ⟨i, hi, rfl⟩ := List.getElem_of_mem hx
    exact h.below i _ hi (List.getElem?_eq_getElem hi)
theorem cut_spec (ps : List Pr) (g : Pr) (hinc : incP ps = true) : Halves ps g (cutP ps g) (cutP ps g) := by
  have hle : cutP ps g ≤ ps.length := List.findIdx_le_length
  refine ⟨Nat.le_refl _, hle, fun i x hi hx => ?_, fun i x hi hx => ?_⟩
  · obtain ⟨hlt, rfl⟩ := List.getElem?_eq_some_iff.1 hx
    have := List.not_of_lt_findIdx (p := reachB g) (xs := ps) (i := i) hi
    simpa using this
  · obtain ⟨hlt, rfl⟩ := List.getElem?_eq_some_iff.1 hx
    have hc : cutP ps g < ps.length := by omega
    have h1 : reachB g ps[cutP ps g] = true := List.findIdx_getElem (w := hc)
    exact reach_mono ((incP_iff ps).1 hinc) (i - cutP ps g) (cutP ps g) _ _ (List.getElem?_eq_getElem hc) (by rw [← List.getElem?_eq_getElem hlt]; congr 1; omega) h1

/-! the number of a known pair -/
def known (ps : List Pr) (a b : Int) : Int := ps.foldl (fun acc p => if p.a == a && p.b == b then p.n else acc) 0
theorem known_snoc (ps : List Pr) (p : Pr) (a b : Int) : known (ps ++ [p]) a b = if p.a == a && p.b == b then p.n else known ps a b := by
  unfold known
  rw [List.foldl_append]
  rfl
theorem known_keep {ps qs : List Pr} {a b : Int} (h : ∀ p ∈ qs, ¬ (p.a = a ∧ p.b = b)) : known (ps ++ qs) a b = known ps a b := by
  unfold known
  rw [List.foldl_append]
  generalize ps.foldl (fun acc p => if p.a == a && p.b == b then p.n else acc) 0 = acc
  induction qs generalizing acc with
  | nil => rfl
  | cons q qs ih =>
    rw [List.foldl_cons, if_neg (by have := h q (by simp); simpa using this)]
    exact ih (fun p hp => h p (by simp [hp])) acc
theorem sumAt_append (ps qs : List Pr) (a : Int) : sumAt (ps ++ qs) a = sumAt ps a + sumAt qs a := by
  simp only [sumAt, List.filter_append, List.map_append, total_append]
theorem sumAt_none {qs : List Pr} {a : Int} (h : ∀ p ∈ qs, p.a ≠ a) : sumAt qs a = 0 := by
  have : qs.filter (fun p => p.a == a) = [] := by
    rw [List.filter_eq_nil_iff]
    intro p hp e
    exact h p hp (by simpa using e)
  simp [sumAt, this, total]
theorem mem_drop_get {ps : List Pr} {k : Nat} {p : Pr} (h : p ∈ ps.drop k) : ∃ i, k ≤ i ∧ ps[i]? = some p := by
  obtain ⟨i, hi, rfl⟩ := List.getElem_of_mem h
  rw [List.length_drop] at hi
  exact ⟨k + i, by omega, by rw [List.getElem_drop, List.getElem?_eq_getElem (by omega)]⟩
theorem mem_take_get {ps : List Pr} {k : Nat} {p : Pr} (h : p ∈ ps.take k) : ∃ i, i < k ∧ ps[i]? = some p := by
  obtain ⟨i, hi, rfl⟩ := List.getElem_of_mem h
  rw [List.length_take] at hi
  exact ⟨i, by omega, by rw [List.getElem_take, List.getElem?_eq_getElem (by omega)]⟩
/-- The goal that Pair looks for. -/
def goalP (a : Int) : Pr := ⟨a, 0, 0⟩
theorem before_cut {ps : List Pr} {n : Nat} {a : Int} (hok : PsOK ps n) : ∀ p ∈ ps.take (cutP ps (goalP a)), p.a ≠ a := fun p hp e => by
  obtain ⟨i, hi, hpi⟩ := mem_take_get hp
  have := (cut_spec ps (goalP a) hok.2.2).below i p hi hpi
  have hb := (hok.2.1 p (List.mem_of_getElem? hpi)).1.2.1.1
  unfold reachB goalP at this
  simp at this
  omega
theorem after_cut {ps : List Pr} {n k : Nat} {a : Int} {p : Pr} (hok : PsOK ps n) (hk : cutP ps (goalP a) ≤ k) (hp : ps[k]? = some p) (hne : p.a ≠ a) : ∀ q ∈ ps.drop k, q.a ≠ a := fun q hq e => by
  obtain ⟨i, hi, hqi⟩ := mem_drop_get hq
  have h1 := (cut_spec ps (goalP a) hok.2.2).above k p hk hp
  have h2 : reachB ⟨p.a, p.b, 0⟩ q = true := by
    refine reach_mono ((incP_iff ps).1 hok.2.2) (i - k) k p q hp (by rw [← hqi]; congr 1; omega) (by unfold reachB; simp)
  unfold reachB goalP at *
  simp at *
  omega
theorem known_spec {ps : List Pr} {n : Nat} {a b : Int} (hok : PsOK ps n) :
    (∃ i : Nat, ∃ p, ps[i]? = some p ∧ p.a = a ∧ p.b = b ∧ known ps a b = p.n ∧ (∀ q ∈ ps.take i, ¬ (q.a = a ∧ q.b = b))) ∨ (known ps a b = 0 ∧ ∀ q ∈ ps, ¬ (q.a = a ∧ q.b = b)) := by
  by_cases h : ∀ q ∈ ps, ¬ (q.a = a ∧ q.b = b)
  · refine .inr ⟨?_, h⟩
    have := known_keep (ps := []) (qs := ps) (a := a) (b := b) h
    simpa [known] using this
  · have h' : ∃ q, q ∈ ps ∧ (q.a = a ∧ q.b = b) := by
      refine Classical.byContradiction fun hc => h fun q hq he => hc ⟨q, hq, he⟩
    obtain ⟨q, hq, hqa, hqb⟩ := h'
    obtain ⟨i, hi, rfl⟩ := List.getElem_of_mem hq
    have hinc := (incP_iff ps).1 hok.2.2
    have huniq : ∀ (d j : Nat) (x y : Pr), ps[j]? = some x → ps[j + d + 1]? = some y → lessP x y = true := by
      intro d
      induction d with
      | zero =>
        intro j x y hx hy
        obtain ⟨hlt, _⟩ := List.getElem?_eq_some_iff.1 hy
        exact hinc j x y (by omega) hx hy
      | succ d ih =>
        intro j x y hx hy
        obtain ⟨hlt, _⟩ := List.getElem?_eq_some_iff.1 hy
        have h1 := ih j x ps[j + d + 1] hx (List.getElem?_eq_getElem (by omega))
        have h2 := hinc (j + d + 1) ps[j + d + 1] y (by omega) (List.getElem?_eq_getElem (by omega)) hy
        unfold lessP at *
        simp at *
        omega
    refine .inl ⟨i, ps[i], List.getElem?_eq_getElem hi, hqa, hqb, ?_, fun x hx he => ?_⟩
    · have e : ps = (ps.take i ++ [ps[i]]) ++ ps.drop (i + 1) := by
        rw [List.append_assoc]
        simp
      conv => lhs; rw [e]
      rw [known_keep (fun x hx he => by
        obtain ⟨j, hj, hxj⟩ := mem_drop_get hx
        have := huniq (j - i - 1) i ps[i] x (List.getElem?_eq_getElem hi) (by rw [← hxj]; congr 1; omega)
        unfold lessP at this
        simp at this
        omega), known_snoc, if_pos (by simp [hqa, hqb])]
    · obtain ⟨j, hj, hxj⟩ := mem_take_get hx
      have := huniq (i - j - 1) j x ps[i] hxj (by rw [← List.getElem?_eq_getElem hi]; congr 1; omega)
      unfold lessP at this
      simp at this
      omega
/-- The cost of a word after another one. -/
def pcost (m : Mo) (a : Int) (k : Nat) : Int := if a < 0 then wcost m k else if known m.ps a k = 0 then m.back + wcost m k else lg (sumAt m.ps a) - lg (known m.ps a k)
theorem known_bd {ps : List Pr} {n : Nat} {a b : Int} (hok : PsOK ps n) : 0 ≤ known ps a b ∧ known ps a b ≤ 1073741824 := by
  rcases known_spec (a := a) (b := b) hok with ⟨i, p, hp, _, _, hk, _⟩ | ⟨hk, _⟩
  · have := hok.2.1 p (List.mem_of_getElem? hp)
    have h1 := this.1.2.2
    rw [hk]; omega
  · rw [hk]; omega
theorem sumAt_ok {ps : List Pr} {n : Nat} {a : Int} (hok : PsOK ps n) : 0 ≤ sumAt ps a ∧ sumAt ps a ≤ 1073741824 := by
  refine ⟨sumAt_nonneg (n := n) (fun p hp => (hok.2.1 p hp).1) a, ?_⟩
  by_cases h : ∀ p ∈ ps, p.a ≠ a
  · rw [sumAt_none h]; omega
  · have h' : ∃ p, p ∈ ps ∧ p.a = a := Classical.byContradiction fun hc => h fun p hp he => hc ⟨p, hp, he⟩
    obtain ⟨p, hp, rfl⟩ := h'
    exact (hok.2.1 p hp).2.2
theorem pair_start {ps : List Pr} {n : Nat} {a b : Int} (hok : PsOK ps n) : sumAt (ps.take (cutP ps (goalP a) + 0)) a = 0 ∧ known (ps.take (cutP ps (goalP a) + 0)) a b = 0 := by
  have h := before_cut (a := a) hok
  refine ⟨sumAt_none h, ?_⟩
  have := known_keep (ps := []) (qs := ps.take (cutP ps (goalP a))) (a := a) (b := b) (fun p hp he => h p hp he.1)
  simpa [known] using this
theorem pair_ends {ps : List Pr} {n k : Nat} {a b : Int} (hok : PsOK ps n) (hk : cutP ps (goalP a) ≤ k) (he : ps.length ≤ k ∨ ∃ p, ps[k]? = some p ∧ p.a ≠ a) :
    sumAt (ps.take k) a = sumAt ps a ∧ known (ps.take k) a b = known ps a b := by
  rcases he with he | ⟨p, hp, hne⟩
  · rw [List.take_of_length_le he]; exact ⟨rfl, rfl⟩
  · have h := after_cut hok hk hp hne
    have e1 : sumAt ps a = sumAt (ps.take k) a + sumAt (ps.drop k) a := by rw [← sumAt_append, List.take_append_drop]
    have e2 : known ps a b = known (ps.take k ++ ps.drop k) a b := by rw [List.take_append_drop]
    rw [sumAt_none h] at e1
    rw [known_keep (fun q hq he => h q hq he.1)] at e2
    exact ⟨by omega, e2.symm⟩
theorem wcost_bd (m : Mo) (k : Nat) (hok : CsOK m.cs m.ws.length) (hk : k < m.cs.length) (hl : m.ws.length ≤ 65536) : -512 ≤ wcost m k ∧ wcost m k ≤ 512 := by
  have hx : m.cs[k]? = some m.cs[k] := List.getElem?_eq_getElem hk
  rw [wcost_at hx]
  have ht0 := (hok.to (k := m.cs.length))
  rw [List.take_length] at ht0
  have h1 := lg_bd (total m.cs + m.ws.length) (by omega)
  have hc := hok.2.1 m.cs[k] (List.getElem_mem hk)
  have h2 := lg_bd (m.cs[k] + 1) (by omega)
  omega
end Go.Proofs.YtfjkmgjjifhdkaaGreat

/-
  The plain law of layer 20: the links of a lattice's graph with a model after a word. No program in sight; no conditions.
-/
namespace Go.Proofs.YtfjkmgjjifhdkaaGreat
open List

/-- The link that stands for the edge k at the node i, whose last word is last. -/
def cx_mkLk (x : La) (m : Mo) (prev : Int) (i : Nat) (last : Int) (k : Nat) : Lk :=
  match x.es[k]? with
  | some e => ⟨i, ixL (nodesL x prev) (arrL x.n e), k, e.co + pcost m last e.wd.toNat⟩
  | none => ⟨0, 0, 0, 0⟩
theorem cx_mkLk_at {x : La} {m : Mo} {prev last : Int} {i k : Nat} {e : Ed} (h : x.es[k]? = some e) : cx_mkLk x m prev i last k = ⟨i, ixL (nodesL x prev) (arrL x.n e), k, e.co + pcost m last e.wd.toNat⟩ := by
  unfold cx_mkLk; rw [h]
/-- The links of the first j nodes. -/
def lksTo (x : La) (m : Mo) (prev : Int) : Nat → List Lk
  | 0 => []
  | j + 1 => match (nodesL x prev)[j]? with
    | some p => lksTo x m prev j ++ (frE x p.1).map (cx_mkLk x m prev j p.2)
    | none => lksTo x m prev j
theorem lksTo_succ {x : La} {m : Mo} {prev : Int} {j : Nat} {p : Int × Int} (h : (nodesL x prev)[j]? = some p) : lksTo x m prev (j + 1) = lksTo x m prev j ++ (frE x p.1).map (cx_mkLk x m prev j p.2) := by
  show (match (nodesL x prev)[j]? with | some p => lksTo x m prev j ++ (frE x p.1).map (cx_mkLk x m prev j p.2) | none => lksTo x m prev j) = _
  rw [h]
def lksL (x : La) (m : Mo) (prev : Int) : List Lk := lksTo x m prev (nodesL x prev).length
def grL (x : La) (m : Mo) (prev : Int) : Gr := ⟨((nodesL x prev).length : Int), lksL x m prev⟩
theorem lksTo_len (x : La) (m : Mo) (prev : Int) : ∀ j, (lksTo x m prev j).length ≤ j * x.es.length
  | 0 => by simp [lksTo]
  | j + 1 => by
    have h := lksTo_len x m prev j
    unfold lksTo
    rw [Nat.succ_mul]
    split
    · rename_i p _
      have : (frE x p.1).length ≤ x.es.length := frTo_len _ _ _
      rw [length_append, length_map]
      omega
    · omega
theorem lksTo_mem {x : La} {m : Mo} {prev : Int} {l : Lk} : ∀ j, j ≤ (nodesL x prev).length → (l ∈ lksTo x m prev j ↔ ∃ (i k : Nat) (p : Int × Int) (e : Ed), i < j ∧ (nodesL x prev)[i]? = some p ∧ x.es[k]? = some e ∧ e.fr = p.1 ∧ l = cx_mkLk x m prev i p.2 k)
  | 0, _ => by simp [lksTo]
  | j + 1, hj => by
    have hl : (nodesL x prev)[j]? = some (nodesL x prev)[j] := List.getElem?_eq_getElem (by omega)
    rw [lksTo_succ hl, mem_append, lksTo_mem j (by omega), mem_map]
    constructor
    · rintro (⟨i, k, p, e, h1, h2⟩ | ⟨k, hk, rfl⟩)
      · exact ⟨i, k, p, e, by omega, h2⟩
      · obtain ⟨e, he, hf⟩ := frE_mem.1 hk
        exact ⟨j, k, _, e, by omega, hl, he, hf, rfl⟩
    · rintro ⟨i, k, p, e, h1, h2, h3, h4, rfl⟩
      rcases Nat.lt_or_ge i j with h5 | h5
      · exact .inl ⟨i, k, p, e, h5, h2, h3, h4, rfl⟩
      · obtain rfl : i = j := by omega
        rw [hl] at h2
        obtain rfl := Option.some.inj h2
        exact .inr ⟨k, frE_mem.2 ⟨e, h3, h4⟩, rfl⟩
theorem lksL_mem {x : La} {m : Mo} {prev : Int} {l : Lk} : l ∈ lksL x m prev ↔ ∃ (i k : Nat) (p : Int × Int) (e : Ed), (nodesL x prev)[i]? = some p ∧ x.es[k]? = some e ∧ e.fr = p.1 ∧ l = cx_mkLk x m prev i p.2 k := by
  unfold lksL
  rw [lksTo_mem _ (Nat.le_refl _)]
  exact ⟨fun ⟨i, k, p, e, _, h⟩ => ⟨i, k, p, e, h⟩, fun ⟨i, k, p, e, h⟩ => ⟨i, k, p, e, (List.getElem?_eq_some_iff.1 h.1).1, h⟩⟩
end Go.Proofs.YtfjkmgjjifhdkaaGreat
