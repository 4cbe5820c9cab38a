/-
  GrOwnV, BsWalkC, joined. No conditions.
-/
import Derived.Test.YtfjkmgjjifhdkaaGreatR04
import Derived.Test.YtfjkmgjjifhdkaaGreatR11
import Derived.Test.YtfjkmgjjifhdkaaGreatR07
import Derived.Test.YtfjkmgjjifhdkaaGreatR12
/-
  Words for memory of layers 15 and 20: rows of numbers, one for each node, apart from each other.
-/
namespace Go.Proofs.YtfjkmgjjifhdkaaGreat
open Go Go.RowKit

theorem bint_inf : (Tryz.prog.info? 3).map (fun i => (i.zero, i.size, i.bytes)) = some (some (.int .i64 0), 1, 8) := by kernel_rfl
theorem bints_inf : (Tryz.prog.info? 40).map (fun i => (i.zero, i.size, i.bytes)) = some (some (.slice none 0 0), 1, 24) := by kernel_rfl
/-- All blocks from B on are as they were. -/
def NewEq (B : Nat) (w W : World) : Prop := w.heap.size ≤ W.heap.size ∧ ∀ b, B ≤ b → b < w.heap.size → W.heap[b]? = w.heap[b]?
theorem NewEq.of_below {B : Nat} {w W : World} (h : Below w.heap.size w W) : NewEq B w W := ⟨h.size, fun b _ hb => h.block b hb⟩
/-- Rows of numbers of the call's own, one for each node, apart from each other. -/
structure OwnV (B N : Nat) (w : World) (V : Nat → Value) (L : Nat → List Int) : Prop where
  own : ∀ v, v < N → w.ownsRow B 3 1 (V v) (L v).length ((L v).map (Value.int .i64))
  apart : ∀ u v, u < N → v < N → u ≠ v → ∀ g, (V u).ownBlock = some g → (V v).ownBlock ≠ some g
def updF {α : Type} (f : Nat → α) (i : Nat) (x : α) : Nat → α := fun j => if j = i then x else f j
theorem updF_same {α : Type} (f : Nat → α) (i : Nat) (x : α) : updF f i x i = x := if_pos rfl
theorem updF_ne {α : Type} (f : Nat → α) {i j : Nat} (x : α) (h : j ≠ i) : updF f i x j = f j := if_neg h
theorem range_upd {α : Type} (f : Nat → α) {n i : Nat} (_hi : i < n) (x : α) : (List.range n).map (updF f i x) = ((List.range n).map f).set i x := by
  apply List.ext_getElem?
  intro j
  rw [List.getElem?_set]
  by_cases hj : i = j
  · subst hj; by_cases h : i < n <;> simp [h, updF_same]
  · rw [if_neg hj]
    by_cases h : j < n <;> simp [h, updF_ne f x (Ne.symm hj)]
theorem OwnV.step {B N : Nat} {w w' : World} {V : Nat → Value} {L : Nat → List Int} (h : OwnV B N w V L) {f : Nat} (hf : f < N) {v' : Value} {L' : Nat → List Int} (ha : Apps w w' (V f) v') (ho : w'.ownsRow B 3 1 v' (L' f).length ((L' f).map (Value.int .i64)))
    (hL : ∀ v, v ≠ f → L' v = L v) : OwnV B N w' (updF V f v') L' := by
  have hlt : ∀ v, v < N → ∀ g, (V v).ownBlock = some g → g < w.heap.size := fun v hv g hg => by
    rcases Nat.lt_or_ge g w.heap.size with h1 | h1
    · exact h1
    · exact absurd hg (own_lt (h.own v hv) h1)
  have hne : ∀ v, v < N → v ≠ f → ∀ g, (V v).ownBlock = some g → v'.ownBlock ≠ some g := fun v hv hvf g hg => ha.ne (hlt v hv g hg) (h.apart v f hv hf hvf g hg)
  refine ⟨fun v hv => ?_, fun u v hu hv huv g hg => ?_⟩
  · by_cases e : v = f
    · subst e; rw [updF_same]; exact ho
    · rw [updF_ne V v' e, hL v e]
      exact own_keep (h.own v hv) fun g hg hgl => ha.keep g hgl (h.apart v f hv hf e g hg)
  · by_cases e1 : u = f
    · subst e1
      rw [updF_same] at hg
      rw [updF_ne V v' (Ne.symm huv)]
      intro hg2
      exact hne v hv (Ne.symm huv) g hg2 hg
    · rw [updF_ne V v' e1] at hg
      by_cases e2 : v = f
      · subst e2; rw [updF_same]; exact hne u hu e1 g hg
      · rw [updF_ne V v' e2]; exact h.apart u v hu hv huv g hg
theorem OwnV.below {B N : Nat} {w w' : World} {V : Nat → Value} {L : Nat → List Int} (h : OwnV B N w V L) (hb : Below w.heap.size w w') : OwnV B N w' V L := ⟨fun v hv => own_below (h.own v hv) hb, h.apart⟩
theorem OwnV.set_ {B N : Nat} {w : World} {V : Nat → Value} {L : Nat → List Int} (h : OwnV B N w V L) {p : Addr} (hp : p.block < B) (u : Value) : OwnV B N (w.setCell p u) V L :=
  ⟨fun v hv => own_set (h.own v hv) (fun e => by have := own_block_le (h.own v hv) _ e; omega) u, h.apart⟩
theorem OwnV.slr {B N : Nat} {w W : World} {V : Nat → Value} {L : Nat → List Int} (h : OwnV B N w V L) (hW : NewEq B w W) {v : Nat} (hv : v < N) : ∃ A c, V v = .slice A (L v).length c ∧ (L v).length ≤ c ∧ c ≤ maxLen ∧ SlR 1 RInt W A (L v) := by
  have ho : W.ownsRow B 3 1 (V v) (L v).length ((L v).map (Value.int .i64)) := own_keep (h.own v hv) fun g hg hl => hW.2 g (own_block_le (h.own v hv) _ hg) hl
  exact own_ints ho rfl
end Go.Proofs.YtfjkmgjjifhdkaaGreat

/-
  The walks of layer 15: the links that leave each node.
-/
namespace Go.Proofs.YtfjkmgjjifhdkaaGreat
open Go Go.RowKit

set_option maxRecDepth 100000 in
set_option maxHeartbeats 8000000 in
theorem bleav_any (A : Option Addr) (c : Nat) (g : Gr) (N : Nat) (w : World) (hx : SlR 4 RLk w A g.ls) (hl : g.ls.length ≤ maxLen) (hg : GrOK g) (hN : g.n = (N : Int)) :
    Calls Tryz.prog 59 #[.agg #[.int .i64 (N : Int), .slice A g.ls.length c]] w fun e w' => ∃ gf, e = .returned (.slice (some ⟨gf, 0, none⟩) N N) ∧ w.heap.size ≤ gf ∧ gf < w'.heap.size ∧
      Hid (∀ W, NewEq w.heap.size w' W → SlR 1 RSl W (some ⟨gf, 0, none⟩) (leavL g N)) ∧ Below w.heap.size w w' := by
  unfold maxLen at hl
  obtain ⟨i0, hi, hz0, hz1, hz2⟩ := info_parts bint_inf
  obtain ⟨i1, hi1, hy0, hy1, hy2⟩ := info_parts bints_inf
  have hn := hg.n
  rw [hN] at hn
  obtain ⟨w1, hw1⟩ : ∃ w1, w.alloc (.cells #[.int .i64 (N : Int), .slice A g.ls.length c] 38) = w1 := ⟨_, rfl⟩
  have hb1 : Below w.heap.size w w1 := by rw [← hw1]; exact nw _ (Below.refl _ _)
  have hB1 : Blk w1 w.heap.size 38 #[.int .i64 (N : Int), .slice A g.ls.length c] := by rw [← hw1]; exact Blk.new _ _ _
  have HW1 := Lib.hid hw1
  have k0 := hB1.cell 0
  have k1 := hB1.cell 1
  have kl := hB1.lt
  simp at k0 k1
  have HG := Lib.hid hg
  have HN := Lib.hid hN
  clear hw1 hg hN
  go_enter Tryz.func59, Tryz.ntmps59
  go_upto_region 1 with fail
  rw [HW1.out]
  go_upto_region 2 with (at_make; go_loud (refine wpList_mk _ rfl _ _ 91 rfl 40 i1 (.slice none 0 0) (.slice none 0 0) Tryz.underlying91 hi1 hy0 hy1 (by omega) rfl N rfl rfl (by omega) ?_))
  obtain ⟨W1, hW1⟩ : ∃ W, w1.alloc (.cells (Array.replicate N (Value.slice none 0 0)) 40) = W := ⟨_, rfl⟩
  have hb2 : Below w1.heap.size w1 W1 := by rw [← hW1]; exact nw _ (Below.refl _ _)
  have hF1 : Blk W1 w1.heap.size 40 ((List.range N).map (fun _ => Value.slice none 0 0)).toArray := by
    rw [← hW1, show ((List.range N).map (fun _ => Value.slice none 0 0)).toArray = Array.replicate N (Value.slice none 0 0) by simp [List.map_const']]
    exact Blk.new _ _ _
  rw [hW1]
  have hbw := bthen hb1 hb2
  have hB2 := hB1.below hb2 hB1.lt
  obtain ⟨gf, hgf⟩ : ∃ b, w1.heap.size = b := ⟨_, rfl⟩
  rw [hgf] at hF1 kl ⊢
  have hwg : w.heap.size ≤ gf := by have := hb1.size; omega
  have k0 := hB2.cell 0
  have k1 := hB2.cell 1
  have klW := hB2.lt
  simp at k0 k1
  have HX : Hid (∀ W, Below gf W1 W → SlR 4 RLk W A g.ls) := fun W hW => hx.below keeps_lk (hbw.trans (hW.mono hwg))
  clear hW1 hgf hb1 hb2 hB1 hx
  have hF1l := hF1.lt
  have HF1 := Lib.hid hF1
  have hO1 : OwnV (gf + 1) N W1 (fun _ => Value.slice none 0 0) (fun v => lvTo g.ls (v : Int) 0) := ⟨fun v _ => own_nil _ _ _ _, fun u v _ _ _ g hg => by simp [Value.ownBlock] at hg⟩
  have HO1 := Lib.hid hO1
  clear hF1 hO1
  go_wp2_with fail
  go_loopw [12] (fun i wr => ∃ (k : Nat) (V : Nat → Value), k ≤ g.ls.length ∧ i = .int .i64 k ∧ Hid (Blk wr gf 40 ((List.range N).map V).toArray) ∧ Hid (OwnV (gf + 1) N wr V (fun v => lvTo g.ls (v : Int) k)) ∧ Below gf W1 wr) (fun i _ => g.ls.length - (intOf i).toNat)
  case atStart => exact ⟨0, _, by omega, rfl, HF1, HO1, Below.refl _ _⟩
  case round =>
    obtain ⟨k, V, hk, rfl, HF, HO, hbr⟩ := hrel
    have hFl := HF.out.lt
    by_cases hlt : k < g.ls.length
    · obtain ⟨b, off, l, rfl, hbb, hll, d0, d1, d2, d3⟩ := (HX.out _ hbr).lk hlt
      have hok := HG.out.ls l (List.mem_of_getElem? hll)
      obtain ⟨o1, o2, o3, _, _⟩ := hok
      obtain ⟨fn, hfr⟩ : ∃ fn : Nat, l.fr = (fn : Int) := ⟨l.fr.toNat, by omega⟩
      have hfN : fn < N := by have := HN.out; omega
      have hfN' : (fn : Int) < (N : Int) := by omega
      have hf0 : (0 : Int) ≤ (fn : Int) := by omega
      have e0 := (hB2.below hbr kl).cell 0
      have e1 := (hB2.below hbr kl).cell 1
      simp at e0 e1
      have HLS : Hid (∀ v : Nat, lvTo g.ls (v : Int) (k + 1) = if l.fr = (v : Int) then lvTo g.ls (v : Int) k ++ [(k : Int)] else lvTo g.ls (v : Int) k) := fun v => lvTo_succ hll
      have hlen1 : (lvTo g.ls (fn : Int) k).length ≤ 20000 := by
        have h1 := lvTo_len g.ls (fn : Int) k (by omega)
        have h2 := List.countP_le_length (p := fun l : Lk => decide (l.fr = (fn : Int))) (l := g.ls.take k)
        have h3 := List.length_take_le k g.ls
        have := HG.out.len
        omega
      have hk20 : k ≤ 20000 := by have := HG.out.len; omega
      have HFE := Lib.hid hfr
      clear hll o2 o3 k0 k1 hfr
      go_upto_region 5 with fail
      obtain ⟨W2, hW2⟩ : ∃ W, wr.alloc (.cells #[.int .i64 l.fr, .int .i64 l.to, .int .i64 l.lb, .int .i64 l.cost] 105) = W := ⟨_, rfl⟩
      have hb3 : Below wr.heap.size wr W2 := by rw [← hW2]; exact nw _ (Below.refl _ _)
      have hLb : Blk W2 wr.heap.size 105 #[.int .i64 l.fr, .int .i64 l.to, .int .i64 l.lb, .int .i64 l.cost] := by rw [← hW2]; exact Blk.new _ _ _
      rw [hW2]
      have HFR := Lib.hid (HF.out.below hb3 hFl)
      have HOV := Lib.hid (HO.out.below hb3)
      have HOW := Lib.hid (HOV.out.own fn hfN)
      have hvg : (V fn).ownBlock ≠ some gf := own_blk_ne HOW.out HFR.out (by decide)
      have hvl : (V fn).ownBlock ≠ some wr.heap.size := own_blk_ne HOW.out hLb (by decide)
      have HBR := Lib.hid (hbr.trans (hb3.mono (Nat.le_of_lt hFl)))
      have hgt : gf ≠ wr.heap.size := by omega
      obtain ⟨t8, ht8⟩ : ∃ b, wr.heap.size = b := ⟨_, rfl⟩
      rw [ht8] at hLb hvl hgt ⊢
      have q0 := hLb.cell 0
      have ql := hLb.lt
      have r0 := HFR.out.cell fn
      have rl := HFR.out.lt
      have hVat : ((List.range N).map V).toArray[fn]? = some (V fn) := by simp [hfN]
      rw [hVat] at r0
      simp at q0
      rw [HFE.out] at q0
      clear hW2 ht8 d0 d1 d2 d3 hb3 e0 e1 hbb
      refine ordV_start (ButOwn (V fn) W2) (fun _ => True) [12] [(0, some false), (1, some false), (2, some false), (3, some false), (4, some false), (5, some false), (6, some false), (7, some false), (8, some false), (9, some true), (10, some true), (11, some false), (12, some true)] (by kernel_rfl) (by kernel_rfl) (by kernel_rfl) (fun _ _ _ _ _ h => h) trivial ?_
      have HD : RowKit.Below W2.heap.size W2 W2.drew := (Below.refl _ _).drew
      obtain ⟨Wd, hWd⟩ : ∃ Wd, W2.drew = Wd := ⟨_, rfl⟩
      rw [hWd] at HD ⊢
      clear hWd
      have HS0 := ButOwn.of_below (v := V fn) HD
      iterate 9 (refine ordV_takeS (v := ?_) rfl rfl HS0 ?_ ?_; rotate_left 1; (focus (intro W hW; have hcW := hW.cell; (go_simp <;> (try with_reducible rfl)))); simp only [Act.put, List.setIfInBounds_toArray, List.set_cons_zero, List.set_cons_succ])
      refine ordV_call rfl rfl (fun K hK => ?_)
      go_simp
      have HD2 := HD.alloc HD.size (.cells #[.int .i64 (k : Int)] 3)
      have HS1 := ButOwn.of_below (v := V fn) HD2
      refine hK.out _ _ trivial (fun _ _ => HS1) ?_
      clear hK K
      try simp only [Act.put, List.setIfInBounds_toArray, List.set_cons_zero, List.set_cons_succ]
      refine ordV_call rfl rfl (fun K hK => ?_)
      refine wp_appS (enc := fun x => [Value.int .i64 x]) (R := RInt) _ _ 40 rfl (gf + 1) 3 i0 _ 1 8 Tryz.underlying40 hi hz0 hz1 hz2 rfl (by decide) (V fn) _ _ rfl ((own_below HOW.out HD).alloc _) (some ⟨Wd.heap.size, 0, none⟩) 1 [(k : Int)] rfl (slr_blk (enc := fun x => [Value.int .i64 x]) (Blk.new_ rfl) (fun _ => rfl) (fun _ => rfl)) (fun _ _ _ h => h) (fun _ => rfl) (fun u hu => by simp at hu; subst hu; rfl) (by simp; omega) (by decide) (by have := HD2.size; omega) ?_
      intro v4 w4 hown4 hb4 ha4
      have HS2 := HS1.apps hb4.size ha4
      refine hK.out _ _ trivial (fun _ _ => HS2) ?_
      clear hK K
      have hown5 : w4.ownsRow (gf + 1) 3 1 v4 ((lvTo g.ls (fn : Int) k).length + 1) ((lvTo g.ls (fn : Int) k ++ [(k : Int)]).map (Value.int .i64)) := by rw [List.map_append]; exact hown4
      obtain ⟨A9, c9, rfl, hc9, hcm9, _⟩ := own_ints hown5 (by simp)
      have hF4 := ((HFR.out.below HD HFR.out.lt).alloc (.cells #[.int .i64 (k : Int)] 3)).apps ha4 hvg
      have hL4 := ((hLb.below HD hLb.lt).alloc (.cells #[.int .i64 (k : Int)] 3)).apps ha4 hvl
      have sF := hF4.lt
      have cF := hF4.frozen fn
      have cF1 := hF4.cell fn
      have l4 := hL4.cell 0
      simp at l4
      rw [HFE.out] at l4
      rw [hVat] at cF1
      try simp only [Act.put, List.setIfInBounds_toArray, List.set_cons_zero, List.set_cons_succ]
      iterate 1 (refine ordV_takeS (v := ?_) rfl rfl HS2 ?_ ?_; rotate_left 1; (focus (intro W hW; have hcW := hW.cell; (go_simp <;> (try with_reducible rfl)))); simp only [Act.put, List.setIfInBounds_toArray, List.set_cons_zero, List.set_cons_succ])
      refine ordV_call rfl rfl (fun K hK => ?_)
      go_simp
      refine hK.out _ _ trivial (fun _ h => by cases h) ?_
      clear hK K
      refine ordV_nil ?_
      have hF5 := hF4.set_ fn (.slice A9 ((lvTo g.ls (fn : Int) k).length + 1) c9)
      rw [show (((List.range N).map V).toArray.setIfInBounds fn (.slice A9 ((lvTo g.ls (fn : Int) k).length + 1) c9)) = ((List.range N).map (updF V fn (.slice A9 ((lvTo g.ls (fn : Int) k).length + 1) c9))).toArray by rw [range_upd V hfN]; simp] at hF5
      have hOV5 := (((HOV.out.below HD).below (nw (.cells #[.int .i64 (k : Int)] 3) (Below.refl Wd.heap.size Wd))).step hfN ha4 (L' := fun v => lvTo g.ls (v : Int) (k + 1)) (by
        show w4.ownsRow _ _ _ _ (lvTo g.ls (fn : Int) (k + 1)).length ((lvTo g.ls (fn : Int) (k + 1)).map _)
        rw [HLS.out fn, if_pos HFE.out, List.length_append]; exact hown5) (fun v hv => by
        show lvTo g.ls (v : Int) (k + 1) = _
        rw [HLS.out v, if_neg (by rw [HFE.out]; omega)])).set_ (p := ⟨gf, fn, none⟩) (Nat.lt_succ_self gf) (.slice A9 ((lvTo g.ls (fn : Int) k).length + 1) c9)
      have hbE := (((HBR.out.trans (HD.mono (Nat.le_of_lt rl))).alloc (Nat.le_trans (Nat.le_of_lt rl) HD.size) (.cells #[.int .i64 (k : Int)] 3)).trans (hb4.mono (Nat.le_succ gf))).setCell (p := ⟨gf, fn, none⟩) (Nat.le_refl _) (.slice A9 ((lvTo g.ls (fn : Int) k).length + 1) c9)
      have HF5 := Lib.hid hF5
      have HOV5 := Lib.hid hOV5
      have HBE := Lib.hid hbE
      clear hF5 hOV5 hbE hF4 hL4 cF cF1 l4 sF hown5 hown4 hb4 ha4 HS0 HS1 HS2 HD HD2
      go_wp2_with fail
      go_roundw
      case rel => exact ⟨k + 1, _, by omega, by go_num, HF5, HOV5, HBE.out⟩
      case measure => simp [intOf]; omega
    · obtain rfl : k = g.ls.length := by omega
      have HBE := Lib.hid (hbw.trans (hbr.mono hwg))
      have HE : Hid (∀ W, NewEq w.heap.size wr W → SlR 1 RSl W (some ⟨gf, 0, none⟩) (leavL g N)) := fun W hW _ => by
        have hFW : Blk W gf 40 ((List.range N).map V).toArray := (hW.2 gf hwg hFl).trans HF.out
        refine ⟨gf, 0, rfl, hFW.lt, fun v x hv => ?_⟩
        have hvN : v < N := by have := (List.getElem?_eq_some_iff.1 hv).1; rw [leavL_len] at this; exact this
        rw [leavL_at g hvN] at hv
        obtain rfl := Option.some.inj hv
        obtain ⟨A', c', h1, h2, h3, h4⟩ := HO.out.slr (W := W) ⟨hW.1, fun b hb hl => hW.2 b (by omega) hl⟩ hvN
        refine ⟨[V v], ⟨A', c', by rw [h1]; rfl, h4, h2, h3⟩, rfl, fun j u hj => ?_⟩
        match j, hj with
        | 0, hj =>
          simp at hj
          subst hj
          rw [hFW.cell]
          simp [hvN]
      clear hbr
      go_wp2_with fail
      go_ret
      exact ⟨gf, rfl, hwg, hFl, HE, HBE.out⟩
end Go.Proofs.YtfjkmgjjifhdkaaGreat
