/-
  The walks of layer 15: the table of a graph.
-/
import Derived.Test.YtfjkmgjjifhdkaaGreatR13
namespace Go.Proofs.YtfjkmgjjifhdkaaGreat
open Go Go.RowKit

theorem wp_mk {P : Program} {w : World} {o : Oper} {a : Act} {K : Act → World → Prop} {Q : Exit → Act → World → Prop}
    (l c : Operand) (t : TypeId) (hop : o.op = Op.makeSlice t l c)
    (e : TypeId) (i : TypeInfo) (z u : Value) (h1 : P.underlying t = some (.slice e)) (h2 : P.info? e = some i) (h3 : i.zero = some z) (h4 : i.size = 1) (h5 : i.bytes ≤ 1000) (hz : z.cells = #[u])
    (n : Nat) (hl : a.eval l = .int .i64 (n : Int)) (hc : a.eval c = .int .i64 (n : Int)) (hn : n ≤ 1000000)
    (hK : K (a.put o.dst (.slice (some ⟨w.heap.size, 0, none⟩) n n)) (w.alloc (.cells (List.replicate n u).toArray e))) : o.wp P a w K Q := by
  have hb : (i.bytes : Int) * (n : Int) ≤ 281474976710656 := by
    have h : i.bytes * n ≤ 1000 * 1000000 := Nat.mul_le_mul h5 hn
    have : ((i.bytes * n : Nat) : Int) ≤ 281474976710656 := by omega
    rwa [Int.natCast_mul] at this
  have hr := run_make (P := P) w t e i z h1 h2 h3 .i64 .i64 (n : Int) (n : Int) (by omega) (Int.le_refl _) hb (by omega)
  rw [Int.toNat_natCast, h4, Nat.mul_one, hz, made_one] at hr
  unfold Oper.wp
  simp [execOp, hop, hl, hc, hr, Result.andThen]
  exact hK
theorem bh_bd {g : Gr} (hg : GrOK g) (v : Int) : -1 ≤ hAt g v ∧ hAt g v ≤ 2000000000 := by
  have hn := hg.n
  have h1 := getD_bd (potS_bd hg g.n.toNat) (by omega) v.toNat
  unfold hAt potL
  omega
theorem bh_row {g : Gr} (hg : GrOK g) {N m k tn : Nat} (a : Int) (hN : g.n = (N : Int)) (hm : N = m + 1 + k) (h1 : m < tn) (h2 : tn < N) : (potRow m a (potS g k))[tn]? = some (hAt g (tn : Int)) := by
  rw [potRow_tail h1 (by rw [potS_len]; omega), ← hAt_eq hg (k := k) (by omega) (v := (tn : Int)) (by omega) (by omega)]
  congr 2
  omega
theorem range_upd2 {α : Type} (f : Nat → α) {n i : Nat} (hi : i < n) (x y : α) : ((List.range n).map (updF f i x)).set i y = (List.range n).map (updF f i y) := by
  rw [range_upd f hi, range_upd f hi, List.set_set]
theorem bh_neg {g : Gr} (hg : GrOK g) {v : Int} (h0 : 0 ≤ v) (h1 : v < g.n - 1) (h : hAt g v < 0) : hAt g v = -1 := by
  have hst := hAt_step hg h0 h1
  rcases min_spec (viaOf g) (lvs g v) with ⟨h4, _⟩ | ⟨_, h4, _⟩ <;> omega
theorem bh_cons {g : Gr} (hg : GrOK g) {N m k : Nat} (hN : g.n = (N : Int)) (hk : 1 ≤ k) (hm : N = m + 1 + k) : potS g (k + 1) = hAt g (m : Int) :: potS g k := by
  have h := potS_succ g hk
  have h2 := hAt_eq hg (k := k + 1) (by omega) (v := (m : Int)) (by omega) (by omega)
  have e : ((m : Int) - (g.n - ((k + 1 : Nat) : Int))).toNat = 0 := by omega
  rw [e, h, List.getD_cons_zero] at h2
  rw [h, h2]
def onTo (g : Gr) (v : Int) (j : Nat) : List Int := ((lvs g v).take j).filter (fun i => decide (0 ≤ hAt g (lkAt g i).to))
theorem onTo_succ {g : Gr} {v : Int} {j : Nat} {i : Int} (h : (lvs g v)[j]? = some i) : onTo g v (j + 1) = if 0 ≤ hAt g (lkAt g i).to then onTo g v j ++ [i] else onTo g v j := by
  unfold onTo
  rw [take_succ_of h, List.filter_append, List.filter_cons]
  by_cases h1 : 0 ≤ hAt g (lkAt g i).to <;> simp [h1]
theorem onTo_all (g : Gr) (v : Int) : onTo g v (lvs g v).length = onL g v := by unfold onTo onL; rw [List.take_length]
theorem onTo_le (g : Gr) (v : Int) (j : Nat) : (onTo g v j).length ≤ (lvs g v).length := by
  unfold onTo
  exact Nat.le_trans (List.length_filter_le _ _) (List.length_take_le' _ _)
theorem lvs_len {g : Gr} (hg : GrOK g) (v : Int) : (lvs g v).length ≤ 20000 := by
  have h1 := lvTo_len g.ls v g.ls.length (Nat.le_refl _)
  have h2 := List.countP_le_length (p := fun l : Lk => decide (l.fr = v)) (l := g.ls.take g.ls.length)
  have := hg.len
  have h3 := List.length_take_le g.ls.length g.ls
  unfold lvs
  omega
theorem slr_heap {α : Type} {s : Nat} {R : World → α → List Value → Prop} {w W : World} {A : Option Addr} {xs : List α} (hR : ∀ w w' x vs, R w x vs → R w' x vs) (h : SlR s R w A xs) (h1 : w.heap.size ≤ W.heap.size) (h2 : ∀ b, b < w.heap.size → W.heap[b]? = w.heap[b]?) : SlR s R W A xs := fun hn => by
  obtain ⟨b, off, rfl, hlt, hc⟩ := h hn
  refine ⟨b, off, rfl, Nat.lt_of_lt_of_le hlt h1, fun k x hx => ?_⟩
  obtain ⟨vs, hr, hl, hv⟩ := hc k x hx
  exact ⟨vs, hR _ _ _ _ hr, hl, fun j v hj => (World.cell?_of_block (h2 b hlt)).trans (hv j v hj)⟩
/-- A list of numbers in one block that stays. -/
theorem slr_one {w W : World} {b o : Nat} {xs : List Int} (h : SlR 1 RInt w (some ⟨b, o, none⟩) xs) (h1 : w.heap.size ≤ W.heap.size) (h2 : W.heap[b]? = w.heap[b]?) : SlR 1 RInt W (some ⟨b, o, none⟩) xs := fun hn => by
  obtain ⟨b', off, he, hlt, hc⟩ := h hn
  obtain ⟨rfl, rfl⟩ : b = b' ∧ o = off := by injection he with he; injection he with h3 h4; exact ⟨h3, h4⟩
  refine ⟨b, o, rfl, Nat.lt_of_lt_of_le hlt h1, fun k x hx => ?_⟩
  obtain ⟨vs, hr, hl, hv⟩ := hc k x hx
  exact ⟨vs, hr, hl, fun j v hj => (World.cell?_of_block h2).trans (hv j v hj)⟩
/-- All old blocks but two are as they were. -/
structure But2 (p q : Nat) (w w' : World) : Prop where
  size : w.heap.size ≤ w'.heap.size
  block : ∀ b, b < w.heap.size → b ≠ p → b ≠ q → w'.heap[b]? = w.heap[b]?
section
variable {p q : Nat} {w w' w2 : World}
theorem But2.refl (p q : Nat) (w : World) : But2 p q w w := ⟨Nat.le_refl _, fun _ _ _ _ => rfl⟩
theorem But2.trans (h : But2 p q w w') (h2 : But2 p q w' w2) : But2 p q w w2 := ⟨Nat.le_trans h.size h2.size, fun b hb h3 h4 => (h2.block b (Nat.lt_of_lt_of_le hb h.size) h3 h4).trans (h.block b hb h3 h4)⟩
theorem But2.of_below (h : Below w.heap.size w w') : But2 p q w w' := ⟨h.size, fun b hb _ _ => h.block b hb⟩
theorem But2.of_but (h : ButB q w w') : But2 p q w w' := ⟨h.size, fun b hb _ h4 => h.block b hb h4⟩
theorem ButB.low {g : Nat} (h : ButB g w w') (hb : Below w.heap.size w' w2) : ButB g w w2 := ⟨Nat.le_trans h.size hb.size, fun b h1 h2 => (hb.block b h1).trans (h.block b h1 h2)⟩
theorem But2.set1 (h : But2 p q w w') (o : Nat) (v : Value) : But2 p q w (w'.setCell ⟨p, o, none⟩ v) := ⟨by simpa using h.size, fun b hb h3 h4 => (Below.heap_setCell w' ⟨p, o, none⟩ v b h3).trans (h.block b hb h3 h4)⟩
theorem But2.blk {b : Nat} {t : TypeId} {cs : Array Value} (h : But2 p q w w') (hb : Blk w b t cs) (h3 : b ≠ p) (h4 : b ≠ q) : Blk w' b t cs := (h.block b hb.lt h3 h4).trans hb
theorem But2.new {B : Nat} (h : But2 p q w w') (hp : p < B) (hq : q < B) : NewEq B w w' := ⟨h.size, fun b h1 h2 => h.block b h2 (by omega) (by omega)⟩
end
theorem tabBy {g : Gr} (hg : GrOK g) {N c : Nat} {A : Option Addr} {vf : Value} {bt gl : Nat} {hs : List Int} (hN : g.n = (N : Int)) {W : World} (hT : Blk W bt 93 #[.int .i64 (N : Int), .slice A g.ls.length c, .slice (some ⟨gl, 0, none⟩) N N, vf])
    (hls : SlR 4 RLk W A g.ls) (hR : Row W gl hs) {x : Int} (hx : 0 ≤ x ∧ x < g.ls.length) (h0 : 0 ≤ hAt g (lkAt g x).to) (hh : hs[(lkAt g x).to.toNat]? = some (hAt g (lkAt g x).to)) :
    Calls Tryz.prog 72 #[.pointer (some ⟨bt, 0, none⟩), .int .i64 x] W fun e w' => e = .returned (.int .i64 (viaOf g x)) ∧ ∃ q, w' = W.drewN q := by
  have hm := lkAt_mem hx
  have hok := lkAt_ok hg hx
  have h1 := hok.fr
  have h2 := hok.lt
  have h3 := hok.to
  obtain ⟨xn, rfl⟩ : ∃ xn : Nat, x = (xn : Int) := ⟨x.toNat, by omega⟩
  rw [Int.toNat_natCast] at hm
  have := by_any A c N (lkAt g (xn : Int)).to.toNat (N : Int) vf bt gl g.ls hs xn (lkAt g (xn : Int)) (hAt g (lkAt g (xn : Int)).to) W hT hls hm (by omega) hR hh (by omega) hok.cost (bh_bd hg _)
  rw [show viaOf g (xn : Int) = (lkAt g (xn : Int)).cost + hAt g (lkAt g (xn : Int)).to from if_pos h0]
  exact this
/-- What from holds for a node that is done. -/
def FrOK (gl gf : Nat) (w : World) (v : Value) (xs : List Int) : Prop := ∃ A c, v = .slice A xs.length c ∧ xs.length ≤ c ∧ c ≤ maxLen ∧ ∀ W, But2 gl gf w W → SlR 1 RInt W A xs
theorem FrOK.mono {gl gf : Nat} {w w' : World} {v : Value} {xs : List Int} (h : FrOK gl gf w v xs) (hb : But2 gl gf w w') : FrOK gl gf w' v xs := by
  obtain ⟨A, c, h1, h2, h3, h4⟩ := h
  exact ⟨A, c, h1, h2, h3, fun W hW => h4 W (hb.trans hW)⟩
def frAll (g : Gr) (N : Nat) : List (List Int) := (List.range N).map (fun v : Nat => frL g (v : Int))
theorem frAll_len (g : Gr) (N : Nat) : (frAll g N).length = N := by unfold frAll; simp
theorem frAll_at (g : Gr) {N v : Nat} (h : v < N) : (frAll g N)[v]? = some (frL g (v : Int)) := by unfold frAll; simp [h]
/-- A table. -/
def IsTab (g : Gr) (N : Nat) (A : Option Addr) (c : Nat) (w : World) (e : Ending) (W : World) : Prop := ∃ bt gl gf, e = .returned (.pointer (some ⟨bt, 0, none⟩)) ∧
  Blk W bt 93 #[.int .i64 (N : Int), .slice A g.ls.length c, .slice (some ⟨gl, 0, none⟩) N N, .slice (some ⟨gf, 0, none⟩) N N] ∧ Row W gl (potL g) ∧ SlR 1 RSl W (some ⟨gf, 0, none⟩) (frAll g N) ∧ Below w.heap.size w W
/-- The table as it is made first. -/
def IsT0 (N : Nat) (A : Option Addr) (n c : Nat) (w : World) (v : Value) (W : World) : Prop := ∃ bv bt gl gf, v = .pointer (some ⟨bv, 0, none⟩) ∧ Blk W bv 89 #[.pointer (some ⟨bt, 0, none⟩)] ∧
  Blk W bt 93 #[.int .i64 (N : Int), .slice A n c, .slice (some ⟨gl, 0, none⟩) N N, .slice (some ⟨gf, 0, none⟩) N N] ∧ Row W gl (List.replicate N 0) ∧ Blk W gf 40 (List.replicate N (Value.slice none 0 0)).toArray ∧
  w.heap.size ≤ bv ∧ w.heap.size ≤ bt ∧ w.heap.size ≤ gl ∧ w.heap.size ≤ gf ∧ Below w.heap.size w W
set_option maxRecDepth 100000 in
set_option maxHeartbeats 16000000 in
theorem newTable_any (A : Option Addr) (c : Nat) (g : Gr) (N : Nat) (w : World) (hx : SlR 4 RLk w A g.ls) (hl : g.ls.length ≤ maxLen) (hg : GrOK g) (hN : g.n = (N : Int)) :
    Calls Tryz.prog 34 #[.agg #[.int .i64 (N : Int), .slice A g.ls.length c]] w (IsTab g N A c w) := by
  have hl0 := hl
  unfold maxLen at hl
  obtain ⟨i0, hi, hz0, hz1, hz2⟩ := info_parts bint_inf
  obtain ⟨i1, hi1, hy0, hy1, hy2⟩ := info_parts bints_inf
  have hn := hg.n
  rw [hN] at hn
  obtain ⟨w1, hw1⟩ : ∃ w1, w.alloc (.cells #[.int .i64 (N : Int), .slice A g.ls.length c] 38) = w1 := ⟨_, rfl⟩
  have hb1 : Below w.heap.size w w1 := by rw [← hw1]; exact nw _ (Below.refl _ _)
  have hB1 : Blk w1 w.heap.size 38 #[.int .i64 (N : Int), .slice A g.ls.length c] := by rw [← hw1]; exact Blk.new _ _ _
  have HW1 := Lib.hid hw1
  have k0 := hB1.cell 0
  have k1 := hB1.cell 1
  have kl := hB1.lt
  simp at k0 k1
  have HG := Lib.hid hg
  have HN := Lib.hid hN
  clear hw1 hg hN
  go_enter Tryz.func34, Tryz.ntmps34
  go_upto_region 1 with fail
  rw [HW1.out]
  go_cut [3] (fun s3 W' => IsT0 N A g.ls.length c w1 s3 W')
  case first =>
    refine ordB_below (.quiet 0 (.quiet 1 (.quiet 2 (.quiet 4 (.quiet 5 (.fork3 3 6 9 (.fork 6 9 (.quiet 7 (.fork 8 9 (.only 9 (.only 10 .done)) (.only 8 (.only 10 .done)))) (.only 6 (.quiet 7 (.only 8 (.only 10 .done))))) (.fork 3 9 (.quiet 7 (.fork 8 9 (.only 9 (.only 10 .done)) (.only 8 (.only 10 .done)))) (.only 3 (.quiet 7 (.only 8 (.only 10 .done))))) (.fork 3 6 (.only 6 (.quiet 7 (.only 8 (.only 10 .done)))) (.only 3 (.quiet 7 (.only 8 (.only 10 .done))))))))))) (by kernel_rfl) (by kernel_rfl) (by kernel_rfl) (fun _ _ _ _ _ h => h) ?_
    intro V0 hV0
    iterate 5 (first
      | (refine ordB_skip rfl rfl ?_; simp only [Act.put, List.setIfInBounds_toArray, List.set_cons_zero, List.set_cons_succ])
      | (refine ordB_take (v := ?_) rfl rfl ?_ ?_
         rotate_left 1
         focus (intro W hW; obtain ⟨hcW, hfW⟩ := bcell hW; (go_simp <;> with_reducible rfl))
         simp only [Act.put, List.setIfInBounds_toArray, List.set_cons_zero, List.set_cons_succ]))
    refine ordB_fork3 (opB_call rfl rfl (fun K hK => ?_)) (opB_call rfl rfl (fun K hK => ?_)) (opB_call rfl rfl (fun K hK => ?_))
    · refine wp_mk _ _ 40 rfl 3 i0 (Value.int .i64 0) (Value.int .i64 0) Tryz.underlying40 hi hz0 hz1 (by omega) rfl N rfl rfl (by omega) ?_
      refine hK.out _ _ (hV0.alloc hV0.size _) (fun hV0_1 => ?_)
      have bl := Blk.new V0 3 (List.replicate N (Value.int .i64 0)).toArray
      have blb := nw (.cells (List.replicate N (Value.int .i64 0)).toArray 3) (Below.refl V0.heap.size V0)
      have blg := hV0.size
      obtain ⟨V0_1, qqV0_1⟩ : ∃ W', V0.alloc (.cells (List.replicate N (Value.int .i64 0)).toArray 3) = W' := ⟨_, rfl⟩
      rw [qqV0_1] at hV0_1 bl blb ⊢
      have bllt := bl.lt
      clear qqV0_1
      refine ordB_fork (opB_call rfl rfl (fun K hK => ?_)) (opB_call rfl rfl (fun K hK => ?_))
      · have bl_bf := Nat.ne_of_lt bl.lt
        refine wp_mk _ _ 91 rfl 40 i1 (Value.slice none 0 0) (Value.slice none 0 0) Tryz.underlying91 hi1 hy0 hy1 (by omega) rfl N rfl rfl (by omega) ?_
        refine hK.out _ _ (hV0_1.alloc hV0_1.size _) (fun hV0_1_2 => ?_)
        have bf := Blk.new V0_1 40 (List.replicate N (Value.slice none 0 0)).toArray
        have bfb := nw (.cells (List.replicate N (Value.slice none 0 0)).toArray 40) (Below.refl V0_1.heap.size V0_1)
        have bfg := hV0_1.size
        obtain ⟨V0_1_2, qqV0_1_2⟩ : ∃ W', V0_1.alloc (.cells (List.replicate N (Value.slice none 0 0)).toArray 40) = W' := ⟨_, rfl⟩
        rw [qqV0_1_2] at hV0_1_2 bf bfb ⊢
        have bl := bl.below bfb bl.lt
        have bflt := bf.lt
        clear qqV0_1_2
        iterate 1 (first
          | (refine ordB_skip rfl rfl ?_; simp only [Act.put, List.setIfInBounds_toArray, List.set_cons_zero, List.set_cons_succ])
          | (refine ordB_take (v := ?_) rfl rfl ?_ ?_
             rotate_left 1
             focus (intro W hW; obtain ⟨hcW, hfW⟩ := bcell hW; (go_simp <;> with_reducible rfl))
             simp only [Act.put, List.setIfInBounds_toArray, List.set_cons_zero, List.set_cons_succ]))
        refine ordB_fork (opB_call rfl rfl (fun K hK => ?_)) (opB_call rfl rfl (fun K hK => ?_))
        · have bl_bt := Nat.ne_of_lt bl.lt
          have bf_bt := Nat.ne_of_lt bf.lt
          go_simp
          refine hK.out _ _ (hV0_1_2.alloc hV0_1_2.size _) (fun hV0_1_2_3 => ?_)
          have bt := Blk.new V0_1_2 93 #[(.int .i64 (N : Int)), (.slice A g.ls.length c), (.slice (some ⟨V0.heap.size, 0, none⟩) N N), (.slice (some ⟨V0_1.heap.size, 0, none⟩) N N)]
          have btb := nw (.cells #[(.int .i64 (N : Int)), (.slice A g.ls.length c), (.slice (some ⟨V0.heap.size, 0, none⟩) N N), (.slice (some ⟨V0_1.heap.size, 0, none⟩) N N)] 93) (Below.refl V0_1_2.heap.size V0_1_2)
          have btg := hV0_1_2.size
          obtain ⟨V0_1_2_3, qqV0_1_2_3⟩ : ∃ W', V0_1_2.alloc (.cells #[(.int .i64 (N : Int)), (.slice A g.ls.length c), (.slice (some ⟨V0.heap.size, 0, none⟩) N N), (.slice (some ⟨V0_1.heap.size, 0, none⟩) N N)] 93) = W' := ⟨_, rfl⟩
          rw [qqV0_1_2_3] at hV0_1_2_3 bt btb ⊢
          have bl := bl.below btb bl.lt
          have bf := bf.below btb bf.lt
          have btlt := bt.lt
          clear qqV0_1_2_3
          refine ordB_only (opB_call rfl rfl (fun K hK => ?_))
          have bl_bv := Nat.ne_of_lt bl.lt
          have bf_bv := Nat.ne_of_lt bf.lt
          have bt_bv := Nat.ne_of_lt bt.lt
          go_simp
          refine hK.out _ _ (hV0_1_2_3.alloc hV0_1_2_3.size _) (fun hV0_1_2_3_4 => ?_)
          have bv := Blk.new V0_1_2_3 89 #[(.pointer none)]
          have bvb := nw (.cells #[(.pointer none)] 89) (Below.refl V0_1_2_3.heap.size V0_1_2_3)
          have bvg := hV0_1_2_3.size
          obtain ⟨V0_1_2_3_4, qqV0_1_2_3_4⟩ : ∃ W', V0_1_2_3.alloc (.cells #[(.pointer none)] 89) = W' := ⟨_, rfl⟩
          rw [qqV0_1_2_3_4] at hV0_1_2_3_4 bv bvb ⊢
          have bl := bl.below bvb bl.lt
          have bf := bf.below bvb bf.lt
          have bt := bt.below bvb bt.lt
          have bvlt := bv.lt
          clear qqV0_1_2_3_4
          refine ordB_only (opB_call rfl rfl (fun K hK => ?_))
          have bvc0 := bv.cell 0
          have bvf0 := bv.frozen 0
          simp at bvc0
          go_simp
          refine hK.out _ _ (hV0_1_2_3_4.setCell (p := ⟨V0_1_2_3.heap.size, 0, none⟩) bvg _) (fun hV0_1_2_3_4_5 => ?_)
          have bv := (bv.set_ 0 ((.pointer (some ⟨V0_1_2.heap.size, 0, none⟩))))
          have blne : V0.heap.size ≠ V0_1_2_3.heap.size := by first | exact bl_bv | exact bv_bl.symm
          have bl := (bl.far (p := ⟨V0_1_2_3.heap.size, 0, none⟩) blne ((.pointer (some ⟨V0_1_2.heap.size, 0, none⟩))))
          have bfne : V0_1.heap.size ≠ V0_1_2_3.heap.size := by first | exact bf_bv | exact bv_bf.symm
          have bf := (bf.far (p := ⟨V0_1_2_3.heap.size, 0, none⟩) bfne ((.pointer (some ⟨V0_1_2.heap.size, 0, none⟩))))
          have btne : V0_1_2.heap.size ≠ V0_1_2_3.heap.size := by first | exact bt_bv | exact bv_bt.symm
          have bt := (bt.far (p := ⟨V0_1_2_3.heap.size, 0, none⟩) btne ((.pointer (some ⟨V0_1_2.heap.size, 0, none⟩))))
          obtain ⟨V0_1_2_3_4_5, qqV0_1_2_3_4_5⟩ : ∃ W', (V0_1_2_3_4.setCell ⟨V0_1_2_3.heap.size, 0, none⟩ ((.pointer (some ⟨V0_1_2.heap.size, 0, none⟩)))) = W' := ⟨_, rfl⟩
          rw [qqV0_1_2_3_4_5] at hV0_1_2_3_4_5 bv bl bf bt ⊢
          clear qqV0_1_2_3_4_5 bvc0 bvf0
          refine ordB_nil ?_
          go_wp2_with fail
          go_meet
          exact ⟨_, _, _, _, rfl, bv, bt, (by unfold Row; rw [List.map_replicate]; exact bl), bf, bvg, btg, blg, bfg, hV0_1_2_3_4_5⟩
        · have bl_bv := Nat.ne_of_lt bl.lt
          have bf_bv := Nat.ne_of_lt bf.lt
          go_simp
          refine hK.out _ _ (hV0_1_2.alloc hV0_1_2.size _) (fun hV0_1_2_3 => ?_)
          have bv := Blk.new V0_1_2 89 #[(.pointer none)]
          have bvb := nw (.cells #[(.pointer none)] 89) (Below.refl V0_1_2.heap.size V0_1_2)
          have bvg := hV0_1_2.size
          obtain ⟨V0_1_2_3, qqV0_1_2_3⟩ : ∃ W', V0_1_2.alloc (.cells #[(.pointer none)] 89) = W' := ⟨_, rfl⟩
          rw [qqV0_1_2_3] at hV0_1_2_3 bv bvb ⊢
          have bl := bl.below bvb bl.lt
          have bf := bf.below bvb bf.lt
          have bvlt := bv.lt
          clear qqV0_1_2_3
          refine ordB_only (opB_call rfl rfl (fun K hK => ?_))
          have bl_bt := Nat.ne_of_lt bl.lt
          have bf_bt := Nat.ne_of_lt bf.lt
          have bv_bt := Nat.ne_of_lt bv.lt
          go_simp
          refine hK.out _ _ (hV0_1_2_3.alloc hV0_1_2_3.size _) (fun hV0_1_2_3_4 => ?_)
          have bt := Blk.new V0_1_2_3 93 #[(.int .i64 (N : Int)), (.slice A g.ls.length c), (.slice (some ⟨V0.heap.size, 0, none⟩) N N), (.slice (some ⟨V0_1.heap.size, 0, none⟩) N N)]
          have btb := nw (.cells #[(.int .i64 (N : Int)), (.slice A g.ls.length c), (.slice (some ⟨V0.heap.size, 0, none⟩) N N), (.slice (some ⟨V0_1.heap.size, 0, none⟩) N N)] 93) (Below.refl V0_1_2_3.heap.size V0_1_2_3)
          have btg := hV0_1_2_3.size
          obtain ⟨V0_1_2_3_4, qqV0_1_2_3_4⟩ : ∃ W', V0_1_2_3.alloc (.cells #[(.int .i64 (N : Int)), (.slice A g.ls.length c), (.slice (some ⟨V0.heap.size, 0, none⟩) N N), (.slice (some ⟨V0_1.heap.size, 0, none⟩) N N)] 93) = W' := ⟨_, rfl⟩
          rw [qqV0_1_2_3_4] at hV0_1_2_3_4 bt btb ⊢
          have bl := bl.below btb bl.lt
          have bf := bf.below btb bf.lt
          have bv := bv.below btb bv.lt
          have btlt := bt.lt
          clear qqV0_1_2_3_4
          refine ordB_only (opB_call rfl rfl (fun K hK => ?_))
          have bvc0 := bv.cell 0
          have bvf0 := bv.frozen 0
          simp at bvc0
          go_simp
          refine hK.out _ _ (hV0_1_2_3_4.setCell (p := ⟨V0_1_2.heap.size, 0, none⟩) bvg _) (fun hV0_1_2_3_4_5 => ?_)
          have bv := (bv.set_ 0 ((.pointer (some ⟨V0_1_2_3.heap.size, 0, none⟩))))
          have blne : V0.heap.size ≠ V0_1_2.heap.size := by first | exact bl_bv | exact bv_bl.symm
          have bl := (bl.far (p := ⟨V0_1_2.heap.size, 0, none⟩) blne ((.pointer (some ⟨V0_1_2_3.heap.size, 0, none⟩))))
          have bfne : V0_1.heap.size ≠ V0_1_2.heap.size := by first | exact bf_bv | exact bv_bf.symm
          have bf := (bf.far (p := ⟨V0_1_2.heap.size, 0, none⟩) bfne ((.pointer (some ⟨V0_1_2_3.heap.size, 0, none⟩))))
          have btne : V0_1_2_3.heap.size ≠ V0_1_2.heap.size := by first | exact bt_bv | exact bv_bt.symm
          have bt := (bt.far (p := ⟨V0_1_2.heap.size, 0, none⟩) btne ((.pointer (some ⟨V0_1_2_3.heap.size, 0, none⟩))))
          obtain ⟨V0_1_2_3_4_5, qqV0_1_2_3_4_5⟩ : ∃ W', (V0_1_2_3_4.setCell ⟨V0_1_2.heap.size, 0, none⟩ ((.pointer (some ⟨V0_1_2_3.heap.size, 0, none⟩)))) = W' := ⟨_, rfl⟩
          rw [qqV0_1_2_3_4_5] at hV0_1_2_3_4_5 bv bl bf bt ⊢
          clear qqV0_1_2_3_4_5 bvc0 bvf0
          refine ordB_nil ?_
          go_wp2_with fail
          go_meet
          exact ⟨_, _, _, _, rfl, bv, bt, (by unfold Row; rw [List.map_replicate]; exact bl), bf, bvg, btg, blg, bfg, hV0_1_2_3_4_5⟩
      · have bl_bv := Nat.ne_of_lt bl.lt
        go_simp
        refine hK.out _ _ (hV0_1.alloc hV0_1.size _) (fun hV0_1_2 => ?_)
        have bv := Blk.new V0_1 89 #[(.pointer none)]
        have bvb := nw (.cells #[(.pointer none)] 89) (Below.refl V0_1.heap.size V0_1)
        have bvg := hV0_1.size
        obtain ⟨V0_1_2, qqV0_1_2⟩ : ∃ W', V0_1.alloc (.cells #[(.pointer none)] 89) = W' := ⟨_, rfl⟩
        rw [qqV0_1_2] at hV0_1_2 bv bvb ⊢
        have bl := bl.below bvb bl.lt
        have bvlt := bv.lt
        clear qqV0_1_2
        refine ordB_only (opB_call rfl rfl (fun K hK => ?_))
        have bl_bf := Nat.ne_of_lt bl.lt
        have bv_bf := Nat.ne_of_lt bv.lt
        refine wp_mk _ _ 91 rfl 40 i1 (Value.slice none 0 0) (Value.slice none 0 0) Tryz.underlying91 hi1 hy0 hy1 (by omega) rfl N rfl rfl (by omega) ?_
        refine hK.out _ _ (hV0_1_2.alloc hV0_1_2.size _) (fun hV0_1_2_3 => ?_)
        have bf := Blk.new V0_1_2 40 (List.replicate N (Value.slice none 0 0)).toArray
        have bfb := nw (.cells (List.replicate N (Value.slice none 0 0)).toArray 40) (Below.refl V0_1_2.heap.size V0_1_2)
        have bfg := hV0_1_2.size
        obtain ⟨V0_1_2_3, qqV0_1_2_3⟩ : ∃ W', V0_1_2.alloc (.cells (List.replicate N (Value.slice none 0 0)).toArray 40) = W' := ⟨_, rfl⟩
        rw [qqV0_1_2_3] at hV0_1_2_3 bf bfb ⊢
        have bl := bl.below bfb bl.lt
        have bv := bv.below bfb bv.lt
        have bflt := bf.lt
        clear qqV0_1_2_3
        iterate 1 (first
          | (refine ordB_skip rfl rfl ?_; simp only [Act.put, List.setIfInBounds_toArray, List.set_cons_zero, List.set_cons_succ])
          | (refine ordB_take (v := ?_) rfl rfl ?_ ?_
             rotate_left 1
             focus (intro W hW; obtain ⟨hcW, hfW⟩ := bcell hW; (go_simp <;> with_reducible rfl))
             simp only [Act.put, List.setIfInBounds_toArray, List.set_cons_zero, List.set_cons_succ]))
        refine ordB_only (opB_call rfl rfl (fun K hK => ?_))
        have bl_bt := Nat.ne_of_lt bl.lt
        have bv_bt := Nat.ne_of_lt bv.lt
        have bf_bt := Nat.ne_of_lt bf.lt
        go_simp
        refine hK.out _ _ (hV0_1_2_3.alloc hV0_1_2_3.size _) (fun hV0_1_2_3_4 => ?_)
        have bt := Blk.new V0_1_2_3 93 #[(.int .i64 (N : Int)), (.slice A g.ls.length c), (.slice (some ⟨V0.heap.size, 0, none⟩) N N), (.slice (some ⟨V0_1_2.heap.size, 0, none⟩) N N)]
        have btb := nw (.cells #[(.int .i64 (N : Int)), (.slice A g.ls.length c), (.slice (some ⟨V0.heap.size, 0, none⟩) N N), (.slice (some ⟨V0_1_2.heap.size, 0, none⟩) N N)] 93) (Below.refl V0_1_2_3.heap.size V0_1_2_3)
        have btg := hV0_1_2_3.size
        obtain ⟨V0_1_2_3_4, qqV0_1_2_3_4⟩ : ∃ W', V0_1_2_3.alloc (.cells #[(.int .i64 (N : Int)), (.slice A g.ls.length c), (.slice (some ⟨V0.heap.size, 0, none⟩) N N), (.slice (some ⟨V0_1_2.heap.size, 0, none⟩) N N)] 93) = W' := ⟨_, rfl⟩
        rw [qqV0_1_2_3_4] at hV0_1_2_3_4 bt btb ⊢
        have bl := bl.below btb bl.lt
        have bv := bv.below btb bv.lt
        have bf := bf.below btb bf.lt
        have btlt := bt.lt
        clear qqV0_1_2_3_4
        refine ordB_only (opB_call rfl rfl (fun K hK => ?_))
        have bvc0 := bv.cell 0
        have bvf0 := bv.frozen 0
        simp at bvc0
        go_simp
        refine hK.out _ _ (hV0_1_2_3_4.setCell (p := ⟨V0_1.heap.size, 0, none⟩) bvg _) (fun hV0_1_2_3_4_5 => ?_)
        have bv := (bv.set_ 0 ((.pointer (some ⟨V0_1_2_3.heap.size, 0, none⟩))))
        have blne : V0.heap.size ≠ V0_1.heap.size := by first | exact bl_bv | exact bv_bl.symm
        have bl := (bl.far (p := ⟨V0_1.heap.size, 0, none⟩) blne ((.pointer (some ⟨V0_1_2_3.heap.size, 0, none⟩))))
        have bfne : V0_1_2.heap.size ≠ V0_1.heap.size := by first | exact bf_bv | exact bv_bf.symm
        have bf := (bf.far (p := ⟨V0_1.heap.size, 0, none⟩) bfne ((.pointer (some ⟨V0_1_2_3.heap.size, 0, none⟩))))
        have btne : V0_1_2_3.heap.size ≠ V0_1.heap.size := by first | exact bt_bv | exact bv_bt.symm
        have bt := (bt.far (p := ⟨V0_1.heap.size, 0, none⟩) btne ((.pointer (some ⟨V0_1_2_3.heap.size, 0, none⟩))))
        obtain ⟨V0_1_2_3_4_5, qqV0_1_2_3_4_5⟩ : ∃ W', (V0_1_2_3_4.setCell ⟨V0_1.heap.size, 0, none⟩ ((.pointer (some ⟨V0_1_2_3.heap.size, 0, none⟩)))) = W' := ⟨_, rfl⟩
        rw [qqV0_1_2_3_4_5] at hV0_1_2_3_4_5 bv bl bf bt ⊢
        clear qqV0_1_2_3_4_5 bvc0 bvf0
        refine ordB_nil ?_
        go_wp2_with fail
        go_meet
        exact ⟨_, _, _, _, rfl, bv, bt, (by unfold Row; rw [List.map_replicate]; exact bl), bf, bvg, btg, blg, bfg, hV0_1_2_3_4_5⟩
    · refine wp_mk _ _ 91 rfl 40 i1 (Value.slice none 0 0) (Value.slice none 0 0) Tryz.underlying91 hi1 hy0 hy1 (by omega) rfl N rfl rfl (by omega) ?_
      refine hK.out _ _ (hV0.alloc hV0.size _) (fun hV0_1 => ?_)
      have bf := Blk.new V0 40 (List.replicate N (Value.slice none 0 0)).toArray
      have bfb := nw (.cells (List.replicate N (Value.slice none 0 0)).toArray 40) (Below.refl V0.heap.size V0)
      have bfg := hV0.size
      obtain ⟨V0_1, qqV0_1⟩ : ∃ W', V0.alloc (.cells (List.replicate N (Value.slice none 0 0)).toArray 40) = W' := ⟨_, rfl⟩
      rw [qqV0_1] at hV0_1 bf bfb ⊢
      have bflt := bf.lt
      clear qqV0_1
      refine ordB_fork (opB_call rfl rfl (fun K hK => ?_)) (opB_call rfl rfl (fun K hK => ?_))
      · have bf_bl := Nat.ne_of_lt bf.lt
        refine wp_mk _ _ 40 rfl 3 i0 (Value.int .i64 0) (Value.int .i64 0) Tryz.underlying40 hi hz0 hz1 (by omega) rfl N rfl rfl (by omega) ?_
        refine hK.out _ _ (hV0_1.alloc hV0_1.size _) (fun hV0_1_2 => ?_)
        have bl := Blk.new V0_1 3 (List.replicate N (Value.int .i64 0)).toArray
        have blb := nw (.cells (List.replicate N (Value.int .i64 0)).toArray 3) (Below.refl V0_1.heap.size V0_1)
        have blg := hV0_1.size
        obtain ⟨V0_1_2, qqV0_1_2⟩ : ∃ W', V0_1.alloc (.cells (List.replicate N (Value.int .i64 0)).toArray 3) = W' := ⟨_, rfl⟩
        rw [qqV0_1_2] at hV0_1_2 bl blb ⊢
        have bf := bf.below blb bf.lt
        have bllt := bl.lt
        clear qqV0_1_2
        iterate 1 (first
          | (refine ordB_skip rfl rfl ?_; simp only [Act.put, List.setIfInBounds_toArray, List.set_cons_zero, List.set_cons_succ])
          | (refine ordB_take (v := ?_) rfl rfl ?_ ?_
             rotate_left 1
             focus (intro W hW; obtain ⟨hcW, hfW⟩ := bcell hW; (go_simp <;> with_reducible rfl))
             simp only [Act.put, List.setIfInBounds_toArray, List.set_cons_zero, List.set_cons_succ]))
        refine ordB_fork (opB_call rfl rfl (fun K hK => ?_)) (opB_call rfl rfl (fun K hK => ?_))
        · have bf_bt := Nat.ne_of_lt bf.lt
          have bl_bt := Nat.ne_of_lt bl.lt
          go_simp
          refine hK.out _ _ (hV0_1_2.alloc hV0_1_2.size _) (fun hV0_1_2_3 => ?_)
          have bt := Blk.new V0_1_2 93 #[(.int .i64 (N : Int)), (.slice A g.ls.length c), (.slice (some ⟨V0_1.heap.size, 0, none⟩) N N), (.slice (some ⟨V0.heap.size, 0, none⟩) N N)]
          have btb := nw (.cells #[(.int .i64 (N : Int)), (.slice A g.ls.length c), (.slice (some ⟨V0_1.heap.size, 0, none⟩) N N), (.slice (some ⟨V0.heap.size, 0, none⟩) N N)] 93) (Below.refl V0_1_2.heap.size V0_1_2)
          have btg := hV0_1_2.size
          obtain ⟨V0_1_2_3, qqV0_1_2_3⟩ : ∃ W', V0_1_2.alloc (.cells #[(.int .i64 (N : Int)), (.slice A g.ls.length c), (.slice (some ⟨V0_1.heap.size, 0, none⟩) N N), (.slice (some ⟨V0.heap.size, 0, none⟩) N N)] 93) = W' := ⟨_, rfl⟩
          rw [qqV0_1_2_3] at hV0_1_2_3 bt btb ⊢
          have bf := bf.below btb bf.lt
          have bl := bl.below btb bl.lt
          have btlt := bt.lt
          clear qqV0_1_2_3
          refine ordB_only (opB_call rfl rfl (fun K hK => ?_))
          have bf_bv := Nat.ne_of_lt bf.lt
          have bl_bv := Nat.ne_of_lt bl.lt
          have bt_bv := Nat.ne_of_lt bt.lt
          go_simp
          refine hK.out _ _ (hV0_1_2_3.alloc hV0_1_2_3.size _) (fun hV0_1_2_3_4 => ?_)
          have bv := Blk.new V0_1_2_3 89 #[(.pointer none)]
          have bvb := nw (.cells #[(.pointer none)] 89) (Below.refl V0_1_2_3.heap.size V0_1_2_3)
          have bvg := hV0_1_2_3.size
          obtain ⟨V0_1_2_3_4, qqV0_1_2_3_4⟩ : ∃ W', V0_1_2_3.alloc (.cells #[(.pointer none)] 89) = W' := ⟨_, rfl⟩
          rw [qqV0_1_2_3_4] at hV0_1_2_3_4 bv bvb ⊢
          have bf := bf.below bvb bf.lt
          have bl := bl.below bvb bl.lt
          have bt := bt.below bvb bt.lt
          have bvlt := bv.lt
          clear qqV0_1_2_3_4
          refine ordB_only (opB_call rfl rfl (fun K hK => ?_))
          have bvc0 := bv.cell 0
          have bvf0 := bv.frozen 0
          simp at bvc0
          go_simp
          refine hK.out _ _ (hV0_1_2_3_4.setCell (p := ⟨V0_1_2_3.heap.size, 0, none⟩) bvg _) (fun hV0_1_2_3_4_5 => ?_)
          have bv := (bv.set_ 0 ((.pointer (some ⟨V0_1_2.heap.size, 0, none⟩))))
          have bfne : V0.heap.size ≠ V0_1_2_3.heap.size := by first | exact bf_bv | exact bv_bf.symm
          have bf := (bf.far (p := ⟨V0_1_2_3.heap.size, 0, none⟩) bfne ((.pointer (some ⟨V0_1_2.heap.size, 0, none⟩))))
          have blne : V0_1.heap.size ≠ V0_1_2_3.heap.size := by first | exact bl_bv | exact bv_bl.symm
          have bl := (bl.far (p := ⟨V0_1_2_3.heap.size, 0, none⟩) blne ((.pointer (some ⟨V0_1_2.heap.size, 0, none⟩))))
          have btne : V0_1_2.heap.size ≠ V0_1_2_3.heap.size := by first | exact bt_bv | exact bv_bt.symm
          have bt := (bt.far (p := ⟨V0_1_2_3.heap.size, 0, none⟩) btne ((.pointer (some ⟨V0_1_2.heap.size, 0, none⟩))))
          obtain ⟨V0_1_2_3_4_5, qqV0_1_2_3_4_5⟩ : ∃ W', (V0_1_2_3_4.setCell ⟨V0_1_2_3.heap.size, 0, none⟩ ((.pointer (some ⟨V0_1_2.heap.size, 0, none⟩)))) = W' := ⟨_, rfl⟩
          rw [qqV0_1_2_3_4_5] at hV0_1_2_3_4_5 bv bf bl bt ⊢
          clear qqV0_1_2_3_4_5 bvc0 bvf0
          refine ordB_nil ?_
          go_wp2_with fail
          go_meet
          exact ⟨_, _, _, _, rfl, bv, bt, (by unfold Row; rw [List.map_replicate]; exact bl), bf, bvg, btg, blg, bfg, hV0_1_2_3_4_5⟩
        · have bf_bv := Nat.ne_of_lt bf.lt
          have bl_bv := Nat.ne_of_lt bl.lt
          go_simp
          refine hK.out _ _ (hV0_1_2.alloc hV0_1_2.size _) (fun hV0_1_2_3 => ?_)
          have bv := Blk.new V0_1_2 89 #[(.pointer none)]
          have bvb := nw (.cells #[(.pointer none)] 89) (Below.refl V0_1_2.heap.size V0_1_2)
          have bvg := hV0_1_2.size
          obtain ⟨V0_1_2_3, qqV0_1_2_3⟩ : ∃ W', V0_1_2.alloc (.cells #[(.pointer none)] 89) = W' := ⟨_, rfl⟩
          rw [qqV0_1_2_3] at hV0_1_2_3 bv bvb ⊢
          have bf := bf.below bvb bf.lt
          have bl := bl.below bvb bl.lt
          have bvlt := bv.lt
          clear qqV0_1_2_3
          refine ordB_only (opB_call rfl rfl (fun K hK => ?_))
          have bf_bt := Nat.ne_of_lt bf.lt
          have bl_bt := Nat.ne_of_lt bl.lt
          have bv_bt := Nat.ne_of_lt bv.lt
          go_simp
          refine hK.out _ _ (hV0_1_2_3.alloc hV0_1_2_3.size _) (fun hV0_1_2_3_4 => ?_)
          have bt := Blk.new V0_1_2_3 93 #[(.int .i64 (N : Int)), (.slice A g.ls.length c), (.slice (some ⟨V0_1.heap.size, 0, none⟩) N N), (.slice (some ⟨V0.heap.size, 0, none⟩) N N)]
          have btb := nw (.cells #[(.int .i64 (N : Int)), (.slice A g.ls.length c), (.slice (some ⟨V0_1.heap.size, 0, none⟩) N N), (.slice (some ⟨V0.heap.size, 0, none⟩) N N)] 93) (Below.refl V0_1_2_3.heap.size V0_1_2_3)
          have btg := hV0_1_2_3.size
          obtain ⟨V0_1_2_3_4, qqV0_1_2_3_4⟩ : ∃ W', V0_1_2_3.alloc (.cells #[(.int .i64 (N : Int)), (.slice A g.ls.length c), (.slice (some ⟨V0_1.heap.size, 0, none⟩) N N), (.slice (some ⟨V0.heap.size, 0, none⟩) N N)] 93) = W' := ⟨_, rfl⟩
          rw [qqV0_1_2_3_4] at hV0_1_2_3_4 bt btb ⊢
          have bf := bf.below btb bf.lt
          have bl := bl.below btb bl.lt
          have bv := bv.below btb bv.lt
          have btlt := bt.lt
          clear qqV0_1_2_3_4
          refine ordB_only (opB_call rfl rfl (fun K hK => ?_))
          have bvc0 := bv.cell 0
          have bvf0 := bv.frozen 0
          simp at bvc0
          go_simp
          refine hK.out _ _ (hV0_1_2_3_4.setCell (p := ⟨V0_1_2.heap.size, 0, none⟩) bvg _) (fun hV0_1_2_3_4_5 => ?_)
          have bv := (bv.set_ 0 ((.pointer (some ⟨V0_1_2_3.heap.size, 0, none⟩))))
          have bfne : V0.heap.size ≠ V0_1_2.heap.size := by first | exact bf_bv | exact bv_bf.symm
          have bf := (bf.far (p := ⟨V0_1_2.heap.size, 0, none⟩) bfne ((.pointer (some ⟨V0_1_2_3.heap.size, 0, none⟩))))
          have blne : V0_1.heap.size ≠ V0_1_2.heap.size := by first | exact bl_bv | exact bv_bl.symm
          have bl := (bl.far (p := ⟨V0_1_2.heap.size, 0, none⟩) blne ((.pointer (some ⟨V0_1_2_3.heap.size, 0, none⟩))))
          have btne : V0_1_2_3.heap.size ≠ V0_1_2.heap.size := by first | exact bt_bv | exact bv_bt.symm
          have bt := (bt.far (p := ⟨V0_1_2.heap.size, 0, none⟩) btne ((.pointer (some ⟨V0_1_2_3.heap.size, 0, none⟩))))
          obtain ⟨V0_1_2_3_4_5, qqV0_1_2_3_4_5⟩ : ∃ W', (V0_1_2_3_4.setCell ⟨V0_1_2.heap.size, 0, none⟩ ((.pointer (some ⟨V0_1_2_3.heap.size, 0, none⟩)))) = W' := ⟨_, rfl⟩
          rw [qqV0_1_2_3_4_5] at hV0_1_2_3_4_5 bv bf bl bt ⊢
          clear qqV0_1_2_3_4_5 bvc0 bvf0
          refine ordB_nil ?_
          go_wp2_with fail
          go_meet
          exact ⟨_, _, _, _, rfl, bv, bt, (by unfold Row; rw [List.map_replicate]; exact bl), bf, bvg, btg, blg, bfg, hV0_1_2_3_4_5⟩
      · have bf_bv := Nat.ne_of_lt bf.lt
        go_simp
        refine hK.out _ _ (hV0_1.alloc hV0_1.size _) (fun hV0_1_2 => ?_)
        have bv := Blk.new V0_1 89 #[(.pointer none)]
        have bvb := nw (.cells #[(.pointer none)] 89) (Below.refl V0_1.heap.size V0_1)
        have bvg := hV0_1.size
        obtain ⟨V0_1_2, qqV0_1_2⟩ : ∃ W', V0_1.alloc (.cells #[(.pointer none)] 89) = W' := ⟨_, rfl⟩
        rw [qqV0_1_2] at hV0_1_2 bv bvb ⊢
        have bf := bf.below bvb bf.lt
        have bvlt := bv.lt
        clear qqV0_1_2
        refine ordB_only (opB_call rfl rfl (fun K hK => ?_))
        have bf_bl := Nat.ne_of_lt bf.lt
        have bv_bl := Nat.ne_of_lt bv.lt
        refine wp_mk _ _ 40 rfl 3 i0 (Value.int .i64 0) (Value.int .i64 0) Tryz.underlying40 hi hz0 hz1 (by omega) rfl N rfl rfl (by omega) ?_
        refine hK.out _ _ (hV0_1_2.alloc hV0_1_2.size _) (fun hV0_1_2_3 => ?_)
        have bl := Blk.new V0_1_2 3 (List.replicate N (Value.int .i64 0)).toArray
        have blb := nw (.cells (List.replicate N (Value.int .i64 0)).toArray 3) (Below.refl V0_1_2.heap.size V0_1_2)
        have blg := hV0_1_2.size
        obtain ⟨V0_1_2_3, qqV0_1_2_3⟩ : ∃ W', V0_1_2.alloc (.cells (List.replicate N (Value.int .i64 0)).toArray 3) = W' := ⟨_, rfl⟩
        rw [qqV0_1_2_3] at hV0_1_2_3 bl blb ⊢
        have bf := bf.below blb bf.lt
        have bv := bv.below blb bv.lt
        have bllt := bl.lt
        clear qqV0_1_2_3
        iterate 1 (first
          | (refine ordB_skip rfl rfl ?_; simp only [Act.put, List.setIfInBounds_toArray, List.set_cons_zero, List.set_cons_succ])
          | (refine ordB_take (v := ?_) rfl rfl ?_ ?_
             rotate_left 1
             focus (intro W hW; obtain ⟨hcW, hfW⟩ := bcell hW; (go_simp <;> with_reducible rfl))
             simp only [Act.put, List.setIfInBounds_toArray, List.set_cons_zero, List.set_cons_succ]))
        refine ordB_only (opB_call rfl rfl (fun K hK => ?_))
        have bf_bt := Nat.ne_of_lt bf.lt
        have bv_bt := Nat.ne_of_lt bv.lt
        have bl_bt := Nat.ne_of_lt bl.lt
        go_simp
        refine hK.out _ _ (hV0_1_2_3.alloc hV0_1_2_3.size _) (fun hV0_1_2_3_4 => ?_)
        have bt := Blk.new V0_1_2_3 93 #[(.int .i64 (N : Int)), (.slice A g.ls.length c), (.slice (some ⟨V0_1_2.heap.size, 0, none⟩) N N), (.slice (some ⟨V0.heap.size, 0, none⟩) N N)]
        have btb := nw (.cells #[(.int .i64 (N : Int)), (.slice A g.ls.length c), (.slice (some ⟨V0_1_2.heap.size, 0, none⟩) N N), (.slice (some ⟨V0.heap.size, 0, none⟩) N N)] 93) (Below.refl V0_1_2_3.heap.size V0_1_2_3)
        have btg := hV0_1_2_3.size
        obtain ⟨V0_1_2_3_4, qqV0_1_2_3_4⟩ : ∃ W', V0_1_2_3.alloc (.cells #[(.int .i64 (N : Int)), (.slice A g.ls.length c), (.slice (some ⟨V0_1_2.heap.size, 0, none⟩) N N), (.slice (some ⟨V0.heap.size, 0, none⟩) N N)] 93) = W' := ⟨_, rfl⟩
        rw [qqV0_1_2_3_4] at hV0_1_2_3_4 bt btb ⊢
        have bf := bf.below btb bf.lt
        have bv := bv.below btb bv.lt
        have bl := bl.below btb bl.lt
        have btlt := bt.lt
        clear qqV0_1_2_3_4
        refine ordB_only (opB_call rfl rfl (fun K hK => ?_))
        have bvc0 := bv.cell 0
        have bvf0 := bv.frozen 0
        simp at bvc0
        go_simp
        refine hK.out _ _ (hV0_1_2_3_4.setCell (p := ⟨V0_1.heap.size, 0, none⟩) bvg _) (fun hV0_1_2_3_4_5 => ?_)
        have bv := (bv.set_ 0 ((.pointer (some ⟨V0_1_2_3.heap.size, 0, none⟩))))
        have bfne : V0.heap.size ≠ V0_1.heap.size := by first | exact bf_bv | exact bv_bf.symm
        have bf := (bf.far (p := ⟨V0_1.heap.size, 0, none⟩) bfne ((.pointer (some ⟨V0_1_2_3.heap.size, 0, none⟩))))
        have blne : V0_1_2.heap.size ≠ V0_1.heap.size := by first | exact bl_bv | exact bv_bl.symm
        have bl := (bl.far (p := ⟨V0_1.heap.size, 0, none⟩) blne ((.pointer (some ⟨V0_1_2_3.heap.size, 0, none⟩))))
        have btne : V0_1_2_3.heap.size ≠ V0_1.heap.size := by first | exact bt_bv | exact bv_bt.symm
        have bt := (bt.far (p := ⟨V0_1.heap.size, 0, none⟩) btne ((.pointer (some ⟨V0_1_2_3.heap.size, 0, none⟩))))
        obtain ⟨V0_1_2_3_4_5, qqV0_1_2_3_4_5⟩ : ∃ W', (V0_1_2_3_4.setCell ⟨V0_1.heap.size, 0, none⟩ ((.pointer (some ⟨V0_1_2_3.heap.size, 0, none⟩)))) = W' := ⟨_, rfl⟩
        rw [qqV0_1_2_3_4_5] at hV0_1_2_3_4_5 bv bf bl bt ⊢
        clear qqV0_1_2_3_4_5 bvc0 bvf0
        refine ordB_nil ?_
        go_wp2_with fail
        go_meet
        exact ⟨_, _, _, _, rfl, bv, bt, (by unfold Row; rw [List.map_replicate]; exact bl), bf, bvg, btg, blg, bfg, hV0_1_2_3_4_5⟩
    · go_simp
      refine hK.out _ _ (hV0.alloc hV0.size _) (fun hV0_1 => ?_)
      have bv := Blk.new V0 89 #[(.pointer none)]
      have bvb := nw (.cells #[(.pointer none)] 89) (Below.refl V0.heap.size V0)
      have bvg := hV0.size
      obtain ⟨V0_1, qqV0_1⟩ : ∃ W', V0.alloc (.cells #[(.pointer none)] 89) = W' := ⟨_, rfl⟩
      rw [qqV0_1] at hV0_1 bv bvb ⊢
      have bvlt := bv.lt
      clear qqV0_1
      refine ordB_fork (opB_call rfl rfl (fun K hK => ?_)) (opB_call rfl rfl (fun K hK => ?_))
      · have bv_bl := Nat.ne_of_lt bv.lt
        refine wp_mk _ _ 40 rfl 3 i0 (Value.int .i64 0) (Value.int .i64 0) Tryz.underlying40 hi hz0 hz1 (by omega) rfl N rfl rfl (by omega) ?_
        refine hK.out _ _ (hV0_1.alloc hV0_1.size _) (fun hV0_1_2 => ?_)
        have bl := Blk.new V0_1 3 (List.replicate N (Value.int .i64 0)).toArray
        have blb := nw (.cells (List.replicate N (Value.int .i64 0)).toArray 3) (Below.refl V0_1.heap.size V0_1)
        have blg := hV0_1.size
        obtain ⟨V0_1_2, qqV0_1_2⟩ : ∃ W', V0_1.alloc (.cells (List.replicate N (Value.int .i64 0)).toArray 3) = W' := ⟨_, rfl⟩
        rw [qqV0_1_2] at hV0_1_2 bl blb ⊢
        have bv := bv.below blb bv.lt
        have bllt := bl.lt
        clear qqV0_1_2
        refine ordB_only (opB_call rfl rfl (fun K hK => ?_))
        have bv_bf := Nat.ne_of_lt bv.lt
        have bl_bf := Nat.ne_of_lt bl.lt
        refine wp_mk _ _ 91 rfl 40 i1 (Value.slice none 0 0) (Value.slice none 0 0) Tryz.underlying91 hi1 hy0 hy1 (by omega) rfl N rfl rfl (by omega) ?_
        refine hK.out _ _ (hV0_1_2.alloc hV0_1_2.size _) (fun hV0_1_2_3 => ?_)
        have bf := Blk.new V0_1_2 40 (List.replicate N (Value.slice none 0 0)).toArray
        have bfb := nw (.cells (List.replicate N (Value.slice none 0 0)).toArray 40) (Below.refl V0_1_2.heap.size V0_1_2)
        have bfg := hV0_1_2.size
        obtain ⟨V0_1_2_3, qqV0_1_2_3⟩ : ∃ W', V0_1_2.alloc (.cells (List.replicate N (Value.slice none 0 0)).toArray 40) = W' := ⟨_, rfl⟩
        rw [qqV0_1_2_3] at hV0_1_2_3 bf bfb ⊢
        have bv := bv.below bfb bv.lt
        have bl := bl.below bfb bl.lt
        have bflt := bf.lt
        clear qqV0_1_2_3
        iterate 1 (first
          | (refine ordB_skip rfl rfl ?_; simp only [Act.put, List.setIfInBounds_toArray, List.set_cons_zero, List.set_cons_succ])
          | (refine ordB_take (v := ?_) rfl rfl ?_ ?_
             rotate_left 1
             focus (intro W hW; obtain ⟨hcW, hfW⟩ := bcell hW; (go_simp <;> with_reducible rfl))
             simp only [Act.put, List.setIfInBounds_toArray, List.set_cons_zero, List.set_cons_succ]))
        refine ordB_only (opB_call rfl rfl (fun K hK => ?_))
        have bv_bt := Nat.ne_of_lt bv.lt
        have bl_bt := Nat.ne_of_lt bl.lt
        have bf_bt := Nat.ne_of_lt bf.lt
        go_simp
        refine hK.out _ _ (hV0_1_2_3.alloc hV0_1_2_3.size _) (fun hV0_1_2_3_4 => ?_)
        have bt := Blk.new V0_1_2_3 93 #[(.int .i64 (N : Int)), (.slice A g.ls.length c), (.slice (some ⟨V0_1.heap.size, 0, none⟩) N N), (.slice (some ⟨V0_1_2.heap.size, 0, none⟩) N N)]
        have btb := nw (.cells #[(.int .i64 (N : Int)), (.slice A g.ls.length c), (.slice (some ⟨V0_1.heap.size, 0, none⟩) N N), (.slice (some ⟨V0_1_2.heap.size, 0, none⟩) N N)] 93) (Below.refl V0_1_2_3.heap.size V0_1_2_3)
        have btg := hV0_1_2_3.size
        obtain ⟨V0_1_2_3_4, qqV0_1_2_3_4⟩ : ∃ W', V0_1_2_3.alloc (.cells #[(.int .i64 (N : Int)), (.slice A g.ls.length c), (.slice (some ⟨V0_1.heap.size, 0, none⟩) N N), (.slice (some ⟨V0_1_2.heap.size, 0, none⟩) N N)] 93) = W' := ⟨_, rfl⟩
        rw [qqV0_1_2_3_4] at hV0_1_2_3_4 bt btb ⊢
        have bv := bv.below btb bv.lt
        have bl := bl.below btb bl.lt
        have bf := bf.below btb bf.lt
        have btlt := bt.lt
        clear qqV0_1_2_3_4
        refine ordB_only (opB_call rfl rfl (fun K hK => ?_))
        have bvc0 := bv.cell 0
        have bvf0 := bv.frozen 0
        simp at bvc0
        go_simp
        refine hK.out _ _ (hV0_1_2_3_4.setCell (p := ⟨V0.heap.size, 0, none⟩) bvg _) (fun hV0_1_2_3_4_5 => ?_)
        have bv := (bv.set_ 0 ((.pointer (some ⟨V0_1_2_3.heap.size, 0, none⟩))))
        have blne : V0_1.heap.size ≠ V0.heap.size := by first | exact bl_bv | exact bv_bl.symm
        have bl := (bl.far (p := ⟨V0.heap.size, 0, none⟩) blne ((.pointer (some ⟨V0_1_2_3.heap.size, 0, none⟩))))
        have bfne : V0_1_2.heap.size ≠ V0.heap.size := by first | exact bf_bv | exact bv_bf.symm
        have bf := (bf.far (p := ⟨V0.heap.size, 0, none⟩) bfne ((.pointer (some ⟨V0_1_2_3.heap.size, 0, none⟩))))
        have btne : V0_1_2_3.heap.size ≠ V0.heap.size := by first | exact bt_bv | exact bv_bt.symm
        have bt := (bt.far (p := ⟨V0.heap.size, 0, none⟩) btne ((.pointer (some ⟨V0_1_2_3.heap.size, 0, none⟩))))
        obtain ⟨V0_1_2_3_4_5, qqV0_1_2_3_4_5⟩ : ∃ W', (V0_1_2_3_4.setCell ⟨V0.heap.size, 0, none⟩ ((.pointer (some ⟨V0_1_2_3.heap.size, 0, none⟩)))) = W' := ⟨_, rfl⟩
        rw [qqV0_1_2_3_4_5] at hV0_1_2_3_4_5 bv bl bf bt ⊢
        clear qqV0_1_2_3_4_5 bvc0 bvf0
        refine ordB_nil ?_
        go_wp2_with fail
        go_meet
        exact ⟨_, _, _, _, rfl, bv, bt, (by unfold Row; rw [List.map_replicate]; exact bl), bf, bvg, btg, blg, bfg, hV0_1_2_3_4_5⟩
      · have bv_bf := Nat.ne_of_lt bv.lt
        refine wp_mk _ _ 91 rfl 40 i1 (Value.slice none 0 0) (Value.slice none 0 0) Tryz.underlying91 hi1 hy0 hy1 (by omega) rfl N rfl rfl (by omega) ?_
        refine hK.out _ _ (hV0_1.alloc hV0_1.size _) (fun hV0_1_2 => ?_)
        have bf := Blk.new V0_1 40 (List.replicate N (Value.slice none 0 0)).toArray
        have bfb := nw (.cells (List.replicate N (Value.slice none 0 0)).toArray 40) (Below.refl V0_1.heap.size V0_1)
        have bfg := hV0_1.size
        obtain ⟨V0_1_2, qqV0_1_2⟩ : ∃ W', V0_1.alloc (.cells (List.replicate N (Value.slice none 0 0)).toArray 40) = W' := ⟨_, rfl⟩
        rw [qqV0_1_2] at hV0_1_2 bf bfb ⊢
        have bv := bv.below bfb bv.lt
        have bflt := bf.lt
        clear qqV0_1_2
        refine ordB_only (opB_call rfl rfl (fun K hK => ?_))
        have bv_bl := Nat.ne_of_lt bv.lt
        have bf_bl := Nat.ne_of_lt bf.lt
        refine wp_mk _ _ 40 rfl 3 i0 (Value.int .i64 0) (Value.int .i64 0) Tryz.underlying40 hi hz0 hz1 (by omega) rfl N rfl rfl (by omega) ?_
        refine hK.out _ _ (hV0_1_2.alloc hV0_1_2.size _) (fun hV0_1_2_3 => ?_)
        have bl := Blk.new V0_1_2 3 (List.replicate N (Value.int .i64 0)).toArray
        have blb := nw (.cells (List.replicate N (Value.int .i64 0)).toArray 3) (Below.refl V0_1_2.heap.size V0_1_2)
        have blg := hV0_1_2.size
        obtain ⟨V0_1_2_3, qqV0_1_2_3⟩ : ∃ W', V0_1_2.alloc (.cells (List.replicate N (Value.int .i64 0)).toArray 3) = W' := ⟨_, rfl⟩
        rw [qqV0_1_2_3] at hV0_1_2_3 bl blb ⊢
        have bv := bv.below blb bv.lt
        have bf := bf.below blb bf.lt
        have bllt := bl.lt
        clear qqV0_1_2_3
        iterate 1 (first
          | (refine ordB_skip rfl rfl ?_; simp only [Act.put, List.setIfInBounds_toArray, List.set_cons_zero, List.set_cons_succ])
          | (refine ordB_take (v := ?_) rfl rfl ?_ ?_
             rotate_left 1
             focus (intro W hW; obtain ⟨hcW, hfW⟩ := bcell hW; (go_simp <;> with_reducible rfl))
             simp only [Act.put, List.setIfInBounds_toArray, List.set_cons_zero, List.set_cons_succ]))
        refine ordB_only (opB_call rfl rfl (fun K hK => ?_))
        have bv_bt := Nat.ne_of_lt bv.lt
        have bf_bt := Nat.ne_of_lt bf.lt
        have bl_bt := Nat.ne_of_lt bl.lt
        go_simp
        refine hK.out _ _ (hV0_1_2_3.alloc hV0_1_2_3.size _) (fun hV0_1_2_3_4 => ?_)
        have bt := Blk.new V0_1_2_3 93 #[(.int .i64 (N : Int)), (.slice A g.ls.length c), (.slice (some ⟨V0_1_2.heap.size, 0, none⟩) N N), (.slice (some ⟨V0_1.heap.size, 0, none⟩) N N)]
        have btb := nw (.cells #[(.int .i64 (N : Int)), (.slice A g.ls.length c), (.slice (some ⟨V0_1_2.heap.size, 0, none⟩) N N), (.slice (some ⟨V0_1.heap.size, 0, none⟩) N N)] 93) (Below.refl V0_1_2_3.heap.size V0_1_2_3)
        have btg := hV0_1_2_3.size
        obtain ⟨V0_1_2_3_4, qqV0_1_2_3_4⟩ : ∃ W', V0_1_2_3.alloc (.cells #[(.int .i64 (N : Int)), (.slice A g.ls.length c), (.slice (some ⟨V0_1_2.heap.size, 0, none⟩) N N), (.slice (some ⟨V0_1.heap.size, 0, none⟩) N N)] 93) = W' := ⟨_, rfl⟩
        rw [qqV0_1_2_3_4] at hV0_1_2_3_4 bt btb ⊢
        have bv := bv.below btb bv.lt
        have bf := bf.below btb bf.lt
        have bl := bl.below btb bl.lt
        have btlt := bt.lt
        clear qqV0_1_2_3_4
        refine ordB_only (opB_call rfl rfl (fun K hK => ?_))
        have bvc0 := bv.cell 0
        have bvf0 := bv.frozen 0
        simp at bvc0
        go_simp
        refine hK.out _ _ (hV0_1_2_3_4.setCell (p := ⟨V0.heap.size, 0, none⟩) bvg _) (fun hV0_1_2_3_4_5 => ?_)
        have bv := (bv.set_ 0 ((.pointer (some ⟨V0_1_2_3.heap.size, 0, none⟩))))
        have bfne : V0_1.heap.size ≠ V0.heap.size := by first | exact bf_bv | exact bv_bf.symm
        have bf := (bf.far (p := ⟨V0.heap.size, 0, none⟩) bfne ((.pointer (some ⟨V0_1_2_3.heap.size, 0, none⟩))))
        have blne : V0_1_2.heap.size ≠ V0.heap.size := by first | exact bl_bv | exact bv_bl.symm
        have bl := (bl.far (p := ⟨V0.heap.size, 0, none⟩) blne ((.pointer (some ⟨V0_1_2_3.heap.size, 0, none⟩))))
        have btne : V0_1_2_3.heap.size ≠ V0.heap.size := by first | exact bt_bv | exact bv_bt.symm
        have bt := (bt.far (p := ⟨V0.heap.size, 0, none⟩) btne ((.pointer (some ⟨V0_1_2_3.heap.size, 0, none⟩))))
        obtain ⟨V0_1_2_3_4_5, qqV0_1_2_3_4_5⟩ : ∃ W', (V0_1_2_3_4.setCell ⟨V0.heap.size, 0, none⟩ ((.pointer (some ⟨V0_1_2_3.heap.size, 0, none⟩)))) = W' := ⟨_, rfl⟩
        rw [qqV0_1_2_3_4_5] at hV0_1_2_3_4_5 bv bf bl bt ⊢
        clear qqV0_1_2_3_4_5 bvc0 bvf0
        refine ordB_nil ?_
        go_wp2_with fail
        go_meet
        exact ⟨_, _, _, _, rfl, bv, bt, (by unfold Row; rw [List.map_replicate]; exact bl), bf, bvg, btg, blg, bfg, hV0_1_2_3_4_5⟩
  case rest =>
    obtain ⟨w3, rfl⟩ : ∃ W, W = wc := ⟨wc, rfl⟩
    obtain ⟨bv, bt, gl, gf, rfl, hV3, hT3, hL3, hF3, zv, zt, zl, zf, hb3⟩ := hcut
    have kl3 : w.heap.size < w1.heap.size := kl
    have hB3 := hB1.below hb3 hB1.lt
    have hbw3 := bthen hb1 hb3
    have HX : Hid (∀ W : World, w.heap.size ≤ W.heap.size → (∀ b, b < w.heap.size → W.heap[b]? = w.heap[b]?) → SlR 4 RLk W A g.ls) := fun W h1 h2 => slr_heap (fun _ _ _ _ h => h) hx h1 h2
    have HLV : Hid (∀ W, Below w.heap.size w W → Calls Tryz.prog 59 #[.agg #[.int .i64 (N : Int), .slice A g.ls.length c]] W fun e w' => ∃ gf, e = .returned (.slice (some ⟨gf, 0, none⟩) N N) ∧ W.heap.size ≤ gf ∧ gf < w'.heap.size ∧
      Hid (∀ W', NewEq W.heap.size w' W' → SlR 1 RSl W' (some ⟨gf, 0, none⟩) (leavL g N)) ∧ Below W.heap.size W w') := fun W hW => bleav_any A c g N W (hx.below keeps_lk hW) hl0 HG.out HN.out
    have k0 := hB3.cell 0
    have k1 := hB3.cell 1
    have kl := hB3.lt
    simp at k0 k1
    clear hx
    go_upto_region 3 with (go_at_call 59; go_loud (refine (HLV.out _ hbw3).mono ?_; rintro e w4 ⟨ga, rfl, hga, hgal, HAL, hb4⟩))
    have lV := hV3.lt
    have lT := hT3.lt
    have lL := hL3.lt
    have lF := hF3.lt
    have hV4 := hV3.below hb4 lV
    have hT4 := hT3.below hb4 lT
    have hL4 : Row w4 gl _ := hL3.below hb4 lL
    have hF4 := hF3.below hb4 lF
    have hB4 := hB3.below hb4 kl
    have hbw4 := bthen hbw3 hb4
    -- different types, different blocks
    have nVL : bv ≠ gl := fun e => by have h1 := hV4; rw [e] at h1; unfold Row Blk at *; rw [hL4] at h1; injection h1 with h1; injection h1 with _ h1; cases h1
    have nVF : bv ≠ gf := fun e => by have h1 := hV4; rw [e] at h1; unfold Blk at *; rw [hF4] at h1; injection h1 with h1; injection h1 with _ h1; cases h1
    have nTL : bt ≠ gl := fun e => by have h1 := hT4; rw [e] at h1; unfold Row Blk at *; rw [hL4] at h1; injection h1 with h1; injection h1 with _ h1; cases h1
    have nTF : bt ≠ gf := fun e => by have h1 := hT4; rw [e] at h1; unfold Blk at *; rw [hF4] at h1; injection h1 with h1; injection h1 with _ h1; cases h1
    have nLF : gl ≠ gf := fun e => by have h1 := hL4; unfold Row Blk at *; rw [e, hF4] at h1; injection h1 with h1; injection h1 with _ h1; cases h1
    have nGL : ga ≠ gl := by omega
    have nGF : ga ≠ gf := by omega
    have zlw : w.heap.size < gl := by omega
    have zfw : w.heap.size < gf := by omega
    have HC : Hid (∀ W, But2 gl gf w4 W → Blk W bv 89 #[.pointer (some ⟨bt, 0, none⟩)] ∧ Blk W bt 93 #[.int .i64 (N : Int), .slice A g.ls.length c, .slice (some ⟨gl, 0, none⟩) N N, .slice (some ⟨gf, 0, none⟩) N N] ∧
        Blk W w.heap.size 38 #[.int .i64 (N : Int), .slice A g.ls.length c] ∧ SlR 4 RLk W A g.ls ∧ SlR 1 RSl W (some ⟨ga, 0, none⟩) (leavL g N)) := fun W h2 =>
      ⟨h2.blk hV4 nVL nVF, h2.blk hT4 nTL nTF, h2.blk hB4 (Nat.ne_of_lt zlw) (Nat.ne_of_lt zfw), HX.out W (Nat.le_trans hbw4.size h2.size) (fun b hb => (h2.block b (Nat.lt_of_lt_of_le hb hbw4.size) (by omega) (by omega)).trans (hbw4.block b hb)), HAL.out W (h2.new lL lF)⟩
    have hV3l : bv < w4.heap.size := hV4.lt
    have hT3l : bt < w4.heap.size := hT4.lt
    have HR4 : Hid (Row w4 gl (List.replicate (N - 1) 0 ++ potS g 1)) := by
      show Row _ _ _
      have : List.replicate (N - 1) 0 ++ potS g 1 = List.replicate N (0 : Int) := by
        show List.replicate (N - 1) 0 ++ [0] = _
        rw [← List.replicate_succ']
        congr 1
        omega
      rw [this]; exact hL4
    have HF4 : Hid (Blk w4 gf 40 ((List.range N).map (fun _ => Value.slice none 0 0)).toArray) := by
      show Blk _ _ _ _
      rw [show ((List.range N).map (fun _ => Value.slice none 0 0)) = List.replicate N (Value.slice none 0 0) by simp [List.map_const']]
      exact hF4
    have HFR4 : Hid (∀ v : Nat, N - 1 ≤ v → v < N → FrOK gl gf w4 (Value.slice none 0 0) (frL g (v : Int))) := fun v h1 h2 => by
      have : (v : Int) = g.n - 1 := by rw [HN.out]; omega
      rw [this, frL_last HG.out]
      exact ⟨none, 0, rfl, Nat.le_refl _, Nat.zero_le _, fun _ _ => SlR.nil⟩
    have hwN : IntKind.i64.wrap ((N : Int) - 2) = (N : Int) - 2 := IntWalk.i64_in _ (by omega)
    obtain ⟨c0, c1, c2, c3, c4⟩ := HC.out w4 (But2.refl _ _ _)
    have k0 := c2.cell 0
    have k1 := c2.cell 1
    have kl := c2.lt
    simp at k0 k1
    have HBW4 := Lib.hid hbw4
    clear hV3 hT3 hL3 hF3 hB3 hbw3 hb4 hV4 hT4 hL4 hF4 hB4 hb3 lV lT lL lF c0 c1 c2 c3 c4 hB1
    go_wp2_with fail
    go_loopw [5] (fun nd wr => ∃ (k : Nat) (V : Nat → Value), 1 ≤ k ∧ k ≤ N ∧ nd = .int .i64 ((N : Int) - 1 - k) ∧ Hid (Row wr gl (List.replicate (N - k) 0 ++ potS g k)) ∧ Hid (Blk wr gf 40 ((List.range N).map V).toArray) ∧ Hid (∀ v : Nat, v < N - k → V v = .slice none 0 0) ∧
        Hid (∀ v : Nat, N - k ≤ v → v < N → FrOK gl gf wr (V v) (frL g (v : Int))) ∧ Hid (But2 gl gf w4 wr) ∧ Hid (Below w.heap.size w wr)) (fun nd _ => (intOf nd + 1).toNat)
    case atStart => exact ⟨1, _, by omega, by omega, vint (by omega), HR4, HF4, fun _ _ => rfl, HFR4, But2.refl _ _ _, HBW4⟩
    case round =>
      obtain ⟨k, V, hk1, hkN, rfl, HR, HF, HVN, HFR, HB2, HBW⟩ := hrel
      by_cases hlt : k < N
      · obtain ⟨m, hm⟩ : ∃ m, N - k = m + 1 := ⟨N - k - 1, by omega⟩
        have hmN : m < N := by omega
        have hmv : (N : Int) - 1 - k = (m : Int) := by omega
        have hmk : N = m + 1 + k := by omega
        rw [hmv]
        have hm0 : (0 : Int) ≤ (m : Int) := by omega
        have hmN' : (m : Int) < (N : Int) := by omega
        have HR1 : Hid (Row wr gl (potRow m 0 (potS g k))) := by show Row _ _ _; rw [← potRow_start, ← hm]; exact HR.out
        have HV0 : Hid (V m = .slice none 0 0) := HVN.out m (by omega)
        obtain ⟨c0, c1, c2, c3, c4⟩ := HC.out wr HB2.out
        obtain ⟨ba, oa, xs, Ai, ci, he, hbaL, hxs, hca, hsl, hlc, hlm⟩ := c4.sl (k := m) (by rw [leavL_len]; omega)
        rw [leavL_at g hmN] at hxs
        obtain rfl := Option.some.inj hxs
        obtain ⟨rfl, rfl⟩ : ga = ba ∧ 0 = oa := by injection he with he; injection he with h1 h2; exact ⟨h1, h2⟩
        rw [Nat.zero_add] at hca
        have hvl := lvs_len HG.out (m : Int)
        have HSL : Hid (∀ W, But2 gl gf wr W → SlR 1 RInt W Ai (lvs g (m : Int))) := fun W h2 => by
          obtain ⟨_, _, _, _, d4⟩ := HC.out W (HB2.out.trans h2)
          obtain ⟨b2, o2, x2, A2, c2, he2, hbL2, hx2, hc2, hs2, _⟩ := d4.sl (k := m) (by rw [leavL_len]; omega)
          rw [leavL_at g hmN] at hx2
          obtain rfl := Option.some.inj hx2
          obtain ⟨rfl, rfl⟩ : ga = b2 ∧ 0 = o2 := by injection he2 with he; injection he with h1 h2; exact ⟨h1, h2⟩
          rw [Nat.zero_add] at hc2
          have e1 : wr.cell? ⟨ga, m, none⟩ = _ := (World.cell?_of_block (h2.block ga hbaL nGL nGF)).symm.trans hc2
          rw [hca] at e1
          injection e1 with e1
          injection e1 with e1 _ _
          rw [e1]
          exact hs2
        have HFW : Hid (Blk wr gf 40 ((List.range N).map (updF V m (.slice none 0 0))).toArray) := by
          show Blk _ _ _ _
          have e : updF V m (.slice none 0 0) = V := by
            funext j
            by_cases e : j = m
            · rw [e, updF_same, HV0.out]
            · rw [updF_ne V _ e]
          rw [e]; exact HF.out
        have hRl := HR1.out.lt
        have hFl := HF.out.lt
        obtain ⟨wo, rfl⟩ : ∃ W, W = wr := ⟨wr, rfl⟩
        have HMK := Lib.hid hmk
        clear he hxs hsl hlc hlm c0 c1 c2 c3 c4 HR HF hm hmk hmv
        go_wp2_with fail
        go_loopw [31] (fun i wv => ∃ (j : Nat) (vv : Value), j ≤ (lvs g (m : Int)).length ∧ i = .int .i64 j ∧ Hid (Blk wv gf 40 ((List.range N).map (updF V m vv)).toArray) ∧ Hid (wv.ownsRow wo.heap.size 3 1 vv (onTo g (m : Int) j).length ((onTo g (m : Int) j).map (Value.int .i64))) ∧
            Hid (onTo g (m : Int) j = [] → vv = .slice none 0 0) ∧ Hid (ButB gf wo wv) ∧ Hid (Below w.heap.size w wv)) (fun i _ => (lvs g (m : Int)).length - (intOf i).toNat)
        case atStart => exact ⟨0, _, by omega, rfl, HFW, own_nil _ _ _ _, fun _ => rfl, ButB.refl _ _, HBW⟩
        case round =>
          obtain ⟨j, vv, hj, rfl, HFv, HOv, HN0, HBv, HBWv⟩ := hrel
          by_cases hltj : j < (lvs g (m : Int)).length
          · obtain ⟨bi, oi, x, hAi, hbi, hxi, hci⟩ := (HSL.out _ (But2.of_but HBv.out)).int hltj
            subst hAi
            have hix := lvs_iff.1 (List.mem_of_getElem? hxi)
            obtain ⟨hx0, hx1, hx2⟩ := hix
            obtain ⟨xn, rfl⟩ : ∃ xn : Nat, x = (xn : Int) := ⟨x.toNat, by omega⟩
            have hxnl : xn < g.ls.length := by omega
            have hxnl' : (xn : Int) < (g.ls.length : Int) := by omega
            have hxn0 : (0 : Int) ≤ (xn : Int) := by omega
            obtain ⟨c0, c1, c2, c3, c4⟩ := HC.out wr (HB2.out.trans (But2.of_but HBv.out))
            obtain ⟨b, off, l, rfl, hbb, hll, d0, d1, d2, d3⟩ := c3.lk hxnl
            have hok := HG.out.ls l (List.mem_of_getElem? hll)
            have hLk := lkAt_nat hll
            have hfr : l.fr = (m : Int) := by rw [hLk] at hx2; exact hx2
            obtain ⟨o1, o2, o3, o4, o5⟩ := hok
            obtain ⟨tn, htn⟩ : ∃ tn : Nat, l.to = (tn : Int) := ⟨l.to.toNat, by omega⟩
            have htN : tn < N := by have := HN.out; omega
            have htN' : (tn : Int) < (N : Int) := by omega
            have ht0 : (0 : Int) ≤ (tn : Int) := by omega
            have hmt : m < tn := by omega
            have rt := Row.cell (HBv.out.blk HR1.out nLF) (bh_row HG.out 0 HN.out HMK.out hmt htN)
            have hON := onTo_succ (g := g) hxi
            rw [hLk, htn] at hON
            have HON := Lib.hid hON
            have hol : (onTo g (m : Int) j).length ≤ 20000 := Nat.le_trans (onTo_le g _ j) hvl
            generalize hAt g (tn : Int) = ht at *
            have v0 := c0.cell 0
            have t1 := c1.cell 2
            have g1 := c2.cell 1
            simp at v0 t1 g1
            rw [htn] at d1
            have lv := c0.lt
            have lt_ := c1.lt
            have lg := c2.lt
            have lr := (HBv.out.blk HR1.out nLF : Blk _ _ _ _).lt
            clear hxi hx1 hx2 hll hLk hfr htn o1 o2 o3 o4 o5 hON c0 c1 c2 c3 c4 d0 d2 d3
            go_wp2_with fail
            refine ordB_below (.quiet 0 (.quiet 1 (.quiet 2 (.quiet 3 (.quiet 4 (.quiet 5 (.quiet 6 (.quiet 7 (.quiet 8 (.quiet 9 (.quiet 10 (.quiet 11 (.quiet 12 .done))))))))))))) (by kernel_rfl) (by kernel_rfl) (by kernel_rfl) (fun _ _ _ _ _ h => h) ?_
            intro V0 hV0
            iterate 13 (first
              | (refine ordB_skip rfl rfl ?_; simp only [Act.put, List.setIfInBounds_toArray, List.set_cons_zero, List.set_cons_succ])
              | (refine ordB_take (v := ?_) rfl rfl ?_ ?_
                 rotate_left 1
                 focus (intro W hW; obtain ⟨hcW, hfW⟩ := bcell hW; (go_simp <;> with_reducible rfl))
                 simp only [Act.put, List.setIfInBounds_toArray, List.set_cons_zero, List.set_cons_succ]))
            refine ordB_nil ?_
            have HFv := Lib.hid (HFv.out.below hV0 HFv.out.lt)
            have HOv := Lib.hid (own_below HOv.out hV0)
            have HBv := Lib.hid (HBv.out.trans (ButB.of_below hV0))
            have HBWv := Lib.hid (bthen HBWv.out hV0)
            clear hV0 v0 t1 g1 d1 rt lv lt_ lg lr hci hbi hbb
            generalize V0 = W2 at *
            by_cases hnn : 0 ≤ ht
            · have HO1 : Hid (onTo g (m : Int) (j + 1) = onTo g (m : Int) j ++ [(xn : Int)]) := HON.out.trans (if_pos hnn)
              have z1 : decide (0 ≤ ht) = true := decide_eq_true hnn
              go_upto_region 10 with fail
              obtain ⟨c0, c1, _, _, _⟩ := HC.out W2 (HB2.out.trans (But2.of_but HBv.out))
              have v0 := c0.cell 0
              have t2 := c1.cell 3
              simp at v0 t2
              have lv := c0.lt
              have lt_ := c1.lt
              have hvg : vv.ownBlock ≠ some gf := own_blk_ne HOv.out HFv.out (by decide)
              have hvv : vv.ownBlock ≠ some bv := own_blk_ne HOv.out c0 (by decide)
              have hvt : vv.ownBlock ≠ some bt := own_blk_ne HOv.out c1 (by decide)
              have hwoW := HBv.out.size
              have hVat : ((List.range N).map (updF V m vv)).toArray[m]? = some vv := by simp [hmN, updF_same]
              have r0 := HFv.out.cell m
              have rl := HFv.out.lt
              rw [hVat] at r0
              clear c0 c1
              refine ordV_start (ButOwn (vv) W2) (fun _ => True) [16] [(0, some false), (1, some false), (2, some false), (3, some false), (4, some false), (5, some false), (6, some false), (7, some false), (8, some false), (9, some false), (10, some false), (11, some false), (12, some false), (13, some true), (14, some true), (15, some false), (16, some true)] (by kernel_rfl) (by kernel_rfl) (by kernel_rfl) (fun _ _ _ _ _ h => h) trivial ?_
              have HD : RowKit.Below W2.heap.size W2 W2.drew := (Below.refl _ _).drew
              obtain ⟨Wd, hWd⟩ : ∃ Wd, W2.drew = Wd := ⟨_, rfl⟩
              rw [hWd] at HD ⊢
              clear hWd
              have HS0 := ButOwn.of_below (v := vv) HD
              iterate 13 (refine ordV_takeS (v := ?_) rfl rfl HS0 ?_ ?_; rotate_left 1; (focus (intro W hW; have hcW := hW.cell; (go_simp <;> (try with_reducible rfl)))); simp only [Act.put, List.setIfInBounds_toArray, List.set_cons_zero, List.set_cons_succ])
              refine ordV_call rfl rfl (fun K hK => ?_)
              go_simp
              have HD2 := HD.alloc HD.size (.cells #[.int .i64 (xn : Int)] 3)
              have HS1 := ButOwn.of_below (v := vv) HD2
              refine hK.out _ _ trivial (fun _ _ => HS1) ?_
              clear hK K
              try simp only [Act.put, List.setIfInBounds_toArray, List.set_cons_zero, List.set_cons_succ]
              refine ordV_call rfl rfl (fun K hK => ?_)
              refine wp_appS (enc := fun x => [Value.int .i64 x]) (R := RInt) _ _ 40 rfl (wo.heap.size) 3 i0 _ 1 8 Tryz.underlying40 hi hz0 hz1 hz2 rfl (by decide) (vv) _ _ rfl ((own_below HOv.out HD).alloc _) (some ⟨Wd.heap.size, 0, none⟩) 1 [(xn : Int)] rfl (slr_blk (enc := fun x => [Value.int .i64 x]) (Blk.new_ rfl) (fun _ => rfl) (fun _ => rfl)) (fun _ _ _ h => h) (fun _ => rfl) (fun u hu => by simp at hu; subst hu; rfl) (by simp; omega) (by decide) (by have := HD2.size; omega) ?_
              intro v4 w4 hown4 hb4 ha4
              have HS2 := HS1.apps hb4.size ha4
              refine hK.out _ _ trivial (fun _ _ => HS2) ?_
              clear hK K
              have hown5 : w4.ownsRow wo.heap.size 3 1 v4 ((onTo g (m : Int) j).length + 1) ((onTo g (m : Int) j ++ [(xn : Int)]).map (Value.int .i64)) := by rw [List.map_append]; exact hown4
              obtain ⟨A9, c9, rfl, hc9, hcm9, _⟩ := own_ints hown5 (by simp)
              have hF4 := ((HFv.out.below HD HFv.out.lt).alloc (.cells #[.int .i64 (xn : Int)] 3)).apps ha4 hvg
              have sF := hF4.lt
              have cF := hF4.frozen m
              have cF1 := hF4.cell m
              rw [hVat] at cF1
              try simp only [Act.put, List.setIfInBounds_toArray, List.set_cons_zero, List.set_cons_succ]
              iterate 1 (refine ordV_takeS (v := ?_) rfl rfl HS2 ?_ ?_; rotate_left 1; (focus (intro W hW; have hcW := hW.cell; (go_simp <;> (try with_reducible rfl)))); simp only [Act.put, List.setIfInBounds_toArray, List.set_cons_zero, List.set_cons_succ])
              refine ordV_call rfl rfl (fun K hK => ?_)
              go_simp
              refine hK.out _ _ trivial (fun _ h => by cases h) ?_
              clear hK K
              refine ordV_nil ?_
              have hF5 := hF4.set_ m (Value.slice A9 ((onTo g (m : Int) j).length + 1) c9)
              rw [show (((List.range N).map (updF V m vv)).toArray.setIfInBounds m (Value.slice A9 ((onTo g (m : Int) j).length + 1) c9)) = ((List.range N).map (updF V m (Value.slice A9 ((onTo g (m : Int) j).length + 1) c9))).toArray by rw [← range_upd2 V hmN vv (Value.slice A9 ((onTo g (m : Int) j).length + 1) c9)]; simp] at hF5
              have hO5 := own_set hown5 (a := ⟨gf, m, none⟩) (fun e => by have := own_block_le hown5 _ e; simp at this; omega) (Value.slice A9 ((onTo g (m : Int) j).length + 1) c9)
              have hB5 := ((((HBv.out.trans (ButB.of_below HD)).trans (ButB.of_below (nw (.cells #[.int .i64 (xn : Int)] 3) (Below.refl Wd.heap.size Wd))))).low hb4).set_ m (Value.slice A9 ((onTo g (m : Int) j).length + 1) c9)
              have hbE := (((HBWv.out.trans (HD.mono HBWv.out.size)).alloc (Nat.le_trans HBWv.out.size HD.size) (.cells #[.int .i64 (xn : Int)] 3)).trans (hb4.mono HBW.out.size)).setCell (p := ⟨gf, m, none⟩) (Nat.le_of_lt zfw) (Value.slice A9 ((onTo g (m : Int) j).length + 1) c9)
              have HF5 := Lib.hid hF5
              have HO5 : Hid (World.ownsRow (w4.setCell ⟨gf, m, none⟩ (Value.slice A9 ((onTo g (m : Int) j).length + 1) c9)) wo.heap.size 3 1 (Value.slice A9 ((onTo g (m : Int) j).length + 1) c9) (onTo g (m : Int) (j + 1)).length ((onTo g (m : Int) (j + 1)).map (Value.int .i64))) := by show World.ownsRow _ _ _ _ _ _ _; rw [HO1.out, List.length_append]; exact hO5
              have HB5 := Lib.hid hB5
              have HE5 := Lib.hid hbE
              have HN5 : Hid (onTo g (m : Int) (j + 1) = [] → (Value.slice A9 ((onTo g (m : Int) j).length + 1) c9) = .slice none 0 0) := fun h => by rw [HO1.out] at h; simp at h
              clear hF5 hO5 hB5 hbE hF4 cF cF1 sF hown5 hown4 hb4 ha4 HS0 HS1 HS2 HD HD2
              go_wp2_with fail
              go_roundw
              case rel => exact ⟨j + 1, _, by omega, by go_num, HF5, HO5, HN5, HB5, HE5⟩
              case measure => simp [intOf]; omega
            · have HO1 : Hid (onTo g (m : Int) (j + 1) = onTo g (m : Int) j) := HON.out.trans (if_neg hnn)
              have z1 : decide (0 ≤ ht) = false := decide_eq_false hnn
              have hnn2 : ht < 0 := by omega
              clear hnn
              have HO5 : Hid (W2.ownsRow wo.heap.size 3 1 vv (onTo g (m : Int) (j + 1)).length ((onTo g (m : Int) (j + 1)).map (Value.int .i64))) := by show World.ownsRow _ _ _ _ _ _ _; rw [HO1.out]; exact HOv.out
              have HN5 : Hid (onTo g (m : Int) (j + 1) = [] → vv = .slice none 0 0) := fun h => HN0.out (by rw [← HO1.out]; exact h)
              go_wp2_with fail
              go_roundw
              case rel => exact ⟨j + 1, _, by omega, by go_num, HFv, HO5, HN5, HBv, HBWv⟩
              case measure => simp [intOf]; omega
          · obtain rfl : j = (lvs g (m : Int)).length := by omega
            have hO := HOv.out
            have hN0 := HN0.out
            rw [onTo_all] at hO hN0
            have hol : (onL g (m : Int)).length ≤ 20000 := Nat.le_trans (List.length_filter_le _ _) hvl
            have hRv : Row wr gl (potRow m 0 (potS g k)) := HBv.out.blk HR1.out nLF
            have hB2v := HB2.out.trans (But2.of_but HBv.out : But2 gl gf wo wr)
            obtain ⟨c0, c1, c2, c3, c4⟩ := HC.out wr hB2v
            have v0 := c0.cell 0
            have t2 := c1.cell 2
            have t3 := c1.cell 3
            simp at v0 t2 t3
            have lv := c0.lt
            have lt_ := c1.lt
            have r0 := HFv.out.cell m
            have rl := HFv.out.lt
            have rL := hRv.lt
            have rm := hRv.cell (potRow_at m 0 (potS g k))
            have rf := hRv.frozen m
            have hVat : ((List.range N).map (updF V m vv)).toArray[m]? = some vv := by simp [hmN, updF_same]
            rw [hVat] at r0
            have hwoW := HBv.out.size
            have hwW := HBWv.out.size
            have hwo := HBW.out.size
            have hmlast : (m : Int) < g.n - 1 := by have := HN.out; have := HMK.out; omega
            have hpc := bh_cons HG.out HN.out hk1 HMK.out
            have hnk : N - (k + 1) = m := by have := HMK.out; omega
            have HNK := Lib.hid hnk
            have HOV0 := HOv
            rw [onTo_all] at HOV0
            clear hnk HOv HN0 hltj
            cases hon : onL g (m : Int) with
            | nil =>
              rw [hon] at hN0
              obtain rfl := hN0 rfl
              have hfn : frL g (m : Int) = [] := by have := (frL_perm g (m : Int)).length_eq; rw [hon] at this; exact List.length_eq_zero_iff.1 this
              have hh : hAt g (m : Int) = -1 := bh_neg HG.out hm0 hmlast ((frL_nil HG.out hm0 hmlast).1 hfn)
              rw [hh] at hpc
              have hRn := hRv.set_ m (-1)
              rw [potRow_set] at hRn
              have HRN : Hid (Row (wr.setCell ⟨gl, m, none⟩ (.int .i64 (-1))) gl (List.replicate (N - (k + 1)) 0 ++ potS g (k + 1))) := by show Row _ _ _; rw [HNK.out, hpc]; exact hRn
              have HFN := Lib.hid (HFv.out.far (p := ⟨gl, m, none⟩) (Ne.symm nLF) (.int .i64 (-1)))
              have hBN : But2 gl gf wo (wr.setCell ⟨gl, m, none⟩ (.int .i64 (-1))) := (But2.of_but HBv.out).set1 m (.int .i64 (-1))
              have HFRN : Hid (∀ v : Nat, N - (k + 1) ≤ v → v < N → FrOK gl gf (wr.setCell ⟨gl, m, none⟩ (.int .i64 (-1))) (updF V m (.slice none 0 0) v) (frL g (v : Int))) := fun v h1 h2 => by
                by_cases e : v = m
                · subst e; rw [updF_same, hfn]; exact ⟨none, 0, rfl, Nat.le_refl _, Nat.zero_le _, fun _ _ => SlR.nil⟩
                · rw [updF_ne V _ e]; exact (HFR.out v (by have := HMK.out; have := HNK.out; omega) h2).mono hBN
              have HVNN : Hid (∀ v : Nat, v < N - (k + 1) → updF V m (.slice none 0 0) v = .slice none 0 0) := fun v h1 => by
                rw [updF_ne V _ (by have := HNK.out; omega)]; exact HVN.out v (by omega)
              have HB2N := Lib.hid (HB2.out.trans hBN)
              have HBWN := Lib.hid (HBWv.out.setCell (p := ⟨gl, m, none⟩) (Nat.le_of_lt zlw) (.int .i64 (-1)))
              clear hRn hBN hh hfn hpc hN0 hO hon hRv c0 c1 c2 c3 c4 hB2v
              go_wp2_with (go_at_call 68; refine (sort_nil _ _ _).mono ?_; rintro e w' ⟨rfl, rfl⟩)
              go_roundw
              case rel => exact ⟨k + 1, _, by omega, by omega, vint (by have := HMK.out; omega), HRN, HFN, HVNN, HFRN, HB2N, HBWN⟩
              case measure => first | (simp [intOf]; done) | (simp [intOf]; omega)
            | cons y0 ys0 =>
              have hne : onL g (m : Int) ≠ [] := by rw [hon]; simp
              have hlpos : 0 < (onL g (m : Int)).length := by rw [hon]; simp
              have hown2 := hO.2
              have hcells := own_slr (R := RInt) (enc := fun x => [Value.int .i64 x]) (by rw [flatMap_one]; exact hO) (fun _ => rfl) (fun _ => rfl) rfl
              obtain ⟨gb, cap, rfl, hgb, hfz⟩ : ∃ gb cap, vv = .slice (some ⟨gb, 0, none⟩) (onL g (m : Int)).length cap ∧ wo.heap.size ≤ gb ∧ ∀ k, wr.frozen? ⟨gb, k, none⟩ = false := by
                rcases hown2 with ⟨_, h0⟩ | ⟨gb, cap, cur, h1, h2, h3, _⟩
                · omega
                · exact ⟨gb, cap, h1, h2, fun k => Blk.frozen (t := 3) (cs := cur) h3 k⟩
              obtain ⟨Ab, cb, hab, _, _, hsb⟩ := hcells
              obtain ⟨rfl, rfl⟩ : some ⟨gb, 0, none⟩ = Ab ∧ cap = cb := by injection hab with h1 _ h3; exact ⟨h1, h3⟩
              obtain ⟨b', o', he', hgbl, hcb⟩ := hsb hne
              obtain ⟨rfl, rfl⟩ : gb = b' ∧ 0 = o' := by injection he' with he; injection he with h1 h2; exact ⟨h1, h2⟩
              have nbF : gb ≠ gf := by omega
              have nbL : gb ≠ gl := by omega
              have nbV : bv ≠ gb := by have h := hV3l; have := HB2.out.size; omega
              have nbT : bt ≠ gb := by have h := hT3l; have := HB2.out.size; omega
              have HY0 : Hid (y0 ∈ onL g (m : Int)) := by show _ ∈ _; rw [hon]; simp
              have HX2 : Hid (∀ a W, But2 gl gf w4 W → Row W gl (potRow m a (potS g k)) → ∀ x, x ∈ onL g (m : Int) → Calls Tryz.prog 72 #[.pointer (some ⟨bt, 0, none⟩), .int .i64 x] W fun e w' => e = .returned (.int .i64 (viaOf g x)) ∧ ∃ q, w' = W.drewN q) := fun a W h2 hR x hx => by
                obtain ⟨_, d1, _, d3, _⟩ := HC.out W h2
                unfold onL at hx
                obtain ⟨hx1, hx2⟩ := List.mem_filter.1 hx
                have hx2 : 0 ≤ hAt g (lkAt g x).to := by simpa using hx2
                obtain ⟨e1, e2, e3⟩ := lvs_iff.1 hx1
                have hok := lkAt_ok HG.out ⟨e1, e2⟩
                have e4 := hok.lt
                have e5 := hok.to
                have e6 := HN.out
                refine tabBy HG.out HN.out d1 d3 hR ⟨e1, e2⟩ hx2 ?_
                have := bh_row HG.out (m := m) (k := k) (tn := (lkAt g x).to.toNat) a HN.out HMK.out (by omega) (by omega)
                rw [this, Int.toNat_of_nonneg (by omega)]
              have HSORT := Lib.hid (sortI_any (fun x => x ∈ onL g (m : Int)) (viaOf g) bv gb cap (onL g (m : Int)) wr y0 HY0.out (fun _ h => h) hgbl (fun k x hx => by
                obtain ⟨vs, h1, _, h3⟩ := hcb k x hx
                have := h3 0 (.int .i64 x) (by rw [h1]; rfl)
                rw [Nat.zero_add, Nat.mul_one, Nat.add_zero] at this
                exact ⟨this, hfz k⟩) (by omega) (fun W hW i j hi hj => by
                have h2W : But2 gl gf w4 W := ⟨Nat.le_trans hB2v.size hW.size, fun b h1 h3 h4 => (hW.block b (Nat.lt_of_lt_of_le h1 hB2v.size) (by have := HB2.out.size; omega)).trans (hB2v.block b h1 h3 h4)⟩
                refine clo_any (viaOf g) bv bt i j W (HC.out W h2W).1 fun W' hW' x hx => ?_
                refine HX2.out 0 W' (h2W.trans (But2.of_below hW')) ((hW.blk hRv (Ne.symm nbL)).below hW' (Nat.lt_of_lt_of_le rL hW.size)) x ?_
                rcases hx with rfl | rfl
                · exact hi
                · exact hj))
              have hlpos' : (0 : Int) < ((onL g (m : Int)).length : Int) := by omega
              clear hown2 hcb hfz hab he' hsb hO c0 c1 c2 c3 c4 hon
              go_upto_region 13 with (go_at_call 68; go_loud (refine HSORT.out.mono ?_; rintro e w5 ⟨rfl, ys, hperm, hsrt, hys, hb5, hlow5⟩))
              have hyf : ys = frL g (m : Int) := frL_unique hperm (hsrt.imp fun {a b} h h' => by have := viaLe_iff.1 h'; omega)
              subst hyf
              have v0 := (hb5.cell bv 0 lv nbV).trans v0
              have t2 := (hb5.cell bt 2 lt_ nbT).trans t2
              have t3 := (hb5.cell bt 3 lt_ nbT).trans t3
              have r0 := (hb5.cell gf m rl (Ne.symm nbF)).trans r0
              have hR5 : Row w5 gl (potRow m 0 (potS g k)) := hb5.blk hRv (Ne.symm nbL)
              have rm := hR5.cell (potRow_at m 0 (potS g k))
              have rf := hR5.frozen m
              have rL := hR5.lt
              have hsz5 := hb5.size
              have hlf : (frL g (m : Int)).length = (onL g (m : Int)).length := (frL_perm g (m : Int)).length_eq
              obtain ⟨x0, r0s, hfr⟩ : ∃ x r, frL g (m : Int) = x :: r := by
                cases h : frL g (m : Int) with
                | nil => rw [h] at hlf; simp at hlf; omega
                | cons x r => exact ⟨x, r, rfl⟩
              obtain ⟨bx, ox, x0', hax, hbx, hxx, hcx⟩ := hys.int (k := 0) (by omega)
              obtain ⟨rfl, rfl⟩ : gb = bx ∧ 0 = ox := by injection hax with he; injection he with h1 h2; exact ⟨h1, h2⟩
              have e0 : x0 = x0' := by rw [hfr] at hxx; simpa using hxx
              subst e0
              rw [Nat.zero_add] at hcx
              have hxm : x0 ∈ onL g (m : Int) := (frL_perm g (m : Int)).mem_iff.1 (by rw [hfr]; simp)
              have hvia : viaOf g x0 = hAt g (m : Int) := frL_head HG.out hm0 hmlast hfr
              go_upto_region 15 with fail
              obtain ⟨w6, hw6⟩ : ∃ W, w5.setCell ⟨gl, m, none⟩ (.int .i64 (-1)) = W := ⟨_, rfl⟩
              have hR6 := hR5.set_ m (-1)
              rw [potRow_set] at hR6
              have h56 : But2 gl gf w5 w6 := by rw [← hw6]; exact (But2.refl _ _ _).set1 _ _
              have h46 : But2 gl gf w4 w6 := But2.trans ⟨Nat.le_trans hB2v.size hb5.size, fun b h1 h3 h4 => (hb5.block b (Nat.lt_of_lt_of_le h1 hB2v.size) (by have := HB2.out.size; omega)).trans (hB2v.block b h1 h3 h4)⟩ h56
              have hF5 : Blk w5 gf _ _ := hb5.blk HFv.out (Ne.symm nbF)
              have hF6 := hF5.far (p := ⟨gl, m, none⟩) (Ne.symm nLF) (.int .i64 (-1))
              have hBW6 := (HBWv.out.trans (hlow5 w.heap.size (by omega))).setCell (p := ⟨gl, m, none⟩) (Nat.le_of_lt zlw) (.int .i64 (-1))
              have hcx6 : w6.cell? ⟨gb, 0, none⟩ = _ := (World.cell?_of_block (by rw [← hw6]; exact Below.heap_setCell w5 ⟨gl, m, none⟩ _ gb nbL)).trans hcx
              rw [hw6] at hR6 hF6 hBW6 ⊢
              obtain ⟨c0, c1, _, _, _⟩ := HC.out w6 h46
              have v0 := c0.cell 0
              have t2 := c1.cell 2
              have t3 := c1.cell 3
              simp at v0 t2 t3
              have lv := c0.lt
              have lt_ := c1.lt
              have r0 := hF6.cell m
              rw [hVat] at r0
              have rl := hF6.lt
              have rL := hR6.lt
              have rm := hR6.cell (potRow_at m (-1) (potS g k))
              have rf := hR6.frozen m
              have rgb : gb < w6.heap.size := by rw [← hw6]; simpa using hbx
              have HBY : Hid (∀ W, Below w6.heap.size w6 W → Calls Tryz.prog 72 #[.pointer (some ⟨bt, 0, none⟩), .int .i64 x0] W fun e w' => e = .returned (.int .i64 (hAt g (m : Int))) ∧ ∃ q, w' = W.drewN q) := fun W hW => by
                have := HX2.out (-1) W (h46.trans (But2.of_below hW)) (Row.below hR6 hW hR6.lt) x0 hxm
                rw [hvia] at this
                exact this
              have HHB := bh_bd HG.out (m : Int)
              have HRZ : Hid (∀ W, Row W gl (potRow m (hAt g (m : Int)) (potS g k)) → Row W gl (List.replicate (N - (k + 1)) 0 ++ potS g (k + 1))) := fun W h => by rw [HNK.out, hpc]; exact h
              have HFRG : Hid (FrOK gl gf w6 (.slice (some ⟨gb, 0, none⟩) (onL g (m : Int)).length cap) (frL g (m : Int))) := by
                obtain ⟨A', c', h1, h2, h3, _⟩ := own_ints HOV0.out rfl
                injection h1 with h1 _ h4
                refine ⟨some ⟨gb, 0, none⟩, cap, by rw [hlf], by rw [hlf, h4]; exact h2, by rw [h4]; exact h3, fun W hW => ?_⟩
                exact slr_one hys (Nat.le_trans h56.size hW.size) ((hW.block gb rgb nbL nbF).trans (by rw [← hw6]; exact Below.heap_setCell w5 ⟨gl, m, none⟩ _ gb nbL))
              have HB2W : Hid (But2 gl gf wo w6) := (But2.trans (⟨Nat.le_trans HBv.out.size hb5.size, fun b h1 h3 h4 => (hb5.block b (Nat.lt_of_lt_of_le h1 HBv.out.size) (by omega)).trans (HBv.out.block b h1 h4)⟩ : But2 gl gf wo w5) h56)
              clear hw6 hR5 hcx hys hperm hsrt hb5 hlow5 h56 h46 hF5 hvia hpc c0 c1 hxm hfr hxx hax hbx hlf HSORT hRv hB2v
              generalize hAt g (m : Int) = hm_ at *
              refine ordT_below [17] [(0, false), (1, false), (2, false), (3, false), (4, false), (5, false), (6, false), (7, false), (8, false), (9, false), (10, false), (11, false), (12, false), (13, false), (14, false), (15, true), (16, false), (17, true)] (by kernel_rfl) (by kernel_rfl) (by kernel_rfl) (fun _ _ _ _ _ h => h) ?_
              intro W0 hS0
              repeat (first
                | (refine ordT_skip rfl rfl (by assumption) ?_; simp only [Act.put, List.setIfInBounds_toArray, List.set_cons_zero, List.set_cons_succ])
                | (refine ordT_cskip rfl rfl (by assumption) ?_; simp only [Act.put, List.setIfInBounds_toArray, List.set_cons_zero, List.set_cons_succ])
                | (refine ordT_take (v := ?_) rfl rfl (by assumption) ?_ ?_
                   rotate_left 1
                   focus (intro W hW; obtain ⟨hcW, hfW⟩ := bcell hW; (go_simp <;> with_reducible rfl))
                   simp only [Act.put, List.setIfInBounds_toArray, List.set_cons_zero, List.set_cons_succ])
                | (refine ordT_call rfl rfl (fun K hK => ?_)
                   obtain ⟨hcS, hfS⟩ := bcell hS0
                   go_simp
                   first
                     | (go_at_call 72; refine (HBY.out _ hS0).mono ?_; rintro e W1 ⟨rfl, hq⟩; have hS0 := hS0.trans ((Grown.of_draw hq).below.mono hS0.size); refine hK.out _ _ (fun _ => hS0) ?_)
                     | (refine hK.out _ _ (fun h => by cases h) ?_)))
              refine ordT_nil ?_
              have hRn := (Row.below hR6 hS0 rL).set_ m hm_
              rw [potRow_set] at hRn
              have HRN := Lib.hid (HRZ.out _ hRn)
              have HFN := Lib.hid ((hF6.below hS0 rl).far (p := ⟨gl, m, none⟩) (Ne.symm nLF) (.int .i64 hm_))
              have hBN : But2 gl gf w6 (W1.setCell ⟨gl, m, none⟩ (.int .i64 hm_)) := (But2.of_below hS0).set1 m (.int .i64 hm_)
              have HFRN : Hid (∀ v : Nat, N - (k + 1) ≤ v → v < N → FrOK gl gf (W1.setCell ⟨gl, m, none⟩ (.int .i64 hm_)) (updF V m (.slice (some ⟨gb, 0, none⟩) (onL g (m : Int)).length cap) v) (frL g (v : Int))) := fun v h1 h2 => by
                by_cases e : v = m
                · subst e; rw [updF_same]; exact HFRG.out.mono hBN
                · rw [updF_ne V _ e]; exact (HFR.out v (by have := HMK.out; have := HNK.out; omega) h2).mono (HB2W.out.trans hBN)
              have HVNN : Hid (∀ v : Nat, v < N - (k + 1) → updF V m (.slice (some ⟨gb, 0, none⟩) (onL g (m : Int)).length cap) v = .slice none 0 0) := fun v h1 => by
                rw [updF_ne V _ (by have := HNK.out; omega)]; exact HVN.out v (by omega)
              have HB2N := Lib.hid (HB2.out.trans (HB2W.out.trans hBN))
              have HBWN := Lib.hid ((bthen hBW6 hS0).setCell (p := ⟨gl, m, none⟩) (Nat.le_of_lt zlw) (.int .i64 hm_))
              clear hRn hBN
              go_wp2_with fail
              go_roundw
              case rel => exact ⟨k + 1, _, by omega, by omega, vint (by have := HMK.out; omega), HRN, HFN, HVNN, HFRN, HB2N, HBWN⟩
              case measure => first | (simp [intOf]; done) | (simp [intOf]; omega)
      · obtain rfl : N = k := by omega
        have HRE : Hid (Row wr gl (potL g)) := by
          show Row _ _ _
          unfold potL
          rw [HN.out, Int.toNat_natCast]
          have := HR.out
          rw [Nat.sub_self] at this
          exact this
        have HFE : Hid (SlR 1 RSl wr (some ⟨gf, 0, none⟩) (frAll g N)) := fun _ => by
          refine ⟨gf, 0, rfl, HF.out.lt, fun v x hv => ?_⟩
          have hvN : v < N := by have := (List.getElem?_eq_some_iff.1 hv).1; rw [frAll_len] at this; exact this
          rw [frAll_at g hvN] at hv
          obtain rfl := Option.some.inj hv
          obtain ⟨A', c', h1, h2, h3, h4⟩ := HFR.out v (by omega) hvN
          refine ⟨[V v], ⟨A', c', by rw [h1], h4 wr (But2.refl _ _ _), h2, h3⟩, rfl, fun j u hj => ?_⟩
          match j, hj with
          | 0, hj =>
            simp at hj
            subst hj
            rw [HF.out.cell]
            simp [hvN]
        obtain ⟨c0, c1, _, _, _⟩ := HC.out wr HB2.out
        have HT := Lib.hid c1
        have v0 := c0.cell 0
        simp at v0
        have hneg : (N : Int) - 1 - (N : Int) < 0 := by omega
        clear c0 c1 HR HF
        go_wp2_with fail
        go_ret
        exact ⟨bt, gl, gf, rfl, HT.out, HRE.out, HFE.out, HBW.out⟩
end Go.Proofs.YtfjkmgjjifhdkaaGreat
