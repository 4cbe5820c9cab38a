/-
  CxSort, CxWalkD, joined. No conditions.
-/
import Derived.Test.YtfjkmgjjifhdkaaGreatShelf
import Derived.Test.YtfjkmgjjifhdkaaGreatR26
import Derived.Test.YtfjkmgjjifhdkaaGreatR05
import Derived.Shelf.SlSortCmp.WholeK
import Derived.Test.YtfjkmgjjifhdkaaGreatR33
/-
  The walks of layer 20: pairs of numbers in memory, how two of them are compared, a row of them sorted.
-/
namespace Go.Proofs.YtfjkmgjjifhdkaaGreat
open Go Go.RowKit Go.Shelf Go.Lib Go.Sort

abbrev Pt := Int × Int
def encPt (p : Pt) : List Value := [.int .i64 p.1, .int .i64 p.2]
abbrev vPt (p : Pt) : Value := .agg #[.int .i64 p.1, .int .i64 p.2]
def RPt (_ : World) (p : Pt) (vs : List Value) : Prop := vs = [.int .i64 p.1, .int .i64 p.2]
theorem keeps_pt : Keeps RPt := fun _ _ _ _ _ h => h
theorem SlR.pt {w : World} {A : Option Addr} {k : Nat} {xs : List Pt} (h : SlR 2 RPt w A xs) (hk : k < xs.length) : ∃ b off x, A = some ⟨b, off, none⟩ ∧ b < w.heap.size ∧ xs[k]? = some x ∧
    w.cell? ⟨b, off + k * 2, none⟩ = some (.int .i64 x.1) ∧ w.cell? ⟨b, off + k * 2 + 1, none⟩ = some (.int .i64 x.2) := by
  obtain ⟨b, off, x, vs, hA, hlt, hx, hr, _, hv⟩ := h.at_ hk
  exact ⟨b, off, x, hA, hlt, hx, hv 0 _ (by rw [hr]; rfl), hv 1 _ (by rw [hr]; rfl)⟩
def cmpP (x y : Pt) : Int := cmpL [x.1, x.2] [y.1, y.2]
theorem lt_cmpP (x y : Pt) : ltOf cmpP x y = ltP x y := by
  unfold ltOf cmpP ltP
  rw [Bool.eq_iff_iff, decide_eq_true_iff, cmpL_lt]
  unfold lexLt lexLt lexLt
  by_cases h1 : x.1 < y.1
  · simp [h1]
  · by_cases h2 : y.1 < x.1
    · simp [h1, h2]; omega
    · have e : x.1 = y.1 := by omega
      by_cases h3 : x.2 < y.2
      · simp [e, h3]
      · simp [e, h3]
theorem swo_cmpP : SWO (ltOf cmpP) where
  irrefl x := by rw [lt_cmpP]; exact ltP_irr x
  trans x y z h1 h2 := by rw [lt_cmpP] at *; exact ltP_trans h1 h2
  ntrans x y z h1 h2 := by
    rw [lt_cmpP] at *
    cases h : ltP x z with
    | false => rfl
    | true =>
      rcases ltP_total y z with h3 | h3 | h3
      · rw [h3] at h2; cases h2
      · rw [h3] at h1; rw [h1] at h; cases h
      · rw [ltP_trans h h3] at h1; cases h1
/-- The world with draws and new blocks. -/
def GrownP (w W : World) : Prop := ∃ q os, W = grow (w.drewN q) os
theorem GrownP.start {w : World} : GrownP w w.drew := ⟨1, #[], by rw [grow_empty]; rfl⟩
theorem GrownP.refl (w : World) : GrownP w w := ⟨0, #[], by rw [grow_empty]; rfl⟩
theorem GrownP.below {w W : World} (h : GrownP w W) : RowKit.Below w.heap.size w W := by
  obtain ⟨q, os, rfl⟩ := h
  exact ⟨rfl, rfl, rfl, by show w.heap.size ≤ (w.heap ++ os).size; simp, fun k hk => by show (w.heap ++ os)[k]? = _; rw [Array.getElem?_append_left hk]⟩
theorem GrownP.trans {a b c : World} (h : GrownP a b) (h2 : GrownP b c) : GrownP a c := by
  obtain ⟨q, os, rfl⟩ := h
  obtain ⟨q2, os2, rfl⟩ := h2
  exact ⟨q + q2, os ++ os2, by rw [← grow_grow, ← World.drewN_drewN]; rfl⟩
theorem GrownP.alloc {w W : World} (h : GrownP w W) (o : Obj) : GrownP w (W.alloc o) := h.trans ⟨0, #[o], by rw [alloc_eq_grow]; rfl⟩
set_option maxRecDepth 100000 in
set_option maxHeartbeats 4000000 in
theorem closP_any (x y : Pt) (w : World) : Calls Tryz.prog 84 #[vPt x, vPt y] w fun e w' => e = .returned (.int .i64 (cmpP x y)) ∧ GrownP w w' := by
  obtain ⟨w2, hw2⟩ : ∃ w2, (w.alloc (.cells #[.int .i64 x.1, .int .i64 x.2] 117)).alloc (.cells #[.int .i64 y.1, .int .i64 y.2] 117) = w2 := ⟨_, rfl⟩
  have hG2 : GrownP w w2 := by rw [← hw2]; exact ((GrownP.refl w).alloc _).alloc _
  have hA : Blk w2 w.heap.size 117 ([x.1, x.2].map (Value.int .i64)).toArray := by rw [← hw2]; exact (Blk.new _ _ _).alloc _
  have hB : Blk w2 (w.heap.size + 1) 117 ([y.1, y.2].map (Value.int .i64)).toArray := by rw [← hw2]; exact Blk.new_ (by simp)
  have HW2 := Lib.hid hw2
  have HCC : Hid (∀ W, GrownP w2 W → Calls Tryz.prog 73 #[.slice (some ⟨w.heap.size, 0, none⟩) 2 2, .slice (some ⟨w.heap.size + 1, 0, none⟩) 2 2] W fun e w' => e = .returned (.int .i64 (cmpP x y)) ∧ W = w') := fun W hW => by
    have e1 := hA.below hW.below hA.lt
    have e2 := hB.below hW.below hB.lt
    exact compare_any (some ⟨w.heap.size, 0, none⟩) (some ⟨w.heap.size + 1, 0, none⟩) [x.1, x.2] [y.1, y.2] 2 2 W (slr_blk (enc := fun x => [Value.int .i64 x]) (by rw [flatMap_one]; exact e1) (fun _ => rfl) (fun _ => rfl)) (slr_blk (enc := fun x => [Value.int .i64 x]) (by rw [flatMap_one]; exact e2) (fun _ => rfl) (fun _ => rfl)) (by unfold maxLen; simp) (by unfold maxLen; simp)
  have HG := Lib.hid hG2
  have al := hA.lt
  have bl := hB.lt
  generalize cmpP x y = cv at *
  clear hw2 hG2 hA hB
  go_enter Tryz.func84, Tryz.ntmps84
  go_upto_region 1 with fail
  rw [HW2.out]
  refine ordB_start (GrownP w2) (.quiet 0 (.quiet 1 (.only 2 (.quiet 3 .done)))) (by kernel_rfl) (by kernel_rfl) (by kernel_rfl) (fun _ _ _ _ _ h => h) GrownP.start ?_
  have hV0 : GrownP w2 w2.drew := GrownP.start
  obtain ⟨V0, qqV0⟩ : ∃ W, w2.drew = W := ⟨_, rfl⟩
  rw [qqV0] at hV0 ⊢
  clear qqV0
  iterate 2 (first
    | (refine ordB_skip rfl rfl ?_; simp only [Act.put, List.setIfInBounds_toArray, List.set_cons_zero, List.set_cons_succ])
    | (refine ordB_take (v := ?_) rfl rfl ?_ ?_
       rotate_left 1
       focus (intro W hW; obtain ⟨hcW, hfW⟩ := bcell hW.below; (go_simp <;> with_reducible rfl))
       simp only [Act.put, List.setIfInBounds_toArray, List.set_cons_zero, List.set_cons_succ]))
  refine ordB_only (opB_call rfl rfl (fun K hK => ?_))
  go_simp
  go_at_call 73
  refine (HCC.out V0 hV0).mono ?_
  rintro e w' ⟨rfl, rfl⟩
  refine hK.out _ _ hV0 (fun hV0_1 => ?_)
  iterate 1 (first
    | (refine ordB_skip rfl rfl ?_; simp only [Act.put, List.setIfInBounds_toArray, List.set_cons_zero, List.set_cons_succ])
    | (refine ordB_take (v := ?_) rfl rfl ?_ ?_
       rotate_left 1
       focus (intro W hW; obtain ⟨hcW, hfW⟩ := bcell hW.below; (go_simp <;> with_reducible rfl))
       simp only [Act.put, List.setIfInBounds_toArray, List.set_cons_zero, List.set_cons_succ]))
  refine ordB_nil ?_
  go_wp2_with fail
  go_ret
  exact ⟨rfl, HG.out.trans hV0_1⟩
theorem swP_below {w : World} {blk off n base : Nat} {d : Array Pt} {os : Array Obj} (hb : base ≤ blk) (hbase : base ≤ w.heap.size) : Go.RowKit.Below base w (sortWorldK encPt 2 w blk off n d os) where
  os := rfl
  tape := rfl
  output := rfl
  size := by
    unfold sortWorldK
    rw [size_grow, size_putRowK]
    show w.heap.size ≤ w.heap.size + _
    omega
  block := fun k hk => by
    unfold sortWorldK
    have h1 : k < (putRowK encPt 2 (Sort.ahead w n) blk off d).heap.size := by rw [size_putRowK]; show k < w.heap.size; omega
    rw [heap_grow_old _ _ h1]
    show (w.heap.modify blk _)[k]? = _
    rw [Array.getElem?_modify, if_neg (by omega)]
theorem swP_but {w : World} {blk off n : Nat} {d : Array Pt} {os : Array Obj} : ButB blk w (sortWorldK encPt 2 w blk off n d os) where
  size := by
    unfold sortWorldK
    rw [size_grow, size_putRowK]
    show w.heap.size ≤ w.heap.size + _
    omega
  block := fun k hk hn => by
    unfold sortWorldK
    have h1 : k < (putRowK encPt 2 (Sort.ahead w n) blk off d).heap.size := by rw [size_putRowK]; show k < w.heap.size; omega
    rw [heap_grow_old _ _ h1]
    show (w.heap.modify blk _)[k]? = _
    rw [Array.getElem?_modify, if_neg (fun e => hn e.symm)]
theorem isAggP : ∀ w, (isAgg 117).run Tryz.prog w = .ok true w := Tryz.isAgg117
theorem sizeP : ∀ w, (Go.sizeOf 117).run Tryz.prog w = .ok 2 w := Tryz.sizeOf117
theorem holdsP_of {w : World} {blk off : Nat} {d : Array Pt} (h : ∀ i (hi : i < d.size), w.cell? ⟨blk, off + i * 2, none⟩ = some (.int .i64 d[i].1) ∧ w.cell? ⟨blk, off + i * 2 + 1, none⟩ = some (.int .i64 d[i].2) ∧
    w.frozen? ⟨blk, off + i * 2, none⟩ = false ∧ w.frozen? ⟨blk, off + i * 2 + 1, none⟩ = false) : HoldsK encPt 2 w blk off d := by
  intro j hj
  rw [size_flatK] at hj
  rw [get_flatK _ _ _ _ hj]
  have hi : j / 2 < d.size := by omega
  obtain ⟨h0, h1, h2, h3⟩ := h (j / 2) hi
  have e : d[j / 2]! = d[j / 2] := by rw [getElem!_pos d (j / 2) hi]
  rw [e]
  rcases Nat.mod_two_eq_zero_or_one j with hm | hm
  · rw [hm, show off + j = off + j / 2 * 2 by omega]
    exact ⟨h0, h2⟩
  · rw [hm, show off + j = off + j / 2 * 2 + 1 by omega]
    exact ⟨h1, h3⟩
theorem holdsP_to {w : World} {blk off : Nat} {d : Array Pt} (h : HoldsK encPt 2 w blk off d) (i : Nat) (hi : i < d.size) : w.cell? ⟨blk, off + i * 2, none⟩ = some (.int .i64 d[i].1) ∧ w.cell? ⟨blk, off + i * 2 + 1, none⟩ = some (.int .i64 d[i].2) ∧
    w.frozen? ⟨blk, off + i * 2, none⟩ = false ∧ w.frozen? ⟨blk, off + i * 2 + 1, none⟩ = false := by
  have h0 := h.cell hi (show 0 < 2 by omega)
  have h1 := h.cell hi (show 1 < 2 by omega)
  have e : d[i]! = d[i] := by rw [getElem!_pos d i hi]
  rw [e] at h0 h1
  exact ⟨h0.1, h1.1, h0.2, h1.2⟩
theorem holdsP_slr {w : World} {blk off : Nat} {d : Array Pt} (h : HoldsK encPt 2 w blk off d) (hb : blk < w.heap.size) : SlR 2 RPt w (some ⟨blk, off, none⟩) d.toList := fun _ => by
  refine ⟨blk, off, rfl, hb, fun k x hx => ⟨encPt x, rfl, rfl, fun j v hj => ?_⟩⟩
  obtain ⟨hk, rfl⟩ := List.getElem?_eq_some_iff.1 hx
  obtain ⟨h0, h1, _⟩ := holdsP_to h k (by simpa using hk)
  rw [Array.getElem_toList] at hj
  match j, hj with
  | 0, hj => simp [encPt] at hj; rw [← hj]; exact h0
  | 1, hj => simp [encPt] at hj; rw [← hj]; exact h1
  | j + 2, hj => simp [encPt] at hj
theorem own_holdsP {w : World} {base : Nat} {v : Value} {L : List Pt} (h : w.ownsRow base 117 2 v L.length (L.flatMap encPt)) (hn : L ≠ []) :
    ∃ g cap, v = .slice (some ⟨g, 0, none⟩) L.length cap ∧ base ≤ g ∧ g < w.heap.size ∧ L.length ≤ cap ∧ cap ≤ maxLen ∧ HoldsK encPt 2 w g 0 L.toArray := by
  have hs := own_slr (R := RPt) h (fun _ => rfl) (fun _ => rfl) rfl
  rcases h.2 with ⟨rfl, h0⟩ | ⟨g, cap, cur, rfl, hg, hh, hnc, hcm, hcs, htk⟩
  · exact absurd (List.length_eq_zero_iff.1 h0) hn
  · obtain ⟨A, cap', e, _, _, hslr⟩ := hs
    injection e with e1 _ e3
    subst e1
    subst e3
    obtain ⟨b, off, e, hb, hc⟩ := hslr hn
    injection e with e
    injection e with e1 e2
    subst e1
    subst e2
    have hB : Blk w g 117 cur := hh
    refine ⟨g, cap, rfl, hg, hb, hnc, hcm, holdsP_of fun i hi => ?_⟩
    simp at hi
    obtain ⟨vs, rfl, _, hv⟩ := hc i L[i] (List.getElem?_eq_getElem hi)
    exact ⟨by have := hv 0 _ rfl; simpa using this, by have := hv 1 _ rfl; simpa using this, hB.frozen _, hB.frozen _⟩
theorem permP {d d' : Array Pt} (h : PermIn 0 d.size d d') : d'.toList.Perm d.toList := by
  obtain ⟨h1, _, h3⟩ := h
  have e1 : d'.extract 0 d.size = d' := by rw [← h1]; simp
  have e2 : d.extract 0 d.size = d := by simp
  rwa [e1, e2] at h3
theorem sortedP_pw {lt : Pt → Pt → Bool} {n : Nat} {d : Array Pt} (h : SortedIn lt 0 n d) (hn : d.size = n) : d.toList.Pairwise (fun x y => lt y x = false) := by
  rw [List.pairwise_iff_getElem]
  intro i j hi hj hij
  have := h i j (Nat.zero_le _) hij (by simp at hj; omega)
  simp at hi hj
  rw [getElem!_pos d j hj, getElem!_pos d i hi] at this
  simpa using this
set_option maxHeartbeats 2000000 in
/-- Pairs sorted in place. -/
theorem sortP_any (base : Nat) (v : Value) (L : List Pt) (w : World) (h : w.ownsRow base 117 2 v L.length (L.flatMap encPt)) (hn : L ≠ []) (hlen : L.length ≤ 50000) :
    Calls Tryz.prog 83 #[v, .func (.func 84) #[] #[]] w fun e w' => e = .returned (.tuple #[]) ∧
      ∃ g cap L', v = .slice (some ⟨g, 0, none⟩) L.length cap ∧ base ≤ g ∧ L'.Perm L ∧ L'.Pairwise LeP ∧ SlR 2 RPt w' (some ⟨g, 0, none⟩) L' ∧ ButB g w w' ∧ ∀ b, b ≤ g → Go.RowKit.Below b w w' := by
  obtain ⟨g, cap, rfl, hg, hgl, hnc, hcm, hH⟩ := own_holdsP h hn
  have eg : ∀ args w, (callFunc 84 args).run Tryz.prog w = .ok (.enter 84 args) w := enters_of Tryz.func84 (by kernel_rfl) rfl
  have hcmp : CmpLays Tryz.prog 84 #[] encPt 2 cmpP g 0 L.toArray.size w := fun m os dk hdk x y => by
    refine (closP_any x y _).mono ?_
    rintro e w' ⟨rfl, q, os', rfl⟩
    exact ⟨rfl, q, os', rfl⟩
  have hcon := AnyQ.slices_SortFunc Tryz.sortPrs 2 isAggP sizeP encPt (fun _ => rfl) (fun x v hv => by simp [encPt] at hv; rcases hv with rfl | rfl <;> rfl) cmpP swo_cmpP 84 #[] g 0 cap L.toArray w eg hcmp hH (by omega) (by simp; omega)
  change Calls Tryz.prog 83 _ _ _ at hcon
  rw [show L.toArray.size = L.length by simp] at hcon
  refine hcon.mono ?_
  rintro e w' ⟨rfl, d', n, os, hp, hs, rfl⟩
  have hds : d'.size = L.length := by have := hp.1; simpa using this
  have hH' : HoldsK encPt 2 (sortWorldK encPt 2 w g 0 n d' os) g 0 d' := holdsK_sortWorldK_c _ _ _ _ _ L.toArray d' n os hH (by omega) (by have := hp.1; simpa using this)
  refine ⟨rfl, g, cap, d'.toList, rfl, hg, ?_, ?_, holdsP_slr hH' (Nat.lt_of_lt_of_le hgl swP_but.size), swP_but, fun b hb => swP_below hb (by omega)⟩
  · have hp' : PermIn 0 L.toArray.size L.toArray d' := by rw [show L.toArray.size = L.length by simp]; exact hp
    have := permP hp'
    simpa using this
  · refine (sortedP_pw hs hds).imp fun {a b} h => ?_
    rw [lt_cmpP] at h
    exact h
end Go.Proofs.YtfjkmgjjifhdkaaGreat

/-
  The walks of layer 20: the nodes of a lattice's graph.
-/
namespace Go.Proofs.YtfjkmgjjifhdkaaGreat
open Go Go.RowKit

theorem a2_info : (Tryz.prog.info? 117).map (fun i => (i.zero, i.size, i.bytes)) = some (some (.agg #[.int .i64 0, .int .i64 0]), 2, 16) := by kernel_rfl
set_option maxRecDepth 100000 in
theorem run_eqA2 (a b c d : Int) (W : World) : (Op.equalIn 10000 117 (.agg #[.int .i64 a, .int .i64 b]) (.agg #[.int .i64 c, .int .i64 d])).run Tryz.prog W = .ok (decide (a = c) && decide (b = d)) W := by
  have hp : Tryz.prog.plainKey 3 = true := by kernel_rfl
  have hc : Tryz.prog.cellsOf 3 = 1 := by kernel_rfl
  obtain ⟨j0, hj, _, _, _⟩ := info_parts (show (Tryz.prog.info? 3).map (fun i => (i.zero, i.size, i.bytes)) = some (some (.int .i64 0), 1, 8) by kernel_rfl)
  rw [run_equalIn_array W 9999 _ _ Tryz.underlying117 hj, hc]
  have p0 : (part 3 #[.int .i64 a, .int .i64 b] 0).run Tryz.prog W = .ok (.int .i64 a) W := run_part_plain W hp rfl
  have p1 : (part 3 #[.int .i64 a, .int .i64 b] 1).run Tryz.prog W = .ok (.int .i64 b) W := run_part_plain W hp rfl
  have p2 : (part 3 #[.int .i64 c, .int .i64 d] 0).run Tryz.prog W = .ok (.int .i64 c) W := run_part_plain W hp rfl
  have p3 : (part 3 #[.int .i64 c, .int .i64 d] 1).run Tryz.prog W = .ok (.int .i64 d) W := run_part_plain W hp rfl
  have q0 : (Op.equalIn 9999 3 (.int .i64 a) (.int .i64 c)).run Tryz.prog W = .ok (a == c) W := run_equalIn_int W 9998 3 .i64 .i64 a c Tryz.underlying3
  have q1 : (Op.equalIn 9999 3 (.int .i64 b) (.int .i64 d)).run Tryz.prog W = .ok (b == d) W := run_equalIn_int W 9998 3 .i64 .i64 b d Tryz.underlying3
  have e1 : (Op.eqItems 9999 3 1 #[.int .i64 a, .int .i64 b] #[.int .i64 c, .int .i64 d] [1]).run Tryz.prog W = .ok (b == d) W := by
    simp only [Op.eqItems, Sem.run_bind, Nat.one_mul, p1, p3, Result.andThen_ok, q1]
    cases (b == d) <;> simp
  have e0 : (Op.eqItems 9999 3 1 #[.int .i64 a, .int .i64 b] #[.int .i64 c, .int .i64 d] [0, 1]).run Tryz.prog W = .ok ((a == c) && (b == d)) W := by
    rw [Op.eqItems]
    simp only [Sem.run_bind, Nat.zero_mul, p0, p2, Result.andThen_ok, q0]
    cases (a == c)
    · simp
    · simpa using e1
  have e2 : ((a == c) && (b == d)) = (decide (a = c) && decide (b = d)) := by
    by_cases h1 : a = c <;> by_cases h2 : b = d <;> simp [h1, h2]
  rw [← e2]
  exact e0
theorem slr_block {α : Type} {s : Nat} {R : World → α → List Value → Prop} {w w' : World} {g : Nat} {L : List α} (h : SlR s R w (some ⟨g, 0, none⟩) L) (hR : ∀ x vs, R w x vs → R w' x vs) (hb : w'.heap[g]? = w.heap[g]?) (hlt : g < w'.heap.size) : SlR s R w' (some ⟨g, 0, none⟩) L := fun hn => by
  obtain ⟨b, off, hA, _, hc⟩ := h hn
  obtain ⟨rfl, rfl⟩ : g = b ∧ 0 = off := by simpa using hA
  refine ⟨g, 0, rfl, hlt, fun k x hx => ?_⟩
  obtain ⟨vs, h1, h2, h3⟩ := hc k x hx
  exact ⟨vs, hR _ _ h1, h2, fun j v hj => (World.cell?_of_block hb).trans (h3 j v hj)⟩
theorem flat_snoc {α : Type} {enc : α → List Value} (L : List α) (p : α) : (L ++ [p]).flatMap enc = L.flatMap enc ++ enc p := by simp
theorem ddp_len (acc l : List (Int × Int)) : (ddp acc l).length ≤ acc.length + l.length ∧ acc.length ≤ (ddp acc l).length := by
  induction l generalizing acc with
  | nil => exact ⟨Nat.le_refl _, Nat.le_refl _⟩
  | cons p l ih =>
    unfold ddp
    split
    · have := ih acc; simp; omega
    · have := ih (acc ++ [p]); simp at this ⊢; omega
set_option maxRecDepth 100000 in
set_option maxHeartbeats 8000000 in
theorem nodes_any (x : La) (A : Option Addr) (c : Nat) (prev : Int) (w : World) (hx : SlR 4 REd w A x.es) (hok : LaOK x) :
    Calls Tryz.prog 46 #[.agg #[.int .i64 x.n, .slice A x.es.length c], .int .i64 prev] w fun e w' => ∃ B c', e = .returned (.slice B (nodesL x prev).length c') ∧ SlR 2 RPt w' B (nodesL x prev) ∧ Below w.heap.size w w' := by
  obtain ⟨i0, hi, hz0, hz1, hz2⟩ := info_parts a2_info
  obtain ⟨w1, hw1⟩ : ∃ w1, w.alloc (.cells #[.int .i64 x.n, .slice A x.es.length c] 27) = w1 := ⟨_, rfl⟩
  have hb1 : Below w.heap.size w w1 := by rw [← hw1]; exact nw _ (Below.refl _ _)
  have hB1 : Blk w1 w.heap.size 27 #[.int .i64 x.n, .slice A x.es.length c] := by rw [← hw1]; exact Blk.new _ _ _
  have HW1 := Lib.hid hw1
  have c0 := hB1.cell 0
  have c1 := hB1.cell 1
  have lb := hB1.lt
  simp at c0 c1
  obtain ⟨W1, hW1⟩ : ∃ W, w1.alloc (.cells #[.int .i64 0, .int .i64 prev] 117) = W := ⟨_, rfl⟩
  have hbW : Below w1.heap.size w1 W1 := by rw [← hW1]; exact nw _ (Below.refl _ _)
  have hO1 : W1.ownsRow w1.heap.size 117 2 (.slice (some ⟨w1.heap.size, 0, none⟩) 1 1) 1 [.int .i64 0, .int .i64 prev] := by rw [← hW1]; exact own_lit w1 #[.int .i64 0, .int .i64 prev] 117 2 1 w1.heap.size w1.heap.size rfl (Nat.le_refl _) rfl (by decide)
  have hsz1 : W1.heap.size = w1.heap.size + 1 := by rw [← hW1]; simp
  have HWW := Lib.hid hW1
  obtain ⟨b1, hb1e⟩ : ∃ b, w1.heap.size = b := ⟨_, rfl⟩
  have hB2 := hB1.below hbW hB1.lt
  rw [hb1e] at hO1 hsz1
  have HBE := Lib.hid hb1e
  have hbWW := bthen hb1 hbW
  have hwb : w.heap.size ≤ b1 := by rw [← hb1e]; exact hb1.size
  have k0 := hB2.cell 0
  have k1 := hB2.cell 1
  have kl := hB2.lt
  simp at k0 k1
  have hlen : x.es.length ≤ 20000 := hok.2.1
  have hn40 := hok.1
  have HOK := Lib.hid hok
  have HX : Hid (∀ W, Below b1 W1 W → SlR 4 REd W A x.es) := fun W hW => hx.below keeps_ed (hbWW.trans (hW.mono hwb))
  have HSZ := Lib.hid hsz1
  clear hw1 hW1 hb1e hbW hx hok hsz1
  by_cases hn : x.n = 0
  · have HR : Hid (nodesL x prev = [(0, prev)]) := by show _ = _; unfold nodesL tailL; rw [if_pos hn]
    have z1 : (x.n == 0) = true := by simpa using hn
    clear hn
    go_enter Tryz.func46, Tryz.ntmps46
    go_upto_region 1 with fail
    rw [HW1.out]
    go_upto_region 2 with fail
    rw [HWW.out, HBE.out]
    go_wp2_with fail
    go_ret
    obtain ⟨B, c', he, _, _, hs⟩ := own_slr (α := Pt) (enc := encPt) (R := RPt) (xs := [(0, prev)]) hO1 (fun _ => rfl) (fun _ => rfl) rfl
    rw [HR.out]
    injection he with e1 _ e3
    subst e1 e3
    exact ⟨_, _, rfl, hs, hbWW⟩
  have z1 : (x.n == 0) = false := by simpa using hn
  go_enter Tryz.func46, Tryz.ntmps46
  go_upto_region 1 with fail
  rw [HW1.out]
  go_upto_region 2 with fail
  rw [HWW.out, HBE.out]
  go_upto_region 5 with fail
  obtain ⟨W2, hW2⟩ : ∃ W, W1.alloc (.cells #[.int .i64 x.n, .int .i64 (-1)] 117) = W := ⟨_, rfl⟩
  have hb2 : Below W1.heap.size W1 W2 := by rw [← hW2]; exact nw _ (Below.refl _ _)
  have hO2 : W2.ownsRow W1.heap.size 117 2 (.slice (some ⟨W1.heap.size, 0, none⟩) 1 1) 1 [.int .i64 x.n, .int .i64 (-1)] := by rw [← hW2]; exact own_lit W1 #[.int .i64 x.n, .int .i64 (-1)] 117 2 1 W1.heap.size W1.heap.size rfl (Nat.le_refl _) rfl (by decide)
  rw [hW2]
  rw [HSZ.out] at hO2 ⊢
  have hsz1 := HSZ.out
  have hO1 := own_below hO1 hb2
  have hB3 := hB2.below hb2 hB2.lt
  have HX : Hid (∀ W, Below (b1 + 1) W2 W → SlR 4 REd W A x.es) := fun W hW => HX.out W (((hb2.mono (by omega)).trans (hW.mono (by omega))))
  have k0 := hB3.cell 0
  have k1 := hB3.cell 1
  have kl := hB3.lt
  simp at k0 k1
  have hsz2 : W2.heap.size = b1 + 2 := by rw [← hW2]; simp; omega
  have HO2 := Lib.hid hO2
  have HO1 := Lib.hid hO1
  have HBW2 := Lib.hid (hbWW.trans (hb2.mono hbWW.size))
  have hLb : w.heap.size < b1 + 1 := by omega
  have HB12 := Lib.hid hb2
  clear hW2 hB2 hO2 hO1 hb2
  go_wp2_with fail
  go_loopw [6, 25] (fun v i wr => ∃ (k : Nat) (V : Value), k ≤ x.es.length ∧ V = v ∧ i = .int .i64 k ∧ Hid (wr.ownsRow (b1 + 1) 117 2 V (k + 1) (((x.n, -1) :: (x.es.take k).map (arrL x.n)).flatMap encPt)) ∧ Below (b1 + 1) W2 wr) (fun _ i _ => x.es.length - (intOf i).toNat)
  case atStart => exact ⟨0, _, by omega, rfl, rfl, HO2, Below.refl _ _⟩
  case round =>
    obtain ⟨k, V, hk, rfl, rfl, HO, hbr⟩ := hrel
    have hB4 := hB3.below hbr hLb
    have r0 := hB4.cell 0
    have r1 := hB4.cell 1
    have rl := hB4.lt
    simp at r0 r1
    have HBr := Lib.hid hbr
    by_cases hlt : k < x.es.length
    · obtain ⟨b, off, e, rfl, hbb, hee, d0, d1, d2, d3⟩ := (HX.out _ hbr).ed hlt
      have HTS : Hid ((x.n, -1) :: (x.es.take (k + 1)).map (arrL x.n) = ((x.n, -1) :: (x.es.take k).map (arrL x.n)) ++ [arrL x.n e]) := by show _ = _; rw [take_snoc_of hee, List.map_append]; rfl
      have HAR : Hid (∀ W, Calls Tryz.prog 48 #[.agg #[.int .i64 x.n, .slice (some ⟨b, off, none⟩) x.es.length c], vEd e] W fun r w' => r = .returned (vPt (arrL x.n e)) ∧ Below W.heap.size W w') := fun W => arrival_any x (some ⟨b, off, none⟩) c e W
      obtain ⟨p, hp⟩ : ∃ p, arrL x.n e = p := ⟨_, rfl⟩
      rw [hp] at HAR HTS
      clear hee hp hbr hB4
      have hk2 : k + 1 ≤ 1000000 := by omega
      have hbs : b1 + 1 ≤ wr.heap.size := by have := HBr.out.size; omega
      go_wp2_with (first | (go_at_call 48; go_loud (refine (HAR.out _).mono ?_; rintro r w3 ⟨rfl, hb3⟩; have hs3 := hb3.size; simp at hs3)) | (at_builtin; refine wpList_app1 rfl _ _ 114 rfl (b1 + 1) 117 i0 _ 2 16 Tryz.underlying114 hi hz0 hz1 hz2 rfl (by decide) _ _ _ rfl w3 [.int .i64 p.1, .int .i64 p.2] rfl (own_below HO.out ((nw _ (Below.refl wr.heap.size wr)).trans (hb3.mono (by simp)))) _ rfl (by simp) rfl (by simp [Value.oneCell']) hk2 (by decide) (by omega) ?_; intro v2 w4 hown2 hb4 ha4))
      go_roundw
      case rel => exact ⟨k + 1, _, by omega, rfl, by go_num, (by
        show w4.ownsRow _ _ _ _ _ _
        rw [HTS.out, flat_snoc]
        exact hown2), (HBr.out.trans (((nw _ (Below.refl wr.heap.size wr)).trans (hb3.mono (by simp))).mono hbs)).trans hb4⟩
      case measure => simp [intOf]; omega
    · obtain rfl : k = x.es.length := by omega
      have hO := HO.out
      rw [List.take_length] at hO
      have hal : (allL x).length = x.es.length + 1 := by simp [allL]
      have hso := sortP_any (b1 + 1) V (allL x) wr (by rw [hal]; exact hO) (by simp [allL]) (by omega)
      obtain ⟨n2, hn2⟩ : ∃ n, (allL x).length = n := ⟨_, rfl⟩
      rw [hn2] at hso hal
      have HSO := Lib.hid hso
      have HN2 := Lib.hid hn2
      have hn2b : n2 ≤ 20001 := by omega
      have HAL := Lib.hid hal
      clear hO hso hn2 hal HO hB4 r0 r1 rl hbr
      go_upto_region 11 with (go_at_call 83; go_loud (refine HSO.out.mono ?_; rintro r ws ⟨rfl, g, cap, L', hv, hg, hp, hs, hsl, hbut, hbel⟩))
      subst hv
      have hpl : L'.length = n2 := by rw [hp.length_eq, HN2.out]
      have hn21 : 1 ≤ n2 := by have := HAL.out; omega
      have hgs : g < ws.heap.size := by
        obtain ⟨b, off, q, hA, hbb, _⟩ := hsl.pt (k := 0) (by omega)
        obtain ⟨rfl, _⟩ : g = b ∧ 0 = off := by simpa using hA
        exact hbb
      have hBB : Below (b1 + 1) W2 ws := HBr.out.trans (hbel (b1 + 1) hg)
      have hOE : ws.ownsRow b1 117 2 (.slice (some ⟨b1, 0, none⟩) 1 1) 1 [.int .i64 0, .int .i64 prev] := own_keep HO1.out fun g' hg' hl => by
        have : b1 = g' := by simpa [Value.ownBlock] using hg'
        exact hBB.block g' (by omega)
      have hWs : Below b1 W1 ws := (HB12.out.mono (by omega)).trans (hBB.mono (by omega))
      have HPM := Lib.hid (And.intro hp hs)
      have HSL := Lib.hid hsl
      have HOE := Lib.hid hOE
      have HWs := Lib.hid hWs
      have hg1 : b1 ≠ g := by omega
      clear hp hs hsl hbut hbel hBB hOE hWs HSO HBr
      go_wp2_with fail
      go_loopw [5, 40] (fun v i wr => ∃ (k : Nat) (V : Value), k ≤ n2 ∧ V = v ∧ i = .int .i64 k ∧ Hid (wr.ownsRow b1 117 2 V (ddp [(0, prev)] (L'.take k)).length ((ddp [(0, prev)] (L'.take k)).flatMap encPt)) ∧ V.ownBlock ≠ some g ∧ Hid (wr.heap[g]? = ws.heap[g]?) ∧ ws.heap.size ≤ wr.heap.size ∧ Below b1 W1 wr) (fun _ i _ => n2 - (intOf i).toNat)
      case atStart => exact ⟨0, _, by omega, rfl, rfl, HOE, by simp [Value.ownBlock]; exact hg1, rfl, Nat.le_refl _, HWs.out⟩
      case round =>
        obtain ⟨k, V, hk, rfl, rfl, HO, hvg, HGE, hsw, hbr⟩ := hrel
        have hgw : g < wr.heap.size := by omega
        by_cases hlt : k < n2
        · obtain ⟨b, off, q, hA, hbb, hqq, d0, d1⟩ := (slr_block (w' := wr) HSL.out (fun _ _ h => h) HGE.out hgw).pt (k := k) (by omega)
          obtain ⟨rfl, rfl⟩ : g = b ∧ 0 = off := by simpa using hA
          rw [Nat.zero_add] at d0 d1
          have HDD : Hid (ddp [(0, prev)] (L'.take (k + 1)) = if (ddp [(0, prev)] (L'.take k)).getLast? = some q then ddp [(0, prev)] (L'.take k) else ddp [(0, prev)] (L'.take k) ++ [q]) := by show _ = _; rw [take_snoc_of hqq, ddp_snoc]
          have hlen2 : 1 ≤ (ddp [(0, prev)] (L'.take k)).length ∧ (ddp [(0, prev)] (L'.take k)).length ≤ k + 1 := by
            have := ddp_len [(0, prev)] (L'.take k)
            rw [List.length_take] at this
            simp at this
            omega
          generalize ddp [(0, prev)] (L'.take k) = acc at *
          obtain ⟨B5, c5, hV, hc5, hcm5, hs5⟩ := own_slr (R := RPt) HO.out (fun _ => rfl) (fun _ => rfl) rfl
          subst hV
          obtain ⟨j, hj⟩ : ∃ j, acc.length = j + 1 := ⟨acc.length - 1, by omega⟩
          obtain ⟨b', off', z, rfl, hbb', hzz, f0, f1⟩ := hs5.pt (k := j) (by omega)
          have hlz : acc.getLast? = some z := by rw [List.getLast?_eq_getElem?, hj]; exact hzz
          rw [hlz] at HDD
          have hj1 : IntKind.i64.wrap ((acc.length : Int) - 1) = (j : Int) := by rw [IntWalk.i64_in _ (by omega)]; omega
          have hj1' : (acc.length : Int) - 1 = (j : Int) := by omega
          have hj2 : IntKind.i64.wrap (j : Int) = (j : Int) := IntWalk.i64_in _ (by omega)
          have hj3 : (j : Int) < (acc.length : Int) := by omega
          have hj4 : (0 : Int) ≤ (j : Int) := by omega
          have HJ := Lib.hid hj
          clear hA hqq hs5 hlz hzz hj
          go_upto_region 14 with fail
          obtain ⟨W3, hW3⟩ : ∃ W, wr.alloc (.cells #[.int .i64 q.1, .int .i64 q.2] 117) = W := ⟨_, rfl⟩
          have hb3 : Below wr.heap.size wr W3 := by rw [← hW3]; exact nw _ (Below.refl _ _)
          have hQ : Blk W3 wr.heap.size 117 #[.int .i64 q.1, .int .i64 q.2] := by rw [← hW3]; exact Blk.new _ _ _
          rw [hW3]
          have e0 := hQ.cell 0
          have e1 := hQ.cell 1
          have el := hQ.lt
          simp at e0 e1
          have f0 := ((bcell hb3).1 _ _ hbb').trans f0
          have f1 := ((bcell hb3).1 _ _ hbb').trans f1
          have hbb' := Nat.lt_of_lt_of_le hbb' hb3.size
          have HO3 := Lib.hid (own_below HO.out hb3)
          have HGE3 : Hid (W3.heap[g]? = ws.heap[g]?) := (hb3.block g hgw).trans HGE.out
          have HB3 := Lib.hid (hbr.trans (hb3.mono (show b1 ≤ wr.heap.size by have := hbr.size; omega)))
          have HS3 := Lib.hid hb3.size
          obtain ⟨tQ, htQ⟩ : ∃ b, wr.heap.size = b := ⟨_, rfl⟩
          have HTQ := Lib.hid htQ
          rw [htQ] at hQ e0 e1 el ⊢
          clear hW3 d0 d1 hbb hb3 hbr htQ
          have HEQ := fun W => run_eqA2 q.1 q.2 z.1 z.2 W
          by_cases hz : q = z
          · have hzb : (decide (q.1 = z.1) && decide (q.2 = z.2)) = true := by simp [hz]
            rw [hzb] at HEQ
            have HD2 : Hid (ddp [(0, prev)] (L'.take (k + 1)) = acc) := HDD.out.trans (if_pos (by rw [hz]))
            clear hz hzb
            refine ordB_below (.quiet 0 (.quiet 1 (.quiet 2 (.quiet 3 (.quiet 4 (.quiet 5 (.quiet 6 (.quiet 7 .done)))))))) (by kernel_rfl) (by kernel_rfl) (by kernel_rfl) (fun _ _ _ _ _ h => h) ?_
            intro V0 hV0
            iterate 8 (first
              | (refine ordB_skip rfl rfl ?_; simp only [Act.put, List.setIfInBounds_toArray, List.set_cons_zero, List.set_cons_succ])
              | (refine ordB_take (v := ?_) rfl rfl ?_ ?_
                 rotate_left 1
                 focus (intro W hW; obtain ⟨hcW, hfW⟩ := bcell hW; (go_simp <;> with_reducible rfl))
                 simp only [Act.put, List.setIfInBounds_toArray, List.set_cons_zero, List.set_cons_succ]))
            refine ordB_nil ?_
            have hgl3 : g < W3.heap.size := Nat.lt_of_lt_of_le hgw HS3.out
            have HGV : Hid (V0.heap[g]? = ws.heap[g]?) := (hV0.block g hgl3).trans HGE3.out
            have HBV := Lib.hid (HB3.out.trans (hV0.mono (show b1 ≤ W3.heap.size by have := HB3.out.size; omega)))
            have HOV := Lib.hid (own_below HO3.out hV0)
            have HSV := Lib.hid hV0.size
            have hswV : ws.heap.size ≤ V0.heap.size := by have := HSV.out; have := HS3.out; omega
            clear e0 e1 el f0 f1 hbb'
            go_wp2_with fail
            go_roundw
            case rel => exact ⟨k + 1, _, by omega, rfl, by go_num, (by show V0.ownsRow _ _ _ _ _ _; rw [HD2.out]; exact HOV.out), hvg, HGV, hswV, HBV.out⟩
            case measure => simp [intOf]; omega
          · have hzb : (decide (q.1 = z.1) && decide (q.2 = z.2)) = false := by
              rw [Bool.eq_false_iff]; intro h; simp at h; exact hz (Prod.ext h.1 h.2)
            rw [hzb] at HEQ
            have HD2 : Hid (ddp [(0, prev)] (L'.take (k + 1)) = acc ++ [q]) := HDD.out.trans (if_neg fun h => hz (Option.some.inj h).symm)
            clear hz hzb
            refine ordB_below (.quiet 0 (.quiet 1 (.quiet 2 (.quiet 3 (.quiet 4 (.quiet 5 (.quiet 6 (.quiet 7 .done)))))))) (by kernel_rfl) (by kernel_rfl) (by kernel_rfl) (fun _ _ _ _ _ h => h) ?_
            intro V0 hV0
            iterate 8 (first
              | (refine ordB_skip rfl rfl ?_; simp only [Act.put, List.setIfInBounds_toArray, List.set_cons_zero, List.set_cons_succ])
              | (refine ordB_take (v := ?_) rfl rfl ?_ ?_
                 rotate_left 1
                 focus (intro W hW; obtain ⟨hcW, hfW⟩ := bcell hW; (go_simp <;> with_reducible rfl))
                 simp only [Act.put, List.setIfInBounds_toArray, List.set_cons_zero, List.set_cons_succ]))
            refine ordB_nil ?_
            have hgl3 : g < W3.heap.size := Nat.lt_of_lt_of_le hgw HS3.out
            have HGV : Hid (V0.heap[g]? = ws.heap[g]?) := (hV0.block g hgl3).trans HGE3.out
            have HBV := Lib.hid (HB3.out.trans (hV0.mono (show b1 ≤ W3.heap.size by have := HB3.out.size; omega)))
            have HOV := Lib.hid (own_below HO3.out hV0)
            have HSV := Lib.hid hV0.size
            have g0 := ((bcell hV0).1 _ _ el).trans e0
            have g1 := ((bcell hV0).1 _ _ el).trans e1
            have hgl := Nat.lt_of_lt_of_le el hV0.size
            have hswV : ws.heap.size ≤ V0.heap.size := by have := HSV.out; have := HS3.out; omega
            have hbsV : b1 ≤ V0.heap.size := by have := HBV.out.size; omega
            have hacc : acc.length ≤ 1000000 := by omega
            clear e0 e1 el f0 f1 hbb'
            go_wp2_with (at_builtin; refine wpList_app1 rfl _ _ 114 rfl (b1) 117 i0 _ 2 16 Tryz.underlying114 hi hz0 hz1 hz2 rfl (by decide) _ _ _ rfl V0 [.int .i64 q.1, .int .i64 q.2] rfl HOV.out _ rfl (by simp) rfl (by simp [Value.oneCell']) hacc (by decide) hbsV ?_; intro v2 w4 hown2 hb4 ha4)
            go_roundw
            case rel => exact ⟨k + 1, _, by omega, rfl, by go_num, (by show w4.ownsRow _ _ _ _ _ _; rw [HD2.out, List.length_append, flat_snoc]; exact hown2), ha4.ne (Nat.lt_of_lt_of_le hgl3 HSV.out) hvg, (ha4.keep g (Nat.lt_of_lt_of_le hgl3 HSV.out) hvg).trans HGV.out, Nat.le_trans hswV (by have := hb4.size; omega), HBV.out.trans hb4⟩
            case measure => simp [intOf]; omega
        · obtain rfl : k = n2 := by omega
          have hO := HO.out
          rw [List.take_of_length_le (by omega), nodes_of hn (allL_pos HOK.out hn) HPM.out.1 HPM.out.2] at hO
          obtain ⟨B5, c5, hV, hc5, hcm5, hs5⟩ := own_slr (R := RPt) hO (fun _ => rfl) (fun _ => rfl) rfl
          have HBE := Lib.hid (hbWW.trans (hbr.mono hwb))
          subst hV
          clear hO HO hbr
          go_wp2_with fail
          go_ret
          exact ⟨_, _, rfl, hs5, HBE.out⟩
end Go.Proofs.YtfjkmgjjifhdkaaGreat
