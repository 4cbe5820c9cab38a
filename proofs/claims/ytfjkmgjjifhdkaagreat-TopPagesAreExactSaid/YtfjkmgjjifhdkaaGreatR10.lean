/-
  The walks of layer 15: words for groups in memory; by, place, earlier; the order of a node's links.
-/
import Derived.Test.YtfjkmgjjifhdkaaGreatR08
import Derived.Test.YtfjkmgjjifhdkaaGreatR03
import Derived.Test.YtfjkmgjjifhdkaaGreatR07
import Derived.Test.YtfjkmgjjifhdkaaGreatR05
import Derived.Test.YtfjkmgjjifhdkaaGreatR09
namespace Go.Proofs.YtfjkmgjjifhdkaaGreat
open Go Go.RowKit

/-- A group as it lies in memory. -/
structure MG where
  A : Option Addr
  G : Gp
deriving Inhabited
def encMg (m : MG) : List Value := [(Value.slice m.A m.G.head.length m.G.head.length), .int .i64 (m.G.rank : Int), .int .i64 m.G.link, .int .i64 m.G.cost]
def aggMg (m : MG) : Value := .agg #[(Value.slice m.A m.G.head.length m.G.head.length), .int .i64 (m.G.rank : Int), .int .i64 m.G.link, .int .i64 m.G.cost]
def RMg (_ : World) (m : MG) (vs : List Value) : Prop := vs = encMg m
structure GMOK (w : World) (m : MG) : Prop where
  s : SlT w m.A m.G.head
  len : m.G.head.length ≤ 2000
def MGsOK (w : World) (ms : List MG) : Prop := ∀ m ∈ ms, GMOK w m
theorem GMOK.below {w w' : World} {m : MG} (h : GMOK w m) (hb : Below w.heap.size w w') : GMOK w' m := ⟨h.s.below hb, h.len⟩
set_option maxRecDepth 100000 in
set_option maxHeartbeats 4000000 in
theorem by_any (A : Option Addr) (c N tn : Nat) (n : Int) (vf : Value) (bt gl : Nat) (ls : List Lk) (hs : List Int) (i : Nat) (l : Lk) (h : Int) (w : World)
    (hT : Blk w bt 93 #[.int .i64 n, .slice A ls.length c, .slice (some ⟨gl, 0, none⟩) N N, vf]) (hls : SlR 4 RLk w A ls) (hi : ls[i]? = some l) (hto : l.to = (tn : Int)) (hR : Row w gl hs) (hh : hs[tn]? = some h) (htN : tn < N)
    (hc : 0 ≤ l.cost ∧ l.cost ≤ 1000000) (hhb : -1 ≤ h ∧ h ≤ 2000000000) :
    Calls Tryz.prog 72 #[.pointer (some ⟨bt, 0, none⟩), .int .i64 (i : Int)] w fun e w' => e = .returned (.int .i64 (l.cost + h)) ∧ ∃ q, w' = w.drewN q := by
  have hlt : i < ls.length := (List.getElem?_eq_some_iff.1 hi).1
  obtain ⟨b, off, l', rfl, hbb, hll, d0, d1, d2, d3⟩ := hls.lk hlt
  rw [hi] at hll
  obtain rfl := Option.some.inj hll
  have t0 := hT.cell 0
  have t1 := hT.cell 1
  have t2 := hT.cell 2
  have tl := hT.lt
  have rh := hR.cell hh
  have rl := hR.lt
  simp at t0 t1 t2
  rw [hto] at d1
  have h0 : (0 : Int) ≤ (tn : Int) := by omega
  have htN' : (tn : Int) < (N : Int) := by omega
  have hlt' : (i : Int) < (ls.length : Int) := by omega
  clear hi hto hll hh
  go_enter Tryz.func72, Tryz.ntmps72
  go_wp2_with fail
  go_quiet (fail)
  go_wp2_with fail
  go_ret
  exact ⟨ret_int (IntWalk.i64_in _ (by omega)), _, rfl⟩
set_option maxRecDepth 100000 in
set_option maxHeartbeats 4000000 in
theorem place_any (m : MG) (n : Nat) (w : World) (h : GMOK w m) (hn : n ≤ m.G.head.length) :
    Calls Tryz.prog 74 #[aggMg m, .int .i64 (n : Int)] w fun e w' => e = .returned (.int .i64 (placeM m.G n)) ∧ Below w.heap.size w w' := by
  obtain ⟨A, ⟨hd, rk, lk, co⟩⟩ := m
  obtain ⟨h, hlen⟩ := h
  simp only at h hlen hn
  unfold aggMg placeM
  dsimp only
  clear hn
  by_cases hlt : n < hd.length
  · obtain ⟨b, off, x, rfl, hbb, hx, hc⟩ := h.slr.int hlt
    have HR : (if n < hd.length then hd.getD n 0 else lk) = x := by
      rw [if_pos hlt, List.getD_eq_getElem?_getD, hx]; rfl
    rw [HR]
    clear hx h HR
    go_enter Tryz.func74, Tryz.ntmps74
    go_wp2_with fail
    go_ret
    exact ⟨rfl, (Below.refl _ _).alloc (Nat.le_refl _) _⟩
  · rw [if_neg hlt]
    clear h
    go_enter Tryz.func74, Tryz.ntmps74
    go_wp2_with fail
    go_ret
    exact ⟨rfl, (Below.refl _ _).alloc (Nat.le_refl _) _⟩
theorem cmpL_zero : ∀ (a b : List Int), a.length = b.length → ((cmpL a b = 0) ↔ a = b)
  | [], [], _ => by simp [cmpL]
  | x :: a, y :: b, h => by
    unfold cmpL
    by_cases h1 : x < y
    · simp [h1]; omega
    · by_cases h2 : y < x
      · simp [h1, h2]; omega
      · have : x = y := by omega
        subst this
        simp only [Int.lt_irrefl, if_false]
        rw [cmpL_zero a b (by simpa using h)]
        simp
  | [], _ :: _, h => by simp at h
  | _ :: _, [], h => by simp at h
set_option maxRecDepth 100000 in
set_option maxHeartbeats 8000000 in
theorem earlier_any (a b : MG) (w : World) (ha : GMOK w a) (hb : GMOK w b) :
    Calls Tryz.prog 35 #[aggMg a, aggMg b] w fun e w' => e = .returned (.bool (earlierM a.G b.G)) ∧ Below w.heap.size w w' := by
  have HPL : Hid (∀ (m : MG) (n : Nat) (w : World), GMOK w m → n ≤ m.G.head.length → Calls Tryz.prog 74 #[aggMg m, .int .i64 (n : Int)] w fun e w' => e = .returned (.int .i64 (placeM m.G n)) ∧ Below w.heap.size w w') := place_any
  obtain ⟨w1, hw1⟩ : ∃ w1, (w.alloc (.cells #[(Value.slice a.A a.G.head.length a.G.head.length), .int .i64 (a.G.rank : Int), .int .i64 a.G.link, .int .i64 a.G.cost] 100)).alloc (.cells #[(Value.slice b.A b.G.head.length b.G.head.length), .int .i64 (b.G.rank : Int), .int .i64 b.G.link, .int .i64 b.G.cost] 100) = w1 := ⟨_, rfl⟩
  have hb1 : Below w.heap.size w w1 := by rw [← hw1]; exact nw _ (nw _ (Below.refl _ _))
  have hA : Blk w1 w.heap.size 100 #[(Value.slice a.A a.G.head.length a.G.head.length), .int .i64 (a.G.rank : Int), .int .i64 a.G.link, .int .i64 a.G.cost] := by rw [← hw1]; exact (Blk.new _ _ _).alloc _
  have hB : Blk w1 (w.heap.size + 1) 100 #[(Value.slice b.A b.G.head.length b.G.head.length), .int .i64 (b.G.rank : Int), .int .i64 b.G.link, .int .i64 b.G.cost] := by rw [← hw1]; exact Blk.new_ (by simp)
  have HW1 := Lib.hid hw1
  have HA := Lib.hid (ha.below hb1)
  have HB := Lib.hid (hb.below hb1)
  clear hw1 ha hb
  have a0 := hA.cell 0
  have a3 := hA.cell 3
  have b0 := hB.cell 0
  have b3 := hB.cell 3
  have al := hA.lt
  have bl := hB.lt
  simp at a0 a3 b0 b3
  have HE : Hid (earlierM a.G b.G = if a.G.cost ≠ b.G.cost then decide (a.G.cost < b.G.cost) else
    if a.G.head.take (min a.G.head.length b.G.head.length) ≠ b.G.head.take (min a.G.head.length b.G.head.length) then lexLt (a.G.head.take (min a.G.head.length b.G.head.length)) (b.G.head.take (min a.G.head.length b.G.head.length))
    else decide (placeM a.G (min a.G.head.length b.G.head.length) < placeM b.G (min a.G.head.length b.G.head.length))) := rfl
  have hal := HA.out.len
  have hbl := HB.out.len
  have a1 := hA.cell 1
  have a2 := hA.cell 2
  have b1 := hB.cell 1
  have b2 := hB.cell 2
  simp at a1 a2 b1 b2
  obtain ⟨n, hn⟩ : ∃ n, min a.G.head.length b.G.head.length = n := ⟨_, rfl⟩
  rw [hn] at HE
  have HMI : Hid ((if b.G.head.length < a.G.head.length then (b.G.head.length : Int) else (a.G.head.length : Int)) = (n : Int)) := by
    show _ = _
    split <;> omega
  have hna : n ≤ a.G.head.length := by omega
  have hnb : n ≤ b.G.head.length := by omega
  have hna' : (n : Int) ≤ (a.G.head.length : Int) := by omega
  have hnb' : (n : Int) ≤ (b.G.head.length : Int) := by omega
  have hn0 : (0 : Int) ≤ (n : Int) := by omega
  have HCC : Hid (∀ W, Below w1.heap.size w1 W → Calls Tryz.prog 73 #[.slice a.A n a.G.head.length, .slice b.A n b.G.head.length] W fun e w' => e = .returned (.int .i64 (cmpL (a.G.head.take n) (b.G.head.take n))) ∧ W = w') := fun W hW => by
    have h := compare_any a.A b.A (a.G.head.take n) (b.G.head.take n) a.G.head.length b.G.head.length W ((HA.out.below hW).s.take n).slr ((HB.out.below hW).s.take n).slr (by unfold maxLen; simp; omega) (by unfold maxLen; simp; omega)
    rw [List.length_take, List.length_take, Nat.min_eq_left hna, Nat.min_eq_left hnb] at h
    exact h
  have HZ : Hid (cmpL (a.G.head.take n) (b.G.head.take n) = 0 ↔ a.G.head.take n = b.G.head.take n) := cmpL_zero _ _ (by simp; omega)
  have HLT : Hid (cmpL (a.G.head.take n) (b.G.head.take n) < 0 ↔ lexLt (a.G.head.take n) (b.G.head.take n) = true) := cmpL_lt _ _
  clear hn
  by_cases hc : a.G.cost = b.G.cost
  · have HC := Lib.hid hc
    have e1 : (a.G.cost != b.G.cost) = false := by simpa using hc
    clear hc
    unfold aggMg
    go_enter Tryz.func35, Tryz.ntmps35
    go_upto_region 1 with fail
    rw [HW1.out]
    go_upto_region 4 with fail
    rw [HMI.out]
    refine ordB_below (.quiet 0 (.quiet 1 (.quiet 2 (.quiet 3 (.quiet 4 (.quiet 5 (.quiet 6 (.quiet 7 (.only 8 (.quiet 9 .done)))))))))) (by kernel_rfl) (by kernel_rfl) (by kernel_rfl) (fun _ _ _ _ _ h => h) ?_
    intro V0 hV0
    iterate 8 (first
      | (refine ordB_skip rfl rfl ?_; simp only [Act.put, List.setIfInBounds_toArray, List.set_cons_zero, List.set_cons_succ])
      | (refine ordB_take (v := ?_) rfl rfl ?_ ?_
         rotate_left 1
         focus (intro W hW; obtain ⟨hcW, hfW⟩ := bcell hW; (go_simp <;> with_reducible rfl))
         simp only [Act.put, List.setIfInBounds_toArray, List.set_cons_zero, List.set_cons_succ]))
    refine ordB_only (opB_call rfl rfl (fun K hK => ?_))
    go_simp
    go_at_call 73
    refine (HCC.out _ hV0).mono ?_
    rintro e w' ⟨rfl, rfl⟩
    refine hK.out _ _ hV0 (fun hV0_1 => ?_)
    iterate 1 (first
      | (refine ordB_skip rfl rfl ?_; simp only [Act.put, List.setIfInBounds_toArray, List.set_cons_zero, List.set_cons_succ])
      | (refine ordB_take (v := ?_) rfl rfl ?_ ?_
         rotate_left 1
         focus (intro W hW; obtain ⟨hcW, hfW⟩ := bcell hW; (go_simp <;> with_reducible rfl))
         simp only [Act.put, List.setIfInBounds_toArray, List.set_cons_zero, List.set_cons_succ]))
    refine ordB_nil ?_
    have hA := hA.below hV0_1 al
    have hB := hB.below hV0_1 bl
    have HA := Lib.hid (HA.out.below hV0_1)
    have HB := Lib.hid (HB.out.below hV0_1)
    have hb1 := bthen hb1 hV0_1
    generalize cmpL (a.G.head.take n) (b.G.head.take n) = cv at *
    clear hV0_1 a0 a1 a2 a3 b0 b1 b2 b3 al bl HCC
    generalize V0 = w4 at *
    have a0 := hA.cell 0
    have a1 := hA.cell 1
    have a2 := hA.cell 2
    have a3 := hA.cell 3
    have b0 := hB.cell 0
    have b1 := hB.cell 1
    have b2 := hB.cell 2
    have b3 := hB.cell 3
    have al := hA.lt
    have bl := hB.lt
    simp at a0 a1 a2 a3 b0 b1 b2 b3
    by_cases hcv : cv = 0
    · have HCV := Lib.hid hcv
      have e2 : (cv != 0) = false := by simpa using hcv
      clear hcv
      go_upto_region 7 with fail
      refine ordB_below (.quiet 0 (.quiet 1 (.quiet 3 (.quiet 4 (.only 2 (.only 5 (.quiet 6 (.quiet 7 .done)))))))) (by kernel_rfl) (by kernel_rfl) (by kernel_rfl) (fun _ _ _ _ _ h => h) ?_
      intro U0 hU0
      iterate 4 (first
        | (refine ordB_skip rfl rfl ?_; simp only [Act.put, List.setIfInBounds_toArray, List.set_cons_zero, List.set_cons_succ])
        | (refine ordB_take (v := ?_) rfl rfl ?_ ?_
           rotate_left 1
           focus (intro W hW; obtain ⟨hcW, hfW⟩ := bcell hW; (go_simp <;> with_reducible rfl))
           simp only [Act.put, List.setIfInBounds_toArray, List.set_cons_zero, List.set_cons_succ]))
      refine ordB_only (opB_call rfl rfl (fun K hK => ?_))
      go_simp
      go_at_call 74
      refine (HPL.out a n _ (HA.out.below hU0) hna).mono ?_
      rintro e U0_1 ⟨rfl, hx2⟩
      refine hK.out _ _ (hU0.trans (hx2.mono hU0.size)) (fun hU0_1 => ?_)
      refine ordB_only (opB_call rfl rfl (fun K hK => ?_))
      go_simp
      go_at_call 74
      refine (HPL.out b n _ (HB.out.below hU0_1) hnb).mono ?_
      rintro e U0_1_2 ⟨rfl, hx5⟩
      refine hK.out _ _ (hU0_1.trans (hx5.mono hU0_1.size)) (fun hU0_1_2 => ?_)
      iterate 2 (first
        | (refine ordB_skip rfl rfl ?_; simp only [Act.put, List.setIfInBounds_toArray, List.set_cons_zero, List.set_cons_succ])
        | (refine ordB_take (v := ?_) rfl rfl ?_ ?_
           rotate_left 1
           focus (intro W hW; obtain ⟨hcW, hfW⟩ := bcell hW; (go_simp <;> with_reducible rfl))
           simp only [Act.put, List.setIfInBounds_toArray, List.set_cons_zero, List.set_cons_succ]))
      refine ordB_nil ?_
      go_wp2_with fail
      go_ret
      exact ⟨by rw [HE.out, if_neg (fun h => h HC.out), if_neg (fun h => h (HZ.out.1 HCV.out))]; rfl, bthen hb1 hU0_1_2⟩
    · have HCV := Lib.hid hcv
      have e2 : (cv != 0) = true := by simpa using hcv
      clear hcv
      go_wp2_with fail
      go_ret
      refine ⟨?_, hb1⟩
      rw [HE.out, if_neg (fun h => h HC.out), if_pos (fun h => HCV.out (HZ.out.2 h))]
      refine ret_bool ?_
      rw [Bool.eq_iff_iff, decide_eq_true_iff]
      exact HLT.out
  · have HC := Lib.hid hc
    have e1 : (a.G.cost != b.G.cost) = true := by simpa using hc
    clear hc
    unfold aggMg
    go_enter Tryz.func35, Tryz.ntmps35
    go_upto_region 1 with fail
    rw [HW1.out]
    go_wp2_with fail
    go_ret
    exact ⟨by rw [HE.out, if_pos HC.out]; rfl, hb1⟩
end Go.Proofs.YtfjkmgjjifhdkaaGreat
