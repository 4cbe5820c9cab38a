/-
  OuLev, OuWalkI, OuWk, joined. No conditions.
-/
import Derived.Test.YtfpnhgahkjglgaaGreatP02
import Derived.Test.YtfpnhgahkjglgaaGreatP17
import Derived.Test.YtfpnhgahkjglgaaGreatP06
import Derived.WalkSmall
/-
  Chains of rules by their length: a mode that is reached is reached by a short chain. Plain laws. No conditions.
-/
namespace Go.Proofs.YtfpnhgahkjglgaaGreat
open List

/-- There is a chain of so many rules with a property from a mode to a mode. -/
inductive Ch (s : Sc) (p : Ru → Bool) (a : Int) : Nat → Int → Prop
  | zero : Ch s p a 0 a
  | succ {n : Nat} {b : Int} {r : Ru} : Ch s p a n b → r ∈ s.rs → p r = true → r.fr = b → Ch s p a (n + 1) r.to
theorem ch_range {s : Sc} {p : Ru → Bool} {a : Int} {N : Nat} (ha : 0 ≤ a ∧ a < (N : Int)) (hr : ∀ r ∈ s.rs, 0 ≤ r.to ∧ r.to < (N : Int)) {n : Nat} {x : Int} (h : Ch s p a n x) : 0 ≤ x ∧ x < (N : Int) := by
  cases h with
  | zero => exact ha
  | succ _ h2 _ _ => exact hr _ h2
noncomputable def UB (s : Sc) (p : Ru → Bool) (a : Int) (i : Nat) : Int → Bool := fun x => @decide (∃ n, n ≤ i ∧ Ch s p a n x) (Classical.propDecidable _)
theorem ub_iff {s : Sc} {p : Ru → Bool} {a : Int} {i : Nat} {x : Int} : UB s p a i x = true ↔ ∃ n, n ≤ i ∧ Ch s p a n x := by
  unfold UB
  exact @decide_eq_true_iff _ (Classical.propDecidable _)
theorem ub_mono {s : Sc} {p : Ru → Bool} {a : Int} {i j : Nat} (h : i ≤ j) {x : Int} (hx : UB s p a i x = true) : UB s p a j x = true := by
  obtain ⟨n, h1, h2⟩ := ub_iff.1 hx
  exact ub_iff.2 ⟨n, by omega, h2⟩
theorem ch_bound {s : Sc} {p : Ru → Bool} {a : Int} {N : Nat} (ha : 0 ≤ a ∧ a < (N : Int)) (hr : ∀ r ∈ s.rs, 0 ≤ r.to ∧ r.to < (N : Int)) {n : Nat} {x : Int} (h : Ch s p a n x) : ∃ m, m < N ∧ Ch s p a m x := by
  have key : ∀ i, (∀ n x, Ch s p a n x → UB s p a i x = true) ∨ i + 1 ≤ cntB N (UB s p a i) := by
    intro i
    induction i with
    | zero =>
      right
      have h0 : cntB N (fun _ => false) < cntB N (UB s p a 0) := cnt_lt (fun x hx => by cases hx) ha rfl (ub_iff.2 ⟨0, Nat.le_refl _, .zero⟩)
      omega
    | succ i ih =>
      rcases ih with ih | ih
      · exact .inl fun n x hx => ub_mono (Nat.le_succ i) (ih n x hx)
      · by_cases hc : ∃ x, UB s p a (i + 1) x = true ∧ UB s p a i x = false
        · obtain ⟨x, h1, h2⟩ := hc
          obtain ⟨n', _, h3⟩ := ub_iff.1 h1
          have := cnt_lt (n := N) (f := UB s p a i) (g := UB s p a (i + 1)) (fun y hy => ub_mono (Nat.le_succ i) hy) (ch_range ha hr h3) h2 h1
          right
          omega
        · left
          have hsub : ∀ x, UB s p a (i + 1) x = true → UB s p a i x = true := fun x hx => by
            cases hb : UB s p a i x with
            | true => rfl
            | false => exact absurd ⟨x, hx, hb⟩ hc
          intro n x hx
          refine ub_mono (Nat.le_succ i) ?_
          induction hx with
          | zero => exact ub_iff.2 ⟨0, by omega, .zero⟩
          | succ _ h2 h3 h4 ih2 =>
            obtain ⟨k, h5, h6⟩ := ub_iff.1 ih2
            exact hsub _ (ub_iff.2 ⟨k + 1, by omega, .succ h6 h2 h3 h4⟩)
  have hN : 0 < N := by omega
  have hx : UB s p a (N - 1) x = true := by
    rcases key (N - 1) with h1 | h1
    · exact h1 n x h
    · exact cnt_full (by omega) (ch_range ha hr h)
  obtain ⟨m, h1, h2⟩ := ub_iff.1 hx
  exact ⟨m, by omega, h2⟩
theorem rm_ch {s : Sc} {x : Int} : RM s x ↔ ∃ n, Ch s (fun _ => true) 0 n x := by
  constructor
  · intro h
    unfold RM at h
    induction h with
    | base h => exact ⟨0, h ▸ .zero⟩
    | step _ h2 ih =>
      obtain ⟨r, hr, rfl⟩ := mem_map.1 h2
      obtain ⟨n, h3⟩ := ih
      exact ⟨n + 1, .succ h3 hr rfl rfl⟩
  · rintro ⟨n, h⟩
    induction h with
    | zero => exact .base rfl
    | succ _ h2 _ h4 ih => exact rm_step (by rw [h4]; exact ih) h2
theorem mt_ch {s : Sc} {a x : Int} : Mt s a x ↔ ∃ n, Ch s Ru.mute a (n + 1) x := by
  constructor
  · intro h
    induction h with
    | one h1 h2 h3 => exact ⟨0, .succ .zero h1 h2 h3⟩
    | more _ h1 h2 h3 ih =>
      obtain ⟨n, h4⟩ := ih
      exact ⟨n + 1, .succ h4 h1 h2 h3⟩
  · rintro ⟨n, h⟩
    induction n generalizing x with
    | zero =>
      cases h with
      | succ h1 h2 h3 h4 =>
        cases h1
        exact .one h2 h3 h4
    | succ n ih =>
      cases h with
      | succ h1 h2 h3 h4 => exact .more (ih h1) h2 h3 h4
/-- A way round is found among the chains of at most as many rules as there are modes. -/
theorem mt_short {s : Sc} {a : Int} {N : Nat} (ha : 0 ≤ a ∧ a < (N : Int)) (hr : ∀ r ∈ s.rs, 0 ≤ r.to ∧ r.to < (N : Int)) : Mt s a a ↔ ∃ n, n < N ∧ Ch s Ru.mute a (n + 1) a := by
  constructor
  · intro h
    obtain ⟨n, h1⟩ := mt_ch.1 h
    have key : ∀ x, Ch s Ru.mute a (n + 1) x → ∃ m, m < N ∧ Ch s Ru.mute a (m + 1) x := fun x h1 => by
      cases h1 with
      | succ h2 h3 h4 h5 =>
        obtain ⟨m, h6, h7⟩ := ch_bound ha hr h2
        exact ⟨m, h6, .succ h7 h3 h4 h5⟩
    exact key a h1
  · rintro ⟨n, _, h⟩
    exact mt_ch.2 ⟨n, h⟩
/-- A mode that is reached and not live is found among the chains of 1 to as many rules as there are modes, where 0 is live. -/
theorem stuck_short {s : Sc} {N : Nat} (h0 : 0 < N) (hr : ∀ r ∈ s.rs, 0 ≤ r.to ∧ r.to < (N : Int)) (hl : LV s 0) : (∃ m, RM s m ∧ ¬ LV s m) ↔ ∃ n m, n < N ∧ Ch s (fun _ => true) 0 (n + 1) m ∧ ¬ LV s m := by
  constructor
  · rintro ⟨m, h1, h2⟩
    obtain ⟨n, h3⟩ := rm_ch.1 h1
    obtain ⟨k, h4, h5⟩ := ch_bound ⟨by omega, by omega⟩ hr h3
    rcases k with _ | k
    · cases h5
      exact absurd hl h2
    · exact ⟨k, m, by omega, h5, h2⟩
  · rintro ⟨n, m, _, h1, h2⟩
    exact ⟨m, rm_ch.2 ⟨_, h1⟩, h2⟩
end Go.Proofs.YtfpnhgahkjglgaaGreat

/-
  The walks of layers 05 and 08: the reference's chains.
-/
namespace Go.Proofs.YtfpnhgahkjglgaaGreat
open Go Go.RowKit

def IsBool (e : Ending) : Prop := ∃ v : Bool, e = .returned (.bool v)
set_option maxRecDepth 100000 in
set_option maxHeartbeats 8000000 in
theorem rbefore04_any (A B : Option Addr) (xs ys : List Int) (c d : Nat) (w : World) (hx : SlR 1 RInt w A xs) (hy : SlR 1 RInt w B ys) (hl : xs.length ≤ 65536) :
    Calls Tryz.prog 118 #[.slice A xs.length c, .slice B ys.length d] w fun e w' => IsBool e ∧ Below w.heap.size w w' := by
  go_enter Tryz.func118, Tryz.ntmps118
  go_wp2_with fail
  go_loopw [5] (fun i wr => ∃ k : Nat, k ≤ xs.length ∧ i = .int .i64 (k : Int) ∧ Below w.heap.size w wr) (fun i _ => xs.length - (intOf i).toNat)
  case atStart => exact ⟨0, by omega, rfl, Below.refl _ _⟩
  case round =>
    obtain ⟨wR, rfl⟩ : ∃ W, W = wr := ⟨wr, rfl⟩
    obtain ⟨k, hk, rfl, hbr⟩ := hrel
    have HBR := Lib.hid hbr
    clear hbr
    by_cases hlt : k < xs.length
    · have hki : (k : Int) < (xs.length : Int) := by omega
      have hkb : (k : Int) ≤ 65536 := by omega
      by_cases hlt2 : k < ys.length
      · have hki2 : (k : Int) < (ys.length : Int) := by omega
        obtain ⟨b, off, x, rfl, hbb, hxx, hc0⟩ := (hx.below keeps_int HBR.out).int hlt
        obtain ⟨b', off', y, rfl, hbb', hyy, hd0⟩ := (hy.below keeps_int HBR.out).int hlt2
        by_cases he : x = y
        · subst he
          go_upto_region 4 with fail
          go_quiet (fail)
          go_wp2_with fail
          go_roundw
          case rel => exact ⟨k + 1, by omega, by go_num, below_drewN HBR.out _⟩
          case measure => simp [intOf]; omega
        · go_upto_region 4 with fail
          go_quiet (fail)
          go_upto_region 5 with fail
          go_quiet (fail)
          go_wp2_with fail
          go_ret
          exact ⟨⟨_, rfl⟩, below_drewN (below_drewN HBR.out _) _⟩
      · have hki2 : ¬ (k : Int) < (ys.length : Int) := by omega
        go_wp2_with fail
        go_ret
        exact ⟨⟨_, rfl⟩, HBR.out⟩
    · have hki : ¬ (k : Int) < (xs.length : Int) := by omega
      go_wp2_with fail
      go_ret
      exact ⟨⟨_, rfl⟩, HBR.out⟩
set_option maxRecDepth 100000 in
set_option maxHeartbeats 8000000 in
theorem rdead_any (s : Sc) (A : Option Addr) (c k : Nat) (w : World) (hs : ScIn w s A c) (hok : ScOK s) (hk : k < s.rs.length) :
    Calls Tryz.prog 102 #[.agg #[.int .i64 s.n, .int .u8 s.acc, .slice A s.rs.length c], .int .i64 (k : Int)] w fun e w' => IsBool e ∧ Below w.heap.size w w' := by
  obtain ⟨w1, hw1⟩ : ∃ w1, w.alloc (.cells #[.int .i64 s.n, .int .u8 s.acc, .slice A s.rs.length c] 30) = w1 := ⟨_, rfl⟩
  have hb1 : Below w.heap.size w w1 := by rw [← hw1]; exact nw _ (Below.refl _ _)
  have hB : Blk w1 w.heap.size 30 #[.int .i64 s.n, .int .u8 s.acc, .slice A s.rs.length c] := by rw [← hw1]; exact Blk.new _ _ _
  have HW1 := Lib.hid hw1
  have HB1 := Lib.hid hb1
  have HCE : Hid (∀ W, Below w1.heap.size w1 W → W.cell? ⟨w.heap.size, 0, none⟩ = some (.int .i64 s.n) ∧ W.cell? ⟨w.heap.size, 1, none⟩ = some (.int .u8 s.acc) ∧ W.cell? ⟨w.heap.size, 2, none⟩ = some (.slice A s.rs.length c) ∧ w.heap.size < W.heap.size) := fun W hW => by
    have e1 := hB.below hW hB.lt
    exact ⟨by rw [e1.cell]; rfl, by rw [e1.cell]; rfl, by rw [e1.cell]; rfl, e1.lt⟩
  obtain ⟨b0, b1, b2, bl⟩ := HCE.out _ (Below.refl _ _)
  clear hw1 hb1 hB
  have HS := Lib.hid hs
  have hl := hs.len
  have hn := hok.1
  have HOK := Lib.hid hok
  obtain ⟨N, hN⟩ : ∃ N : Nat, s.n.toNat = N := ⟨_, rfl⟩
  have hNI : s.n = (N : Int) := by omega
  have HN := Lib.hid hNI
  have HRE : Hid (∀ (W : World), Below w1.heap.size w1 W → Calls Tryz.prog 20 #[.agg #[.int .i64 s.n, .int .u8 s.acc, .slice A s.rs.length c], .int .i64 0] W fun e w' => (∃ g, e = .returned (.slice (some ⟨g, 0, none⟩) N N) ∧ W.heap.size ≤ g ∧ BB w' g N (cloN s.edges (fun k => decide (k = 0)) N)) ∧ Below W.heap.size W w') := fun W hW => by
    have := rreached_any s A c 0 W (HS.out.below (bthen HB1.out hW)) HOK.out ⟨by omega, by omega⟩
    rwa [hN] at this
  have HLI : Hid (∀ (W : World), Below w1.heap.size w1 W → Calls Tryz.prog 76 #[.agg #[.int .i64 s.n, .int .u8 s.acc, .slice A s.rs.length c]] W (IsLvR s N W)) := fun W hW => by
    have := rlive_any s A c W (HS.out.below (bthen HB1.out hW)) HOK.out
    rwa [hN] at this
  obtain ⟨b, off, x, rfl, hbb, hxx, d0, d1, d2, d3, d4⟩ := ((hs.below HB1.out).sl).ru hk
  have hru := hok.2.2.2.1 x (List.mem_of_getElem? hxx)
  have hki : (k : Int) < (s.rs.length : Int) := by omega
  have hk0 : (0 : Int) ≤ (k : Int) := by omega
  have hf0 : 0 ≤ x.fr := by have := hru.1; omega
  have hf1 : x.fr < (N : Int) := by have := hru.1; omega
  have ht0 : 0 ≤ x.to := by have := hru.1; omega
  have ht1 : x.to < (N : Int) := by have := hru.1; omega
  have hfN : x.fr.toNat < N := by omega
  have htN : x.to.toNat < N := by omega
  clear hxx hru hs hok hNI hN
  have bb := Nat.lt_of_lt_of_le hbb (Nat.le_refl _)
  go_enter Tryz.func102, Tryz.ntmps102
  go_upto_region 1 with fail
  rw [HW1.out]
  cases hrr : cloN s.edges (fun k => decide (k = 0)) N x.fr with
  | true =>
    refine ordB_below (.quiet 0 (.quiet 2 (.quiet 3 (.quiet 4 (.quiet 5 (.quiet 6 (.quiet 7 (.only 1 (.quiet 8 (.only 9 (.quiet 10 (.quiet 11 (.quiet 12 (.quiet 14 (.quiet 15 (.quiet 16 (.quiet 17 (.quiet 18 (.quiet 19 (.only 13 (.quiet 20 (.only 21 (.quiet 22 (.quiet 23 (.quiet 24 .done))))))))))))))))))))))))) (by kernel_rfl) (by kernel_rfl) (by kernel_rfl) (fun _ _ _ _ _ h => h) ?_
    intro Wa hWa
    iterate 7 (first
      | (refine ordB_skip rfl rfl ?_; simp only [Act.put, List.setIfInBounds_toArray, List.set_cons_zero, List.set_cons_succ])
      | (refine ordB_take (v := ?_) rfl rfl ?_ ?_
         rotate_left 1
         focus (intro W hW; obtain ⟨hcW, hfW⟩ := bcell hW; (go_simp <;> with_reducible rfl))
         simp only [Act.put, List.setIfInBounds_toArray, List.set_cons_zero, List.set_cons_succ]))
    refine ordB_only (opB_call rfl rfl (fun K hK => ?_))
    go_simp
    go_at_call 20
    refine (HRE.out Wa hWa).mono ?_
    rintro e Wa_1 ⟨⟨g1, rfl, hg1, hB1⟩, hxa⟩
    refine hK.out _ _ (hWa.trans (hxa.mono hWa.size)) (fun hWa_1 => ?_)
    iterate 1 (first
      | (refine ordB_skip rfl rfl ?_; simp only [Act.put, List.setIfInBounds_toArray, List.set_cons_zero, List.set_cons_succ])
      | (refine ordB_take (v := ?_) rfl rfl ?_ ?_
         rotate_left 1
         focus (intro W hW; obtain ⟨hcW, hfW⟩ := bcell hW; (go_simp <;> with_reducible rfl))
         simp only [Act.put, List.setIfInBounds_toArray, List.set_cons_zero, List.set_cons_succ]))
    refine ordB_only (opB_call rfl rfl (fun K hK => ?_))
    have r0 := hB1.cell hfN
    rw [Int.toNat_of_nonneg hf0, hrr] at r0
    have rl := hB1.lt
    go_simp
    refine hK.out _ _ hWa_1 (fun hWa_1_2 => ?_)
    clear hK K
    obtain ⟨Wa_1_2, rfl⟩ : ∃ V, V = Wa_1 := ⟨_, rfl⟩
    clear r0 rl
    iterate 9 (first
      | (refine ordB_skip rfl rfl ?_; simp only [Act.put, List.setIfInBounds_toArray, List.set_cons_zero, List.set_cons_succ])
      | (refine ordB_take (v := ?_) rfl rfl ?_ ?_
         rotate_left 1
         focus (intro W hW; obtain ⟨hcW, hfW⟩ := bcell hW; (go_simp <;> with_reducible rfl))
         simp only [Act.put, List.setIfInBounds_toArray, List.set_cons_zero, List.set_cons_succ]))
    refine ordB_only (opB_call rfl rfl (fun K hK => ?_))
    go_simp
    go_at_call 76
    refine (HLI.out Wa_1_2 hWa_1_2).mono ?_
    rintro e Wa_1_2_3 ⟨⟨g2, f2, rfl, hg2, hB2, hf2⟩, hxb⟩
    refine hK.out _ _ (hWa_1_2.trans (hxb.mono hWa_1_2.size)) (fun hWa_1_2_3 => ?_)
    iterate 1 (first
      | (refine ordB_skip rfl rfl ?_; simp only [Act.put, List.setIfInBounds_toArray, List.set_cons_zero, List.set_cons_succ])
      | (refine ordB_take (v := ?_) rfl rfl ?_ ?_
         rotate_left 1
         focus (intro W hW; obtain ⟨hcW, hfW⟩ := bcell hW; (go_simp <;> with_reducible rfl))
         simp only [Act.put, List.setIfInBounds_toArray, List.set_cons_zero, List.set_cons_succ]))
    refine ordB_only (opB_call rfl rfl (fun K hK => ?_))
    have r0 := hB2.cell htN
    have rl := hB2.lt
    go_simp
    refine hK.out _ _ hWa_1_2_3 (fun hWa_1_2_3_4 => ?_)
    clear hK K
    obtain ⟨Wa_1_2_3_4, rfl⟩ : ∃ V, V = Wa_1_2_3 := ⟨_, rfl⟩
    clear r0 rl
    iterate 3 (first
      | (refine ordB_skip rfl rfl ?_; simp only [Act.put, List.setIfInBounds_toArray, List.set_cons_zero, List.set_cons_succ])
      | (refine ordB_take (v := ?_) rfl rfl ?_ ?_
         rotate_left 1
         focus (intro W hW; obtain ⟨hcW, hfW⟩ := bcell hW; (go_simp <;> with_reducible rfl))
         simp only [Act.put, List.setIfInBounds_toArray, List.set_cons_zero, List.set_cons_succ]))
    refine ordB_nil ?_
    have hbE := hWa_1_2_3_4
    clear hWa_1_2_3_4
    go_wp2_with fail
    go_ret
    exact ⟨⟨_, rfl⟩, bthen HB1.out hbE⟩
  | false =>
    refine ordB_below (.quiet 0 (.quiet 2 (.quiet 3 (.quiet 4 (.quiet 5 (.quiet 6 (.quiet 7 (.only 1 (.quiet 8 (.only 9 (.quiet 10 (.quiet 11 (.quiet 12 (.quiet 14 (.quiet 15 (.quiet 16 (.quiet 17 (.quiet 18 (.quiet 19 (.only 13 (.quiet 20 (.only 21 (.quiet 22 (.quiet 23 (.quiet 24 .done))))))))))))))))))))))))) (by kernel_rfl) (by kernel_rfl) (by kernel_rfl) (fun _ _ _ _ _ h => h) ?_
    intro Wa hWa
    iterate 7 (first
      | (refine ordB_skip rfl rfl ?_; simp only [Act.put, List.setIfInBounds_toArray, List.set_cons_zero, List.set_cons_succ])
      | (refine ordB_take (v := ?_) rfl rfl ?_ ?_
         rotate_left 1
         focus (intro W hW; obtain ⟨hcW, hfW⟩ := bcell hW; (go_simp <;> with_reducible rfl))
         simp only [Act.put, List.setIfInBounds_toArray, List.set_cons_zero, List.set_cons_succ]))
    refine ordB_only (opB_call rfl rfl (fun K hK => ?_))
    go_simp
    go_at_call 20
    refine (HRE.out Wa hWa).mono ?_
    rintro e Wa_1 ⟨⟨g1, rfl, hg1, hB1⟩, hxa⟩
    refine hK.out _ _ (hWa.trans (hxa.mono hWa.size)) (fun hWa_1 => ?_)
    iterate 1 (first
      | (refine ordB_skip rfl rfl ?_; simp only [Act.put, List.setIfInBounds_toArray, List.set_cons_zero, List.set_cons_succ])
      | (refine ordB_take (v := ?_) rfl rfl ?_ ?_
         rotate_left 1
         focus (intro W hW; obtain ⟨hcW, hfW⟩ := bcell hW; (go_simp <;> with_reducible rfl))
         simp only [Act.put, List.setIfInBounds_toArray, List.set_cons_zero, List.set_cons_succ]))
    refine ordB_only (opB_call rfl rfl (fun K hK => ?_))
    have r0 := hB1.cell hfN
    rw [Int.toNat_of_nonneg hf0, hrr] at r0
    have rl := hB1.lt
    go_simp
    refine hK.out _ _ hWa_1 (fun hWa_1_2 => ?_)
    clear hK K
    obtain ⟨Wa_1_2, rfl⟩ : ∃ V, V = Wa_1 := ⟨_, rfl⟩
    clear r0 rl
    iterate 9 (first
      | (refine ordB_skip rfl rfl ?_; simp only [Act.put, List.setIfInBounds_toArray, List.set_cons_zero, List.set_cons_succ])
      | (refine ordB_take (v := ?_) rfl rfl ?_ ?_
         rotate_left 1
         focus (intro W hW; obtain ⟨hcW, hfW⟩ := bcell hW; (go_simp <;> with_reducible rfl))
         simp only [Act.put, List.setIfInBounds_toArray, List.set_cons_zero, List.set_cons_succ]))
    refine ordB_only (opB_cskip rfl rfl hWa_1_2 ?_)
    simp only [Act.put, List.setIfInBounds_toArray, List.set_cons_zero, List.set_cons_succ]
    iterate 1 (first
      | (refine ordB_skip rfl rfl ?_; simp only [Act.put, List.setIfInBounds_toArray, List.set_cons_zero, List.set_cons_succ])
      | (refine ordB_take (v := ?_) rfl rfl ?_ ?_
         rotate_left 1
         focus (intro W hW; obtain ⟨hcW, hfW⟩ := bcell hW; (go_simp <;> with_reducible rfl))
         simp only [Act.put, List.setIfInBounds_toArray, List.set_cons_zero, List.set_cons_succ]))
    refine ordB_only (opB_cskip rfl rfl hWa_1_2 ?_)
    simp only [Act.put, List.setIfInBounds_toArray, List.set_cons_zero, List.set_cons_succ]
    iterate 3 (first
      | (refine ordB_skip rfl rfl ?_; simp only [Act.put, List.setIfInBounds_toArray, List.set_cons_zero, List.set_cons_succ])
      | (refine ordB_take (v := ?_) rfl rfl ?_ ?_
         rotate_left 1
         focus (intro W hW; obtain ⟨hcW, hfW⟩ := bcell hW; (go_simp <;> with_reducible rfl))
         simp only [Act.put, List.setIfInBounds_toArray, List.set_cons_zero, List.set_cons_succ]))
    refine ordB_nil ?_
    have hbE := hWa_1_2
    clear hWa_1_2
    go_wp2_with fail
    go_ret
    exact ⟨⟨_, rfl⟩, bthen HB1.out hbE⟩
end Go.Proofs.YtfpnhgahkjglgaaGreat

/-
  The memory of layer 04's reference: the first chains of a length to each mode.
-/
namespace Go.Proofs.YtfpnhgahkjglgaaGreat
open Go Go.RowKit

def wkC (f : Int → Bool) (ch : List Chn) : List Value := ((List.range 8).map fun k : Nat => Value.bool (f (k : Int))) ++ ch.map vCh
theorem wkC_is {f : Int → Bool} {ch : List Chn} {k : Nat} (h : k < 8) : (wkC f ch)[k]? = some (.bool (f (k : Int))) := by
  unfold wkC
  rw [List.getElem?_append_left (by simpa using h)]
  simp [h]
theorem wkC_l {f : Int → Bool} {ch : List Chn} {k : Nat} : (wkC f ch)[8 + k]? = (ch[k]?).map vCh := by
  unfold wkC
  rw [List.getElem?_append_right (by simp)]
  simp
theorem wkC_len {f : Int → Bool} {ch : List Chn} (h : ch.length = 8) : (wkC f ch).length = 16 := by
  unfold wkC
  simp [h]
theorem wkC_add {f : Int → Bool} {ch : List Chn} {k : Nat} (h : k < 8) : (wkC f ch).set k (.bool true) = wkC (addB f (k : Int)) ch := by
  refine List.ext_getElem? fun j => ?_
  rw [List.getElem?_set]
  by_cases e : k = j
  · subst e
    rw [if_pos rfl, wkC_is h, if_pos (by unfold wkC; simp; omega)]
    unfold addB
    simp
  · rw [if_neg e]
    by_cases hj : j < 8
    · rw [wkC_is hj, wkC_is hj]
      have : ¬ (j : Int) = (k : Int) := by omega
      unfold addB
      simp [this]
    · obtain ⟨i, rfl⟩ : ∃ i, j = 8 + i := ⟨j - 8, by omega⟩
      rw [wkC_l, wkC_l]
theorem wkC_set {f : Int → Bool} {ch : List Chn} {k : Nat} (x : Chn) : (wkC f ch).set (8 + k) (vCh x) = wkC f (ch.set k x) := by
  unfold wkC
  rw [List.set_append, List.map_set, if_neg (by simp)]
  simp
structure WkIn (W : World) (g : Nat) (f : Int → Bool) (ch : List Chn) (n : Nat) : Prop where
  blk : Blk W g 203 (wkC f ch).toArray
  len : ch.length = 8
  ok : ∀ (k : Nat) (x : Chn), ch[k]? = some x → (SlT W x.A x.L ∧ x.L.length ≤ x.c ∧ x.c ≤ maxLen) ∧ x.L.length ≤ n ∧ (f (k : Int) = true → x.L.length = n)
section
variable {W W' : World} {g n : Nat} {f : Int → Bool} {ch : List Chn}
theorem WkIn.lt (h : WkIn W g f ch n) : g < W.heap.size := h.blk.lt
theorem WkIn.frozen (h : WkIn W g f ch n) (k : Nat) : W.frozen? ⟨g, k, none⟩ = false := h.blk.frozen k
theorem WkIn.below (h : WkIn W g f ch n) (hb : Below W.heap.size W W') : WkIn W' g f ch n := ⟨h.blk.below hb h.lt, h.len, fun k x hx => ⟨⟨(h.ok k x hx).1.1.below hb, (h.ok k x hx).1.2⟩, (h.ok k x hx).2⟩⟩
theorem WkIn.is (h : WkIn W g f ch n) {k : Nat} (hk : k < 8) : W.cell? ⟨g, k, none⟩ = some (.bool (f (k : Int))) := by
  rw [h.blk.cell, List.getElem?_toArray, wkC_is hk]
theorem WkIn.l (h : WkIn W g f ch n) {k : Nat} {x : Chn} (hx : ch[k]? = some x) : W.cell? ⟨g, 8 + k, none⟩ = some (.slice x.A x.L.length x.c) := by
  rw [h.blk.cell, List.getElem?_toArray, wkC_l, hx]
  rfl
theorem WkIn.get (h : WkIn W g f ch n) {k : Nat} (hk : k < 8) : ∃ x, ch[k]? = some x := ⟨_, List.getElem?_eq_getElem (by have := h.len; omega)⟩
theorem WkIn.put (h : WkIn W g f ch n) {k : Nat} (hk : k < 8) {x : Chn} (hx : SlT W x.A x.L) (hc : x.L.length ≤ x.c ∧ x.c ≤ maxLen) (hl : x.L.length = n) :
    WkIn ((W.setCell ⟨g, k, none⟩ (.bool true)).setCell ⟨g, 8 + k, none⟩ (vCh x)) g (addB f (k : Int)) (ch.set k x) n := by
  have h1 : Blk (W.setCell ⟨g, k, none⟩ (.bool true)) g 203 (wkC (addB f (k : Int)) ch).toArray := by
    have := h.blk.set_ k (.bool true)
    rw [← wkC_add hk]
    simpa using this
  have h2 : Blk ((W.setCell ⟨g, k, none⟩ (.bool true)).setCell ⟨g, 8 + k, none⟩ (vCh x)) g 203 (wkC (addB f (k : Int)) (ch.set k x)).toArray := by
    have := h1.set_ (8 + k) (vCh x)
    rw [← wkC_set]
    simpa using this
  have hs : ∀ y : Chn, SlT W y.A y.L → SlT ((W.setCell ⟨g, k, none⟩ (.bool true)).setCell ⟨g, 8 + k, none⟩ (vCh x)) y.A y.L := fun y hy =>
    (hy.set_ (p := ⟨g, k, none⟩) h.blk (by decide) _).set_ (p := ⟨g, 8 + k, none⟩) h1 (by decide) _
  refine ⟨h2, by rw [List.length_set]; exact h.len, fun j y hy => ?_⟩
  by_cases e : k = j
  · subst e
    rw [List.getElem?_set_self (by rw [h.len]; exact hk)] at hy
    injection hy with hy
    subst hy
    exact ⟨⟨hs _ hx, hc⟩, by omega, fun _ => hl⟩
  · rw [List.getElem?_set_ne e] at hy
    obtain ⟨h3, h4, h5⟩ := h.ok j y hy
    refine ⟨⟨hs _ h3.1, h3.2⟩, h4, fun hf => h5 ?_⟩
    unfold addB at hf
    have : ¬ (j : Int) = (k : Int) := by omega
    simpa [this] using hf
/-- Put a chain alone: its mode is there already. -/
theorem WkIn.new (W : World) (n : Nat) : WkIn (W.alloc (.cells #[.bool false, .bool false, .bool false, .bool false, .bool false, .bool false, .bool false, .bool false, .slice none 0 0, .slice none 0 0, .slice none 0 0, .slice none 0 0, .slice none 0 0, .slice none 0 0, .slice none 0 0, .slice none 0 0] 203)) W.heap.size (fun _ => false) (List.replicate 8 ⟨none, [], 0⟩) n :=
  ⟨Blk.new _ _ _, by simp, fun k x hx => by
    have := List.mem_of_getElem? hx
    rw [(List.mem_replicate.1 this).2]
    exact ⟨⟨SlT.nil, Nat.le_refl _, Nat.zero_le _⟩, Nat.zero_le _, fun h => by cases h⟩⟩
end
/-- The modes at the end of chains of a length, one rule further: the first k rules have been looked at. -/
def stepB (s : Sc) (p : Ru → Bool) (f : Int → Bool) (k : Nat) : Int → Bool := (s.rs.take k).foldl (fun g r => if f r.fr = true ∧ p r = true then addB g r.to else g) (fun _ => false)
theorem stepB_yes {s : Sc} {p : Ru → Bool} {f : Int → Bool} {k : Nat} {r : Ru} (hr : s.rs[k]? = some r) (h : f r.fr = true ∧ p r = true) : stepB s p f (k + 1) = addB (stepB s p f k) r.to := by
  unfold stepB
  rw [take_succ_of hr, List.foldl_append]
  exact if_pos h
theorem stepB_no {s : Sc} {p : Ru → Bool} {f : Int → Bool} {k : Nat} {r : Ru} (hr : s.rs[k]? = some r) (h : ¬ (f r.fr = true ∧ p r = true)) : stepB s p f (k + 1) = stepB s p f k := by
  unfold stepB
  rw [take_succ_of hr, List.foldl_append]
  exact if_neg h
theorem stepB_iff {s : Sc} {p : Ru → Bool} {f : Int → Bool} {x : Int} : ∀ k, k ≤ s.rs.length → (stepB s p f k x = true ↔ ∃ r ∈ s.rs.take k, f r.fr = true ∧ p r = true ∧ r.to = x) := by
  intro k
  induction k with
  | zero => exact fun _ => ⟨fun h => (by cases h), fun ⟨r, h, _⟩ => (by cases h)⟩
  | succ k ih =>
    intro hk
    have hr : s.rs[k]? = some s.rs[k] := List.getElem?_eq_getElem (by omega)
    have ih := ih (by omega)
    rw [take_succ_of hr]
    by_cases h : f (s.rs[k]).fr = true ∧ p (s.rs[k]) = true
    · rw [stepB_yes hr h]
      unfold addB
      rw [Bool.or_eq_true, decide_eq_true_iff, ih]
      constructor
      · rintro (e | ⟨r, h1, h2⟩)
        · exact ⟨_, List.mem_append_right _ (List.mem_singleton.2 rfl), h.1, h.2, e.symm⟩
        · exact ⟨r, List.mem_append_left _ h1, h2⟩
      · rintro ⟨r, h1, h2⟩
        rcases List.mem_append.1 h1 with h1 | h1
        · exact .inr ⟨r, h1, h2⟩
        · rw [List.mem_singleton.1 h1] at h2
          exact .inl h2.2.2.symm
    · rw [stepB_no hr h, ih]
      constructor
      · rintro ⟨r, h1, h2⟩
        exact ⟨r, List.mem_append_left _ h1, h2⟩
      · rintro ⟨r, h1, h2⟩
        rcases List.mem_append.1 h1 with h1 | h1
        · exact ⟨r, h1, h2⟩
        · rw [List.mem_singleton.1 h1] at h2
          exact absurd ⟨h2.1, h2.2.1⟩ h
/-- One rule further: the chains are one longer. -/
theorem stepB_ch {s : Sc} {p : Ru → Bool} {f : Int → Bool} {a : Int} {n : Nat} (hf : ∀ x, f x = true ↔ Ch s p a n x) (x : Int) : stepB s p f s.rs.length x = true ↔ Ch s p a (n + 1) x := by
  rw [stepB_iff _ (Nat.le_refl _), List.take_length]
  constructor
  · rintro ⟨r, h1, h2, h3, rfl⟩
    exact .succ ((hf _).1 h2) h1 h3 rfl
  · intro h
    cases h with
    | succ h1 h2 h3 h4 => exact ⟨_, h2, by rw [h4]; exact (hf _).2 h1, h3, rfl⟩
end Go.Proofs.YtfpnhgahkjglgaaGreat
