/-
  OuWalkI, OuWk, OuWalkJ, joined. No conditions.
-/
import Derived.Test.YtfpnhgahkjglgaaGreatF17
import Derived.Test.YtfpnhgahkjglgaaGreatF23
import Derived.Test.YtfpnhgahkjglgaaGreatF06
import Derived.WalkSmall
import Derived.Test.YtfpnhgahkjglgaaGreatF19
import Derived.Test.YtfpnhgahkjglgaaGreatF14
import Derived.Deep.DeepCutAuto
import Derived.Test.YtfpnhgahkjglgaaGreatF21
import Derived.Laws.Tables
import Derived.Laws.CopyOwn
set_option maxRecDepth 100000
namespace Go.Proofs.YtfpnhgahkjglgaaGreat
open Go Go.RowKit
def IsBool (e : Ending) : Prop := ∃ v : Bool, e = .returned (.bool v)
set_option maxHeartbeats 8000000 in
theorem rbefore04_any (A B : Option Addr) (xs ys : List Int) (c d : Nat) (w : World) (hx : SlR 1 RInt w A xs) (hy : SlR 1 RInt w B ys) (hl : xs.length ≤ 65536) :
 Calls Tryz.prog 118 #[.slice A xs.length c, .slice B ys.length d] w fun e w' => IsBool e ∧ Below w.heap.size w w' := by
 go_enter Tryz.func118, Tryz.ntmps118
 go_wp2_with fail
 go_loopw [5] (fun i wr => ∃ k : Nat, k ≤ xs.length ∧ i = .int .i64 (k : Int) ∧ Below w.heap.size w wr) (fun i _ => xs.length - (intOf i).toNat)
 case atStart => exact ⟨0, by omega, rfl, Below.refl _ _⟩
 case round =>
  obtain ⟨wR, rfl⟩ : ∃ W, W = wr := ⟨wr, rfl⟩
  obtain ⟨k, hk, rfl, hbr⟩ := hrel
  have HBR := Lib.hid hbr
  clear hbr
  by_cases hlt : k < xs.length
  ·have hki : (k : Int) < (xs.length : Int) := by omega
   have hkb : (k : Int) ≤ 65536 := by omega
   by_cases hlt2 : k < ys.length
   ·have hki2 : (k : Int) < (ys.length : Int) := by omega
    obtain ⟨b, off, x, rfl, hbb, hxx, hc0⟩ := (hx.below keeps_int HBR.out).int hlt
    obtain ⟨b', off', y, rfl, hbb', hyy, hd0⟩ := (hy.below keeps_int HBR.out).int hlt2
    by_cases he : x = y
    ·subst he
     go_upto_region 4 with fail
     go_quiet (fail)
     go_wp2_with fail
     go_roundw
     case rel => exact ⟨k + 1, by omega, by go_num, below_drewN HBR.out _⟩
     case measure => simp [intOf]; omega
    ·go_upto_region 4 with fail
     go_quiet (fail)
     go_upto_region 5 with fail
     go_quiet (fail)
     go_wp2_with fail
     go_ret
     exact ⟨⟨_, rfl⟩, below_drewN (below_drewN HBR.out _) _⟩
   ·have hki2 : ¬ (k : Int) < (ys.length : Int) := by omega
    go_wp2_with fail
    go_ret
    exact ⟨⟨_, rfl⟩, HBR.out⟩
  ·have hki : ¬ (k : Int) < (xs.length : Int) := by omega
   go_wp2_with fail
   go_ret
   exact ⟨⟨_, rfl⟩, HBR.out⟩
set_option maxHeartbeats 8000000 in
theorem rdead_any (s : Sc) (A : Option Addr) (c k : Nat) (w : World) (hs : ScIn w s A c) (hok : ScOK s) (hk : k < s.rs.length) :
 Calls Tryz.prog 102 #[.agg #[.int .i64 s.n, .int .u8 s.acc, .slice A s.rs.length c], .int .i64 (k : Int)] w fun e w' => IsBool e ∧ Below w.heap.size w w' := by
 obtain ⟨w1, hw1⟩ : ∃ w1, w.alloc (.cells #[.int .i64 s.n, .int .u8 s.acc, .slice A s.rs.length c] 30) = w1 := ⟨_, rfl⟩
 have hb1 : Below w.heap.size w w1 := by rw [← hw1]; exact nw _ (Below.refl _ _)
 have hB : Blk w1 w.heap.size 30 #[.int .i64 s.n, .int .u8 s.acc, .slice A s.rs.length c] := by rw [← hw1]; exact Blk.new _ _ _
 have HW1 := Lib.hid hw1
 have HB1 := Lib.hid hb1
 have HCE : Hid (∀ W, Below w1.heap.size w1 W → W.cell? ⟨w.heap.size, 0, none⟩ = some (.int .i64 s.n) ∧ W.cell? ⟨w.heap.size, 1, none⟩ = some (.int .u8 s.acc) ∧ W.cell? ⟨w.heap.size, 2, none⟩ = some (.slice A s.rs.length c) ∧ w.heap.size < W.heap.size) := fun W hW => by
  have e1 := hB.below hW hB.lt
  exact ⟨by rw [e1.cell]; rfl, by rw [e1.cell]; rfl, by rw [e1.cell]; rfl, e1.lt⟩
 obtain ⟨b0, b1, b2, bl⟩ := HCE.out _ (Below.refl _ _)
 clear hw1 hb1 hB
 have HS := Lib.hid hs
 have hl := hs.len
 have hn := hok.1
 have HOK := Lib.hid hok
 obtain ⟨N, hN⟩ : ∃ N : Nat, s.n.toNat = N := ⟨_, rfl⟩
 have hNI : s.n = (N : Int) := by omega
 have HN := Lib.hid hNI
 have HRE : Hid (∀ (W : World), Below w1.heap.size w1 W → Calls Tryz.prog 20 #[.agg #[.int .i64 s.n, .int .u8 s.acc, .slice A s.rs.length c], .int .i64 0] W fun e w' => (∃ g, e = .returned (.slice (some ⟨g, 0, none⟩) N N) ∧ W.heap.size ≤ g ∧ BB w' g N (cloN s.edges (fun k => decide (k = 0)) N)) ∧ Below W.heap.size W w') := fun W hW => by
  have := rreached_any s A c 0 W (HS.out.below (bthen HB1.out hW)) HOK.out ⟨by omega, by omega⟩
  rwa [hN] at this
 have HLI : Hid (∀ (W : World), Below w1.heap.size w1 W → Calls Tryz.prog 76 #[.agg #[.int .i64 s.n, .int .u8 s.acc, .slice A s.rs.length c]] W (IsLvR s N W)) := fun W hW => by
  have := rlive_any s A c W (HS.out.below (bthen HB1.out hW)) HOK.out
  rwa [hN] at this
 obtain ⟨b, off, x, rfl, hbb, hxx, d0, d1, d2, d3, d4⟩ := ((hs.below HB1.out).sl).ru hk
 have hru := hok.2.2.2.1 x (List.mem_of_getElem? hxx)
 have hki : (k : Int) < (s.rs.length : Int) := by omega
 have hk0 : (0 : Int) ≤ (k : Int) := by omega
 have hf0 : 0 ≤ x.fr := by have := hru.1; omega
 have hf1 : x.fr < (N : Int) := by have := hru.1; omega
 have ht0 : 0 ≤ x.to := by have := hru.1; omega
 have ht1 : x.to < (N : Int) := by have := hru.1; omega
 have hfN : x.fr.toNat < N := by omega
 have htN : x.to.toNat < N := by omega
 clear hxx hru hs hok hNI hN
 have bb := Nat.lt_of_lt_of_le hbb (Nat.le_refl _)
 go_enter Tryz.func102, Tryz.ntmps102
 go_upto_region 1 with fail
 rw [HW1.out]
 cases hrr : cloN s.edges (fun k => decide (k = 0)) N x.fr with
 | true =>
  refine ordB_below (.quiet 0 (.quiet 2 (.quiet 3 (.quiet 4 (.quiet 5 (.quiet 6 (.quiet 7 (.only 1 (.quiet 8 (.only 9 (.quiet 10 (.quiet 11 (.quiet 12 (.quiet 14 (.quiet 15 (.quiet 16 (.quiet 17 (.quiet 18 (.quiet 19 (.only 13 (.quiet 20 (.only 21 (.quiet 22 (.quiet 23 (.quiet 24 .done))))))))))))))))))))))))) (by kernel_rfl) (by kernel_rfl) (by kernel_rfl) (fun _ _ _ _ _ h => h) ?_
  intro Wa hWa
  iterate 7 ((first | refine ordB_skip rfl rfl ?_ | (refine ordB_take (v := ?_) rfl rfl ?_ ?_; rotate_left 1; (focus (intro W hW; obtain ⟨hcW, hfW⟩ := bcell hW; (go_simp <;> with_reducible rfl))))); simp only [Act.put, zA, zB, zC])
  refine ordB_only (opB_call rfl rfl (fun K hK => ?_))
  go_simp
  go_at_call 20
  refine (HRE.out Wa hWa).mono ?_
  rintro e Wa_1 ⟨⟨g1, rfl, hg1, hB1⟩, hxa⟩
  refine hK.out _ _ (hWa.trans (hxa.mono hWa.size)) (fun hWa_1 => ?_)
  iterate 1 ((first | refine ordB_skip rfl rfl ?_ | (refine ordB_take (v := ?_) rfl rfl ?_ ?_; rotate_left 1; (focus (intro W hW; obtain ⟨hcW, hfW⟩ := bcell hW; (go_simp <;> with_reducible rfl))))); simp only [Act.put, zA, zB, zC])
  refine ordB_only (opB_call rfl rfl (fun K hK => ?_))
  have r0 := hB1.cell hfN
  rw [Int.toNat_of_nonneg hf0, hrr] at r0
  have rl := hB1.lt
  go_simp
  refine hK.out _ _ hWa_1 (fun hWa_1_2 => ?_)
  clear hK K
  obtain ⟨Wa_1_2, rfl⟩ : ∃ V, V = Wa_1 := ⟨_, rfl⟩
  clear r0 rl
  iterate 9 ((first | refine ordB_skip rfl rfl ?_ | (refine ordB_take (v := ?_) rfl rfl ?_ ?_; rotate_left 1; (focus (intro W hW; obtain ⟨hcW, hfW⟩ := bcell hW; (go_simp <;> with_reducible rfl))))); simp only [Act.put, zA, zB, zC])
  refine ordB_only (opB_call rfl rfl (fun K hK => ?_))
  go_simp
  go_at_call 76
  refine (HLI.out Wa_1_2 hWa_1_2).mono ?_
  rintro e Wa_1_2_3 ⟨⟨g2, f2, rfl, hg2, hB2, hf2⟩, hxb⟩
  refine hK.out _ _ (hWa_1_2.trans (hxb.mono hWa_1_2.size)) (fun hWa_1_2_3 => ?_)
  iterate 1 ((first | refine ordB_skip rfl rfl ?_ | (refine ordB_take (v := ?_) rfl rfl ?_ ?_; rotate_left 1; (focus (intro W hW; obtain ⟨hcW, hfW⟩ := bcell hW; (go_simp <;> with_reducible rfl))))); simp only [Act.put, zA, zB, zC])
  refine ordB_only (opB_call rfl rfl (fun K hK => ?_))
  have r0 := hB2.cell htN
  have rl := hB2.lt
  go_simp
  refine hK.out _ _ hWa_1_2_3 (fun hWa_1_2_3_4 => ?_)
  clear hK K
  obtain ⟨Wa_1_2_3_4, rfl⟩ : ∃ V, V = Wa_1_2_3 := ⟨_, rfl⟩
  clear r0 rl
  iterate 3 ((first | refine ordB_skip rfl rfl ?_ | (refine ordB_take (v := ?_) rfl rfl ?_ ?_; rotate_left 1; (focus (intro W hW; obtain ⟨hcW, hfW⟩ := bcell hW; (go_simp <;> with_reducible rfl))))); simp only [Act.put, zA, zB, zC])
  refine ordB_nil ?_
  have hbE := hWa_1_2_3_4
  clear hWa_1_2_3_4
  go_wp2_with fail
  go_ret
  exact ⟨⟨_, rfl⟩, bthen HB1.out hbE⟩
 | false =>
  refine ordB_below (.quiet 0 (.quiet 2 (.quiet 3 (.quiet 4 (.quiet 5 (.quiet 6 (.quiet 7 (.only 1 (.quiet 8 (.only 9 (.quiet 10 (.quiet 11 (.quiet 12 (.quiet 14 (.quiet 15 (.quiet 16 (.quiet 17 (.quiet 18 (.quiet 19 (.only 13 (.quiet 20 (.only 21 (.quiet 22 (.quiet 23 (.quiet 24 .done))))))))))))))))))))))))) (by kernel_rfl) (by kernel_rfl) (by kernel_rfl) (fun _ _ _ _ _ h => h) ?_
  intro Wa hWa
  iterate 7 ((first | refine ordB_skip rfl rfl ?_ | (refine ordB_take (v := ?_) rfl rfl ?_ ?_; rotate_left 1; (focus (intro W hW; obtain ⟨hcW, hfW⟩ := bcell hW; (go_simp <;> with_reducible rfl))))); simp only [Act.put, zA, zB, zC])
  refine ordB_only (opB_call rfl rfl (fun K hK => ?_))
  go_simp
  go_at_call 20
  refine (HRE.out Wa hWa).mono ?_
  rintro e Wa_1 ⟨⟨g1, rfl, hg1, hB1⟩, hxa⟩
  refine hK.out _ _ (hWa.trans (hxa.mono hWa.size)) (fun hWa_1 => ?_)
  iterate 1 ((first | refine ordB_skip rfl rfl ?_ | (refine ordB_take (v := ?_) rfl rfl ?_ ?_; rotate_left 1; (focus (intro W hW; obtain ⟨hcW, hfW⟩ := bcell hW; (go_simp <;> with_reducible rfl))))); simp only [Act.put, zA, zB, zC])
  refine ordB_only (opB_call rfl rfl (fun K hK => ?_))
  have r0 := hB1.cell hfN
  rw [Int.toNat_of_nonneg hf0, hrr] at r0
  have rl := hB1.lt
  go_simp
  refine hK.out _ _ hWa_1 (fun hWa_1_2 => ?_)
  clear hK K
  obtain ⟨Wa_1_2, rfl⟩ : ∃ V, V = Wa_1 := ⟨_, rfl⟩
  clear r0 rl
  iterate 9 ((first | refine ordB_skip rfl rfl ?_ | (refine ordB_take (v := ?_) rfl rfl ?_ ?_; rotate_left 1; (focus (intro W hW; obtain ⟨hcW, hfW⟩ := bcell hW; (go_simp <;> with_reducible rfl))))); simp only [Act.put, zA, zB, zC])
  refine ordB_only (opB_cskip rfl rfl hWa_1_2 ?_)
  simp only [Act.put, zA, zB, zC]
  iterate 1 ((first | refine ordB_skip rfl rfl ?_ | (refine ordB_take (v := ?_) rfl rfl ?_ ?_; rotate_left 1; (focus (intro W hW; obtain ⟨hcW, hfW⟩ := bcell hW; (go_simp <;> with_reducible rfl))))); simp only [Act.put, zA, zB, zC])
  refine ordB_only (opB_cskip rfl rfl hWa_1_2 ?_)
  simp only [Act.put, zA, zB, zC]
  iterate 3 ((first | refine ordB_skip rfl rfl ?_ | (refine ordB_take (v := ?_) rfl rfl ?_ ?_; rotate_left 1; (focus (intro W hW; obtain ⟨hcW, hfW⟩ := bcell hW; (go_simp <;> with_reducible rfl))))); simp only [Act.put, zA, zB, zC])
  refine ordB_nil ?_
  have hbE := hWa_1_2
  clear hWa_1_2
  go_wp2_with fail
  go_ret
  exact ⟨⟨_, rfl⟩, bthen HB1.out hbE⟩
def wkC (f : Int → Bool) (ch : List Chn) : List Value := ((List.range 8).map fun k : Nat => Value.bool (f (k : Int))) ++ ch.map vCh
theorem wkC_is {f : Int → Bool} {ch : List Chn} {k : Nat} (h : k < 8) : (wkC f ch)[k]? = some (.bool (f (k : Int))) := by
 unfold wkC
 rw [List.getElem?_append_left (by simpa using h)]
 simp [h]
theorem wkC_l {f : Int → Bool} {ch : List Chn} {k : Nat} : (wkC f ch)[8 + k]? = (ch[k]?).map vCh := by
 unfold wkC
 rw [List.getElem?_append_right (by simp)]
 simp
theorem wkC_len {f : Int → Bool} {ch : List Chn} (h : ch.length = 8) : (wkC f ch).length = 16 := by
 unfold wkC
 simp [h]
theorem wkC_add {f : Int → Bool} {ch : List Chn} {k : Nat} (h : k < 8) : (wkC f ch).set k (.bool true) = wkC (addB f (k : Int)) ch := by
 refine List.ext_getElem? fun j => ?_
 rw [List.getElem?_set]
 by_cases e : k = j
 ·subst e
  rw [if_pos rfl, wkC_is h, if_pos (by unfold wkC; simp; omega)]
  unfold addB
  simp
 ·rw [if_neg e]
  by_cases hj : j < 8
  ·rw [wkC_is hj, wkC_is hj]
   have : ¬ (j : Int) = (k : Int) := by omega
   unfold addB
   simp [this]
  ·obtain ⟨i, rfl⟩ : ∃ i, j = 8 + i := ⟨j - 8, by omega⟩
   rw [wkC_l, wkC_l]
theorem wkC_set {f : Int → Bool} {ch : List Chn} {k : Nat} (x : Chn) : (wkC f ch).set (8 + k) (vCh x) = wkC f (ch.set k x) := by
 unfold wkC
 rw [List.set_append, List.map_set, if_neg (by simp)]
 simp
structure WkIn (W : World) (g : Nat) (f : Int → Bool) (ch : List Chn) (n : Nat) : Prop where
 blk : Blk W g 203 (wkC f ch).toArray
 len : ch.length = 8
 ok : ∀ (k : Nat) (x : Chn), ch[k]? = some x → (SlT W x.A x.L ∧ x.L.length ≤ x.c ∧ x.c ≤ maxLen) ∧ x.L.length ≤ n ∧ (f (k : Int) = true → x.L.length = n)
section
variable {W W' : World} {g n : Nat} {f : Int → Bool} {ch : List Chn}
theorem WkIn.lt (h : WkIn W g f ch n) : g < W.heap.size := h.blk.lt
theorem WkIn.frozen (h : WkIn W g f ch n) (k : Nat) : W.frozen? ⟨g, k, none⟩ = false := h.blk.frozen k
theorem WkIn.below (h : WkIn W g f ch n) (hb : Below W.heap.size W W') : WkIn W' g f ch n := ⟨h.blk.below hb h.lt, h.len, fun k x hx => ⟨⟨(h.ok k x hx).1.1.below hb, (h.ok k x hx).1.2⟩, (h.ok k x hx).2⟩⟩
theorem WkIn.is (h : WkIn W g f ch n) {k : Nat} (hk : k < 8) : W.cell? ⟨g, k, none⟩ = some (.bool (f (k : Int))) := by
 rw [h.blk.cell, List.getElem?_toArray, wkC_is hk]
theorem WkIn.l (h : WkIn W g f ch n) {k : Nat} {x : Chn} (hx : ch[k]? = some x) : W.cell? ⟨g, 8 + k, none⟩ = some (.slice x.A x.L.length x.c) := by
 rw [h.blk.cell, List.getElem?_toArray, wkC_l, hx]
 rfl
theorem WkIn.get (h : WkIn W g f ch n) {k : Nat} (hk : k < 8) : ∃ x, ch[k]? = some x := ⟨_, List.getElem?_eq_getElem (by have := h.len; omega)⟩
theorem WkIn.put (h : WkIn W g f ch n) {k : Nat} (hk : k < 8) {x : Chn} (hx : SlT W x.A x.L) (hc : x.L.length ≤ x.c ∧ x.c ≤ maxLen) (hl : x.L.length = n) :
 WkIn ((W.setCell ⟨g, k, none⟩ (.bool true)).setCell ⟨g, 8 + k, none⟩ (vCh x)) g (addB f (k : Int)) (ch.set k x) n := by
 have h1 : Blk (W.setCell ⟨g, k, none⟩ (.bool true)) g 203 (wkC (addB f (k : Int)) ch).toArray := by
  have := h.blk.set_ k (.bool true)
  rw [← wkC_add hk]
  simpa using this
 have h2 : Blk ((W.setCell ⟨g, k, none⟩ (.bool true)).setCell ⟨g, 8 + k, none⟩ (vCh x)) g 203 (wkC (addB f (k : Int)) (ch.set k x)).toArray := by
  have := h1.set_ (8 + k) (vCh x)
  rw [← wkC_set]
  simpa using this
 have hs : ∀ y : Chn, SlT W y.A y.L → SlT ((W.setCell ⟨g, k, none⟩ (.bool true)).setCell ⟨g, 8 + k, none⟩ (vCh x)) y.A y.L := fun y hy =>
  (hy.set_ (p := ⟨g, k, none⟩) h.blk (by decide) _).set_ (p := ⟨g, 8 + k, none⟩) h1 (by decide) _
 refine ⟨h2, by rw [List.length_set]; exact h.len, fun j y hy => ?_⟩
 by_cases e : k = j
 ·subst e
  rw [List.getElem?_set_self (by rw [h.len]; exact hk)] at hy
  injection hy with hy
  subst hy
  exact ⟨⟨hs _ hx, hc⟩, by omega, fun _ => hl⟩
 ·rw [List.getElem?_set_ne e] at hy
  obtain ⟨h3, h4, h5⟩ := h.ok j y hy
  refine ⟨⟨hs _ h3.1, h3.2⟩, h4, fun hf => h5 ?_⟩
  unfold addB at hf
  have : ¬ (j : Int) = (k : Int) := by omega
  simpa [this] using hf
theorem WkIn.new (W : World) (n : Nat) : WkIn (W.alloc (.cells #[.bool false, .bool false, .bool false, .bool false, .bool false, .bool false, .bool false, .bool false, .slice none 0 0, .slice none 0 0, .slice none 0 0, .slice none 0 0, .slice none 0 0, .slice none 0 0, .slice none 0 0, .slice none 0 0] 203)) W.heap.size (fun _ => false) (List.replicate 8 ⟨none, [], 0⟩) n :=
 ⟨Blk.new _ _ _, by simp, fun k x hx => by
  have := List.mem_of_getElem? hx
  rw [(List.mem_replicate.1 this).2]
  exact ⟨⟨SlT.nil, Nat.le_refl _, Nat.zero_le _⟩, Nat.zero_le _, fun h => by cases h⟩⟩
end
def stepB (s : Sc) (p : Ru → Bool) (f : Int → Bool) (k : Nat) : Int → Bool := (s.rs.take k).foldl (fun g r => if f r.fr = true ∧ p r = true then addB g r.to else g) (fun _ => false)
theorem stepB_yes {s : Sc} {p : Ru → Bool} {f : Int → Bool} {k : Nat} {r : Ru} (hr : s.rs[k]? = some r) (h : f r.fr = true ∧ p r = true) : stepB s p f (k + 1) = addB (stepB s p f k) r.to := by
 unfold stepB
 rw [take_succ_of hr, List.foldl_append]
 exact if_pos h
theorem stepB_no {s : Sc} {p : Ru → Bool} {f : Int → Bool} {k : Nat} {r : Ru} (hr : s.rs[k]? = some r) (h : ¬ (f r.fr = true ∧ p r = true)) : stepB s p f (k + 1) = stepB s p f k := by
 unfold stepB
 rw [take_succ_of hr, List.foldl_append]
 exact if_neg h
theorem stepB_iff {s : Sc} {p : Ru → Bool} {f : Int → Bool} {x : Int} : ∀ k, k ≤ s.rs.length → (stepB s p f k x = true ↔ ∃ r ∈ s.rs.take k, f r.fr = true ∧ p r = true ∧ r.to = x) := by
 intro k
 induction k with
 | zero => exact fun _ => ⟨fun h => (by cases h), fun ⟨r, h, _⟩ => (by cases h)⟩
 | succ k ih =>
  intro hk
  have hr : s.rs[k]? = some s.rs[k] := List.getElem?_eq_getElem (by omega)
  have ih := ih (by omega)
  rw [take_succ_of hr]
  by_cases h : f (s.rs[k]).fr = true ∧ p (s.rs[k]) = true
  ·rw [stepB_yes hr h]
   unfold addB
   rw [Bool.or_eq_true, decide_eq_true_iff, ih]
   constructor
   ·rintro (e | ⟨r, h1, h2⟩)
    ·exact ⟨_, List.mem_append_right _ (List.mem_singleton.2 rfl), h.1, h.2, e.symm⟩
    ·exact ⟨r, List.mem_append_left _ h1, h2⟩
   ·rintro ⟨r, h1, h2⟩
    rcases List.mem_append.1 h1 with h1 | h1
    ·exact .inr ⟨r, h1, h2⟩
    ·rw [List.mem_singleton.1 h1] at h2
     exact .inl h2.2.2.symm
  ·rw [stepB_no hr h, ih]
   constructor
   ·rintro ⟨r, h1, h2⟩
    exact ⟨r, List.mem_append_left _ h1, h2⟩
   ·rintro ⟨r, h1, h2⟩
    rcases List.mem_append.1 h1 with h1 | h1
    ·exact ⟨r, h1, h2⟩
    ·rw [List.mem_singleton.1 h1] at h2
     exact absurd ⟨h2.1, h2.2.1⟩ h
theorem stepB_ch {s : Sc} {p : Ru → Bool} {f : Int → Bool} {a : Int} {n : Nat} (hf : ∀ x, f x = true ↔ Ch s p a n x) (x : Int) : stepB s p f s.rs.length x = true ↔ Ch s p a (n + 1) x := by
 rw [stepB_iff _ (Nat.le_refl _), List.take_length]
 constructor
 ·rintro ⟨r, h1, h2, h3, rfl⟩
  exact .succ ((hf _).1 h2) h1 h3 rfl
 ·intro h
  cases h with
  | succ h1 h2 h3 h4 => exact ⟨_, h2, by rw [h4]; exact (hf _).2 h1, h3, rfl⟩
def askP (silent : Bool) (r : Ru) : Bool := !silent || r.mute
def IsWk (s : Sc) (silent : Bool) (f : Int → Bool) (n : Nat) (w : World) (e : Ending) (w' : World) : Prop :=
 (∃ ch, e = .returned (.agg (wkC (stepB s (askP silent) f s.rs.length) ch).toArray) ∧ ch.length = 8 ∧
  ∀ (k : Nat) (x : Chn), ch[k]? = some x → (SlT w' x.A x.L ∧ x.L.length ≤ x.c ∧ x.c ≤ maxLen) ∧ x.L.length ≤ n + 1 ∧ (stepB s (askP silent) f s.rs.length (k : Int) = true → x.L.length = n + 1)) ∧ Below w.heap.size w w'
def IsSkip (p : Prop) (v : Value) : Prop := ∃ bb : Bool, v = .bool bb ∧ (bb = true ↔ ¬ p)
theorem IsSkip.mk {p : Prop} {bb : Bool} (h : bb = true ↔ ¬ p) : IsSkip p (.bool bb) := ⟨bb, rfl, h⟩
theorem addB_same {f : Int → Bool} {x : Int} (h : f x = true) : addB f x = f := by
 funext y
 unfold addB
 by_cases e : y = x
 ·subst e; simp [h]
 ·simp [e]
section
variable {P : Program} {ops : Array Oper} {Q : Exit → Act → World → Prop}
theorem wpList_appS5 {rest : List Oper} {α : Type} {enc : α → List Value} {R : World → α → List Value → Prop} {o : Oper} {a : Act} {w : World} (hgd : o.guard = none) (s x : Operand) (t : TypeId)
 (ho : o.op = .call { callee := .builtin .append, args := #[s, x], argTypes := #[t, t] })
 (base : Nat) (e : TypeId) (i : TypeInfo) (z : Value) (size bytes : Nat) (ht : P.underlying t = some (.slice e)) (hi : P.info? e = some i) (hz : i.zero = some z)
 (hsize : i.size = size) (hby : i.bytes = bytes) (hzs : z.cells.size = size) (hsz : 0 < size)
 (v : Value) (n : Nat) (xs : List Value) (hs : a.eval s = v) (hown : w.ownsRow base e size v n xs)
 (A : Option Addr) (c : Nat) (ys : List α) (hx : a.eval x = .slice A ys.length c) (hr : SlR size R w A ys) (hR : ∀ w x vs, R w x vs → vs = enc x) (hl : ∀ x, (enc x).length = size) (h1 : ∀ u ∈ ys.flatMap enc, u.oneCell' = true)
 (hn : n + ys.length ≤ 1000000) (hbb : bytes ≤ 1000) (hbase : base ≤ w.heap.size)
 (h : ∀ v' w', w'.ownsRow base e size v' (n + ys.length) (xs ++ ys.flatMap enc) → Below base w w' → Apps w w' v v' → wpList P ops Q rest (a.put o.dst v') w') : wpList P ops Q (o :: rest) a w :=
 wpList_plain hgd fun K hK => wp_appS (K := K) s x t ho base e i z size bytes ht hi hz hsize hby hzs hsz v n xs hs hown A c ys hx hr hR hl h1 hn hbb hbase (fun v' w' h1 h2 h3 => hK _ _ (h v' w' h1 h2 h3))
end
def IsKeep (p : Prop) (v : Value) : Prop := ∃ bb : Bool, v = .bool bb ∧ (bb = false → p)
theorem IsKeep.mk {p : Prop} {bb : Bool} (h : bb = false → p) : IsKeep p (.bool bb) := ⟨bb, rfl, h⟩
theorem wkC_one {f : Int → Bool} {ch : List Chn} : (wkC f ch).toArray.all (·.oneCell') = true := by
 rw [List.all_toArray, List.all_eq_true]
 intro v hv
 rcases List.mem_append.1 hv with h | h
 ·obtain ⟨k, _, rfl⟩ := List.mem_map.1 h; rfl
 ·obtain ⟨k, _, rfl⟩ := List.mem_map.1 h; rfl
theorem SlT.row_ {w : World} {A : Option Addr} {xs : List Int} {g : Nat} {t : TypeId} {cs : Array Value} (h : SlT w A xs) (hp : Blk w g t cs) (hne : t ≠ 3) (cs' : Array Value) : SlT (w.setRow g cs') A xs := fun hn => by
 obtain ⟨b, off, ds, hA, hB, hc⟩ := h hn
 refine ⟨b, off, ds, hA, ?_, hc⟩
 have hbg : b ≠ g := fun e => by
  unfold Blk at hB hp
  rw [e] at hB
  rw [hB] at hp
  injection hp with hp
  injection hp with _ ht
  exact hne ht.symm
 unfold Blk
 rw [setRow_other _ _ _ _ hbg]
 exact hB
theorem walk_info : (Tryz.prog.info? 203).map (·.size) = some 16 := by kernel_rfl
theorem ints_one {l : List Int} : ∀ u ∈ l.flatMap (fun x => [Value.int .i64 x]), u.oneCell' = true := fun u hu => by
 obtain ⟨x, _, hx⟩ := List.mem_flatMap.1 hu
 rw [List.mem_singleton.1 hx]
 rfl
set_option maxHeartbeats 8000000 in
theorem rnext_any (s : Sc) (A : Option Addr) (c : Nat) (f : Int → Bool) (ch : List Chn) (silent : Bool) (n : Nat) (w : World) (hs : ScIn w s A c) (hok : ScOK s) (hch : ch.length = 8) (hn9 : n ≤ 8)
 (hwk : ∀ (k : Nat) (x : Chn), ch[k]? = some x → (SlT w x.A x.L ∧ x.L.length ≤ x.c ∧ x.c ≤ maxLen) ∧ x.L.length ≤ n ∧ (f (k : Int) = true → x.L.length = n)) :
 Calls Tryz.prog 117 #[.agg #[.int .i64 s.n, .int .u8 s.acc, .slice A s.rs.length c], .agg (wkC f ch).toArray, .bool silent] w (IsWk s silent f n w) := by
 obtain ⟨i0, hinf, hz0, hz1, hz2⟩ := info_parts cloneI_info
 have HCL := Lib.hid (wkC_len (f := f) hch)
 obtain ⟨ask, hask⟩ : ∃ p, askP silent = p := ⟨_, rfl⟩
 have HASK := Lib.hid hask
 clear hask
 obtain ⟨cw, hcw⟩ : ∃ z, (wkC f ch).toArray = z := ⟨_, rfl⟩
 have HCW := Lib.hid hcw
 rw [hcw]
 obtain ⟨w1, hw1⟩ : ∃ w1, w.alloc (.cells #[.int .i64 s.n, .int .u8 s.acc, .slice A s.rs.length c] 30) = w1 := ⟨_, rfl⟩
 have hb1 : Below w.heap.size w w1 := by rw [← hw1]; exact nw _ (Below.refl _ _)
 have hB : Blk w1 w.heap.size 30 #[.int .i64 s.n, .int .u8 s.acc, .slice A s.rs.length c] := by rw [← hw1]; exact Blk.new _ _ _
 have HW1 := Lib.hid hw1
 have HB1 := Lib.hid hb1
 have HCE : Hid (∀ W, Below w1.heap.size w1 W → W.cell? ⟨w.heap.size, 0, none⟩ = some (.int .i64 s.n) ∧ W.cell? ⟨w.heap.size, 1, none⟩ = some (.int .u8 s.acc) ∧ W.cell? ⟨w.heap.size, 2, none⟩ = some (.slice A s.rs.length c) ∧ w.heap.size < W.heap.size) := fun W hW => by
  have e1 := hB.below hW hB.lt
  exact ⟨by rw [e1.cell]; rfl, by rw [e1.cell]; rfl, by rw [e1.cell]; rfl, e1.lt⟩
 obtain ⟨b0, b1, b2, bl⟩ := HCE.out _ (Below.refl _ _)
 clear hw1 hb1 hB
 go_enter Tryz.func117, Tryz.ntmps117
 go_upto_region 2 with fail
 rw [HW1.out]
 obtain ⟨w2, hw2⟩ : ∃ W, w1.alloc (.cells cw 203) = W := ⟨_, rfl⟩
 have hg2 : w1.heap.size = w.heap.size + 1 := by rw [← HW1.out]; simp
 have hc2 : Blk w2 w1.heap.size 203 (wkC f ch).toArray := by rw [← hw2, HCW.out]; exact Blk.new _ _ _
 have hb2 : Below w1.heap.size w1 w2 := by rw [← hw2]; exact nw _ (Below.refl _ _)
 have hs2 : w2.heap.size = w1.heap.size + 1 := by rw [← hw2]; simp
 rw [hw2]
 obtain ⟨w3, hw3⟩ : ∃ W, w2.alloc (.cells #[.bool false, .bool false, .bool false, .bool false, .bool false, .bool false, .bool false, .bool false, .slice none 0 0, .slice none 0 0, .slice none 0 0, .slice none 0 0, .slice none 0 0, .slice none 0 0, .slice none 0 0, .slice none 0 0] 203) = W := ⟨_, rfl⟩
 have hc3 : Blk w3 w2.heap.size 203 #[.bool false, .bool false, .bool false, .bool false, .bool false, .bool false, .bool false, .bool false, .slice none 0 0, .slice none 0 0, .slice none 0 0, .slice none 0 0, .slice none 0 0, .slice none 0 0, .slice none 0 0, .slice none 0 0] := by rw [← hw3]; exact Blk.new _ _ _
 have hb3 : Below w2.heap.size w2 w3 := by rw [← hw3]; exact nw _ (Below.refl _ _)
 have hs3 : w3.heap.size = w2.heap.size + 1 := by rw [← hw3]; simp
 rw [hw3]
 obtain ⟨w4, hw4⟩ : ∃ W, w3.alloc (.cells #[.bool false, .bool false, .bool false, .bool false, .bool false, .bool false, .bool false, .bool false, .slice none 0 0, .slice none 0 0, .slice none 0 0, .slice none 0 0, .slice none 0 0, .slice none 0 0, .slice none 0 0, .slice none 0 0] 203) = W := ⟨_, rfl⟩
 have hc4 : WkIn w4 w3.heap.size (fun _ => false) (List.replicate 8 ⟨none, [], 0⟩) (n + 1) := by rw [← hw4]; exact WkIn.new _ _
 have hb4 : Below w3.heap.size w3 w4 := by rw [← hw4]; exact nw _ (Below.refl _ _)
 rw [hw4]
 obtain ⟨g1, e1⟩ : ∃ g, w.heap.size + 1 = g := ⟨_, rfl⟩
 rw [e1]
 obtain ⟨g2, e2⟩ : ∃ g, g1 + 1 = g := ⟨_, rfl⟩
 rw [e2]
 obtain ⟨g3, e3⟩ : ∃ g, g2 + 1 = g := ⟨_, rfl⟩
 rw [e3]
 have k1 : w1.heap.size = g1 := by omega
 have k2 : w2.heap.size = g2 := by omega
 have k3 : w3.heap.size = g3 := by omega
 rw [k1] at hc2
 rw [k2] at hc3
 rw [k3] at hc4
 have HB3 := Lib.hid (bthen hb2 hb3)
 have HC2 : Hid (∀ W, Below w3.heap.size w3 W → Blk W g1 203 (wkC f ch).toArray) := fun W hW => (hc2.below hb3 hc2.lt).below hW (by omega)
 have HC3 : Hid (∀ W, Below w3.heap.size w3 W → Blk W g2 203 #[.bool false, .bool false, .bool false, .bool false, .bool false, .bool false, .bool false, .bool false, .slice none 0 0, .slice none 0 0, .slice none 0 0, .slice none 0 0, .slice none 0 0, .slice none 0 0, .slice none 0 0, .slice none 0 0]) := fun W hW => hc3.below hW hc3.lt
 have HG3 : Hid (w3.heap.size = g3 ∧ w.heap.size ≤ g2) := by show _ ∧ _; omega
 have HB4 := Lib.hid hb4
 have HC4 := Lib.hid hc4
 have HS := Lib.hid hs
 have hl := hs.len
 have HOK := Lib.hid hok
 have HWK := Lib.hid hwk
 clear hw2 hw3 hw4 hb2 hb3 hb4 hc2 hc3 hc4 hs2 hs3 e1 e2 e3 k1 k2 hg2 hs hok hwk hcw b0 b1 b2 bl
 go_wp2_with fail
 go_loopw [8] (fun iv wr => ∃ (k : Nat) (ch' : List Chn), k ≤ s.rs.length ∧ iv = .int .i64 (k : Int) ∧ Hid (WkIn wr g3 (stepB s ask f k) ch' (n + 1)) ∧ Below w3.heap.size w3 wr) (fun iv _ => s.rs.length - (intOf iv).toNat)
 case atStart => exact ⟨0, _, by omega, rfl, HC4.out, HB4.out⟩
 case round =>
  obtain ⟨wR, rfl⟩ : ∃ W, W = wr := ⟨wr, rfl⟩
  obtain ⟨k, ch', hk, rfl, HV, hbr⟩ := hrel
  have HBR := Lib.hid hbr
  clear hbr
  obtain ⟨b0, b1, b2, bl⟩ := HCE.out _ (bthen HB3.out HBR.out)
  by_cases hlt : k < s.rs.length
  ·obtain ⟨b, off, t, rfl, hbb, hxx, d0, d1, d2, d3, d4⟩ := ((HS.out.below (bthen HB1.out (bthen HB3.out HBR.out))).sl).ru hlt
   have htm := List.mem_of_getElem? hxx
   have hru := HOK.out.2.2.2.1 t htm
   have hn := HOK.out.1
   have hm1 : 0 ≤ t.fr ∧ t.fr < 8 := by have := hru.1; omega
   have hm2 : 0 ≤ t.to ∧ t.to < 8 := by have := hru.1; omega
   have hki : (k : Int) < (s.rs.length : Int) := by omega
   have hk0 : (0 : Int) ≤ (k : Int) := by omega
   obtain ⟨fa, hfa⟩ : ∃ q : Nat, t.fr = (q : Int) := ⟨t.fr.toNat, by omega⟩
   obtain ⟨ta, hta⟩ : ∃ q : Nat, t.to = (q : Int) := ⟨t.to.toNat, by omega⟩
   have hfa8 : fa < 8 := by omega
   have hta8 : ta < 8 := by omega
   rw [hfa] at d0
   rw [hta] at d1
   have HT := Lib.hid (And.intro hxx (And.intro hfa hta))
   clear hxx htm hru hn hm1 hm2 hfa hta
   go_upto_region 6 with fail
   obtain ⟨b9, hb9⟩ : ∃ x, wR.heap.size = x := ⟨_, rfl⟩
   obtain ⟨X1, hX1⟩ : ∃ W, wR.alloc (.cells #[.int .i64 (fa : Int), .int .i64 (ta : Int), .string t.inp, .string t.out, .int .i64 t.co] 61) = W := ⟨_, rfl⟩
   have hB9 : Blk X1 b9 61 #[.int .i64 (fa : Int), .int .i64 (ta : Int), .string t.inp, .string t.out, .int .i64 t.co] := by rw [← hX1]; exact Blk.new_ hb9.symm
   have hX : Below wR.heap.size wR X1 := by rw [← hX1]; exact nw _ (Below.refl _ _)
   rw [hb9, hX1]
   have HV1 := Lib.hid (HV.out.below hX)
   have hgb : g3 < b9 := by have := HV.out.lt; omega
   have hgb1 : ¬ g3 = b9 := by omega
   have hgb2 : ¬ b9 = g3 := by omega
   have hta9 : ¬ ta = 8 + ta := by omega
   have HBX := Lib.hid (HBR.out.trans (hX.mono HBR.out.size))
   clear hX1 hb9 hX d0 d1 d2 d3 d4 hbb b0 b1 b2 bl HV
   have h2 := HC2.out X1 HBX.out
   have q0 := h2.cell fa
   rw [List.getElem?_toArray, wkC_is hfa8] at q0
   have ql := h2.lt
   have p0 := hB9.cell 0
   have p1 := hB9.cell 1
   have p2 := hB9.cell 2
   have pl := hB9.lt
   simp at p0 p1 p2
   have hf0 : (0 : Int) ≤ (fa : Int) := by omega
   have hf1 : (fa : Int) < 8 := by omega
   have ht0 : (0 : Int) ≤ (ta : Int) := by omega
   have ht1 : (ta : Int) < 8 := by omega
   have HB9 := Lib.hid hB9
   clear h2 hB9
   go_cut [2, 37] (fun s2 s37 W => s2 = .bool silent ∧ IsSkip (f (fa : Int) = true ∧ ask t = true) s37 ∧ X1 = W)
   case first =>
    cases hf : f (fa : Int) with
    | false =>
     rw [hf] at q0
     go_wp2_with fail
     go_meet
     exact ⟨rfl, .mk ⟨fun _ h => (by rw [hf] at h; cases h.1), fun _ => rfl⟩, rfl⟩
    | true =>
     rw [hf] at q0
     cases hs : silent with
     | false =>
      have hat : ask t = true := by rw [← HASK.out, hs]; rfl
      have HAT := Lib.hid hat
      have HF := Lib.hid hf
      clear hat hf
      go_wp2_with fail
      go_meet
      exact ⟨by rw [hs], .mk ⟨fun h => (by cases h), fun h => absurd ⟨HF.out, HAT.out⟩ h⟩, rfl⟩
     | true =>
      by_cases hm : t.inp.size = 0
      ·have hat : ask t = true := by rw [← HASK.out, hs]; exact decide_eq_true hm
       have HAT := Lib.hid hat
       have HF := Lib.hid hf
       have h1 : t.inp.toList = [] := by rw [Lib.toList_data]; exact List.length_eq_zero_iff.1 hm
       clear hat hf
       go_wp2_with fail
       go_meet
       exact ⟨by rw [hs], .mk ⟨fun h => (by cases h), fun h => absurd ⟨HF.out, HAT.out⟩ h⟩, rfl⟩
      ·have hat : ask t = false := by rw [← HASK.out, hs]; exact decide_eq_false hm
       have HAT := Lib.hid hat
       have h1 : ¬ t.inp.toList = [] := fun e => hm (by rw [Lib.toList_data] at e; have := congrArg List.length e; exact this)
       have h2 : t.inp.toList.isEmpty = false := by simpa using h1
       clear hat hf
       go_wp2_with fail
       go_meet
       exact ⟨by rw [hs], .mk ⟨fun _ h => (by rw [HAT.out] at h; cases h.2), fun _ => rfl⟩, rfl⟩
   case rest =>
    obtain ⟨rfl, hsk, rfl⟩ := hcut
    obtain ⟨bb, rfl, hbb⟩ := hsk
    have HBB := Lib.hid hbb
    clear hbb
    cases hbv : bb with
    | true =>
     have HNO : Hid (¬ (f (fa : Int) = true ∧ ask t = true)) := HBB.out.1 hbv
     go_wp2_with fail
     go_roundw
     case rel => exact ⟨k + 1, ch', by omega, by go_num, (by show WkIn _ _ _ _ _; rw [stepB_no HT.out.1 (by rw [HT.out.2.1]; exact HNO.out)]; exact HV1.out), HBX.out⟩
     case measure => simp [intOf]; omega
    | false =>
     have HYES : Hid (f (fa : Int) = true ∧ ask t = true) := Classical.byContradiction fun h => by have := HBB.out.2 h; rw [hbv] at this; cases this
     obtain ⟨x, hx⟩ : ∃ x, ch[fa]? = some x := ⟨_, List.getElem?_eq_getElem (by have := hch; omega)⟩
     obtain ⟨⟨hxs, hxc, hxm⟩, hxn, hxe⟩ := HWK.out fa x hx
     have hxl : x.L.length = n := hxe HYES.out.1
     have q8 := (HC2.out X1 HBX.out).cell (8 + fa)
     rw [List.getElem?_toArray, wkC_l, hx] at q8
     have q8 : X1.cell? ⟨g1, 8 + fa, none⟩ = some (.slice x.A x.L.length x.c) := q8
     have HXS := Lib.hid (hxs.below (bthen HB1.out (bthen HB3.out HBX.out)))
     clear hx hxs hxe HBB
     go_upto_region 9 with (first
      | (at_builtin; go_loud (refine wpList_appS5 (enc := fun x => [Value.int .i64 x]) (R := RInt) rfl _ _ 99 rfl X1.heap.size 3 i0 _ 1 8 Tryz.underlying99 hinf hz0 hz1 hz2 rfl (by decide) v5 _ _ rfl (hown5.alloc _) (some ⟨X5.heap.size, 0, none⟩) 1 [(k : Int)] rfl (slr_blkR (enc := fun x => [Value.int .i64 x]) (Blk.new_ rfl) (fun _ => rfl) (fun _ => rfl)) (fun _ _ _ h => h) (fun _ => rfl) ints_one (by simp; omega) (by decide) (by have := hb5.size; simp at this ⊢; omega) ?_; intro v6 X6 hown6 hb6 ha6))
      | (at_builtin; go_loud (refine wpList_appS5 (enc := fun x => [Value.int .i64 x]) (R := RInt) rfl _ _ 99 rfl X1.heap.size 3 i0 _ 1 8 Tryz.underlying99 hinf hz0 hz1 hz2 rfl (by decide) (.slice (some ⟨X1.heap.size, 0, none⟩) 0 0) 0 [] rfl (own_empty X1 _ _ _ (Nat.le_refl _)) x.A x.c x.L rfl ((HXS.out.below (nw _ (Below.refl _ _))).slr) (fun _ _ _ h => h) (fun _ => rfl) ints_one (by omega) (by decide) (by simp) ?_; intro v5 X5 hown5 hb5 ha5)))
     have e6 : (x.L ++ [(k : Int)]).length = n + 1 := by simp; omega
     have h6 : X6.ownsRow X1.heap.size 3 1 v6 (n + 1) ((x.L ++ [(k : Int)]).map (Value.int .i64)) := by
      have e : 0 + x.L.length + [(k : Int)].length = n + 1 := by simp; omega
      rw [e, ou_flat, ou_flat] at hown6
      simpa using hown6
     obtain ⟨B6, c6, rfl, hc6, hcm6, hs6⟩ := own_slt h6 e6.symm
     have hb15 : Below X1.heap.size X1 X5 := (nw _ (Below.refl _ _)).trans hb5
     have hb16 : Below X1.heap.size X1 X6 := (hb15.alloc hb15.size _).trans hb6
     have HV6 := Lib.hid (HV1.out.below hb16)
     have HBX6 := Lib.hid (HBX.out.trans (hb16.mono HBX.out.size))
     have HB96 := Lib.hid (HB9.out.below hb16 HB9.out.lt)
     have HS6 := Lib.hid hs6
     obtain ⟨y, hy⟩ := HV6.out.get hta8
     have HY := Lib.hid hy
     have r0 := HV6.out.is hta8
     have r8 := HV6.out.l hy
     have rl := HV6.out.lt
     have p1 := HB96.out.cell 1
     have pl := HB96.out.lt
     simp at p1
     have HBF : Hid (Calls Tryz.prog 118 #[.slice B6 (n + 1) c6, .slice y.A y.L.length y.c] X6 fun e w' => IsBool e ∧ Below X6.heap.size X6 w') := by
      have h := rbefore04_any B6 y.A (x.L ++ [(k : Int)]) y.L c6 y.c X6 hs6.slr (HV6.out.ok _ _ hy).1.1.slr (by rw [e6]; omega)
      rw [e6] at h
      exact h
     clear hown6 h6 hb5 hb6 ha5 ha6 hb15 hb16 hs6 hy hown5 q0 q8 ql p0 p2 HV1 HBX HB9 HXS
     go_cut [63] (fun s63 W => IsKeep (stepB s ask f k (ta : Int) = true) s63 ∧ Below X6.heap.size X6 W)
     case first =>
      cases hst : stepB s ask f k (ta : Int) with
      | false =>
       rw [hst] at r0
       go_wp2_with fail
       go_meet
       exact ⟨.mk (fun h => by cases h), Below.refl _ _⟩
      | true =>
       rw [hst] at r0
       have HST := Lib.hid hst
       clear hst
       go_wp2_with (go_at_call 118; go_loud (refine HBF.out.mono ?_; rintro e W7 ⟨⟨bv, rfl⟩, hb7⟩))
       go_meet
       exact ⟨.mk (fun _ => HST.out), hb7⟩
     case rest =>
      obtain ⟨X7, rfl⟩ : ∃ W, W = wc := ⟨wc, rfl⟩
      obtain ⟨⟨bb, rfl, hbb⟩, hb7⟩ := hcut
      have HV7 := Lib.hid (HV6.out.below hb7)
      have HBX7 := Lib.hid (HBX6.out.trans (hb7.mono HBX6.out.size))
      have HS7 := Lib.hid (HS6.out.below hb7)
      have hB97 := HB96.out.below hb7 HB96.out.lt
      have p1 := hB97.cell 1
      have pl := hB97.lt
      simp at p1
      have r0 := HV7.out.is hta8
      have r8 := HV7.out.l HY.out
      have rl := HV7.out.lt
      have rf0 := HV7.out.frozen ta
      have rf8 := HV7.out.frozen (8 + ta)
      have HKP := Lib.hid hbb
      clear hb7 hB97 HV6 HBX6 HB96 HBF hbb
      cases hbv : bb with
      | true =>
       have hPUT := HV7.out.put hta8 (x := ⟨B6, x.L ++ [(k : Int)], c6⟩) HS7.out ⟨by show (x.L ++ [(k : Int)]).length ≤ c6; omega, hcm6⟩ e6
       have e7 : vCh ⟨B6, x.L ++ [(k : Int)], c6⟩ = .slice B6 (n + 1) c6 := by show Value.slice B6 (x.L ++ [(k : Int)]).length c6 = _; rw [e6]
       rw [e7] at hPUT
       have HPUT := Lib.hid hPUT
       clear hPUT e7
       go_wp2_with fail
       go_roundw
       case rel => exact ⟨k + 1, _, by omega, by go_num, (by show WkIn _ _ _ _ _; rw [stepB_yes HT.out.1 (by rw [HT.out.2.1]; exact HYES.out), HT.out.2.2]; exact HPUT.out), (HBX7.out.setCell (p := ⟨g3, ta, none⟩) (Nat.le_of_eq HG3.out.1) _).setCell (p := ⟨g3, 8 + ta, none⟩) (Nat.le_of_eq HG3.out.1) _⟩
       case measure => simp [intOf]; omega
      | false =>
       have HSAME : Hid (addB (stepB s ask f k) (ta : Int) = stepB s ask f k) := addB_same (HKP.out hbv)
       go_wp2_with fail
       go_roundw
       case rel => exact ⟨k + 1, ch', by omega, by go_num, (by show WkIn _ _ _ _ _; rw [stepB_yes HT.out.1 (by rw [HT.out.2.1]; exact HYES.out), HT.out.2.2, HSAME.out]; exact HV7.out), HBX7.out⟩
       case measure => simp [intOf]; omega
  ·have hki : ¬ (k : Int) < (s.rs.length : Int) := by omega
   obtain rfl : k = s.rs.length := by omega
   have HCR := Lib.hid (HC3.out wR HBR.out)
   have HSZ : Hid ((Tryz.prog.info? 203).map (·.size) = some (wkC (stepB s ask f s.rs.length) ch').toArray.size) := by
    show _ = _
    rw [walk_info, List.size_toArray, wkC_len HV.out.len]
   have HOLD : Hid (#[Value.bool false, .bool false, .bool false, .bool false, .bool false, .bool false, .bool false, .bool false, .slice none 0 0, .slice none 0 0, .slice none 0 0, .slice none 0 0, .slice none 0 0, .slice none 0 0, .slice none 0 0, .slice none 0 0].size = (wkC (stepB s ask f s.rs.length) ch').toArray.size) := by show (16 : Nat) = (wkC (stepB s ask f s.rs.length) ch').toArray.size; rw [List.size_toArray, wkC_len HV.out.len]
   go_upto_region 12 with fail
   go_wp2_with (first | (refine wpList_load_row rfl 203 _ rfl g3 rfl 203 (wkC (stepB s ask f s.rs.length) ch').toArray (0, 0) _ HV.out.blk Tryz.underlying203 rfl HSZ.out ?_) | (refine wpList_store_row rfl 203 _ _ rfl g2 (wkC (stepB s ask f s.rs.length) ch').toArray rfl rfl 203 _ HCR.out HSZ.out HOLD.out wkC_one ?_))
   (try simp only [Exit.inBlock, Exit.then])
   refine ret_cell (t := 203) (cs := (wkC (stepB s ask f s.rs.length) ch').toArray) (setRow_heap _ _ _ _ _ _ HCR.out) rfl rfl Tryz.underlying203 rfl HSZ.out rfl ?_
   refine ⟨⟨ch', by rw [HASK.out], HV.out.len, fun k x hx => ?_⟩, below_setRow (bthen HB1.out (bthen HB3.out HBR.out)) HG3.out.2 _⟩
   obtain ⟨h1, h2, h3⟩ := HV.out.ok k x hx
   exact ⟨⟨h1.1.row_ HCR.out (by decide) _, h1.2⟩, h2, fun h => h3 (by rw [← HASK.out]; exact h)⟩
end Go.Proofs.YtfpnhgahkjglgaaGreat
