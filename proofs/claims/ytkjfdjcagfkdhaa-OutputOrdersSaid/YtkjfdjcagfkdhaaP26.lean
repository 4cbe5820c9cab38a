/-
  OuLawB, OuLawC, OuLawD, OuLimit, OuLimP, Open, Open2, joined. No conditions.
-/
import Derived.Test.YtkjfdjcagfkdhaaP25
import Derived.Test.YtkjfdjcagfkdhaaP02
import Derived.Test.YtkjfdjcagfkdhaaP21
import Derived.Test.YtkjfdjcagfkdhaaRows
import Derived.Test.YtkjfdjcagfkdhaaP04
import Derived.ProofKit
import Derived.OpenShut
import Derived.ChangeSame
import Derived.Carry
import Derived.Deep.Slices
import Derived.Deep.Fields
import Derived.Lib.SmallJoins
/-
  The scheme of the examples of layer 05: what it gives. No conditions.
-/
namespace Go.Proofs.Ytkjfdjcagfkdhaa
open Go Go.RowKit

def sampS : Sc := ⟨1, 1, [⟨0, 0, ⟨#[97]⟩, ⟨#[97]⟩, 0⟩, ⟨0, 0, ⟨#[97]⟩, ⟨#[65]⟩, 1⟩, ⟨0, 0, ⟨#[97, 97]⟩, ⟨#[66]⟩, 1⟩, ⟨0, 0, ⟨#[98]⟩, ⟨#[]⟩, 5⟩]⟩
theorem samp_ok : ScOK sampS := by decide
theorem samp_rm {m : Int} (h : RM sampS m) : m = 0 := by
  unfold RM at h
  induction h with
  | base h => exact h
  | @step e _ h2 _ =>
    obtain ⟨x, hx, rfl⟩ := List.mem_map.1 h2
    simp [sampS] at hx
    rcases hx with rfl | rfl | rfl | rfl <;> rfl
theorem samp_sound : SoundP sampS where
  live := .base (by decide)
  stuck m h := by rw [samp_rm h]; exact .base (by decide)
  endl m _ _ h := by
    have key : ∀ r ∈ sampS.rs, r.mute = false := by decide
    cases h with
    | one h1 h2 _ => rw [key _ h1] at h2; cases h2
    | more _ h1 h2 _ => rw [key _ h1] at h2; cases h2
theorem samp_E : soundE sampS = 0 := soundE_iff.2 ⟨samp_ok, samp_sound⟩
theorem samp_flat : FlatR sampS := fun r _ h1 _ h2 _ _ => by
  have key : ∀ r ∈ sampS.rs, r.mute = false := by decide
  rw [key r h1] at h2
  cases h2
theorem samp_few {inp : ByteArray} (h : ((List.range (inp.size + 1)).all fun i => decide ((pairsL sampS inp i).length ≤ 2000)) = true) : ¬ Big 2000 sampS inp := fun ⟨i, hi, hm⟩ => by
  have h1 := List.all_eq_true.1 h i (List.mem_range.2 (by omega))
  have hF : FlatS sampS inp := pair_flat samp_flat (bl inp)
  refine few_of_list ((pairsL sampS inp i).map (·.1)) (fun k c hk => ?_) (by rw [List.length_map]; exact of_decide_eq_true h1) hm
  exact List.mem_map.2 ⟨(k, c), (mem_full hF _ _ _).2 hk, rfl⟩
theorem samp_best : bestL sampS ⟨#[97]⟩ = [⟨⟨#[97]⟩, 0⟩, ⟨⟨#[65]⟩, 1⟩] := by kernel_rfl
theorem samp_best2 : bestL sampS ⟨#[97, 97]⟩ = [⟨⟨#[97, 97]⟩, 0⟩, ⟨⟨#[65, 97]⟩, 1⟩, ⟨⟨#[66]⟩, 1⟩, ⟨⟨#[97, 65]⟩, 1⟩, ⟨⟨#[65, 65]⟩, 2⟩] := by kernel_rfl
theorem samp_best3 : bestL sampS ⟨#[98, 97]⟩ = [⟨⟨#[97]⟩, 5⟩, ⟨⟨#[65]⟩, 6⟩] := by kernel_rfl
theorem samp_best4 : bestL sampS ⟨#[]⟩ = [⟨⟨#[]⟩, 0⟩] := by kernel_rfl
theorem samp_best5 : bestL sampS ⟨#[99]⟩ = [] := by kernel_rfl
theorem samp_cost : costL sampS ⟨#[97, 97]⟩ ⟨#[97, 65]⟩ = 1 := by kernel_rfl
theorem samp_cost2 : costL sampS ⟨#[97]⟩ ⟨#[98]⟩ = -1 := by kernel_rfl
theorem samp_goes : goesB sampS ⟨#[97, 98]⟩ = true := by kernel_rfl
theorem samp_goes2 : goesB sampS ⟨#[97, 99]⟩ = false := by kernel_rfl
theorem samp_A : letB ⟨#[65]⟩ = false := by kernel_rfl
theorem samp_take {inp : ByteArray} {k : Int} {L : List Rs} (hl : letB inp = true) (hk : 1 ≤ k ∧ k ≤ 50) (hf : ((List.range (inp.size + 1)).all fun i => decide ((pairsL sampS inp i).length ≤ 2000)) = true) (hb : bestL sampS inp = L) (hne : L ≠ []) : bestR sampS inp k = (L.take k.toNat, 0) := by
  rw [bestR_ok ⟨samp_E, hl, hk.1, hk.2⟩ (samp_few hf) (by rw [hb]; exact hne), hb]
theorem samp_f1 : bestR sampS ⟨#[97]⟩ 5 = ([⟨⟨#[97]⟩, 0⟩, ⟨⟨#[65]⟩, 1⟩], 0) := samp_take (by kernel_rfl) (by decide) (by kernel_rfl) samp_best (by simp)
theorem samp_f2 : bestR sampS ⟨#[97, 97]⟩ 3 = ([⟨⟨#[97, 97]⟩, 0⟩, ⟨⟨#[65, 97]⟩, 1⟩, ⟨⟨#[66]⟩, 1⟩], 0) := samp_take (by kernel_rfl) (by decide) (by kernel_rfl) samp_best2 (by simp)
theorem samp_f3 : bestR sampS ⟨#[98, 97]⟩ 1 = ([⟨⟨#[97]⟩, 5⟩], 0) := samp_take (by kernel_rfl) (by decide) (by kernel_rfl) samp_best3 (by simp)
theorem samp_f4 : bestR sampS ⟨#[]⟩ 9 = ([⟨⟨#[]⟩, 0⟩], 0) := samp_take (by kernel_rfl) (by decide) (by kernel_rfl) samp_best4 (by simp)
theorem samp_e : bestR sampS ⟨#[99]⟩ 5 = ([], 50) := bestR_none ⟨samp_E, (by kernel_rfl), by decide, by decide⟩ (samp_few (by kernel_rfl)) samp_best5
theorem samp_ef : bestR sampS ⟨#[65]⟩ 5 = ([], 1) := bestR_arg (fun h => nomatch samp_A.symm.trans h.2.1)
theorem samp_eg : bestR sampS ⟨#[97]⟩ 0 = ([], 1) := bestR_arg (fun h => absurd h.2.2.1 (by decide))
def zeroS : Sc := ⟨0, 0, []⟩
theorem samp_eh : bestR zeroS ⟨#[97]⟩ 5 = ([], 1) := bestR_arg (fun h => absurd (soundE_iff.1 h.1).1 (by decide))
theorem samp_c1 {r : Int} (h : CostOf sampS ⟨#[97, 97]⟩ ⟨#[97, 65]⟩ r) : r = 1 :=
  isCost_unique (h.1 ⟨samp_E, by kernel_rfl⟩) (samp_cost ▸ isCost_costL (pair_flat samp_flat _) (by decide) _)
theorem samp_c2 {r : Int} (h : CostOf sampS ⟨#[97]⟩ ⟨#[98]⟩ r) : r = -1 :=
  isCost_unique (h.1 ⟨samp_E, by kernel_rfl⟩) (samp_cost2 ▸ isCost_costL (pair_flat samp_flat _) (by decide) _)
theorem samp_c3 {r : Int} (h : CostOf sampS ⟨#[65]⟩ ⟨#[65]⟩ r) : r = -1 := h.2 (fun h => nomatch samp_A.symm.trans h.2)
theorem samp_g1 {b : Bool} (h : GoesOf sampS ⟨#[97, 98]⟩ b) : b = true := h.2 ⟨samp_E, by kernel_rfl, (goesB_iff (pair_flat samp_flat _)).1 samp_goes⟩
theorem samp_g2 {b : Bool} (h : GoesOf sampS ⟨#[97, 99]⟩ b) : b = false := by
  cases b with
  | false => rfl
  | true => have h1 := (goesB_iff (pair_flat samp_flat _)).2 (h.1 rfl).2.2; rw [samp_goes2] at h1; cases h1
end Go.Proofs.Ytkjfdjcagfkdhaa

/-
  The walks of layer 05: the scheme of the examples, and what is found in it.
-/
namespace Go.Proofs.Ytkjfdjcagfkdhaa
open Go Go.RowKit

def encRu5 (r : Ru) : List Value := [.int .i64 r.fr, .int .i64 r.to, .string r.inp, .string r.out, .int .i64 r.co]
theorem samp_in {W : World} {g : Nat} (h : Blk W g 44 (sampS.rs.flatMap encRu5).toArray) : ScIn W sampS (some ⟨g, 0, none⟩) 4 where
  sl := slr_blkR h (fun _ => rfl) (fun _ => rfl)
  len := by decide
  txt r hr := ⟨Nat.le_trans (samp_ok.2.2.2.1 r hr).2.1.1 (by decide), Nat.le_trans (samp_ok.2.2.2.1 r hr).2.2.1.1 (by decide)⟩
  acc := by decide
  cap := by decide
set_option maxRecDepth 100000 in
set_option maxHeartbeats 4000000 in
theorem sample_any (w : World) : Calls Try.prog 12 #[] w fun e w' => ∃ g, e = .returned (.agg #[.int .i64 1, .int .u8 1, .slice (some ⟨g, 0, none⟩) 4 4]) ∧ ScIn w' sampS (some ⟨g, 0, none⟩) 4 ∧ Below w.heap.size w w' := by
  go_enter Try.func12, Try.ntmps12
  go_upto_region 1 with fail
  go_wp2_with fail
  generalize hW : ((w.alloc (.cells #[.int .i64 1, .int .u8 1, .slice (some ⟨w.heap.size + 1, 0, none⟩) 4 4] 30)).alloc (.cells _ 44)) = W
  have hb : Below w.heap.size w W := by rw [← hW]; exact nw _ (nw _ (Below.refl _ _))
  have hS : Blk W w.heap.size 30 #[.int .i64 1, .int .u8 1, .slice (some ⟨w.heap.size + 1, 0, none⟩) 4 4] := by rw [← hW]; exact (Blk.new _ _ _).alloc _
  have hR : Blk W (w.heap.size + 1) 44 (sampS.rs.flatMap encRu5).toArray := by rw [← hW]; exact Blk.new_ (by simp)
  clear hW
  have q0 := hS.cell 0
  have q1 := hS.cell 1
  have q2 := hS.cell 2
  simp at q0 q1 q2
  refine bodyPost_ret (v := .agg #[.int .i64 1, .int .u8 1, .slice (some ⟨w.heap.size + 1, 0, none⟩) 4 4]) (by simp [results, Try.results12, go_sem, q0, q1, q2]; done) rfl ?_
  exact ⟨_, rfl, samp_in hR, hb⟩
set_option maxRecDepth 100000 in
set_option maxHeartbeats 4000000 in
theorem finds_any (inp : ByteArray) (k : Int) (xs ys : List Rs) (B : Option Addr) (d : Nat) (w : World) (hin : inp.size ≤ maxLen) (hk0 : 0 ≤ k) (hk1 : k ≤ 1000) (hb : bestR sampS inp k = (xs, 0)) (hy : SlR 2 RRs w B ys) (hyl : ys.length ≤ 65536) (hxl : xs.length ≤ 65536) :
    Calls Try.prog 13 #[.string inp, .int .i64 k, .slice B ys.length d] w fun e w' => e = .returned (.bool (decide (xs = ys))) ∧ Below w.heap.size w w' := by
  have HSA := Lib.hid (sample_any w)
  have HBE : Hid (∀ (W : World) (g : Nat), ScIn W sampS (some ⟨g, 0, none⟩) 4 → Calls Try.prog 8 #[.agg #[.int .i64 1, .int .u8 1, .slice (some ⟨g, 0, none⟩) 4 4], .string inp, .int .i64 k] W fun e w' => ∃ (A : Option Addr) (c : Nat), e = .returned (.tuple #[.slice A xs.length c, .int .i64 0]) ∧ SlR 2 RRs w' A xs ∧ Below W.heap.size W w') := fun W g hW =>
    (best05_any sampS (some ⟨g, 0, none⟩) 4 inp k W hW (fun _ _ => samp_flat) hin hk0 hk1).mono fun e w' ⟨x2, er, A, c, h1, h2, h3, h4, h5⟩ => by
      rw [hb] at h2
      injection h2 with h6 h7
      subst h6 h7
      exact ⟨A, c, h1, h4, h5⟩
  have HY := Lib.hid hy
  clear hy hb
  go_enter Try.func13, Try.ntmps13
  go_wp2_with (first | (go_at_call 12; go_loud (refine HSA.out.mono ?_; rintro e w1 ⟨g, rfl, hsc, hb1⟩)) | (go_at_call 8; go_loud (refine (HBE.out _ _ hsc).mono ?_; rintro e w2 ⟨A, c, rfl, hx2, hb2⟩)) | (go_at_call 9; go_loud (refine (same5_any A B xs ys c d _ hx2 ((HY.out.below keeps_rs hb1).below keeps_rs hb2) hxl hyl).mono ?_; rintro e w3 ⟨rfl, hb3⟩)))
  go_ret
  exact ⟨rfl, (hb1.trans (hb2.mono hb1.size)).trans (hb3.mono (by have := hb1.size; have := hb2.size; omega))⟩
end Go.Proofs.Ytkjfdjcagfkdhaa

/-
  The walk of layer 05: the examples hold.
-/
namespace Go.Proofs.Ytkjfdjcagfkdhaa
open Go Go.RowKit

theorem find_lit {inp : ByteArray} {k : Int} {xs : List Rs} {cs : Array Value} {n : Nat} (hb : bestR sampS inp k = (xs, 0)) (hin : inp.size ≤ maxLen) (hk : 0 ≤ k ∧ k ≤ 1000) (hc : cs = (xs.flatMap encRs).toArray) (hn : xs.length = n) (hl : xs.length ≤ 65536) (W : World) :
    Calls Try.prog 13 #[.string inp, .int .i64 k, .slice (some ⟨W.heap.size, 0, none⟩) n n] (W.alloc (.cells cs 40)) fun e w' => e = .returned (.bool true) ∧ Below W.heap.size W w' := by
  subst hn
  have hB : Blk (W.alloc (.cells cs 40)) W.heap.size 40 (xs.flatMap encRs).toArray := by rw [hc]; exact Blk.new _ _ _
  refine (finds_any inp k xs xs (some ⟨W.heap.size, 0, none⟩) xs.length _ hin hk.1 hk.2 hb (slr_blkR hB (fun _ => rfl) (fun _ => rfl)) hl hl).mono ?_
  rintro e w' ⟨rfl, hb2⟩
  exact ⟨by rw [decide_eq_true rfl], (nw (.cells cs 40) (Below.refl W.heap.size W)).trans (hb2.mono (by simp))⟩
theorem best_lit {s : Sc} {A : Option Addr} {c : Nat} {inp : ByteArray} {k : Int} {er : Int} (hf : ScOK s → SoundP s → FlatR s) (hb : bestR s inp k = ([], er)) (hin : inp.size ≤ maxLen) (hk : 0 ≤ k ∧ k ≤ 1000) (W : World) (hs : ScIn W s A c) :
    Calls Try.prog 8 #[.agg #[.int .i64 s.n, .int .u8 s.acc, .slice A s.rs.length c], .string inp, .int .i64 k] W fun e w' => (∃ B d, e = .returned (.tuple #[.slice B 0 d, .int .i64 er])) ∧ Below W.heap.size W w' :=
  (best05_any s A c inp k W hs hf hin hk.1 hk.2).mono fun e w' ⟨x2, e2, B, d, h1, h2, h3, h4, h5⟩ => by
    rw [hb] at h2
    injection h2 with h6 h7
    subst h6 h7
    exact ⟨⟨B, d, h1⟩, h5⟩
theorem zero_in (W : World) : ScIn W zeroS none 0 where
  sl := SlR.nil
  len := by decide
  txt r hr := nomatch hr
  acc := by decide
  cap := by decide
set_option maxRecDepth 100000 in
set_option maxHeartbeats 8000000 in
theorem sanity5_any (w : World) : Calls Try.prog 5 #[] w fun e w' => e = .returned (.bool true) ∧ Below w.heap.size w w' := by
  have HSA := Lib.hid (sample_any w)
  go_enter Try.func5, Try.ntmps5
  go_upto_region 2 with (go_at_call 12; go_loud (refine HSA.out.mono ?_; rintro e w1 ⟨g, rfl, hsc, hb1⟩))
  obtain ⟨w2, hw2⟩ : ∃ W, w1.alloc (.cells #[.int .i64 1, .int .u8 1, .slice (some ⟨g, 0, none⟩) 4 4] 30) = W := ⟨_, rfl⟩
  obtain ⟨gS, hgS⟩ : ∃ g, w1.heap.size = g := ⟨_, rfl⟩
  have hb2 : Below w1.heap.size w1 w2 := by rw [← hw2]; exact nw _ (Below.refl _ _)
  have hbs : Blk w2 gS 30 #[.int .i64 1, .int .u8 1, .slice (some ⟨g, 0, none⟩) 4 4] := by rw [← hw2, ← hgS]; exact Blk.new _ _ _
  have HB2 : Hid (Below w.heap.size w w2) := bthen hb1 hb2
  have HSC := Lib.hid (hsc.below hb2)
  have HCC : Hid (∀ W, Below w2.heap.size w2 W → W.cell? ⟨gS, 0, none⟩ = some (.int .i64 1) ∧ W.cell? ⟨gS, 1, none⟩ = some (.int .u8 1) ∧ W.cell? ⟨gS, 2, none⟩ = some (.slice (some ⟨g, 0, none⟩) 4 4) ∧ gS < W.heap.size) := fun W hW => by
    have e1 := hbs.below hW hbs.lt
    exact ⟨by rw [e1.cell]; rfl, by rw [e1.cell]; rfl, by rw [e1.cell]; rfl, e1.lt⟩
  rw [hw2, hgS]
  clear hw2 hgS hb2 hbs hb1 hsc
  have HBE : Hid (∀ (W : World) (inp : ByteArray) (k er : Int), Below w2.heap.size w2 W → bestR sampS inp k = ([], er) → inp.size ≤ maxLen → 0 ≤ k ∧ k ≤ 1000 → Calls Try.prog 8 #[.agg #[.int .i64 1, .int .u8 1, .slice (some ⟨g, 0, none⟩) 4 4], .string inp, .int .i64 k] W fun e w' => (∃ B d, e = .returned (.tuple #[.slice B 0 d, .int .i64 er])) ∧ Below W.heap.size W w') :=
    fun W inp k er hW hb hin hk => best_lit (fun _ _ => samp_flat) hb hin hk W (HSC.out.below hW)
  have HBZ : Hid (∀ W : World, Calls Try.prog 8 #[.agg #[.int .i64 0, .int .u8 0, .slice none 0 0], .string ⟨#[97]⟩, .int .i64 5] W fun e w' => (∃ B d, e = .returned (.tuple #[.slice B 0 d, .int .i64 1])) ∧ Below W.heap.size W w') :=
    fun W => best_lit (s := zeroS) (fun h _ => absurd h (by decide)) samp_eh (by decide) (by decide) W (zero_in W)
  obtain ⟨b0, b1, b2, bl_⟩ := HCC.out w2 (Below.refl _ _)
  go_upto_region 3 with (go_at_call 8; go_loud (refine (HBE.out _ _ _ _ (Below.refl _ _) samp_e (by decide) (by decide)).mono ?_; rintro e w3 ⟨⟨B1, d1, rfl⟩, hb3⟩))
  have HB3 := Lib.hid hb3
  clear hb3 b0 b1 b2 bl_
  obtain ⟨b0, b1, b2, bl_⟩ := HCC.out w3 HB3.out
  go_upto_region 4 with (go_at_call 8; go_loud (refine (HBE.out _ _ _ _ HB3.out samp_ef (by decide) (by decide)).mono ?_; rintro e w4 ⟨⟨B2, d2, rfl⟩, hb4⟩))
  have HB4 := Lib.hid (bthen HB3.out hb4)
  clear hb4 b0 b1 b2 bl_
  obtain ⟨b0, b1, b2, bl_⟩ := HCC.out w4 HB4.out
  go_upto_region 5 with (go_at_call 8; go_loud (refine (HBE.out _ _ _ _ HB4.out samp_eg (by decide) (by decide)).mono ?_; rintro e w5 ⟨⟨B3, d3, rfl⟩, hb5⟩))
  have HB5 := Lib.hid (bthen HB4.out hb5)
  clear hb5 b0 b1 b2 bl_
  go_upto_region 6 with (go_at_call 8; go_loud (refine (HBZ.out _).mono ?_; rintro e w6 ⟨⟨B4, d4, rfl⟩, hb6⟩))
  have HB6 := Lib.hid (bthen HB5.out hb6)
  clear hb6
  have HF1 : Hid (∀ W : World, Calls Try.prog 13 #[.string ⟨#[97]⟩, .int .i64 5, .slice (some ⟨W.heap.size, 0, none⟩) 2 2] (W.alloc (.cells #[.string ⟨#[97]⟩, .int .i64 0, .string ⟨#[65]⟩, .int .i64 1] 40)) fun e w' => e = .returned (.bool true) ∧ Below W.heap.size W w') := fun W => find_lit (n := 2) samp_f1 (by decide) (by decide) (by rfl) rfl (by decide) W
  have HF2 : Hid (∀ W : World, Calls Try.prog 13 #[.string ⟨#[97, 97]⟩, .int .i64 3, .slice (some ⟨W.heap.size, 0, none⟩) 3 3] (W.alloc (.cells #[.string ⟨#[97, 97]⟩, .int .i64 0, .string ⟨#[65, 97]⟩, .int .i64 1, .string ⟨#[66]⟩, .int .i64 1] 40)) fun e w' => e = .returned (.bool true) ∧ Below W.heap.size W w') := fun W => find_lit (n := 3) samp_f2 (by decide) (by decide) (by rfl) rfl (by decide) W
  have HF3 : Hid (∀ W : World, Calls Try.prog 13 #[.string ⟨#[98, 97]⟩, .int .i64 1, .slice (some ⟨W.heap.size, 0, none⟩) 1 1] (W.alloc (.cells #[.string ⟨#[97]⟩, .int .i64 5] 40)) fun e w' => e = .returned (.bool true) ∧ Below W.heap.size W w') := fun W => find_lit (n := 1) samp_f3 (by decide) (by decide) (by rfl) rfl (by decide) W
  have HF4 : Hid (∀ W : World, Calls Try.prog 13 #[.string ⟨#[]⟩, .int .i64 9, .slice (some ⟨W.heap.size, 0, none⟩) 1 1] (W.alloc (.cells #[.string ⟨#[]⟩, .int .i64 0] 40)) fun e w' => e = .returned (.bool true) ∧ Below W.heap.size W w') := fun W => find_lit (n := 1) samp_f4 (by decide) (by decide) (by rfl) rfl (by decide) W
  go_upto_region 7 with (first | (go_at_call 13; with_reducible refine (HF1.out _).mono ?_; rintro e w7 ⟨rfl, hf1⟩) | (go_at_call 13; with_reducible refine (HF2.out _).mono ?_; rintro e w8 ⟨rfl, hf2⟩) | (go_at_call 13; with_reducible refine (HF3.out _).mono ?_; rintro e w9 ⟨rfl, hf3⟩) | (go_at_call 13; with_reducible refine (HF4.out _).mono ?_; rintro e w10 ⟨rfl, hf4⟩))
  have HB10 := Lib.hid (bthen (bthen (bthen (bthen HB6.out hf1) hf2) hf3) hf4)
  clear hf1 hf2 hf3 hf4
  go_upto_region 8 with fail
  obtain ⟨b0, b1, b2, bl_⟩ := HCC.out w10 HB10.out
  have HC1 : Hid (∀ W : World, Below w2.heap.size w2 W → Calls Try.prog 11 #[.agg #[.int .i64 1, .int .u8 1, .slice (some ⟨g, 0, none⟩) 4 4], .string ⟨#[97, 97]⟩, .string ⟨#[97, 65]⟩] W fun e w' => e = .returned (.int .i64 1) ∧ Below W.heap.size W w') := fun W hW => (cost05_any sampS (some ⟨g, 0, none⟩) 4 ⟨#[97, 97]⟩ ⟨#[97, 65]⟩ W (HSC.out.below hW) (fun _ _ => samp_flat) (by decide) (by decide)).mono fun e w' ⟨⟨r, h1, h2⟩, h3⟩ => ⟨by rw [h1, samp_c1 h2], h3⟩
  have HC2 : Hid (∀ W : World, Below w2.heap.size w2 W → Calls Try.prog 11 #[.agg #[.int .i64 1, .int .u8 1, .slice (some ⟨g, 0, none⟩) 4 4], .string ⟨#[97]⟩, .string ⟨#[98]⟩] W fun e w' => e = .returned (.int .i64 (-1)) ∧ Below W.heap.size W w') := fun W hW => (cost05_any sampS (some ⟨g, 0, none⟩) 4 ⟨#[97]⟩ ⟨#[98]⟩ W (HSC.out.below hW) (fun _ _ => samp_flat) (by decide) (by decide)).mono fun e w' ⟨⟨r, h1, h2⟩, h3⟩ => ⟨by rw [h1, samp_c2 h2], h3⟩
  have HC3 : Hid (∀ W : World, Below w2.heap.size w2 W → Calls Try.prog 11 #[.agg #[.int .i64 1, .int .u8 1, .slice (some ⟨g, 0, none⟩) 4 4], .string ⟨#[65]⟩, .string ⟨#[65]⟩] W fun e w' => e = .returned (.int .i64 (-1)) ∧ Below W.heap.size W w') := fun W hW => (cost05_any sampS (some ⟨g, 0, none⟩) 4 ⟨#[65]⟩ ⟨#[65]⟩ W (HSC.out.below hW) (fun _ _ => samp_flat) (by decide) (by decide)).mono fun e w' ⟨⟨r, h1, h2⟩, h3⟩ => ⟨by rw [h1, samp_c3 h2], h3⟩
  have HC4 : Hid (∀ W : World, Below w2.heap.size w2 W → Calls Try.prog 14 #[.agg #[.int .i64 1, .int .u8 1, .slice (some ⟨g, 0, none⟩) 4 4], .string ⟨#[97, 98]⟩] W fun e w' => e = .returned (.bool true) ∧ Below W.heap.size W w') := fun W hW => (goes05_any sampS (some ⟨g, 0, none⟩) 4 ⟨#[97, 98]⟩ W (HSC.out.below hW) (fun _ _ => samp_flat) (by decide)).mono fun e w' ⟨⟨r, h1, h2⟩, h3⟩ => ⟨by rw [h1, samp_g1 h2], h3⟩
  have HC5 : Hid (∀ W : World, Below w2.heap.size w2 W → Calls Try.prog 14 #[.agg #[.int .i64 1, .int .u8 1, .slice (some ⟨g, 0, none⟩) 4 4], .string ⟨#[97, 99]⟩] W fun e w' => e = .returned (.bool false) ∧ Below W.heap.size W w') := fun W hW => (goes05_any sampS (some ⟨g, 0, none⟩) 4 ⟨#[97, 99]⟩ W (HSC.out.below hW) (fun _ _ => samp_flat) (by decide)).mono fun e w' ⟨⟨r, h1, h2⟩, h3⟩ => ⟨by rw [h1, samp_g2 h2], h3⟩
  go_wp2_with (first | (go_at_call 11; with_reducible refine (HC1.out _ HB10.out).mono ?_; rintro e w11 ⟨rfl, hc1⟩; obtain ⟨q00, q01, q02, q0l⟩ := HCC.out _ (bthen HB10.out hc1)) | (go_at_call 11; with_reducible refine (HC2.out _ (bthen HB10.out hc1)).mono ?_; rintro e w12 ⟨rfl, hc2⟩; obtain ⟨q10, q11, q12, q1l⟩ := HCC.out _ (bthen (bthen HB10.out hc1) hc2)) | (go_at_call 11; with_reducible refine (HC3.out _ (bthen (bthen HB10.out hc1) hc2)).mono ?_; rintro e w13 ⟨rfl, hc3⟩; obtain ⟨q20, q21, q22, q2l⟩ := HCC.out _ (bthen (bthen (bthen HB10.out hc1) hc2) hc3)) | (go_at_call 14; with_reducible refine (HC4.out _ (bthen (bthen (bthen HB10.out hc1) hc2) hc3)).mono ?_; rintro e w14 ⟨rfl, hc4⟩; obtain ⟨q30, q31, q32, q3l⟩ := HCC.out _ (bthen (bthen (bthen (bthen HB10.out hc1) hc2) hc3) hc4)) | (go_at_call 14; with_reducible refine (HC5.out _ (bthen (bthen (bthen (bthen HB10.out hc1) hc2) hc3) hc4)).mono ?_; rintro e w15 ⟨rfl, hc5⟩; obtain ⟨q40, q41, q42, q4l⟩ := HCC.out _ (bthen (bthen (bthen (bthen (bthen HB10.out hc1) hc2) hc3) hc4) hc5)))
  go_ret
  exact ⟨rfl, bthen HB2.out (bthen (bthen (bthen (bthen (bthen HB10.out hc1) hc2) hc3) hc4) hc5)⟩
end Go.Proofs.Ytkjfdjcagfkdhaa

/-
  Schemes with several outputs for one letter: how many outputs there are, and which is the first. Plain laws. No conditions.
-/
namespace Go.Proofs.Ytkjfdjcagfkdhaa
open Go List

structure LimS (s : Sc) : Prop where
  rules : ∀ r ∈ s.rs, r.fr = 0 ∧ r.to = 0 ∧ bl r.inp = [97] ∧ (bl r.out).length = 1
  outs : (s.rs.map Ru.out).Nodup
def wordsL (s : Sc) : Nat → List ByteArray
  | 0 => [ByteArray.empty]
  | j + 1 => (wordsL s j).flatMap fun w => s.rs.map fun r => w ++ r.out
theorem app_inj1 {a b c d : ByteArray} (h : a ++ c = b ++ d) (hc : (bl c).length = 1) (hd : (bl d).length = 1) : a = b ∧ c = d := by
  have h1 := congrArg bl h
  rw [bl_app, bl_app] at h1
  have h2 := congrArg length h1
  rw [length_append, length_append] at h2
  obtain ⟨h3, h4⟩ := append_inj h1 (by omega)
  exact ⟨bl_inj h3, bl_inj h4⟩
section
variable {s : Sc} (h : LimS s)
theorem words_len : ∀ j, (wordsL s j).length = s.rs.length ^ j
  | 0 => rfl
  | j + 1 => by
    show ((wordsL s j).flatMap fun w => s.rs.map fun r => w ++ r.out).length = _
    rw [length_flatMap]
    have : ((wordsL s j).map fun w => (s.rs.map fun r => w ++ r.out).length) = (wordsL s j).map fun _ => s.rs.length := map_congr_left fun w _ => length_map ..
    rw [this, map_const', sum_replicate_nat, words_len j, Nat.pow_succ]
include h
theorem words_nodup : ∀ j, (wordsL s j).Nodup
  | 0 => pairwise_singleton _ _
  | j + 1 => by
    have ho := h.outs
    unfold Nodup at ho
    rw [pairwise_map] at ho
    refine pairwise_flatMap.2 ⟨fun w _ => ?_, (words_nodup j).imp fun {a b} hab p hp q hq => ?_⟩
    · rw [pairwise_map]
      refine ho.imp_of_mem fun {r t} hr ht hne e => hne ?_
      exact (app_inj1 e (h.rules r hr).2.2.2 (h.rules t ht).2.2.2).2
    · rintro rfl
      obtain ⟨r, hr, rfl⟩ := mem_map.1 hp
      obtain ⟨t, ht, e⟩ := mem_map.1 hq
      exact hab (app_inj1 e (h.rules t ht).2.2.2 (h.rules r hr).2.2.2).1.symm
theorem words_rch {K : Nat} : ∀ j, j ≤ K → ∀ o, o ∈ wordsL s j → ∃ c, Rch (pairS s) (0, ByteArray.empty) (replicate K 97) j (0, o) c
  | 0, _, o, ho => by
    obtain rfl := mem_singleton.1 ho
    exact ⟨0, .start⟩
  | j + 1, hj, o, ho => by
    obtain ⟨w, hw, ho⟩ := mem_flatMap.1 ho
    obtain ⟨r, hr, rfl⟩ := mem_map.1 ho
    obtain ⟨c, hc⟩ := words_rch (K := K) j (by omega) w hw
    obtain ⟨h1, h2, h3, _⟩ := h.rules r hr
    refine ⟨c + r.co, ?_⟩
    have := Rch.step (k' := (r.to, w ++ r.out)) hc hr (by rw [h1]; rfl) (by rw [h3, drop_replicate, show K - j = (K - j - 1) + 1 by omega, replicate_succ]; exact ⟨_, rfl⟩) rfl
    rw [← bl_len, h3, h2] at this
    exact this
theorem rch_words {inp : List UInt8} {j : Nat} {k : Int × ByteArray} {c : Int} (hr : Rch (pairS s) (0, ByteArray.empty) inp j k c) : k.1 = 0 ∧ k.2 ∈ wordsL s j := by
  induction hr with
  | start => exact ⟨rfl, mem_singleton.2 rfl⟩
  | @step i k k' c r _ h2 _ _ h5 ih =>
    obtain ⟨_, h6, h7, _⟩ := h.rules r h2
    obtain rfl := Option.some.inj h5
    rw [← bl_len, h7]
    exact ⟨h6, mem_flatMap.2 ⟨k.2, ih.2, mem_map.2 ⟨r, h2, rfl⟩⟩⟩
theorem lim_many {inp : ByteArray} (hi : bl inp = replicate inp.size 97) {j : Nat} (hj : j ≤ inp.size) {n : Nat} : TooMany n (PairAt s inp j) ↔ n < s.rs.length ^ j := by
  constructor
  · rintro ⟨l, h1, h2, h3⟩
    have hl : (l.map (·.2)).length ≤ (wordsL s j).length := by
      refine nodup_le ?_ fun o ho => ?_
      · unfold Nodup
        rw [pairwise_map]
        refine h1.imp_of_mem fun {a b} ha hb hne e => hne ?_
        obtain ⟨c, hc⟩ := h3 a ha
        obtain ⟨d, hd⟩ := h3 b hb
        have g1 := (rch_words h hc).1
        have g2 := (rch_words h hd).1
        cases a; cases b
        simp only at e g1 g2
        rw [e, g1, g2]
      · obtain ⟨k, hk, rfl⟩ := mem_map.1 ho
        obtain ⟨c, hc⟩ := h3 k hk
        exact (rch_words h hc).2
    rw [length_map, words_len] at hl
    omega
  · intro hn
    refine ⟨(wordsL s j).map fun o => ((0 : Int), o), ?_, by rw [length_map, words_len]; exact hn, fun k hk => ?_⟩
    · unfold Nodup
      rw [pairwise_map]
      exact (words_nodup h j).imp fun {a b} hne e => hne (Prod.mk.inj e).2
    · obtain ⟨o, ho, rfl⟩ := mem_map.1 hk
      have := words_rch h (K := inp.size) j hj o ho
      rw [← hi] at this
      exact this
theorem lim_big {inp : ByteArray} (hi : bl inp = replicate inp.size 97) (h1 : 1 ≤ s.rs.length) {n : Nat} : Big n s inp ↔ n < s.rs.length ^ inp.size := by
  constructor
  · rintro ⟨i, hle, hb⟩
    rw [lim_many h hi hle] at hb
    exact Nat.lt_of_lt_of_le hb (Nat.pow_le_pow_right h1 hle)
  · intro hn
    exact ⟨inp.size, Nat.le_refl _, (lim_many h hi (Nat.le_refl _)).2 hn⟩
theorem lim_flat {inp : ByteArray} : FlatS s inp := fun i k c r k' r' _ _ _ _ _ h6 h7 => by
  have := (h.rules r' h6).2.2.1
  rw [mute_bl] at h7
  rw [h7] at this
  cases this
/-- The rule that puts out what it takes costs nothing, the others do. -/
theorem lim_zero {a : Ru} (_ha : a ∈ s.rs) (ha0 : a.co = 0) (hao : bl a.out = [97]) (hco : ∀ r ∈ s.rs, r ≠ a → 0 < r.co) {m : Int} {t o : ByteArray} {c : Int} (hr : Rte s m t o c) : 0 ≤ c ∧ (c = 0 → o = t) := by
  induction hr with
  | nil => exact ⟨Int.le_refl 0, fun _ => rfl⟩
  | @snoc m i o c r _ h2 _ ih =>
    by_cases e : r = a
    · subst e
      rw [ha0, Int.add_zero]
      refine ⟨ih.1, fun hc => ?_⟩
      rw [ih.2 hc]
      congr 1
      exact bl_inj (by rw [hao, (h.rules _ h2).2.2.1])
    · have := hco r h2 e
      exact ⟨by omega, fun hc => by omega⟩
theorem rte_zero {a : Ru} (ha : a ∈ s.rs) (ha0 : a.co = 0) (hao : bl a.out = [97]) : ∀ (n : Nat) (t : ByteArray), bl t = replicate n 97 → Rte s 0 t t 0
  | 0, t, ht => by
    obtain rfl : t = ByteArray.empty := bl_inj ht
    exact .nil
  | n + 1, t, ht => by
    obtain ⟨h1, h2, h3, _⟩ := h.rules a ha
    have hs : t = ⟨⟨replicate n 97⟩⟩ ++ a.inp := bl_inj (by rw [bl_app, h3, ht, replicate_succ']; rfl)
    have ho : a.out = a.inp := bl_inj (by rw [hao, h3])
    have := Rte.snoc (rte_zero ha ha0 hao n ⟨⟨replicate n 97⟩⟩ rfl) ha h1
    rw [ho, ← hs, h2, ha0] at this
    exact this
theorem lim_first {a : Ru} (ha : a ∈ s.rs) (ha0 : a.co = 0) (hao : bl a.out = [97]) (hco : ∀ r ∈ s.rs, r ≠ a → 0 < r.co) (hacc : accB s.acc 0 = true) {inp : ByteArray} (hi : bl inp = replicate inp.size 97) : (bestL s inp).take 1 = [⟨inp, 0⟩] := by
  have hI := best_is (s := s) (inp := inp) (lim_flat h)
  have hz : ∀ t c, Whole s inp t c → 0 ≤ c ∧ (c = 0 → t = inp) := fun t c ⟨m, _, hw⟩ => lim_zero h ha ha0 hao hco hw
  have hmem : (⟨inp, 0⟩ : Rs) ∈ bestL s inp := hI.mem.2 ⟨⟨0, hacc, rte_zero h ha ha0 hao _ inp hi⟩, fun c hc => (hz _ c hc).1⟩
  have hs := hI.sorted
  have hin := hI.is_
  cases hb : bestL s inp with
  | nil => rw [hb] at hmem; cases hmem
  | cons y l =>
    rw [hb] at hmem hs hin
    have hy := hin y (mem_cons_self ..)
    have hy0 := hz _ _ hy
    rcases mem_cons.1 hmem with e | e
    · rw [← e]; rfl
    · have hlt := (pairwise_cons.1 hs).1 _ e
      rw [befR_iff] at hlt
      rcases hlt with h1 | ⟨h1, h2⟩
      · have h1 : y.co < 0 := h1
        omega
      · rw [hy0.2 h1, ouS_irr] at h2
        cases h2
end
end Go.Proofs.Ytkjfdjcagfkdhaa

/-
  The schemes of OutputLimits: what Best gives. Plain laws. No conditions.
-/

namespace Go.Proofs.Ytkjfdjcagfkdhaa
open Go Go.RowKit

def limAll : List Ru := [⟨0, 0, ⟨#[97]⟩, ⟨#[97]⟩, 0⟩, ⟨0, 0, ⟨#[97]⟩, ⟨#[98]⟩, 1⟩, ⟨0, 0, ⟨#[97]⟩, ⟨#[99]⟩, 2⟩, ⟨0, 0, ⟨#[97]⟩, ⟨#[100]⟩, 3⟩, ⟨0, 0, ⟨#[97]⟩, ⟨#[101]⟩, 4⟩]
def limS (k : Nat) : Sc := ⟨1, 1, limAll.take k⟩
def abcO (i : Nat) : ByteArray := (ByteArray.mk #[97, 98, 99, 100, 101]).extract i (i + 1)
theorem lim_at {i : Nat} (h : i < 5) : limAll[i]? = some ⟨0, 0, ⟨#[97]⟩, abcO i, (i : Int)⟩ := by
  have h5 : i = 0 ∨ i = 1 ∨ i = 2 ∨ i = 3 ∨ i = 4 := by omega
  rcases h5 with rfl | rfl | rfl | rfl | rfl <;> rfl
theorem lim_next {i : Nat} (h : i < 5) : limAll.take (i + 1) = limAll.take i ++ [⟨0, 0, ⟨#[97]⟩, abcO i, (i : Int)⟩] := take_succ_of (lim_at h)
theorem lim_len {k : Nat} (h : k ≤ 5) : (limS k).rs.length = k := by
  show (limAll.take k).length = k
  rw [List.length_take]
  exact Nat.min_eq_left h
theorem lim_all {p : Ru → Prop} (h : ∀ r ∈ limAll, p r) (k : Nat) : ∀ r ∈ (limS k).rs, p r := fun r hr => h r (List.mem_of_mem_take hr)
theorem lim_ok {k : Nat} (hk : 2 ≤ k ∧ k ≤ 5) : ScOK (limS k) := by
  have h : k = 2 ∨ k = 3 ∨ k = 4 ∨ k = 5 := by omega
  rcases h with rfl | rfl | rfl | rfl <;> decide
theorem lim_lim {k : Nat} : LimS (limS k) where
  rules := lim_all (by decide) k
  outs := by
    have h : (limAll.map Ru.out).Nodup := by decide
    exact h.sublist ((List.take_sublist k limAll).map _)
theorem lim_rm {k : Nat} {m : Int} (h : RM (limS k) m) : m = 0 := by
  unfold RM at h
  induction h with
  | base h => exact h
  | @step e _ h2 _ =>
    obtain ⟨x, hx, rfl⟩ := List.mem_map.1 h2
    exact (lim_lim.rules x hx).2.1
theorem lim_mute {k : Nat} : ∀ r ∈ (limS k).rs, r.mute = false := lim_all (by decide) k
theorem lim_sound {k : Nat} : SoundP (limS k) where
  live := .base (show accB 1 0 = true by decide)
  stuck m h := by rw [lim_rm h]; exact .base (show accB 1 0 = true by decide)
  endl m _ _ h := by
    cases h with
    | one h1 h2 _ => rw [lim_mute _ h1] at h2; cases h2
    | more _ h1 h2 _ => rw [lim_mute _ h1] at h2; cases h2
theorem lim_flatR {k : Nat} : FlatR (limS k) := fun r _ h1 _ h2 _ _ => by
  rw [lim_mute r h1] at h2
  cases h2
theorem lim_let {inp : ByteArray} {j : Nat} (hi : bl inp = List.replicate j 97) (hj : j ≤ 40) : letB inp = true ∧ inp.size = j := by
  have hs : inp.size = j := by rw [← bl_len, hi, List.length_replicate]
  refine ⟨?_, hs⟩
  unfold letB smallS
  rw [hi, hs, Bool.and_eq_true]
  refine ⟨decide_eq_true hj, List.all_eq_true.2 fun x hx => ?_⟩
  rw [(List.mem_replicate.1 hx).2]
  decide
theorem limits_best {k j : Nat} (hk : 2 ≤ k ∧ k ≤ 5) {inp : ByteArray} (hi : bl inp = List.replicate j 97) (hj : j ≤ 40) : bestR (limS k) inp 1 = if 2000 < k ^ j then ([], 2) else ([⟨inp, 0⟩], 0) := by
  obtain ⟨hl, hs⟩ := lim_let hi hj
  have hi' : bl inp = List.replicate inp.size 97 := by rw [hs]; exact hi
  have ha : soundE (limS k) = 0 ∧ letB inp = true ∧ (1 : Int) ≤ 1 ∧ (1 : Int) ≤ 50 := ⟨soundE_iff.2 ⟨lim_ok hk, lim_sound⟩, hl, by decide, by decide⟩
  have hbig := lim_big lim_lim hi' (n := 2000) (s := limS k) (by rw [lim_len hk.2]; omega)
  rw [lim_len hk.2, hs] at hbig
  split
  · rename_i h
    exact bestR_big ha (hbig.2 h)
  · rename_i h
    have hf : (bestL (limS k) inp).take 1 = [⟨inp, 0⟩] := lim_first lim_lim (a := ⟨0, 0, ⟨#[97]⟩, ⟨#[97]⟩, 0⟩) (List.mem_of_getElem? (i := 0) (by show (limAll.take k)[0]? = _; rw [List.getElem?_take]; rw [if_pos (by omega)]; rfl)) rfl rfl
      (lim_all (p := fun r => r ≠ ⟨0, 0, ⟨#[97]⟩, ⟨#[97]⟩, 0⟩ → 0 < r.co) (by decide) k) (show accB 1 0 = true by decide) hi'
    rw [bestR_ok ha (fun x => h (hbig.1 x)) (fun e => by rw [e] at hf; cases hf)]
    show ((bestL (limS k) inp).take 1, (0 : Int)) = _
    rw [hf]
end Go.Proofs.Ytkjfdjcagfkdhaa

/-
  Arguments opened: a slice reads as a list of things, whatever memory it lies in; the row's last step where old memory is left alone.
-/
namespace Go.Proofs.Ytkjfdjcagfkdhaa
open Go Go.RowKit Go.ChangeShapes Go.WideShapes

theorem Try.own : ownKnob Try.prog.godebug = none := by kernel_rfl
theorem Try.laidOut : laidOutB Try.prog = true := by kernel_rfl

section
variable {H : Type} {enc : TypeId × Value → H} {P : Program} {w : World} {base : Nat} {spare : Nat → Bool} {held : Bool}
theorem list_choose {α : Type} {p : Nat → α → Prop} : ∀ (n : Nat), (∀ i, i < n → ∃ x, p i x) → ∃ xs : List α, xs.length = n ∧ ∀ i x, xs[i]? = some x → p i x
  | 0, _ => ⟨[], rfl, fun i x h => by simp at h⟩
  | n + 1, h => by
    obtain ⟨xs, hl, hp⟩ := list_choose n (fun i hi => h i (by omega))
    obtain ⟨x, hx⟩ := h n (by omega)
    refine ⟨xs ++ [x], by simp [hl], fun i y hy => ?_⟩
    rcases Nat.lt_or_ge i n with hi | hi
    · rw [List.getElem?_append_left (by omega)] at hy; exact hp i y hy
    · obtain ⟨hlt, _⟩ := List.getElem?_eq_some_iff.1 hy
      have : i = n := by simp [hl] at hlt; omega
      subst this
      rw [List.getElem?_append_right (by omega), hl] at hy
      simp at hy
      subst hy
      exact hx
/-- A slice that an argument holds reads as a list. -/
theorem open_slr {α : Type} {R : World → α → List Value → Prop} {t e : TypeId} {s fuel : Nat} {cs : List Value} {X : DataW H × List MemPlace} (ht : P.underlying t = some (.slice e)) (hc : P.cellsOf e = s) (hs : 0 < s)
    (hel : ∀ (n : Nat) (cs : List Value) (y : DataW H × List MemPlace), DataW.trod enc P w base spare held n e cs = some y → cs.length = s → ∃ x : α, R w x cs)
    (h : DataW.trod enc P w base spare held fuel t cs = some X) : ∃ (A : Option Addr) (len cap : Nat) (xs : List α), cs = [.slice A len cap] ∧ xs.length = len ∧ len ≤ cap ∧ cap ≤ maxLen ∧ SlR s R w A xs := by
  rcases Go.Deep.open_slice ht h with ⟨rfl, _⟩ | ⟨a, len, cap, m, n, D, Pl, rfl, hb, hl, hm, hmm, _, hx⟩
  · exact ⟨none, 0, 0, [], rfl, rfl, Nat.le_refl _, Nat.zero_le _, SlR.nil⟩
  · have hlm : len ≤ m := by rw [hmm]; split <;> omega
    subst hc
    obtain ⟨xs, hxl, hxs⟩ := list_choose (p := fun i x => ∃ cs', w.cells? base (a.add (i * P.cellsOf e)) (P.cellsOf e) = some cs' ∧ R w x cs') len (fun i hi => by
      obtain ⟨cs', h1, h2⟩ := hx i (by omega)
      obtain ⟨x, hx⟩ := hel _ _ _ h2 (World.cells?_some h1).2.1
      exact ⟨x, cs', h1, hx⟩)
    refine ⟨some a, len, cap, xs, rfl, hxl, hl, hm, fun hne => ?_⟩
    have hcell : ∀ i x, xs[i]? = some x → ∃ vs, R w x vs ∧ vs.length = P.cellsOf e ∧ ∀ j v, vs[j]? = some v → w.cell? (a.add (i * P.cellsOf e + j)) = some v := fun i x hi => by
      obtain ⟨cs', h1, h2⟩ := hxs i x hi
      obtain ⟨_, hcl, hat⟩ := World.cells?_some h1
      refine ⟨cs', h2, hcl, fun j v hj => ?_⟩
      obtain ⟨hjl, _⟩ := List.getElem?_eq_some_iff.1 hj
      have := hat j (by omega)
      rw [Go.Deep.add_add] at this
      rw [this]; exact hj
    obtain ⟨x0, hx0⟩ : ∃ x, xs[0]? = some x := ⟨xs[0]'(List.length_pos_iff.2 hne), List.getElem?_eq_getElem _⟩
    obtain ⟨vs, _, hvl, hv⟩ := hcell 0 x0 hx0
    obtain ⟨v0, hv0⟩ : ∃ v, vs[0]? = some v := ⟨vs[0]'(by omega), List.getElem?_eq_getElem _⟩
    have h0 := hv 0 v0 hv0
    simp only [Nat.zero_mul, Nat.zero_add] at h0
    have ha0 : a.add 0 = a := by unfold Addr.add; simp
    rw [ha0] at h0
    rcases a with ⟨b, o, sp⟩
    cases sp with
    | some _ =>
      unfold World.cell? at h0
      dsimp only at h0
      split at h0 <;> simp at h0
    | none =>
      refine ⟨b, o, rfl, ?_, fun k x hk => ?_⟩
      · rcases Nat.lt_or_ge b w.heap.size with h | h
        · exact h
        · unfold World.cell? at h0; dsimp only at h0; rw [Array.getElem?_eq_none h] at h0; cases h0
      · obtain ⟨vs, h1, h2, h3⟩ := hcell k x hk
        refine ⟨vs, h1, h2, fun j v hj => ?_⟩
        have := h3 j v hj
        have e : (Addr.mk b o none).add (k * P.cellsOf e + j) = ⟨b, o + k * P.cellsOf e + j, none⟩ := by unfold Addr.add; split <;> simp_all [Nat.add_assoc]
        rw [e] at this
        exact this
/-- An array of whole numbers, opened: its cells. -/
theorem open_arr_ints {k : IntKind} {t e : TypeId} {m fuel : Nat} {cs : List Value} {X : DataW H × List MemPlace} (ht : P.underlying t = some (.array m e)) (he : P.underlying e = some (.int k)) (hc : P.cellsOf e = 1) (hct : P.cellsOf t = m)
    (h : DataW.trod enc P w base spare held fuel t cs = some X) : ∃ ns : List Int, ns.length = m ∧ cs = ns.map (Value.int k) ∧ ∀ n ∈ ns, (Lit.int k n).wf = true := by
  obtain ⟨xs, m', _, _, hl, hxl, hi⟩ := DataW.trod_array ht h
  obtain ⟨ns, hnl, hns⟩ := list_choose (p := fun i n => cs[i]? = some (Value.int k n) ∧ (Lit.int k n).wf = true) m (fun i him => by
    have h1 := hi i him
    rw [hc, Nat.mul_one, List.getElem?_eq_getElem (by omega)] at h1
    obtain ⟨n, h2, _, h3⟩ := DataW.trod_int he h1
    refine ⟨n, ?_, h3⟩
    have h4 : ((cs.drop i).take 1)[0]? = some (Value.int k n) := by rw [h2]; rfl
    rw [List.getElem?_take_of_lt (by omega), List.getElem?_drop] at h4
    simpa using h4)
  refine ⟨ns, hnl, ?_, fun n hn => ?_⟩
  · refine List.ext_getElem? fun i => ?_
    rcases Nat.lt_or_ge i m with hi | hi
    · obtain ⟨n, hn⟩ : ∃ n, ns[i]? = some n := ⟨ns[i]'(by omega), List.getElem?_eq_getElem _⟩
      rw [(hns i n hn).1, List.getElem?_map, hn]; rfl
    · rw [List.getElem?_eq_none (by omega), List.getElem?_eq_none (by simp; omega)]
  · obtain ⟨i, hi, rfl⟩ := List.getElem_of_mem hn
    exact (hns i _ (List.getElem?_eq_getElem hi)).2
theorem okWide_array_ {r : Reach} {b0 : Nat} {m : Nat} {t e : TypeId} {v : Value} (ht : P.underlying t = some (.array m e)) (h : Value.okWide P w r b0 t v) : ∃ cs, v = .agg cs := by
  simp only [Value.okWide, ht] at h
  obtain ⟨cs, h1, _⟩ := h
  exact ⟨cs, h1⟩
/-- An argument that is an array of whole numbers. -/
theorem open_arr {r : Reach} {b0 : Nat} {k : IntKind} {t e : TypeId} {m : Nat} {v : Value} {d : DataW H} {p : List MemPlace} (ht : P.underlying t = some (.array m e)) (he : P.underlying e = some (.int k)) (hc : P.cellsOf e = 1) (hct : P.cellsOf t = m)
    (hv : Value.okWide P w r b0 t v) (h : DataW.Trod enc P w base spare held t v d p) : ∃ ns : List Int, ns.length = m ∧ v = .agg (ns.map (Value.int k)).toArray ∧ ∀ n ∈ ns, (Lit.int k n).wf = true := by
  obtain ⟨cs, rfl⟩ := okWide_array_ ht hv
  obtain ⟨fuel, hf⟩ := h
  obtain ⟨ns, h1, h2, h3⟩ := open_arr_ints ht he hc hct hf
  refine ⟨ns, h1, ?_, h3⟩
  have : cs.toList = ns.map (Value.int k) := by simpa [Value.cells] using h2
  rw [← this]
/-- The row's last step: the call left old memory alone. -/
theorem post_of_below {f : Func} {s : ChangeSpec} {apart fresh handsOn again : Bool} {W W' : World} {args : Array Value} {v : Value} {ds gs : List (DataW H)} {before pa pv : List MemPlace}
    (hW : DataW.Whole enc P f.params.toList s.vars apart W args.toList ds gs before)
    (hres : ∀ (b : Nat) (sp : Nat → Bool) (hd : Bool), DataW.TrodAll enc P W' b sp hd f.resultTypes.toList (v.resultList f.resultTypes.size) (s.fn H (ds ++ gs)).results [])
    (hargs : ∀ sp : Nat → Bool, (∀ p ∈ before, sp p.block = true) → DataW.TrodAll enc P W' 0 sp true f.params.toList args.toList (s.fn H (ds ++ gs)).args pa)
    (hvars : ∀ sp : Nat → Bool, (∀ p ∈ before, sp p.block = true) → DataW.TrodVars enc P W' sp s.vars (s.fn H (ds ++ gs)).vars pv)
    (hps : before = pa ++ pv) (hb : Below W.heap.size W W')
    (hok : ∀ (j : Nat) (t : TypeId) (r : Value), f.resultTypes[j]? = some t → (v.resultList f.resultTypes.size)[j]? = some r → Value.okWide P W' .any 0 t r) :
    s.post enc P f apart fresh handsOn again W args v W' := by
  have hlt : ∀ p ∈ before, p.block < W.heap.size := fun p hp => hW.lt p hp
  have hold : ∀ p ∈ before, (fun b => decide (b < W.heap.size)) p.block = true := fun p hp => by simpa using hlt p hp
  refine ⟨ds, gs, before, [], pa, pv, hW, hres _ _ _, hargs _ hold, hvars _ hold, World.keptBut_mono (fun p hp => ⟨hp, ?_⟩) (hb.frame (· ∈ before)), fun _ => ?_⟩
  · rw [hps, List.mem_append] at hp
    exact Or.inr hp
  · obtain ⟨_, _, _, _, _, hz, hn⟩ := hW
    refine ⟨hok, _, _, ([] ++ pa) ++ pv, ⟨[] ++ pa, pv, trodAll_append (hargs _ (fun _ _ => rfl)) (hres _ _ _), hvars _ (fun _ _ => rfl), rfl, ?_, ?_⟩, ?_⟩
    · intro b off hp
      have hin : MemPlace.cell b off ∈ before := by rw [hps]; simpa using hp
      rw [hb.frozen (hlt _ hin)]
      exact hz b off hin
    · intro ha
      have := hn ha
      rw [hps] at this
      simpa using this
    · intro p hp _
      rw [hps]
      simpa using hp
theorem below_trod {t : TypeId} {W W' : World} {v : Value} {d : DataW H} {ps : List MemPlace} {sp : Nat → Bool} (hr : Try.prog.readableRec t = true) (hrow : t < Try.prog.types.size) (h : DataW.Trod enc Try.prog W 0 (fun _ => true) true t v d ps)
    (hb : Below W.heap.size W W') (hlt : ∀ x ∈ ps, x.block < W.heap.size) (hsp : ∀ x ∈ ps, sp x.block = true) : DataW.Trod enc Try.prog W' 0 sp true t v d ps :=
  WideElems.Trod_stays Try.laidOut hr hrow h (fun x hx => hb.same (hlt x hx)) hsp
end
end Go.Proofs.Ytkjfdjcagfkdhaa

/-
  Arguments opened: arrays by their numbers.
-/
namespace Go.Proofs.Ytkjfdjcagfkdhaa
open Go Go.RowKit Go.ChangeShapes Go.WideShapes

theorem list2 {α : Type} : ∀ (l : List α), l.length = 2 → ∃ a b, l = [a, b]
  | [a, b], _ => ⟨a, b, rfl⟩
section
variable {H : Type} {enc : TypeId × Value → H} {P : Program} {w : World} {base : Nat} {spare : Nat → Bool} {held : Bool}
theorem open_arr2 {r : Reach} {b0 : Nat} {k : IntKind} {t e : TypeId} {v : Value} {d : DataW H} {p : List MemPlace} (ht : P.underlying t = some (.array 2 e)) (he : P.underlying e = some (.int k)) (hc : P.cellsOf e = 1) (hct : P.cellsOf t = 2)
    (hv : Value.okWide P w r b0 t v) (h : DataW.Trod enc P w base spare held t v d p) : ∃ a b, v = .agg #[.int k a, .int k b] ∧ (Lit.int k a).wf = true ∧ (Lit.int k b).wf = true := by
  obtain ⟨ns, hl, rfl, hw⟩ := open_arr ht he hc hct hv h
  obtain ⟨a, b, rfl⟩ := list2 ns hl
  exact ⟨a, b, rfl, hw a (by simp), hw b (by simp)⟩
end
end Go.Proofs.Ytkjfdjcagfkdhaa
