/-
  Laws that OutputRoutes wants besides the others' texts. No conditions.
-/
import Derived.Test.YtkjfdjcagfkdhaaGreatP36
import Derived.Test.YtkjfdjcagfkdhaaGreatP28
import Derived.Test.YtkjfdjcagfkdhaaGreatP27
import Derived.Test.YtkjfdjcagfkdhaaGreatP15
import Derived.Test.YtkjfdjcagfkdhaaGreatP05
namespace Go.Proofs.YtkjfdjcagfkdhaaGreat
open Go List
theorem take_found {L : List Rs} (hs : L.Pairwise (fun a b => befR a b = true)) {x : Rs} (hx : x ∈ L) {n : Nat} : x ∈ L.take n ∨ (n ≤ L.length ∧ ∀ y ∈ L.take n, befR y x = true) := by
  rw [← take_append_drop n L] at hx hs
  rcases mem_append.1 hx with h | h
  · exact .inl h
  · refine .inr ⟨?_, fun y hy => (pairwise_append.1 hs).2.2 y hy x h⟩
    have h1 := length_pos_of_mem h
    rw [length_drop] at h1
    omega
end Go.Proofs.YtkjfdjcagfkdhaaGreat
namespace Go.Proofs.YtkjfdjcagfkdhaaGreat
open Go Go.RowKit
section
variable {w w' : World} {base : Nat} {e e' : TypeId} {s s' n n' : Nat} {v v' v2 : Value} {xs xs' : List Value}
theorem own_ne (h : w.ownsRow base e s v n xs) {base' : Nat} (h' : w.ownsRow base' e' s' v' n' xs') (hne : e ≠ e') (g : Nat) (hg : v.ownBlock = some g) : v'.ownBlock ≠ some g := fun hg' => by
  rcases h.2 with ⟨rfl, _⟩ | ⟨g1, cap, cur, rfl, _, hh, _⟩
  · simp [Value.ownBlock] at hg
  · rcases h'.2 with ⟨rfl, _⟩ | ⟨g2, cap', cur', rfl, _, hh', _⟩
    · simp [Value.ownBlock] at hg'
    · simp [Value.ownBlock] at hg hg'
      subst hg; subst hg'
      rw [hh] at hh'
      injection hh' with hh'
      injection hh' with _ ht
      exact hne ht
end
end Go.Proofs.YtkjfdjcagfkdhaaGreat
namespace Go.Proofs.YtkjfdjcagfkdhaaGreat
open Go Go.RowKit
section
variable {w w' : World} {base : Nat} {e e' : TypeId} {s s' n n' : Nat} {v v' v2 : Value} {xs xs' : List Value}
theorem own_apps (h : w.ownsRow base e s v n xs) {base' : Nat} (h' : w.ownsRow base' e' s' v2 n' xs') (hne : e ≠ e') {v2' : Value} (ha : Apps w w' v2 v2') : w'.ownsRow base e s v n xs :=
  own_keep h fun g hg hlt => ha.keep g hlt (own_ne h h' hne g hg)
end
end Go.Proofs.YtkjfdjcagfkdhaaGreat
namespace Go.Proofs.YtkjfdjcagfkdhaaGreat
open Go Go.RowKit
section
variable {P : Program} {ops : Array Oper} {Q : Exit → Act → World → Prop} {S : World → Prop}
theorem ordB_fork {i j : Nat} {t u : OTree} {a : Act} {w : World} (h1 : wpOp P ops Q i (fun a' w' => S w' ∧ wpB P ops Q S t a' w') a w) (h2 : wpOp P ops Q j (fun a' w' => S w' ∧ wpB P ops Q S u a' w') a w) : wpB P ops Q S (.fork i j t u) a w := ⟨h1, h2⟩
end
end Go.Proofs.YtkjfdjcagfkdhaaGreat
namespace Go.Proofs.YtkjfdjcagfkdhaaGreat
open Go Go.RowKit
section
variable {w w' : World} {ms : List MC}
theorem MsOK.app {ns : List MC} (h : MsOK w ms) (h' : MsOK w ns) : MsOK w (ms ++ ns) := fun m hm => (List.mem_append.1 hm).elim (h m) (h' m)
end
end Go.Proofs.YtkjfdjcagfkdhaaGreat
namespace Go.Proofs.YtkjfdjcagfkdhaaGreat
open Go Go.RowKit
set_option maxRecDepth 100000 in
set_option maxHeartbeats 4000000 in
theorem before5_any (x y : Rs) (w : World) : Calls Tryz.prog 13 #[.agg #[.string x.tx, .int .i64 x.co], .agg #[.string y.tx, .int .i64 y.co]] w fun e w' => e = .returned (.bool (befR x y)) ∧ Below w.heap.size w w' := by
  obtain ⟨w1, hw1⟩ : ∃ w1, (w.alloc (.cells #[.string x.tx, .int .i64 x.co] 47)).alloc (.cells #[.string y.tx, .int .i64 y.co] 47) = w1 := ⟨_, rfl⟩
  obtain ⟨g, hg⟩ : ∃ g, w.heap.size = g := ⟨_, rfl⟩
  have hb1 : Below w.heap.size w w1 := by rw [← hw1]; exact nw _ (nw _ (Below.refl _ _))
  have hX : Blk w1 g 47 #[.string x.tx, .int .i64 x.co] := by rw [← hw1, ← hg]; exact (Blk.new _ _ _).alloc _
  have hY : Blk w1 (g + 1) 47 #[.string y.tx, .int .i64 y.co] := by rw [← hw1]; exact Blk.new_ (by simp; omega)
  have HW1 := Lib.hid hw1
  have HG := Lib.hid hg
  have HB1 := Lib.hid hb1
  have x0 := hX.cell 0
  have x1 := hX.cell 1
  have xl := hX.lt
  have y0 := hY.cell 0
  have y1 := hY.cell 1
  have yl := hY.lt
  simp at x0 x1 y0 y1
  clear hw1 hg hb1 hX hY
  obtain ⟨bb, hbb⟩ : ∃ b, befR x y = b := ⟨_, rfl⟩
  have HBB := Lib.hid hbb
  rw [hbb]
  have hcases : (x.co < y.co ∧ bb = true) ∨ (¬ x.co < y.co ∧ x.co = y.co ∧ ltS x.tx y.tx = bb) ∨ (¬ x.co < y.co ∧ x.co ≠ y.co ∧ bb = false) := by
    rw [← hbb]
    unfold befR
    by_cases h1 : x.co < y.co
    · exact .inl ⟨h1, by simp [h1]⟩
    · by_cases h2 : x.co = y.co
      · exact .inr (.inl ⟨h1, h2, by simp [h2]⟩)
      · exact .inr (.inr ⟨h1, h2, by simp [h1, h2]⟩)
  clear hbb
  rcases hcases with ⟨h1, rfl⟩ | ⟨h1, h2, h3⟩ | ⟨h1, h2, rfl⟩
  · go_enter Tryz.func13, Tryz.ntmps13
    go_upto_region 1 with fail
    rw [HW1.out, HG.out]
    go_wp2_with fail
    go_ret
    exact ⟨rfl, HB1.out⟩
  · have h4 : Op.bytesLess x.tx.toList y.tx.toList = bb := h3
    clear h3
    obtain ⟨xt, xc⟩ := x
    obtain ⟨yt, yc⟩ := y
    simp only at h1 h2 h4 x0 x1 y0 y1
    subst h2
    go_enter Tryz.func13, Tryz.ntmps13
    go_upto_region 1 with fail
    rw [HW1.out, HG.out]
    go_wp2_with fail
    go_ret
    exact ⟨rfl, HB1.out⟩
  · go_enter Tryz.func13, Tryz.ntmps13
    go_upto_region 1 with fail
    rw [HW1.out, HG.out]
    go_wp2_with fail
    go_ret
    exact ⟨rfl, HB1.out⟩
end Go.Proofs.YtkjfdjcagfkdhaaGreat
namespace Go.Proofs.YtkjfdjcagfkdhaaGreat
open Go Go.RowKit
theorem routes_plain {s : Sc} (hE : soundE s = 0) (hfl : ScOK s → SoundP s → FlatR s) {i o : ByteArray} {c r : Int} (hl : letB i = true) (hw : Whole s i o c) (hr : CostOf s i o r) {b : List Rs} {f : Int} (hb : (b, f) = bestR s i 50) :
    (0 ≤ r ∧ r ≤ c) ∧ ((f = 2 ∧ Big 2000 s i) ∨ (f = 0 ∧ ((⟨o, r⟩ : Rs) ∈ b ∨ (b.length = 50 ∧ ∀ y ∈ b, befR y ⟨o, r⟩ = true)))) := by
  obtain ⟨hok, hsp⟩ := soundE_iff.1 hE
  have hF : FlatS s i := pair_flat (hfl hok hsp) (bl i)
  have hI := best_is (s := s) (inp := i) hF
  obtain ⟨h1, h2, h3⟩ := cost_whole hE hl hw hr
  refine ⟨⟨h1, h2⟩, ?_⟩
  have hkk : soundE s = 0 ∧ letB i = true ∧ (1 : Int) ≤ 50 ∧ (50 : Int) ≤ 50 := ⟨hE, hl, by decide, by decide⟩
  have hmem : (⟨o, r⟩ : Rs) ∈ bestL s i := by
    refine hI.mem.2 ⟨h3, fun c' hc' => ?_⟩
    rcases hr.1 ⟨hE, hl⟩ with ⟨_, h⟩ | ⟨_, _, h⟩
    · exact absurd hw (h c)
    · exact h c' hc'
  by_cases hbig : Big 2000 s i
  · rw [bestR_big hkk hbig] at hb
    injection hb with _ hf
    exact .inl ⟨hf, hbig⟩
  · rw [bestR_ok hkk hbig (fun e => by rw [e] at hmem; cases hmem)] at hb
    injection hb with hb hf
    refine .inr ⟨hf, ?_⟩
    rw [hb]
    rcases take_found hI.sorted hmem (n := (50 : Int).toNat) with h | ⟨h4, h5⟩
    · exact .inl h
    · exact .inr ⟨by rw [List.length_take]; exact Nat.min_eq_left h4, h5⟩
end Go.Proofs.YtkjfdjcagfkdhaaGreat
