/-
  SiOrdP, OuLeave, OuLvr, OuLiveW, OuRunI, OuGoesP, OuGoesW, OuLawA, OuLawB, OuLawC, OuLawD, OuLawE, OuLawF, OuBaseP, joined. No conditions.
-/
import Derived.Test.YtfpnhgahkjglgaaP27
import Derived.Test.YtfpnhgahkjglgaaP17
import Derived.Test.YtfpnhgahkjglgaaP22
import Derived.Test.YtfpnhgahkjglgaaP16
import Derived.Carry
import Derived.Test.YtfpnhgahkjglgaaP13
import Derived.Test.YtfpnhgahkjglgaaP21
import Derived.Laws.EntriesVeiled
import Derived.Test.YtfpnhgahkjglgaaP25
/-
  Other costs and another order of the rules of layer 08: plain laws. No conditions.
-/
namespace Go.Proofs.Ytfpnhgahkjglgaa
open Go List

/-- The i-th rule in the other order, with another cost. -/
def oR (rs : List Ru) (l : List Int) (kk i : Nat) : Ru := ⟨(rs.getD ((i + kk) % rs.length) ⟨0, 0, ByteArray.empty, ByteArray.empty, 0⟩).fr, (rs.getD ((i + kk) % rs.length) ⟨0, 0, ByteArray.empty, ByteArray.empty, 0⟩).to, (rs.getD ((i + kk) % rs.length) ⟨0, 0, ByteArray.empty, ByteArray.empty, 0⟩).inp, (rs.getD ((i + kk) % rs.length) ⟨0, 0, ByteArray.empty, ByteArray.empty, 0⟩).out, (i : Int) + l.getD i 0⟩
theorem oR_at {rs : List Ru} {l : List Int} {kk i : Nat} {r : Ru} (h : rs[(i + kk) % rs.length]? = some r) : oR rs l kk i = ⟨r.fr, r.to, r.inp, r.out, (i : Int) + l.getD i 0⟩ := by
  have e : rs.getD ((i + kk) % rs.length) ⟨0, 0, ByteArray.empty, ByteArray.empty, 0⟩ = r := by rw [getD_eq_getElem?_getD, h]; rfl
  unfold oR
  rw [e]
def oTo (rs : List Ru) (l : List Int) (kk i : Nat) : List Ru := (List.range i).map (oR rs l kk)
theorem oTo_next (rs : List Ru) (l : List Int) (kk i : Nat) : oTo rs l kk (i + 1) = oTo rs l kk i ++ [oR rs l kk i] := by unfold oTo; rw [range_succ, map_append, map_singleton]
theorem oTo_len (rs : List Ru) (l : List Int) (kk i : Nat) : (oTo rs l kk i).length = i := by unfold oTo; rw [length_map, length_range]
theorem mod_back {n j kk : Nat} (hj : j < n) : ((j + (n - kk % n)) % n + kk) % n = j := by
  have h1 : kk % n < n := Nat.mod_lt _ (by omega)
  rw [Nat.mod_add_mod]
  have e : kk = n * (kk / n) + kk % n := (Nat.div_add_mod kk n).symm
  have e2 : j + (n - kk % n) + kk = j + n * (kk / n + 1) := by
    rw [Nat.mul_add, Nat.mul_one]
    omega
  rw [e2, Nat.add_mul_mod_self_left, Nat.mod_eq_of_lt hj]
theorem like_other (m a : Int) (rs : List Ru) (l : List Int) (kk : Nat) : Like ⟨m, a, rs⟩ ⟨m, a, oTo rs l kk rs.length⟩ := by
  refine ⟨rfl, fun r hr => ?_, fun r hr => ?_⟩
  · obtain ⟨j, hj⟩ := getElem?_of_mem (show r ∈ rs from hr)
    have hlt := (List.getElem?_eq_some_iff.1 hj).1
    refine ⟨oR rs l kk ((j + (rs.length - kk % rs.length)) % rs.length), mem_map.2 ⟨_, mem_range.2 (Nat.mod_lt _ (by omega)), rfl⟩, ?_⟩
    rw [oR_at (r := r) (by rw [mod_back hlt]; exact hj)]
    exact ⟨rfl, rfl, rfl, rfl⟩
  · obtain ⟨i, hi, rfl⟩ := mem_map.1 (show r ∈ (List.range rs.length).map (oR rs l kk) from hr)
    have hi := mem_range.1 hi
    have hlt : (i + kk) % rs.length < rs.length := Nat.mod_lt _ (by omega)
    refine ⟨rs[(i + kk) % rs.length], getElem_mem hlt, ?_⟩
    rw [oR_at (getElem?_eq_getElem hlt)]
    exact ⟨rfl, rfl, rfl, rfl⟩
theorem like_E {s t : Sc} (h : Like s t) (hs : ScOK s) (ht : ScOK t) : soundE s = 0 ↔ soundE t = 0 := by
  rw [soundE_iff, soundE_iff]
  exact ⟨fun h1 => ⟨ht, like_sound h h1.2⟩, fun h1 => ⟨hs, like_sound h.symm h1.2⟩⟩
theorem like_chk {s t : Sc} (h : Like s t) (hE : soundE s = 0 ↔ soundE t = 0) {ti ta tb ti' ta' tb' : ByteArray} {er er' : Int} (h1 : ChkP s ti ta tb er) (h2 : ChkP t ti' ta' tb' er') : ti = ti' ∧ er = er' := by
  rcases h1 with ⟨a1, rfl, _, _, rfl⟩ | ⟨a1, a2, rfl, _, _, rfl⟩ | ⟨a1, u, a2, a3⟩
  · rcases h2 with ⟨_, rfl, _, _, rfl⟩ | ⟨b1, _⟩ | ⟨b1, _⟩
    · exact ⟨rfl, rfl⟩
    · exact absurd (hE.2 b1) a1
    · exact absurd (hE.2 b1) a1
  · rcases h2 with ⟨b1, _⟩ | ⟨_, _, rfl, _, _, rfl⟩ | ⟨_, v, b2, _⟩
    · exact absurd (hE.1 a1) b1
    · exact ⟨rfl, rfl⟩
    · have := firstTo_unique (like_first h a2) b2; cases this
  · rcases h2 with ⟨b1, _⟩ | ⟨_, b2, _⟩ | ⟨_, v, b2, b3⟩
    · exact absurd (hE.1 a1) b1
    · have := firstTo_unique (like_first h a2) b2; cases this
    · obtain rfl := Option.some.inj (firstTo_unique (like_first h a2) b2)
      rcases a3 with ⟨a4, rfl, _, _, rfl⟩ | ⟨a4, _, _, _, _, rfl, _, _, rfl⟩
      · rcases b3 with ⟨_, rfl, _, _, rfl⟩ | ⟨b4, _⟩
        · exact ⟨rfl, rfl⟩
        · exact absurd (like_big h.2.1 a4) b4
      · rcases b3 with ⟨b4, _⟩ | ⟨_, _, _, _, _, rfl, _, _, rfl⟩
        · exact absurd (like_big h.2.2 b4) a4
        · exact ⟨rfl, rfl⟩
theorem like_none {s t : Sc} (h : Like s t) : FirstTo s none ↔ FirstTo t none := ⟨fun a => like_first h a, fun a => like_first h.symm a⟩
end Go.Proofs.Ytfpnhgahkjglgaa

/-
  The walks of layer 05: marks of modes; the rules that leave each mode.
-/
namespace Go.Proofs.Ytfpnhgahkjglgaa
open Go Go.RowKit Go.Maps

end Go.Proofs.Ytfpnhgahkjglgaa

/-
  Words for memory of layer 05: the loop that makes modes live.
-/
namespace Go.Proofs.Ytfpnhgahkjglgaa
open Go Go.RowKit Go.Maps

def cntf (N : Nat) (f : Int → Bool) : Nat := (List.range N).countP fun k : Nat => !f (k : Int)
theorem cntf_lt {N : Nat} {f g : Int → Bool} (h : ∀ x, f x = true → g x = true) {m : Nat} (hm : m < N) (h1 : f (m : Int) = false) (h2 : g (m : Int) = true) : cntf N g < cntf N f := by
  unfold cntf
  have key : ∀ l : List Nat, m ∈ l → l.countP (fun k : Nat => !g (k : Int)) < l.countP (fun k : Nat => !f (k : Int)) := by
    intro l
    induction l with
    | nil => intro h; cases h
    | cons a l ih =>
      intro hml
      have hle : l.countP (fun k : Nat => !g (k : Int)) ≤ l.countP (fun k : Nat => !f (k : Int)) := List.countP_mono_left fun k _ hk => by
        cases hf : f (k : Int) with
        | false => rfl
        | true => rw [h _ hf] at hk; exact hk
      rw [List.countP_cons, List.countP_cons]
      by_cases e : a = m
      · subst e
        simp [h1, h2]
        omega
      · have := ih ((List.mem_cons.1 hml).elim (fun e2 => absurd e2.symm e) id)
        have hx : (if (!g (a : Int)) = true then 1 else 0) ≤ (if (!f (a : Int)) = true then 1 else 0) := by
          cases hf : f (a : Int) with
          | false => cases g (a : Int) <;> decide
          | true => rw [h _ hf]; decide
        omega
  exact key _ (List.mem_range.2 hm)
section
variable {w w' : World} {gm n N gL r cnt : Nat} {V : Int → Value} {Ls : Int → List Int} {D : DataW Unit} {left : Lit → Bool} {f : Int → Bool}
theorem LvM.far (h : LvM Try.prog 3 3 w gm n N (gm + 1) V Ls D) (hL : BB w gL N f) (hg : w.grownBy w' (some gL)) : LvM Try.prog 3 3 w' gm n N (gm + 1) V Ls D := by
  have hne : gL ≠ gm := by
    obtain ⟨es, clock, h1, _⟩ := h.own
    exact map_blk h1 hL
  refine ⟨h.own.kept hg (fun e => hne (Option.some.inj e).symm), h.at_, fun m h0 h1 => (h.row m h0 h1).kept hg ?_, h.has_, h.put, h.apart, h.below⟩
  have := own_blk_ne (h.row m h0 h1) hL (by decide)
  exact .inr this
theorem LvM.iter (h : LvM Try.prog 3 3 w gm n N (gm + 1) V Ls D) (hr : w.ranges Try.prog 3 slE gm r n D left cnt) (hg : w.grownBy w' (some r)) : LvM Try.prog 3 3 w' gm n N (gm + 1) V Ls D := by
  refine ⟨h.own.kept hg (fun e => hr.ne (Option.some.inj e).symm), h.at_, fun m h0 h1 => (h.row m h0 h1).kept hg ?_, h.has_, h.put, h.apart, h.below⟩
  cases hv : (V m).ownBlock with
  | none => exact .inl rfl
  | some g =>
    refine .inr fun e => ?_
    obtain rfl := Option.some.inj e
    obtain ⟨cs, t, f, h2⟩ := own_cells (h.row m h0 h1) hv
    obtain ⟨es, clock, since, seen, c0, _, _, _, _, h5, _⟩ := hr
    rw [h2] at h5
    cases h5
theorem BB.iter (h : BB w gL N f) (hr : w.ranges Try.prog 3 slE gm r n D left cnt) (hg : w.grownBy w' (some r)) : BB w' gL N f := by
  refine (hg.block gL h.lt fun e => ?_).trans h
  obtain rfl := Option.some.inj e
  obtain ⟨es, clock, since, seen, c0, _, _, _, _, h5, _⟩ := hr
  have h : w.heap[gL]? = some _ := h
  rw [h5] at h
  cases h
end
/-- What a pass has done: nothing, and the modes looked at are closed; or a mark more. -/
def PassF (N : Nat) (f0 f : Int → Bool) (ch : Bool) (C : Prop) : Prop := (∀ x, f0 x = true → f x = true) ∧ (ch = false → f = f0 ∧ C) ∧ (ch = true → cntf N f < cntf N f0)
theorem PassF.mark {N : Nat} {f0 f : Int → Bool} {ch : Bool} {C C' : Prop} (h : PassF N f0 f ch C) {m : Nat} (hm : m < N) (h1 : f (m : Int) = false) : PassF N f0 (fun x => if x = (m : Int) then true else f x) true C' := by
  refine ⟨fun x hx => ?_, fun h => (by cases h), fun _ => ?_⟩
  · show (if x = (m : Int) then true else f x) = true
    split
    · rfl
    · exact h.1 x hx
  · refine cntf_lt (fun x hx => ?_) hm ?_ (if_pos rfl)
    · show (if x = (m : Int) then true else f x) = true
      split
      · rfl
      · exact h.1 x hx
    · cases h0 : f0 (m : Int) with
      | false => rfl
      | true => rw [h.1 _ h0] at h1; cases h1
theorem PassF.keep {N : Nat} {f0 f : Int → Bool} {ch : Bool} {C C' : Prop} (h : PassF N f0 f ch C) (hc : f = f0 → C → C') : PassF N f0 f ch C' :=
  ⟨h.1, fun e => ⟨(h.2.1 e).1, hc (h.2.1 e).1 (h.2.1 e).2⟩, h.2.2⟩
end Go.Proofs.Ytfpnhgahkjglgaa

/-
  The walk of layer 05: the modes that are live.
-/
namespace Go.Proofs.Ytfpnhgahkjglgaa
open Go Go.RowKit Go.Maps

end Go.Proofs.Ytfpnhgahkjglgaa

/-
  The walk of layer 05: the states to which routes lead.
-/
namespace Go.Proofs.Ytfpnhgahkjglgaa
open Go Go.RowKit Go.Maps

end Go.Proofs.Ytfpnhgahkjglgaa

/-
  Whether an input goes on, by the modes alone; a look into a map or none.
-/
namespace Go.Proofs.Ytfpnhgahkjglgaa
open Go Go.RowKit Go.Maps

section
variable {s : Sc} {f : Int → Bool} {inp : ByteArray} {M : Int → Option Int}
/-- None leads on behind this place: the rules' first j looked at, at the place a. -/
def NotAt (s : Sc) (inp : ByteArray) (i j : Nat) : Prop := ∀ t o c x k, k < j → s.rs[k]? = some x → bl t = (bl inp).take i → Rte s x.fr t o c → ¬ (bl inp).drop i <+: bl x.inp
theorem NotAt.zero {i : Nat} : NotAt s inp i 0 := fun _ _ _ _ _ h => absurd h (Nat.not_lt_zero _)
theorem NotAt.succ {i j : Nat} {x : Ru} (h : NotAt s inp i j) (hx : s.rs[j]? = some x) (hn : (¬ ∃ t o c, bl t = (bl inp).take i ∧ Rte s x.fr t o c) ∨ ¬ (bl inp).drop i <+: bl x.inp) : NotAt s inp i (j + 1) := fun t o c y k hk hy h1 h2 h3 => by
  rcases Nat.lt_succ_iff_lt_or_eq.1 hk with h4 | rfl
  · exact h t o c y k h4 hy h1 h2 h3
  · rw [hx] at hy
    obtain rfl := Option.some.inj hy
    rcases hn with hn | hn
    · exact hn ⟨t, o, c, h1, h2⟩
    · exact hn h3
end
/-- What Goes answers. -/
def GoesOf (s : Sc) (inp : ByteArray) (b : Bool) : Prop := b = true ↔ soundE s = 0 ∧ letB inp = true ∧ GoesP s inp
end Go.Proofs.Ytfpnhgahkjglgaa

/-
  The walk of layer 05: whether an input goes on.
-/
namespace Go.Proofs.Ytfpnhgahkjglgaa
open Go Go.RowKit Go.Maps

theorem GoesOf.no {s : Sc} {inp : ByteArray} (h : ¬ (soundE s = 0 ∧ letB inp = true)) : GoesOf s inp false := ⟨fun h => (by cases h), fun h2 => absurd ⟨h2.1, h2.2.1⟩ h⟩
end Go.Proofs.Ytfpnhgahkjglgaa

/-
  The walks of layer 05: equal results; which comes before.
-/
namespace Go.Proofs.Ytfpnhgahkjglgaa
open Go Go.RowKit

end Go.Proofs.Ytfpnhgahkjglgaa

/-
  The scheme of the examples of layer 05: what it gives. No conditions.
-/
namespace Go.Proofs.Ytfpnhgahkjglgaa
open Go Go.RowKit

end Go.Proofs.Ytfpnhgahkjglgaa

/-
  The walks of layer 05: the scheme of the examples, and what is found in it.
-/
namespace Go.Proofs.Ytfpnhgahkjglgaa
open Go Go.RowKit

def encRu5 (r : Ru) : List Value := [.int .i64 r.fr, .int .i64 r.to, .string r.inp, .string r.out, .int .i64 r.co]
end Go.Proofs.Ytfpnhgahkjglgaa

/-
  The walk of layer 05: the examples hold.
-/
namespace Go.Proofs.Ytfpnhgahkjglgaa
open Go Go.RowKit

end Go.Proofs.Ytfpnhgahkjglgaa

/-
  The walks of layer 05: a rule between two modes; an input out of bytes.
-/
namespace Go.Proofs.Ytfpnhgahkjglgaa
open Go Go.RowKit

set_option maxRecDepth 100000 in
set_option maxHeartbeats 4000000 in
theorem simple_any (a b : Int) (i o : ByteArray) (w : World) : Calls Try.prog 22 #[.agg #[.int .i64 a, .int .i64 b], .string i, .string o] w fun e w' => e = .returned (.agg #[.int .i64 a, .int .i64 b, .string i, .string o, .int .i64 (i.size : Int)]) ∧ Below w.heap.size w w' := by
  obtain ⟨w1, hw1⟩ : ∃ w1, w.alloc (.cells #[.int .i64 a, .int .i64 b] 62) = w1 := ⟨_, rfl⟩
  obtain ⟨g, hg⟩ : ∃ g, w.heap.size = g := ⟨_, rfl⟩
  have hb1 : Below w.heap.size w w1 := by rw [← hw1]; exact nw _ (Below.refl _ _)
  have hB : Blk w1 g 62 #[.int .i64 a, .int .i64 b] := by rw [← hw1, ← hg]; exact Blk.new _ _ _
  obtain ⟨w2, hw2⟩ : ∃ w2, w1.alloc (.cells #[.int .i64 0, .int .i64 0, .string ⟨#[]⟩, .string ⟨#[]⟩, .int .i64 0] 32) = w2 := ⟨_, rfl⟩
  have hb2 : Below w.heap.size w w2 := by rw [← hw2, ← hw1]; exact nw _ (nw _ (Below.refl _ _))
  have hC : Blk w2 (g + 1) 32 #[.int .i64 0, .int .i64 0, .string ⟨#[]⟩, .string ⟨#[]⟩, .int .i64 0] := by rw [← hw2]; exact Blk.new_ (by rw [← hw1, ← hg]; simp)
  have hB2 : Blk w2 g 62 #[.int .i64 a, .int .i64 b] := by rw [← hw2]; exact hB.alloc _
  have hgw : w.heap.size ≤ g + 1 := by omega
  have HW1 := Lib.hid hw1
  have HW2 := Lib.hid hw2
  have HG := Lib.hid hg
  have c0 := hB2.cell 0
  have c1 := hB2.cell 1
  have cl := hB2.lt
  have d0 := hC.cell 0
  have d1 := hC.cell 1
  have d2 := hC.cell 2
  have d3 := hC.cell 3
  have d4 := hC.cell 4
  have dl := hC.lt
  have f0 := hC.frozen 0
  have f1 := hC.frozen 1
  have f2 := hC.frozen 2
  have f3 := hC.frozen 3
  have f4 := hC.frozen 4
  simp at c0 c1 d0 d1 d2 d3 d4
  have HE := Lib.hid (((((hC.set_ 0 (.int .i64 a)).set_ 1 (.int .i64 b)).set_ 2 (.string i)).set_ 3 (.string o)).set_ 4 (.int .i64 (i.size : Int)))
  have HBE := Lib.hid (((((hb2.setCell (p := ⟨g + 1, 0, none⟩) hgw (.int .i64 a)).setCell (p := ⟨g + 1, 1, none⟩) hgw (.int .i64 b)).setCell (p := ⟨g + 1, 2, none⟩) hgw (.string i)).setCell (p := ⟨g + 1, 3, none⟩) hgw (.string o)).setCell (p := ⟨g + 1, 4, none⟩) hgw (.int .i64 (i.size : Int)))
  clear hw1 hg hb1 hB hw2 hB2 hC hb2
  go_enter Try.func22, Try.ntmps22
  go_upto_region 1 with fail
  rw [HW1.out, HG.out, HW2.out]
  go_wp2_with fail
  obtain ⟨W, hW⟩ : ∃ W, (((((w2.setCell ⟨g + 1, 0, none⟩ (.int .i64 a)).setCell ⟨g + 1, 1, none⟩ (.int .i64 b)).setCell ⟨g + 1, 2, none⟩ (.string i)).setCell ⟨g + 1, 3, none⟩ (.string o)).setCell ⟨g + 1, 4, none⟩ (.int .i64 (i.size : Int))) = W := ⟨_, rfl⟩
  have hE := HE.out
  have hbE := HBE.out
  rw [hW] at hE hbE ⊢
  clear hW HE HBE
  have q0 := hE.cell 0
  have q1 := hE.cell 1
  have q2 := hE.cell 2
  have q3 := hE.cell 3
  have q4 := hE.cell 4
  simp at q0 q1 q2 q3 q4
  refine bodyPost_ret (v := .agg #[.int .i64 a, .int .i64 b, .string i, .string o, .int .i64 (i.size : Int)]) (by simp [results, Try.results22, go_sem, q0, q1, q2, q3, q4]; done) rfl ?_
  exact ⟨rfl, hbE⟩
end Go.Proofs.Ytfpnhgahkjglgaa

/-
  The walk of layer 05: an input out of bytes.
-/
namespace Go.Proofs.Ytfpnhgahkjglgaa
open Go Go.RowKit

def abcL (x : Int) : ByteArray := (ByteArray.mk #[97, 98, 99]).extract (x % 3).toNat (x % 3 + 1).toNat
theorem abcL_cases (x : Int) : abcL x = ByteArray.mk #[97] ∨ abcL x = ByteArray.mk #[98] ∨ abcL x = ByteArray.mk #[99] := by
  have h : x % 3 = 0 ∨ x % 3 = 1 ∨ x % 3 = 2 := by omega
  unfold abcL
  rcases h with h | h | h
  · rw [h]; exact .inl (by rfl)
  · rw [h]; exact .inr (.inl (by rfl))
  · rw [h]; exact .inr (.inr (by rfl))
theorem abcL_ok (x : Int) : (abcL x).size = 1 ∧ smallS (abcL x) = true := by
  rcases abcL_cases x with h | h | h <;> rw [h] <;> exact ⟨by rfl, by decide +kernel⟩
end Go.Proofs.Ytfpnhgahkjglgaa

/-
  The six schemes that R2.Base gives: plain. No conditions.
-/
namespace Go.Proofs.Ytfpnhgahkjglgaa
open Go Go.RowKit

def one5 (i o : ByteArray) : Ru := ⟨0, 0, i, o, (i.size : Int)⟩
def baseS : Nat → Sc
  | 0 => ⟨1, 1, [one5 ⟨#[97]⟩ ⟨#[97]⟩, one5 ⟨#[98]⟩ ⟨#[98]⟩, one5 ⟨#[99]⟩ ⟨#[99]⟩]⟩
  | 1 => ⟨1, 1, [one5 ⟨#[97]⟩ ⟨#[65]⟩, one5 ⟨#[98, 97]⟩ ⟨#[66]⟩, one5 ⟨#[99, 97]⟩ ⟨#[67]⟩, one5 ⟨#[98]⟩ ⟨#[98]⟩]⟩
  | 2 => ⟨2, 1, [⟨0, 1, ⟨#[99]⟩, ⟨#[]⟩, 1⟩, ⟨1, 0, ⟨#[97]⟩, ⟨#[65]⟩, 1⟩, ⟨1, 0, ⟨#[98]⟩, ⟨#[66]⟩, 1⟩, one5 ⟨#[97]⟩ ⟨#[97]⟩, one5 ⟨#[98]⟩ ⟨#[98]⟩]⟩
  | 3 => ⟨1, 1, [one5 ⟨#[97]⟩ ⟨#[97]⟩, one5 ⟨#[98]⟩ ⟨#[98]⟩, one5 ⟨#[97, 98]⟩ ⟨#[97, 98, 99, 49]⟩, one5 ⟨#[99]⟩ ⟨#[99]⟩]⟩
  | 4 => ⟨1, 1, [one5 ⟨#[97]⟩ ⟨#[97]⟩, ⟨0, 0, ⟨#[98]⟩, ⟨#[98]⟩, 0⟩, ⟨0, 0, ⟨#[99]⟩, ⟨#[98]⟩, 7⟩, ⟨0, 0, ⟨#[98]⟩, ⟨#[99]⟩, 9⟩]⟩
  | _ => ⟨1, 1, [one5 ⟨#[97]⟩ ⟨#[97]⟩, one5 ⟨#[97]⟩ ⟨#[65]⟩, one5 ⟨#[97, 97]⟩ ⟨#[66]⟩, one5 ⟨#[98]⟩ ⟨#[98]⟩, ⟨0, 0, ⟨#[98]⟩, ⟨#[]⟩, 20⟩]⟩
theorem base_ok (k : Nat) : ScOK (baseS k) ∧ (baseS k).n ≤ 2 ∧ 3 ≤ (baseS k).rs.length ∧ (baseS k).rs.length ≤ 5 := by
  unfold baseS
  split <;> decide
/-- Rules left out ahead. -/
theorem scOK_drop {s : Sc} (h : ScOK s) (d : Nat) : ScOK ⟨s.n, s.acc, s.rs.drop d⟩ := by
  obtain ⟨h1, h2, h3, h4, h5⟩ := h
  refine ⟨h1, ?_, h3, fun r hr => h4 r (List.mem_of_mem_drop hr), h5.sublist (List.drop_sublist d s.rs)⟩
  show (s.rs.drop d).length ≤ 64
  rw [List.length_drop]
  omega
/-- A right rule more. -/
theorem scOK_snoc {s : Sc} (h : ScOK s) {r : Ru} (hr : RuOK s.n r) (hn : r ∉ s.rs) (hl : s.rs.length < 64) : ScOK ⟨s.n, s.acc, s.rs ++ [r]⟩ := by
  obtain ⟨h1, h2, h3, h4, h5⟩ := h
  refine ⟨h1, ?_, h3, fun x hx => ?_, ?_⟩
  · show (s.rs ++ [r]).length ≤ 64
    simp
    omega
  · rcases List.mem_append.1 hx with hx | hx
    · exact h4 x hx
    · rw [List.mem_singleton.1 hx]; exact hr
  · show (s.rs ++ [r]).Nodup
    rw [List.nodup_append]
    exact ⟨h5, List.pairwise_singleton _ r, fun a ha b hb e => hn (by rw [← List.mem_singleton.1 hb, ← e]; exact ha)⟩
end Go.Proofs.Ytfpnhgahkjglgaa
