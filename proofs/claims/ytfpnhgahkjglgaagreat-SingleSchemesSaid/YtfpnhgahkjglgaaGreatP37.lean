/-
  Open2, OuFrame, SiFrame, SiSchemes, joined. No conditions.
-/
import Derived.Test.YtfpnhgahkjglgaaGreatP36
import Derived.Test.YtfpnhgahkjglgaaGreatP19
import Derived.Test.YtfpnhgahkjglgaaGreatP31
import Derived.Test.YtfpnhgahkjglgaaGreatP34
import Derived.Test.YtfpnhgahkjglgaaGreatP06
/-
  Arguments opened: arrays by their numbers.
-/
namespace Go.Proofs.YtfpnhgahkjglgaaGreat
open Go Go.RowKit Go.ChangeShapes Go.WideShapes

section
variable {H : Type} {enc : TypeId × Value → H} {P : Program} {w : World} {base : Nat} {spare : Nat → Bool} {held : Bool}
end
end Go.Proofs.YtfpnhgahkjglgaaGreat

/-
  The statements of layers 05 and 08: their arguments opened.
-/
namespace Go.Proofs.YtfpnhgahkjglgaaGreat
open Go Go.RowKit Go.ChangeShapes Go.WideShapes

theorem wf_u8 {n : Int} (h : (Lit.int .u8 n).wf = true) : 0 ≤ n ∧ n ≤ 255 := by
  simp [Lit.wf, IntKind.min, IntKind.max, IntKind.signed, IntKind.bits] at h
  omega
theorem slr_map {α β : Type} {s : Nat} {R : World → α → List Value → Prop} {w : World} {A : Option Addr} {f : β → α} {xs : List β} (h : SlR s (fun w x vs => R w (f x) vs) w A xs) : SlR s R w A (xs.map f) := fun hne => by
  obtain ⟨b, off, hA, hb, hc⟩ := h (by rintro rfl; simp at hne)
  refine ⟨b, off, hA, hb, fun k x hx => ?_⟩
  rw [List.getElem?_map] at hx
  cases hk : xs[k]? with
  | none => rw [hk] at hx; cases hx
  | some y =>
    rw [hk] at hx
    obtain ⟨vs, h1, h2, h3⟩ := hc k y hk
    exact ⟨vs, by rw [show x = f y from (Option.some.inj hx).symm]; exact h1, h2, h3⟩
theorem list5_ {α : Type} : ∀ (l : List α), l.length = 5 → ∃ a b c d e, l = [a, b, c, d, e]
  | [a, b, c, d, e], _ => ⟨a, b, c, d, e, rfl⟩
section
variable {H : Type} {enc : TypeId × Value → H} {P : Program} {w : World} {base : Nat} {spare : Nat → Bool} {held : Bool}
theorem trod_struct5 {t : TypeId} {f0 f1 f2 f3 f4 : Field} {fuel : Nat} {cs : List Value} {x : DataW H × List MemPlace} (ht : P.underlying t = some (.struct #[f0, f1, f2, f3, f4])) (h : DataW.trod enc P w base spare held fuel t cs = some x) :
    ∃ y0 y1 y2 y3 y4 n, cs.length = P.cellsOf t ∧ DataW.trod enc P w base spare held n f0.type ((cs.drop f0.offset).take (P.cellsOf f0.type)) = some y0 ∧
      DataW.trod enc P w base spare held n f1.type ((cs.drop f1.offset).take (P.cellsOf f1.type)) = some y1 ∧ DataW.trod enc P w base spare held n f2.type ((cs.drop f2.offset).take (P.cellsOf f2.type)) = some y2 ∧
      DataW.trod enc P w base spare held n f3.type ((cs.drop f3.offset).take (P.cellsOf f3.type)) = some y3 ∧ DataW.trod enc P w base spare held n f4.type ((cs.drop f4.offset).take (P.cellsOf f4.type)) = some y4 := by
  obtain ⟨xs, n, _, rfl, hl, hlen, hf⟩ := DataW.trod_struct ht h
  match xs, hlen with
  | [y0, y1, y2, y3, y4], _ => exact ⟨y0, y1, y2, y3, y4, n, hl, by simpa using hf 0 f0 rfl, by simpa using hf 1 f1 rfl, by simpa using hf 2 f2 rfl, by simpa using hf 3 f3 rfl, by simpa using hf 4 f4 rfl⟩
end
section
variable {H : Type} {enc : TypeId × Value → H} {w : World} {base : Nat} {spare : Nat → Bool} {held : Bool}
set_option maxRecDepth 100000 in
theorem open_u8s {fuel : Nat} {cs : List Value} {X : DataW H × List MemPlace} (h : DataW.trod enc Tryz.prog w base spare held fuel 25 cs = some X) :
    ∃ (A : Option Addr) (l : List Int) (c : Nat), cs = [.slice A l.length c] ∧ l.length ≤ c ∧ c ≤ maxLen ∧ SlR 1 RU8 w A l ∧ ∀ x ∈ l, 0 ≤ x ∧ x ≤ 255 := by
  obtain ⟨A, len, cap, xs, he, rfl, hlc, hcm, hs⟩ := open_slr (α := {x : Int // 0 ≤ x ∧ x ≤ 255}) (R := fun w x vs => RU8 w x.1 vs) Tryz.underlying25 (s := 1) (by kernel_rfl) (by decide) (fun n cs y hh _ => by
    obtain ⟨m, rfl, _, hw⟩ := DataW.trod_int Tryz.underlying5 hh
    exact ⟨⟨m, wf_u8 hw⟩, rfl⟩) h
  refine ⟨A, xs.map (·.1), cap, by rw [List.length_map]; exact he, by rw [List.length_map]; exact hlc, hcm, slr_map hs, fun q hq => ?_⟩
  obtain ⟨y, _, rfl⟩ := List.mem_map.1 hq
  exact y.2
set_option maxRecDepth 100000 in
/-- A slice of bytes. -/
theorem open_bytes_ {r : Reach} {b0 : Nat} {v : Value} {d : DataW H} {p : List MemPlace} (hv : Value.okWide Tryz.prog w r b0 25 v) (h : DataW.Trod enc Tryz.prog w base spare held 25 v d p) :
    ∃ (A : Option Addr) (l : List Int) (c : Nat), v = .slice A l.length c ∧ l.length ≤ c ∧ c ≤ maxLen ∧ SlR 1 RU8 w A l ∧ ∀ x ∈ l, 0 ≤ x ∧ x ≤ 255 := by
  obtain ⟨A0, len0, cap0, rfl⟩ := okWide_slice (P := Tryz.prog) (w := w) (r := r) (base := b0) Tryz.underlying25 hv
  obtain ⟨fuel, hf⟩ := h
  obtain ⟨A, l, c, he, h2⟩ := open_u8s hf
  exact ⟨A, l, c, by simpa [Value.cells] using he, h2⟩
set_option maxRecDepth 100000 in
/-- A rule's bytes. -/
theorem open_rawrule {fuel : Nat} {cs : List Value} {X : DataW H × List MemPlace} (h : DataW.trod enc Tryz.prog w base spare held fuel 70 cs = some X) (hl : cs.length = 5) : ∃ x : Rw, RRw w x cs := by
  obtain ⟨z0, z1, z2, z3, z4, m, _, q0, q1, q2, q3, q4⟩ := trod_struct5 Tryz.underlying70 h
  obtain ⟨a, b, c, d, e, rfl⟩ := list5_ cs hl
  have hc1 : Tryz.prog.cellsOf 25 = 1 := by kernel_rfl
  have hc2 : Tryz.prog.cellsOf 5 = 1 := by kernel_rfl
  dsimp only at q0 q1 q2 q3 q4
  rw [hc1] at q0 q1
  rw [hc2] at q2 q3 q4
  obtain ⟨A, la, ca, e0, l0, m0, s0, b0⟩ := open_u8s q0
  obtain ⟨B, lb, cb, e1, l1, m1, s1, b1⟩ := open_u8s q1
  obtain ⟨n2, f2, _, w2⟩ := DataW.trod_int Tryz.underlying5 q2
  obtain ⟨n3, f3, _, w3⟩ := DataW.trod_int Tryz.underlying5 q3
  obtain ⟨n4, f4, _, w4⟩ := DataW.trod_int Tryz.underlying5 q4
  simp at e0 e1 f2 f3 f4
  subst e0 e1 f2 f3 f4
  exact ⟨⟨la, lb, A, B, ca, cb, n2, n3, n4⟩, rfl, s0, s1, Nat.le_trans l0 m0, Nat.le_trans l1 m1, b0, b1, wf_u8 w2, wf_u8 w3, wf_u8 w4⟩
set_option maxRecDepth 100000 in
/-- The description of a scheme. -/
theorem open_raw5 {r : Reach} {b0 : Nat} {v : Value} {d : DataW H} {p : List MemPlace} (hv : Value.okWide Tryz.prog w r b0 24 v) (h : DataW.Trod enc Tryz.prog w base spare held 24 v d p) :
    ∃ (qb qd : Int) (A : Option Addr) (l : List Rw) (c : Nat), v = .agg #[.int .u8 qb, .int .u8 qd, .slice A l.length c] ∧ (0 ≤ qb ∧ qb ≤ 255) ∧ (0 ≤ qd ∧ qd ≤ 255) ∧ l.length ≤ maxLen ∧ SlR 5 RRw w A l := by
  obtain ⟨v0, v1, v2, y0, y1, y2, n, rfl, _, _, h0, h1, h2⟩ := Go.Joins.open_agg3 Tryz.underlying24 (by kernel_rfl) (by kernel_rfl) hv h
  obtain ⟨qb, e0, _, w0⟩ := DataW.trod_int Tryz.underlying5 h0
  obtain ⟨qd, e1, _, w1⟩ := DataW.trod_int Tryz.underlying5 h1
  obtain ⟨A, len, c, us, e3, rfl, k3, m3, s3⟩ := open_slr (α := Rw) (R := RRw) Tryz.underlying22 (s := 5) (by kernel_rfl) (by decide) (fun n cs y hh hcl => open_rawrule hh hcl) h2
  simp only [List.cons.injEq, and_true] at e0 e1 e3
  subst e0 e1 e3
  exact ⟨qb, qd, A, us, c, rfl, wf_u8 w0, wf_u8 w1, by omega, s3⟩
end
end Go.Proofs.YtfpnhgahkjglgaaGreat

/-
  Arguments opened: an array of four numbers.
-/
namespace Go.Proofs.YtfpnhgahkjglgaaGreat
open Go Go.RowKit Go.ChangeShapes Go.WideShapes

end Go.Proofs.YtfpnhgahkjglgaaGreat

/-
  The walk of layer 08's law SingleSchemes.
-/
namespace Go.Proofs.YtfpnhgahkjglgaaGreat
open Go Go.RowKit Go.Maps

theorem none_best {s : Sc} (hN : FirstTo s none) {inp : ByteArray} (hF : FlatS s inp) (hl : inp.size ≤ 40) : (bestL s inp).length ≤ 1 := by
  have h1 := hN (bl inp) (by rw [bl_len]; exact hl)
  rw [twice_best hF] at h1
  omega
theorem single_le {s : Sc} (hE : soundE s = 0) (hN : FirstTo s none) (hfl : ScOK s → SoundP s → FlatR s) {inp : ByteArray} (hl : letB inp = true) {a : List Rs} {e : Int} (ha : (a, e) = bestR s inp 3) : a.length ≤ 1 := by
  obtain ⟨hok, hsp⟩ := soundE_iff.1 hE
  have h1 := none_best hN (pair_flat (hfl hok hsp) (bl inp)) (letB_iff.1 hl).1
  have hk : soundE s = 0 ∧ letB inp = true ∧ (1 : Int) ≤ 3 ∧ (3 : Int) ≤ 50 := ⟨hE, hl, by decide, by decide⟩
  by_cases hbig : Big 2000 s inp
  · rw [bestR_big hk hbig] at ha
    rw [(Prod.mk.inj ha).1]
    exact Nat.zero_le _
  · by_cases hnil : bestL s inp = []
    · rw [bestR_none hk hbig hnil] at ha
      rw [(Prod.mk.inj ha).1]
      exact Nat.zero_le _
    · rw [bestR_ok hk hbig hnil] at ha
      rw [(Prod.mk.inj ha).1, List.length_take]
      omega
theorem single_one {s : Sc} (hE : soundE s = 0) (hN : FirstTo s none) (hfl : ScOK s → SoundP s → FlatR s) {inp o : ByteArray} {c : Int} (hl : letB inp = true) (hw : Whole s inp o c) {a : List Rs} {e : Int} (ha : (a, e) = bestR s inp 3) : (a = [] ∧ e = 2) ∨ ∃ x, a = [x] ∧ e = 0 ∧ x.tx = o := by
  obtain ⟨hok, hsp⟩ := soundE_iff.1 hE
  have hF : FlatS s inp := pair_flat (hfl hok hsp) (bl inp)
  have h1 := none_best hN hF (letB_iff.1 hl).1
  have hk : soundE s = 0 ∧ letB inp = true ∧ (1 : Int) ≤ 3 ∧ (3 : Int) ≤ 50 := ⟨hE, hl, by decide, by decide⟩
  by_cases hbig : Big 2000 s inp
  · rw [bestR_big hk hbig] at ha
    exact .inl (Prod.mk.inj ha)
  · have hI := best_is hF
    obtain ⟨y, hd, hyt, _⟩ := hI.least _ _ hw
    cases hL : bestL s inp with
    | nil => rw [hL] at hd; cases hd
    | cons x r =>
      obtain rfl : r = [] := by
        cases r with
        | nil => rfl
        | cons y r => rw [hL] at h1; simp at h1
      rw [bestR_ok hk hbig (by rw [hL]; simp), hL] at ha
      obtain ⟨h2, h3⟩ := Prod.mk.inj ha
      rw [hL] at hd
      have hd := List.mem_singleton.1 hd
      exact .inr ⟨x, h2, h3, by rw [← hd]; exact hyt⟩
theorem one_rs {w : World} {B : Option Addr} {x : Rs} (h : SlR 2 RRs w B [x]) : ∃ b off, B = some ⟨b, off, none⟩ ∧ b < w.heap.size ∧ w.cell? ⟨b, off, none⟩ = some (.string x.tx) := by
  obtain ⟨b, off, hA, hb, hk⟩ := h (by simp)
  obtain ⟨vs, h1, _, h3⟩ := hk 0 x rfl
  have e1 := h3 0 (.string x.tx) (by rw [h1]; rfl)
  simp only [Nat.zero_mul, Nat.add_zero] at e1
  exact ⟨b, off, hA, hb, e1⟩
theorem IsSnd.yes {s : Sc} {e : Ending} (h : IsSnd s e) (hE : soundE s = 0) : e = .returned (.bool true) := by
  rcases h.parts with ⟨h1, _⟩ | ⟨_, h2⟩
  · exact h1
  · exact absurd hE h2
theorem is_parts {b : Bool} {P : Prop} (h : b = true ↔ P) : (b = true ∧ P) ∨ (b = false ∧ ¬ P) := by
  cases b with
  | true => exact .inl ⟨rfl, h.1 rfl⟩
  | false => exact .inr ⟨rfl, fun hp => by have := h.2 hp; cases this⟩
set_option maxRecDepth 100000 in
set_option maxHeartbeats 16000000 in
theorem singleSchemes_any (A : Option Addr) (xs : List Rw) (c : Nat) (qb qd : Int) (B : Option Addr) (l : List Int) (d : Nat) (pn : Int) (w : World) (hx : SlR 5 RRw w A xs) (hl0 : xs.length ≤ maxLen) (hqb : 0 ≤ qb ∧ qb ≤ 255) (hqd : 0 ≤ qd ∧ qd ≤ 255)
    (hy : SlR 1 RU8 w B l) (hll : l.length ≤ maxLen) (hl8 : ∀ x ∈ l, 0 ≤ x ∧ x ≤ 255) (hn : 0 ≤ pn ∧ pn ≤ 255) :
    Calls Tryz.prog 5 #[.agg #[.int .u8 qb, .int .u8 qd, .slice A xs.length c], .slice B l.length d, .int .u8 pn] w fun e w' => e = .returned (.bool true) ∧ Below w.heap.size w w' := by
  obtain ⟨w1, hw1⟩ : ∃ w1, (w.alloc (.cells #[.int .u8 qb, .int .u8 qd, .slice A xs.length c] 24)) = w1 := ⟨_, rfl⟩
  obtain ⟨g, hg⟩ : ∃ g, w.heap.size = g := ⟨_, rfl⟩
  have hb1 : Below w.heap.size w w1 := by rw [← hw1]; exact nw _ (Below.refl _ _)
  have hX0 : Blk w1 g 24 #[.int .u8 qb, .int .u8 qd, .slice A xs.length c] := by rw [← hw1]; exact (Blk.new_ hg.symm)
  have HW1 := Lib.hid hw1
  have HG := Lib.hid hg
  have HB1 := Lib.hid hb1
  have HKP : Hid (∀ W, Below w1.heap.size w1 W → (W.cell? ⟨g, 0, none⟩ = some (.int .u8 qb) ∧ W.cell? ⟨g, 1, none⟩ = some (.int .u8 qd) ∧ W.cell? ⟨g, 2, none⟩ = some (.slice A xs.length c) ∧ g < W.heap.size)) := fun W hW => ⟨by rw [(hX0.below hW hX0.lt).cell]; rfl, by rw [(hX0.below hW hX0.lt).cell]; rfl, by rw [(hX0.below hW hX0.lt).cell]; rfl, (hX0.below hW hX0.lt).lt⟩
  have HMA : Hid (∀ W, Below w1.heap.size w1 W → Calls Tryz.prog 8 #[.agg #[.int .u8 qb, .int .u8 qd, .slice A xs.length c]] W (IsMade W)) := fun W hW => made_any5 A xs c qb qd W (hx.below keeps_rw (hb1.trans (hW.mono hb1.size))) hl0 hqb hqd
  have HSA : Hid (∀ W, Calls Tryz.prog 7 #[] W fun e w' => e = .returned (.bool true) ∧ Below W.heap.size W w') := lsan_any
  have HY := Lib.hid (And.intro hy (And.intro hll hl8))
  have HIN0 : Hid (∀ W, Below w1.heap.size w1 W → Calls Tryz.prog 13 #[.slice B l.length d, .int .i64 8] W fun e w' => e = .returned (.string (inpTo l 8)) ∧ Below W.heap.size W w') := fun W hW => input5_any B l d 8 W (hy.below keeps_u8 (hb1.trans (hW.mono hb1.size))) hll hl8 (by decide)
  have hin := inpTo_let l 8 (by decide)
  obtain ⟨inp, hinp⟩ : ∃ x, inpTo l 8 = x := ⟨_, rfl⟩
  rw [hinp] at hin HIN0
  have HLET : Hid (letB inp = true) := hin.1
  have hisz : inp.size ≤ 1000 := by have := hin.2; omega
  have htm : pn.tmod 8 = pn % 8 := Int.tmod_eq_emod_of_nonneg hn.1
  have hpn : 0 ≤ pn % 8 ∧ pn % 8 ≤ 8 := by omega
  have hwn : IntKind.i64.wrap (pn % 8) = pn % 8 := IntWalk.i64_in _ (by omega)
  clear hw1 hg hb1 hX0 hx hy hll hl8 hinp hin hn
  go_enter Tryz.func5, Tryz.ntmps5
  go_upto_region 1 with fail
  rw [HW1.out, HG.out]
  go_upto_region 3 with (first
    | (go_at_call 7; go_loud (refine (HSA.out _).mono ?_; rintro e w2 ⟨rfl, hb2⟩; obtain ⟨x0, x1, x2, xl⟩ := HKP.out _ hb2))
    | (go_at_call 8; go_loud (refine (HMA.out _ hb2).mono ?_; rintro e w3 ⟨m, rs, A3, c3, rfl, hm, hrs9, hok, hsc, hb3⟩; have hb13 := hb2.trans (hb3.mono hb2.size))))
  obtain ⟨b8, hb8⟩ : ∃ x, w3.heap.size = x := ⟨_, rfl⟩
  generalize hw5 : w3.alloc (.cells _ 30) = w5
  have hB8 : Blk w5 b8 30 #[.int .i64 (m : Int), .int .u8 1, .slice A3 rs.length c3] := by rw [← hw5]; exact Blk.new_ hb8.symm
  have hb15 : Below w1.heap.size w1 w5 := by rw [← hw5]; exact hb13.alloc hb13.size _
  have hsc5 : ScIn w5 ⟨(m : Int), 1, rs⟩ A3 c3 := by rw [← hw5]; exact hsc.below (nw _ (Below.refl _ _))
  rw [hb8]
  have HSCH : Hid (∀ W, Below w5.heap.size w5 W → W.cell? ⟨b8, 0, none⟩ = some (.int .i64 (m : Int)) ∧ W.cell? ⟨b8, 1, none⟩ = some (.int .u8 1) ∧ W.cell? ⟨b8, 2, none⟩ = some (.slice A3 rs.length c3) ∧ b8 < W.heap.size) := fun W hW => by
    have e1 := hB8.below hW hB8.lt
    exact ⟨by rw [e1.cell]; rfl, by rw [e1.cell]; rfl, by rw [e1.cell]; rfl, e1.lt⟩
  have HSND : Hid (∀ W, Below w5.heap.size w5 W → Calls Tryz.prog 16 #[.agg #[.int .i64 (m : Int), .int .u8 1, .slice A3 rs.length c3]] W fun e w' => IsSnd ⟨(m : Int), 1, rs⟩ e ∧ Below W.heap.size W w') := fun W hW => rsound5_any ⟨(m : Int), 1, rs⟩ A3 c3 W (hsc5.below hW)
  have HCOST : Hid (∀ (i t : ByteArray) (W : World), i.size ≤ 1000 → t.size ≤ 1000 → Below w5.heap.size w5 W → Calls Tryz.prog 29 #[.agg #[.int .i64 (m : Int), .int .u8 1, .slice A3 rs.length c3], .string i, .string t] W fun e w' => (∃ r, e = .returned (.int .i64 r) ∧ CostOf ⟨(m : Int), 1, rs⟩ i t r) ∧ Below W.heap.size W w') := fun i t W hi ht hW => cost05_any ⟨(m : Int), 1, rs⟩ A3 c3 i t W (hsc5.below hW) (made_flat hm.2) (Nat.le_trans hi (by decide)) ht
  have HWALK : Hid (∀ (B : Option Addr) (l : List Int) (d : Nat) (n : Int) (W : World), SlR 1 RU8 w B l → l.length ≤ maxLen → (∀ x ∈ l, 0 ≤ x ∧ x ≤ 255) → (0 ≤ n ∧ n ≤ 8) → Below w5.heap.size w5 W → Calls Tryz.prog 19 #[.agg #[.int .i64 (m : Int), .int .u8 1, .slice A3 rs.length c3], .slice B l.length d, .int .i64 n] W (IsWalk ⟨(m : Int), 1, rs⟩ W)) := fun B l d n W h1 h2 h3 h4 hW => walk5_any ⟨(m : Int), 1, rs⟩ A3 c3 B l d n W (hsc5.below hW) hok (h1.below keeps_u8 ((HB1.out.trans (hb15.mono HB1.out.size)).trans (hW.mono (by have := HB1.out.size; have := hb15.size; omega)))) h2 h3 h4
  have HBEST : Hid (∀ (i : ByteArray) (q : Int) (W : World), i.size ≤ 1000 → 0 ≤ q → q ≤ 1000 → Below w5.heap.size w5 W → Calls Tryz.prog 18 #[.agg #[.int .i64 (m : Int), .int .u8 1, .slice A3 rs.length c3], .string i, .int .i64 q] W (IsBestR ⟨(m : Int), 1, rs⟩ i q W)) := fun i q W hi h0 h1 hW => best05_any ⟨(m : Int), 1, rs⟩ A3 c3 i q W (hsc5.below hW) (made_flat hm.2) (Nat.le_trans hi (by decide)) h0 h1
  have HBW := Lib.hid (HB1.out.trans (hb15.mono HB1.out.size))
  have HB15 := Lib.hid hb15
  have HFL := Lib.hid (made_flat (rs := rs) hm.2)
  have HOK := Lib.hid hok
  have HSC5 := Lib.hid hsc5
  have HMM := Lib.hid hm
  have HIN : Hid (∀ W, Below w5.heap.size w5 W → Calls Tryz.prog 13 #[.slice B l.length d, .int .i64 8] W fun e w' => e = .returned (.string inp) ∧ Below W.heap.size W w') := fun W hW => HIN0.out W (HB15.out.trans (hW.mono HB15.out.size))
  have HIS : Hid (∀ W, Below w5.heap.size w5 W → Calls Tryz.prog 11 #[.agg #[.int .i64 (m : Int), .int .u8 1, .slice A3 rs.length c3]] W (IsIsR ⟨(m : Int), 1, rs⟩ W)) := fun W hW => sis_any ⟨(m : Int), 1, rs⟩ A3 c3 W (HSC5.out.below hW) HFL.out
  clear hw5 hb8 hB8 hb15 hsc5 hsc hb13 hb3 hb2 x0 x1 x2 xl HMA HSA HKP HB1 hok hrs9 HG HW1 hm
  obtain ⟨e0, e1, e2, el⟩ := HSCH.out _ (Below.refl _ _)
  go_cut [25] (fun s25 W => IsKeep (soundE ⟨(m : Int), 1, rs⟩ = 0 ∧ FirstTo ⟨(m : Int), 1, rs⟩ none) s25 ∧ Below w5.heap.size w5 W)
  case first =>
    go_wp2_with (first | (go_at_call 16; go_loud (refine (HSND.out _ hb6).mono ?_; rintro e w7 ⟨hsn, hb7⟩; obtain rfl := hsn.yes HBI.out.1)) | (go_at_call 11; go_loud (refine (HIS.out _ (Below.refl _ _)).mono ?_; rintro e w6 ⟨b, rfl, hb, hb6⟩; rcases is_parts hb with ⟨rfl, hbi⟩ | ⟨rfl, hbi⟩ <;> (have HBI := Lib.hid hbi; clear hbi hb; obtain ⟨e0, e1, e2, el⟩ := HSCH.out _ hb6))))
    · go_meet
      exact ⟨.mk (fun _ => HBI.out), bthen hb6 hb7⟩
    · go_meet
      exact ⟨.mk (fun h => by cases h), hb6⟩
  case rest =>
    obtain ⟨w6, rfl⟩ : ∃ W, W = wc := ⟨wc, rfl⟩
    obtain ⟨⟨bb, rfl, hbb⟩, hb6⟩ := hcut
    have HBB := Lib.hid hbb
    clear hbb e0 e1 e2 el
    cases hbv : bb with
    | true =>
      go_wp2_with fail
      go_ret
      exact ⟨rfl, HBW.out.trans (hb6.mono HBW.out.size)⟩
    | false =>
      obtain ⟨hE, hN⟩ := HBB.out hbv
      have HE := Lib.hid hE
      have HN := Lib.hid hN
      clear hE hN
      obtain ⟨e0, e1, e2, el⟩ := HSCH.out _ hb6
      go_upto_region 5 with fail
      refine ordB_below (.quiet 0 (.quiet 1 (.only 2 (.only 3 (.quiet 4 (.quiet 5 (.quiet 6 (.quiet 7 (.quiet 8 .done))))))))) (by kernel_rfl) (by kernel_rfl) (by kernel_rfl) (fun _ _ _ _ _ h => h) ?_
      intro V0 hV0
      iterate 2 (first
        | (refine ordB_skip rfl rfl ?_; simp only [Act.put, List.setIfInBounds_toArray, List.set_cons_zero, List.set_cons_succ])
        | (refine ordB_take (v := ?_) rfl rfl ?_ ?_
           rotate_left 1
           focus (intro W hW; obtain ⟨hcW, hfW⟩ := bcell hW; (go_simp <;> with_reducible rfl))
           simp only [Act.put, List.setIfInBounds_toArray, List.set_cons_zero, List.set_cons_succ]))
      refine ordB_only (opB_call rfl rfl (fun K hK => ?_))
      go_simp
      go_at_call 13
      refine (HIN.out V0 (hb6.trans (hV0.mono hb6.size))).mono ?_
      rintro e V0_1 ⟨rfl, hi1⟩
      refine hK.out _ _ (hV0.trans (hi1.mono hV0.size)) (fun hV0_1 => ?_)
      refine ordB_only (opB_call rfl rfl (fun K hK => ?_))
      go_simp
      go_at_call 18
      refine (HBEST.out inp 3 V0_1 (by omega) (by decide) (by decide) (hb6.trans (hV0_1.mono hb6.size))).mono ?_
      rintro e V0_1_2 ⟨a, ea, Aa, ca, rfl, ha, hca, hsa, hi2⟩
      refine hK.out _ _ (hV0_1.trans (hi2.mono hV0_1.size)) (fun hV0_1_2 => ?_)
      iterate 5 (first
        | (refine ordB_skip rfl rfl ?_; simp only [Act.put, List.setIfInBounds_toArray, List.set_cons_zero, List.set_cons_succ])
        | (refine ordB_take (v := ?_) rfl rfl ?_ ?_
           rotate_left 1
           focus (intro W hW; obtain ⟨hcW, hfW⟩ := bcell hW; (go_simp <;> with_reducible rfl))
           simp only [Act.put, List.setIfInBounds_toArray, List.set_cons_zero, List.set_cons_succ]))
      refine ordB_nil ?_
      have HA := Lib.hid (single_le HE.out HN.out HFL.out HLET.out ha)
      have hb57 := hb6.trans (hV0_1_2.mono hb6.size)
      clear ha hsa hca
      obtain ⟨W7, hW7⟩ : ∃ W, V0_1_2 = W := ⟨_, rfl⟩
      rw [hW7] at hb57 ⊢
      have HB57 := Lib.hid hb57
      clear hW7 hV0_1_2 hb57 hb6 e0 e1 e2 el
      obtain ⟨e0, e1, e2, el⟩ := HSCH.out _ HB57.out
      have hal : ¬ (1 : Int) < (a.length : Int) := by have := HA.out; omega
      go_upto_region 7 with (go_at_call 19; go_loud (refine (HWALK.out B l d (pn % 8) _ HY.out.1 HY.out.2.1 HY.out.2.2 hpn HB57.out).mono ?_; rintro e w8 ⟨⟨ia, oa, cc, ma, rfl, hra, hia, hoa, hca0, hca⟩, hb8⟩))
      obtain ⟨b9, hb9⟩ : ∃ x, w8.heap.size = x := ⟨_, rfl⟩
      obtain ⟨w9, hw9⟩ : ∃ W, w8.alloc (.cells #[.string ia, .string oa, .int .i64 cc] 56) = W := ⟨_, rfl⟩
      have hB9 : Blk w9 b9 56 #[.string ia, .string oa, .int .i64 cc] := by rw [← hw9]; exact Blk.new_ hb9.symm
      have hb59 : Below w5.heap.size w5 w9 := by rw [← hw9]; exact (HB57.out.trans (hb8.mono HB57.out.size)).alloc (by have := HB57.out.size; have := hb8.size; omega) _
      rw [hb9, hw9]
      have HRA := Lib.hid hra
      have HB59 := Lib.hid hb59
      have HB9 := Lib.hid hB9
      have hia40 : ia.size ≤ 1000 := by omega
      have HIA := Lib.hid hia
      clear hw9 hb9 hra hb8 hb59 hB9 e0 e1 e2 el hca0 hca hoa hia
      obtain ⟨e0, e1, e2, el⟩ := HSCH.out _ HB59.out
      have p0 := HB9.out.cell 0
      have pl := HB9.out.lt
      simp at p0
      obtain ⟨ac, hac⟩ : ∃ b, accB 1 ma = b := ⟨_, rfl⟩
      rw [show accB (⟨(m : Int), 1, rs⟩ : Sc).acc ma = ac from hac]
      have HAC := Lib.hid hac
      clear hac
      cases ac with
      | false =>
        go_wp2_with fail
        go_ret
        exact ⟨rfl, HBW.out.trans (HB59.out.mono HBW.out.size)⟩
      | true =>
        have HWH : Hid (Whole ⟨(m : Int), 1, rs⟩ ia oa cc) := ⟨ma, HAC.out, HRA.out⟩
        have HLI : Hid (letB ia = true) := rte_let HOK.out HRA.out (by have := HIA.out; omega)
        go_upto_region 12 with (go_at_call 18; go_loud (refine (HBEST.out ia 3 _ hia40 (by decide) (by decide) HB59.out).mono ?_; rintro e w10 ⟨a2, e2', A2, c2, rfl, ha2, hca2, hsa2, hb10⟩; have HS2 := Lib.hid hsa2; have HA2 := Lib.hid ha2; have HB10 := Lib.hid (HB59.out.trans (hb10.mono HB59.out.size)); have HP := Lib.hid (HB9.out.below hb10 HB9.out.lt); clear hsa2 ha2 hb10))
        have p1 := HP.out.cell 1
        have pl := HP.out.lt
        simp at p1
        rcases single_one HE.out HN.out HFL.out HLI.out HWH.out HA2.out with ⟨rfl, rfl⟩ | ⟨x, rfl, rfl, hx⟩
        · clear p0 e0 e1 e2 el
          refine ordB_below (.quiet 0 (.quiet 1 (.quiet 2 (.quiet 3 (.quiet 4 (.quiet 5 (.quiet 6 (.quiet 7 (.quiet 8 (.quiet 9 (.quiet 10 (.quiet 11 (.quiet 12 (.quiet 13 (.quiet 14 (.quiet 15 (.quiet 16 (.quiet 17 (.quiet 18 (.quiet 19 (.quiet 20 (.quiet 21 (.quiet 22 (.quiet 23 .done)))))))))))))))))))))))) (by kernel_rfl) (by kernel_rfl) (by kernel_rfl) (fun _ _ _ _ _ h => h) ?_
          intro U0 hU0
          iterate 24 (first
            | (refine ordB_skip rfl rfl ?_; simp only [Act.put, List.setIfInBounds_toArray, List.set_cons_zero, List.set_cons_succ])
            | (refine ordB_take (v := ?_) rfl rfl ?_ ?_
               rotate_left 1
               focus (intro W hW; obtain ⟨hcW, hfW⟩ := bcell hW; (go_simp <;> with_reducible rfl))
               simp only [Act.put, List.setIfInBounds_toArray, List.set_cons_zero, List.set_cons_succ]))
          refine ordB_nil ?_
          go_wp2_with fail
          go_ret
          exact ⟨rfl, HBW.out.trans ((HB10.out.trans (hU0.mono HB10.out.size)).mono HBW.out.size)⟩
        · have hx1 : (x.tx.toList == oa.toList) = true := by rw [hx]; simp
          obtain ⟨bx, ox, rfl, hbx, dx⟩ := one_rs HS2.out
          have hc2 : ((1 : Nat) : Int) ≤ (c2 : Int) := by have := hca2.1; simp at this; omega
          clear hx p0 e0 e1 e2 el
          refine ordB_below (.quiet 0 (.quiet 1 (.quiet 2 (.quiet 3 (.quiet 4 (.quiet 5 (.quiet 6 (.quiet 7 (.quiet 8 (.quiet 9 (.quiet 10 (.quiet 11 (.quiet 12 (.quiet 13 (.quiet 14 (.quiet 15 (.quiet 16 (.quiet 17 (.quiet 18 (.quiet 19 (.quiet 20 (.quiet 21 (.quiet 22 (.quiet 23 .done)))))))))))))))))))))))) (by kernel_rfl) (by kernel_rfl) (by kernel_rfl) (fun _ _ _ _ _ h => h) ?_
          intro U0 hU0
          iterate 24 (first
            | (refine ordB_skip rfl rfl ?_; simp only [Act.put, List.setIfInBounds_toArray, List.set_cons_zero, List.set_cons_succ])
            | (refine ordB_take (v := ?_) rfl rfl ?_ ?_
               rotate_left 1
               focus (intro W hW; obtain ⟨hcW, hfW⟩ := bcell hW; (go_simp <;> with_reducible rfl))
               simp only [Act.put, List.setIfInBounds_toArray, List.set_cons_zero, List.set_cons_succ]))
          refine ordB_nil ?_
          go_wp2_with fail
          go_ret
          exact ⟨rfl, HBW.out.trans ((HB10.out.trans (hU0.mono HB10.out.size)).mono HBW.out.size)⟩
end Go.Proofs.YtfpnhgahkjglgaaGreat
