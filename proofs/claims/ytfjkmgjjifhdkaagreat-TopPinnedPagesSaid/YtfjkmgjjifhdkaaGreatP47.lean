/-
  TpWalkG, CxWalkI, CxWalkJ, CxWalkP, CxMb, CxGr, CxLb, TpSan, joined. No conditions.
-/
import Derived.Test.YtfjkmgjjifhdkaaGreatP46
import Derived.Test.YtfjkmgjjifhdkaaGreatP35
import Derived.Test.YtfjkmgjjifhdkaaGreatP40
import Derived.Test.YtfjkmgjjifhdkaaGreatP39
import Derived.Test.YtfjkmgjjifhdkaaGreatP42
import Derived.Test.YtfjkmgjjifhdkaaGreatP01
import Derived.Test.YtfjkmgjjifhdkaaGreatP44
import Derived.Test.YtfjkmgjjifhdkaaGreatP45
import Derived.Test.YtfjkmgjjifhdkaaGreatP05
/-
  The walk of package lattice: the graph of a lattice.
-/
namespace Go.Proofs.YtfjkmgjjifhdkaaGreat
open Go Go.RowKit

def lk0 : Lk := ⟨0, 0, 0, 0⟩
theorem zeros_rep (n : Nat) : (List.replicate n lk0).flatMap encLk = List.replicate (n * 4) (.int .i64 0) := by
  induction n with
  | zero => rfl
  | succ n ih =>
    rw [List.replicate_succ, List.flatMap_cons, ih, Nat.succ_mul, Nat.add_comm (n * 4) 4, ← List.replicate_append_replicate]
    rfl
theorem made_links (n : Nat) : madeCells #[.int .i64 0, .int .i64 0, .int .i64 0, .int .i64 0] (n * 4) = ((List.replicate n lk0).flatMap encLk).toArray := by
  rw [zeros_rep]
  unfold madeCells
  apply Array.ext
  · simp
  · intro i h1 h2
    have h4 : i % 4 < 4 := Nat.mod_lt _ (by decide)
    simp only [Array.getElem_map, Array.getElem_range, List.getElem_toArray, List.getElem_replicate]
    show (#[Value.int .i64 0, .int .i64 0, .int .i64 0, .int .i64 0])[i % 4]! = _
    rcases (by omega : i % 4 = 0 ∨ i % 4 = 1 ∨ i % 4 = 2 ∨ i % 4 = 3) with h | h | h | h <;> rw [h] <;> rfl
/-- 'make([]Link, n)': the world is known. -/
theorem wpList_mkL {P : Program} (w : World) {ops : Array Oper} {rest : List Oper} {o : Oper} {a : Act} {Q : Exit → Act → World → Prop}
    (hg : o.guard = none) (l c : Operand) (t : TypeId) (hop : o.op = Op.makeSlice t l c)
    (e : TypeId) (i : TypeInfo) (z : Value) (h1 : P.underlying t = some (.slice e)) (h2 : P.info? e = some i) (h3 : i.zero = some z) (h4 : i.size = 4) (h5 : i.bytes ≤ 1000) (hz : z.cells = #[.int .i64 0, .int .i64 0, .int .i64 0, .int .i64 0])
    (n : Nat) (hl : a.eval l = .int .i64 (n : Int)) (hc : a.eval c = .int .i64 (n : Int)) (hn : n ≤ 1000000)
    (hK : wpList P ops Q rest (a.put o.dst (.slice (some ⟨w.heap.size, 0, none⟩) n n)) (w.alloc (.cells ((List.replicate n lk0).flatMap encLk).toArray e))) :
    wpList P ops Q (o :: rest) a w := by
  refine wpList_plain hg fun K hK' => ?_
  have hb : (i.bytes : Int) * (n : Int) ≤ 281474976710656 := by
    have h : i.bytes * n ≤ 1000 * 1000000 := Nat.mul_le_mul h5 hn
    have : ((i.bytes * n : Nat) : Int) ≤ 281474976710656 := by omega
    rwa [Int.natCast_mul] at this
  have hr := run_make (P := P) w t e i z h1 h2 h3 .i64 .i64 (n : Int) (n : Int) (by omega) (Int.le_refl _) hb (by omega)
  rw [Int.toNat_natCast, h4, hz, made_links] at hr
  unfold Oper.wp
  simp [execOp, hop, hl, hc, hr, Result.andThen]
  exact hK' _ _ hK
theorem flat_setL (y : Lk) : ∀ (l : List Lk) (k : Nat), k < l.length → ((((l.flatMap encLk).set (k * 4) (.int .i64 y.fr)).set (k * 4 + 1) (.int .i64 y.to)).set (k * 4 + 2) (.int .i64 y.lb)).set (k * 4 + 3) (.int .i64 y.cost) = (l.set k y).flatMap encLk
  | [], k, h => by simp at h
  | x :: l, 0, _ => rfl
  | x :: l, k + 1, h => by
    have ih := flat_setL y l k (by simpa using h)
    rw [show (k + 1) * 4 = k * 4 + 4 by omega]
    show _ = encLk x ++ (l.set k y).flatMap encLk
    rw [← ih]
    rfl
theorem set_at {α : Type} (L : List α) (z : α) (m : Nat) (y : α) : (L ++ List.replicate (m + 1) z).set L.length y = (L ++ [y]) ++ List.replicate m z := by
  rw [List.set_append_right _ _ (Nat.le_refl _), Nat.sub_self, List.replicate_succ]
  simp
theorem slr_set {w : World} {g : Nat} {L : List Lk} (h : SlR 4 RLk w (some ⟨g, 0, none⟩) L) {p : Addr} (hp : g ≠ p.block) (u : Value) : SlR 4 RLk (w.setCell p u) (some ⟨g, 0, none⟩) L := fun hn => by
  obtain ⟨b, off, hA, hlt, hc⟩ := h hn
  have hbg : b = g := by simp at hA; exact hA.1.symm
  subst hbg
  refine ⟨b, off, hA, Nat.lt_of_lt_of_le hlt (by simp), fun k x hx => ?_⟩
  obtain ⟨vs, h1, h2, h3⟩ := hc k x hx
  exact ⟨vs, h1, h2, fun j v hj => by rw [World.cell?_of_block (Below.heap_setCell _ _ _ _ hp)]; exact h3 j v hj⟩
set_option maxRecDepth 100000 in
set_option maxHeartbeats 8000000 in
theorem lgraph_any (n : Int) (A : Option Addr) (es : List Ed) (c : Nat) (w : World) (hx : SlR 4 REd w A es) (hl : es.length ≤ 1000) :
    Calls Tryz.prog 40 #[.int .i64 n, .slice A es.length c] w fun r w' => ∃ gb d, r = .returned (.agg #[.int .i64 n, .slice (some ⟨gb, 0, none⟩) (es.map lkE).length d]) ∧ w.heap.size ≤ gb ∧ SlR 4 RLk w' (some ⟨gb, 0, none⟩) (es.map lkE) ∧ Below w.heap.size w w' := by
  obtain ⟨i0, hi, hz0, hz1, hz2⟩ := info_parts link_info
  obtain ⟨N, hN⟩ : ∃ N, es.length = N := ⟨_, rfl⟩
  obtain ⟨w3, hw3⟩ : ∃ w3, ((w.alloc (.cells #[.int .i64 0, .slice none 0 0] 38)).alloc (.cells ((List.replicate N lk0).flatMap encLk).toArray 105)).alloc (.cells #[.int .i64 n, .slice (some ⟨w.heap.size + 1, 0, none⟩) N N] 38) = w3 := ⟨_, rfl⟩
  have hb3 : Below w.heap.size w w3 := by rw [← hw3]; exact nw _ (nw _ (nw _ (Below.refl _ _)))
  have hB1 : Blk w3 w.heap.size 38 #[.int .i64 0, .slice none 0 0] := by rw [← hw3]; exact ((Blk.new _ _ _).alloc _).alloc _
  have hR : Blk w3 (w.heap.size + 1) 105 ((List.replicate N lk0).flatMap encLk).toArray := by rw [← hw3]; exact (Blk.new_ (by simp)).alloc _
  have hB2 : Blk w3 (w.heap.size + 1 + 1) 38 #[.int .i64 n, .slice (some ⟨w.heap.size + 1, 0, none⟩) N N] := by rw [← hw3]; exact Blk.new_ (by simp)
  have hsz : w3.heap.size = w.heap.size + 1 + 1 + 1 := by rw [← hw3]; simp
  have HW3 := Lib.hid hw3
  obtain ⟨b1, hb1e⟩ : ∃ b, w.heap.size + 1 = b := ⟨_, rfl⟩
  rw [hb1e] at hR hB2 hsz
  obtain ⟨b2, hb2e⟩ : ∃ b, b1 + 1 = b := ⟨_, rfl⟩
  rw [hb2e] at hB2 hsz
  have HE1 := Lib.hid hb1e
  have HE2 := Lib.hid hb2e
  have hlt1 : w.heap.size < b1 := by omega
  have hlt2 : b1 < b2 := by omega
  have hlt3 : b2 < w3.heap.size := by omega
  clear hw3 hb1e hb2e hsz
  have HX : Hid (∀ W, Below b1 w3 W → SlR 4 REd W A es) := fun W hW => hx.below keeps_ed (hb3.trans (hW.mono (by omega)))
  have HAb : Hid (∀ b off, A = some ⟨b, off, none⟩ → es ≠ [] → b < w.heap.size) := fun b off hA hne => by
    obtain ⟨b', off', hA', hb', _⟩ := hx hne
    rw [hA] at hA'
    obtain ⟨rfl, _⟩ : b = b' ∧ off = off' := by simpa using hA'
    exact hb'
  have HB1 := Lib.hid hB1
  have HBW := Lib.hid hb3
  have HNE := Lib.hid hN
  clear hB1 hb3 hx
  go_enter Tryz.func40, Tryz.ntmps40
  go_upto_region 2 with (at_make; go_loud (refine wpList_mkL _ rfl _ _ 36 rfl 105 i0 (.agg #[.int .i64 0, .int .i64 0, .int .i64 0, .int .i64 0]) Tryz.underlying36 hi hz0 hz1 (by omega) rfl N (by first | rfl | (rw [← HNE.out]; rfl)) (by first | rfl | (rw [← HNE.out]; rfl)) (by omega) ?_))
  rw [HW3.out, HE1.out, HE2.out]
  rw [hN] at hl
  go_wp2_with fail
  go_loopw [15] (fun i wr => ∃ k : Nat, k ≤ N ∧ i = .int .i64 k ∧ Blk wr b1 105 ((((es.take k).map lkE) ++ List.replicate (N - k) lk0).flatMap encLk).toArray ∧ Blk wr b2 38 #[.int .i64 n, .slice (some ⟨b1, 0, none⟩) N N] ∧ Below b1 w3 wr) (fun i _ => N - (intOf i).toNat)
  case atStart => exact ⟨0, by omega, rfl, by simpa using hR, hB2, Below.refl _ _⟩
  case round =>
    obtain ⟨k, hk, rfl, hR, hB, hbr⟩ := hrel
    have hsr := hbr.size
    by_cases hlt : k < N
    · obtain ⟨b, off, e, hA, hbb, hee, d0, d1, d2, d3⟩ := (HX.out _ hbr).ed (k := k) (by omega)
      have hbw := HAb.out b off hA (by intro h; rw [h] at hN; simp at hN; omega)
      subst hA
      obtain ⟨M, hM⟩ : ∃ M, ((es.take k).map lkE) ++ List.replicate (N - k) lk0 = M := ⟨_, rfl⟩
      have hlen : ((es.take k).map lkE).length = k := by rw [List.length_map, List.length_take]; omega
      have hML : M.length = N := by rw [← hM, List.length_append, hlen, List.length_replicate]; omega
      have hMN : ((es.take (k + 1)).map lkE) ++ List.replicate (N - (k + 1)) lk0 = M.set k (lkE e) := by
        rw [← hM, take_snoc_of hee, List.map_append]
        have h := set_at ((es.take k).map lkE) lk0 (N - (k + 1)) (lkE e)
        rw [hlen, show N - (k + 1) + 1 = N - k by omega] at h
        rw [h]
        rfl
      have HMN := Lib.hid hMN
      rw [hM] at hR
      clear hM hMN hlen hee
      go_upto_region 5 with fail
      obtain ⟨W4, hW4⟩ : ∃ V, wr.alloc (.cells #[.int .i64 e.fr, .int .i64 e.to, .int .i64 e.wd, .int .i64 e.co] 44) = V := ⟨_, rfl⟩
      have hb4 : Below wr.heap.size wr W4 := by rw [← hW4]; exact nw _ (Below.refl _ _)
      have hE4 : Blk W4 wr.heap.size 44 #[.int .i64 e.fr, .int .i64 e.to, .int .i64 e.wd, .int .i64 e.co] := by rw [← hW4]; exact Blk.new _ _ _
      have hbr4 := hbr.trans (hb4.mono (by omega))
      have hB4 := hB.below hb4 hB.lt
      have hR4 := hR.below hb4 hR.lt
      rw [hW4]
      obtain ⟨bE, hbE⟩ : ∃ b, wr.heap.size = b := ⟨_, rfl⟩
      rw [hbE] at hE4 hsr ⊢
      clear hW4 hbE hb4 hbr hB hR d0 d1 d2 d3 hbb
      have e0 := hE4.cell 0
      have e1 := hE4.cell 1
      have e2 := hE4.cell 2
      have e3 := hE4.cell 3
      have el := hE4.lt
      have s0 := hB4.cell 0
      have s1 := hB4.cell 1
      have sl := hB4.lt
      have rl := hR4.lt
      have hcn : (M.flatMap encLk).length = N * 4 := by rw [← hML]; clear HMN hML hR4; induction M with | nil => rfl | cons y M ih => rw [List.flatMap_cons, List.length_append, ih]; show 4 + _ = _; rw [List.length_cons]; omega
      have f0 := hR4.frozen (k * 4)
      have f1 := hR4.frozen (k * 4 + 1)
      have f2 := hR4.frozen (k * 4 + 2)
      have f3 := hR4.frozen (k * 4 + 3)
      have hz : ∀ j, j < 4 → ∃ v, W4.cell? ⟨b1, k * 4 + j, none⟩ = some v := fun j hj => by
        have h5 : k * 4 + j < N * 4 := by omega
        rw [hR4.cell, List.getElem?_toArray]
        exact ⟨_, List.getElem?_eq_getElem (by rw [hcn]; exact h5)⟩
      obtain ⟨z0, y0⟩ := hz 0 (by omega)
      obtain ⟨z1, y1⟩ := hz 1 (by omega)
      obtain ⟨z2, y2⟩ := hz 2 (by omega)
      obtain ⟨z3, y3⟩ := hz 3 (by omega)
      rw [Nat.add_zero] at y0
      simp at e0 e1 e2 e3 s0 s1
      clear hz
      have HB4 := Lib.hid hB4
      have HR4 := Lib.hid hR4
      have HB5 := Lib.hid hbr4
      have hkI : (k : Int) < (N : Int) := by omega
      have hk0 : (0 : Int) ≤ (k : Int) := by omega
      clear hB4 hR4 hbr4 hE4
      go_wp2_with fail
      go_roundw
      case rel =>
        refine ⟨k + 1, by omega, by go_num, ?_, ((((HB4.out.far (p := ⟨b1, k * 4, none⟩) (by show b2 ≠ b1; omega) _).far (p := ⟨b1, k * 4 + 1, none⟩) (by show b2 ≠ b1; omega) _).far (p := ⟨b1, k * 4 + 2, none⟩) (by show b2 ≠ b1; omega) _).far (p := ⟨b1, k * 4 + 3, none⟩) (by show b2 ≠ b1; omega) _), (((HB5.out.setCell (p := ⟨b1, k * 4, none⟩) (Nat.le_refl _) _).setCell (p := ⟨b1, k * 4 + 1, none⟩) (Nat.le_refl _) _).setCell (p := ⟨b1, k * 4 + 2, none⟩) (Nat.le_refl _) _).setCell (p := ⟨b1, k * 4 + 3, none⟩) (Nat.le_refl _) _⟩
        have h := (((HR4.out.set_ (k * 4) (.int .i64 e.fr)).set_ (k * 4 + 1) (.int .i64 e.to)).set_ (k * 4 + 2) (.int .i64 e.wd)).set_ (k * 4 + 3) (.int .i64 e.co)
        rw [HMN.out, ← flat_setL (lkE e) M k (by omega)]
        simp only [List.setIfInBounds_toArray] at h
        exact h
      case measure => simp [intOf]; omega
    · obtain rfl : k = N := by omega
      have hsl : SlR 4 RLk wr (some ⟨b1, 0, none⟩) (es.map lkE) := by
        rw [Nat.sub_self, List.replicate_zero, List.append_nil, List.take_of_length_le (by omega)] at hR
        exact slr_blk (enc := encLk) hR (fun _ => rfl) (fun _ => rfl)
      have hB1 := HB1.out.below hbr hlt1
      have s0 := hB.cell 0
      have s1 := hB.cell 1
      have sl := hB.lt
      have r0 := hB1.cell 0
      have r1 := hB1.cell 1
      have f0 := hB1.frozen 0
      have f1 := hB1.frozen 1
      have rl := hB1.lt
      simp at s0 s1 r0 r1
      have HBr := Lib.hid hbr
      have HB1 := Lib.hid hB1
      have HSL := Lib.hid hsl
      clear hbr hB hB1 hsl hR
      go_wp2_with fail
      refine ret_cell (t := 38) (cs := #[.int .i64 n, .slice (some ⟨b1, 0, none⟩) k k]) (by have := (HB1.out.set_ 0 (.int .i64 n)).set_ 1 (.slice (some ⟨b1, 0, none⟩) k k); simpa using this) rfl rfl Tryz.underlying38 rfl (by kernel_rfl) rfl ?_
      refine ⟨b1, k, by rw [List.length_map, HNE.out], by omega, (slr_set (slr_set HSL.out (p := ⟨w.heap.size, 0, none⟩) (by simp; omega) _) (p := ⟨w.heap.size, 1, none⟩) (by simp; omega) _), ((HBW.out.trans (HBr.out.mono (by omega))).setCell (p := ⟨w.heap.size, 0, none⟩) (Nat.le_refl _) _).setCell (p := ⟨w.heap.size, 1, none⟩) (Nat.le_refl _) _⟩
set_option maxRecDepth 100000 in
set_option maxHeartbeats 4000000 in
theorem lGraph_any (x : La) (A : Option Addr) (c : Nat) (w : World) (hx : SlR 4 REd w A x.es) (hl : x.es.length ≤ 1000) (hn : 0 ≤ x.n ∧ x.n ≤ 40) :
    Calls Tryz.prog 11 #[.agg #[.int .i64 x.n, .slice A x.es.length c]] w fun r w' => ∃ B d, r = .returned (.agg #[.int .i64 (grX x).n, .slice B (grX x).ls.length d]) ∧ SlR 4 RLk w' B (grX x).ls ∧ Below w.heap.size w w' := by
  obtain ⟨w2, hw2⟩ : ∃ w2, (w.alloc (.cells #[.int .i64 x.n, .slice A x.es.length c] 27)).alloc (.cells #[.int .i64 0, .slice none 0 0] 38) = w2 := ⟨_, rfl⟩
  have hb2 : Below w.heap.size w w2 := by rw [← hw2]; exact nw _ (nw _ (Below.refl _ _))
  have hL : Blk w2 w.heap.size 27 #[.int .i64 x.n, .slice A x.es.length c] := by rw [← hw2]; exact (Blk.new _ _ _).alloc _
  have hG : Blk w2 (w.heap.size + 1) 38 #[.int .i64 0, .slice none 0 0] := by rw [← hw2]; exact Blk.new_ (by simp)
  have HW2 := Lib.hid hw2
  have l0 := hL.cell 0
  have l1 := hL.cell 1
  have ll := hL.lt
  simp at l0 l1
  have hwn : IntKind.i64.wrap (x.n + 1) = x.n + 1 := IntWalk.i64_in _ (by omega)
  have HC := Lib.hid (lgraph_any (x.n + 1) A x.es c w2 (hx.below keeps_ed hb2) hl)
  have HBW := Lib.hid hb2
  have HG := Lib.hid hG
  obtain ⟨b1, hb1e⟩ : ∃ b, w.heap.size + 1 = b := ⟨_, rfl⟩
  rw [hb1e] at HG
  have HE1 := Lib.hid hb1e
  have hlt : w.heap.size < b1 := by omega
  clear hw2 hb2 hL hG hx hb1e
  go_enter Tryz.func11, Tryz.ntmps11
  go_upto_region 1 with fail
  rw [HW2.out, HE1.out]
  go_wp2_with (go_at_call 40; go_loud (refine HC.out.mono ?_; rintro r w3 ⟨gb, d, rfl, hgb, hs, hb3⟩; have hG3 := HG.out.below hb3 HG.out.lt; have r0 := hG3.cell 0; have r1 := hG3.cell 1; have f0 := hG3.frozen 0; have f1 := hG3.frozen 1; have rl := hG3.lt; have HG3 := Lib.hid hG3; have HS := Lib.hid hs; have HB3 := Lib.hid hb3; simp at r0 r1; clear hG3 hs hb3))
  refine ret_cell (t := 38) (cs := #[.int .i64 (x.n + 1), .slice (some ⟨gb, 0, none⟩) (x.es.map lkE).length d]) (by have := (HG3.out.set_ 0 (.int .i64 (x.n + 1))).set_ 1 (.slice (some ⟨gb, 0, none⟩) (x.es.map lkE).length d); simpa using this) rfl rfl Tryz.underlying38 rfl (by kernel_rfl) rfl ?_
  have hb1 : b1 < w2.heap.size := HG.out.lt
  exact ⟨some ⟨gb, 0, none⟩, d, rfl, slr_set (slr_set HS.out (p := ⟨b1, 0, none⟩) (by show gb ≠ b1; omega) _) (p := ⟨b1, 1, none⟩) (by show gb ≠ b1; omega) _, ((HBW.out.trans (HB3.out.mono HBW.out.size)).setCell (p := ⟨b1, 0, none⟩) (by show _ ≤ b1; omega) _).setCell (p := ⟨b1, 1, none⟩) (by show _ ≤ b1; omega) _⟩
end Go.Proofs.YtfjkmgjjifhdkaaGreat

/-
  The walks of layer 20: the nodes of a lattice's graph for the reference, and its search among them.
-/
namespace Go.Proofs.YtfjkmgjjifhdkaaGreat
open Go Go.RowKit

end Go.Proofs.YtfjkmgjjifhdkaaGreat

/-
  The walks of layer 20: Build of the reference.
-/
namespace Go.Proofs.YtfjkmgjjifhdkaaGreat
open Go Go.RowKit

end Go.Proofs.YtfjkmgjjifhdkaaGreat

/-
  The walks of layer 20: graphs that are built for the laws, and compared.
-/
namespace Go.Proofs.YtfjkmgjjifhdkaaGreat
open Go Go.RowKit

end Go.Proofs.YtfjkmgjjifhdkaaGreat

/-
  Layer 20: boxes of lattices and of what Build answers; rows that calls gave back. No conditions.
-/
namespace Go.Proofs.YtfjkmgjjifhdkaaGreat
open Go Go.RowKit

/-- A box with a lattice. -/
structure LB (x : La) (g : Nat) (A : Option Addr) (c : Nat) (W : World) : Prop where
  b : Blk W g 27 #[.int .i64 x.n, .slice A x.es.length c]
  s : SlR 4 REd W A x.es
  k : x.es.length ≤ c ∧ c ≤ maxLen
theorem LB.below {x : La} {g : Nat} {A : Option Addr} {c : Nat} {W W' : World} (h : LB x g A c W) (hb : Below W.heap.size W W') : LB x g A c W' := ⟨h.b.below hb h.b.lt, h.s.below keeps_ed hb, h.k⟩
theorem lb_new {x : La} {A : Option Addr} {c : Nat} {w : World} (h : SlR 4 REd w A x.es) (hk : x.es.length ≤ c ∧ c ≤ maxLen) : LB x w.heap.size A c (w.alloc (.cells #[.int .i64 x.n, .slice A x.es.length c] 27)) :=
  ⟨Blk.new _ _ _, h.below keeps_ed (nw _ (Below.refl _ _)), hk⟩
end Go.Proofs.YtfjkmgjjifhdkaaGreat

/-
  The plain law of layer 20: the ways through a lattice's graph are the ways through the lattice, with their costs. No program in sight; no conditions.
-/
namespace Go.Proofs.YtfjkmgjjifhdkaaGreat
open List

end Go.Proofs.YtfjkmgjjifhdkaaGreat

/-
  Layer 20: what the laws' build answers for lattices that fit. No conditions.
-/
namespace Go.Proofs.YtfjkmgjjifhdkaaGreat
open Go Go.RowKit

end Go.Proofs.YtfjkmgjjifhdkaaGreat

/-
  The fixed examples of the laws on pages in context.
-/
namespace Go.Proofs.YtfjkmgjjifhdkaaGreat
open Go Go.RowKit

def t20x : La := ⟨1, [⟨0, 1, 0, 3⟩]⟩
def t20m : Mo := ⟨[ByteArray.mk #[97]], [0], [], 5⟩
def t20g : Gr := ⟨2, [⟨0, 1, 0, 8⟩]⟩
def t20p : Pn := ⟨0, 1, 4⟩
theorem t20_ok : MoOK t20m := by decide +kernel
theorem t20_bu : buM t20x t20m 0 = ⟨t20g, lastL t20x 0, 0⟩ := by
  unfold buM
  rw [if_pos t20_ok, if_pos (by decide +kernel), show grL t20x t20m 0 = t20g by decide +kernel]
theorem t20_g : GrOK t20g := grB_iff.1 (by decide +kernel)
theorem t20_w : nW t20g 0 ≤ 1000000 := by decide +kernel
theorem t20_l : pgL t20g 5 = [⟨[0], 8⟩] := by decide +kernel
theorem t20_pot : potL t20g = [8, 0] := by decide +kernel
theorem t20_wh : pgWh t20g 5 = true := by decide +kernel
theorem t20_pin : (pinL t20x [t20p]).es = [] := by decide +kernel
theorem t20_cost : wcost t20m 0 = 0 := by decide +kernel
/-- The lattice and the model of the examples, in memory. -/
structure T20 (bE bX bS bC bM : Nat) (W : World) : Prop where
  bx : Blk W bX 27 #[.int .i64 1, .slice (some ⟨bE, 0, none⟩) 1 1]
  bm : Blk W bM 56 #[.slice (some ⟨bS, 0, none⟩) 1 1, .slice (some ⟨bC, 0, none⟩) 1 1, .slice none 0 0, .int .i64 5]
  x : SlR 4 REd W (some ⟨bE, 0, none⟩) t20x.es
  r : MoR W t20m (some ⟨bS, 0, none⟩) (some ⟨bC, 0, none⟩) none
section
variable {bE bX bS bC bM : Nat} {W W' : World}
theorem T20.mono (h : T20 bE bX bS bC bM W) (hb : Below W.heap.size W W') : T20 bE bX bS bC bM W' := ⟨h.bx.below hb h.bx.lt, h.bm.below hb h.bm.lt, h.x.below keeps_ed hb, h.r.below hb⟩
theorem T20.cells (h : T20 bE bX bS bC bM W) : (W.cell? ⟨bX, 0, none⟩ = some (.int .i64 1) ∧ W.cell? ⟨bX, 1, none⟩ = some (.slice (some ⟨bE, 0, none⟩) 1 1)) ∧
    (W.cell? ⟨bM, 0, none⟩ = some (.slice (some ⟨bS, 0, none⟩) 1 1) ∧ W.cell? ⟨bM, 1, none⟩ = some (.slice (some ⟨bC, 0, none⟩) 1 1) ∧ W.cell? ⟨bM, 2, none⟩ = some (.slice none 0 0) ∧ W.cell? ⟨bM, 3, none⟩ = some (.int .i64 5)) ∧ bX < W.heap.size ∧ bM < W.heap.size :=
  ⟨⟨by rw [h.bx.cell]; rfl, by rw [h.bx.cell]; rfl⟩, ⟨by rw [h.bm.cell]; rfl, by rw [h.bm.cell]; rfl, by rw [h.bm.cell]; rfl, by rw [h.bm.cell]; rfl⟩, h.bx.lt, h.bm.lt⟩
end
theorem t20_start (w : World) : T20 w.heap.size (w.heap.size + 1) (w.heap.size + 1 + 1) (w.heap.size + 1 + 1 + 1) (w.heap.size + 1 + 1 + 1 + 1) (((((w.alloc (.cells #[.int .i64 0, .int .i64 1, .int .i64 0, .int .i64 3] 44)).alloc (.cells #[.int .i64 1, .slice (some ⟨w.heap.size, 0, none⟩) 1 1] 27)).alloc (.cells #[.string (ByteArray.mk #[97])] 9)).alloc (.cells #[.int .i64 0] 3)).alloc (.cells #[.slice (some ⟨w.heap.size + 1 + 1, 0, none⟩) 1 1, .slice (some ⟨w.heap.size + 1 + 1 + 1, 0, none⟩) 1 1, .slice none 0 0, .int .i64 5] 56)) ∧ Below w.heap.size w (((((w.alloc (.cells #[.int .i64 0, .int .i64 1, .int .i64 0, .int .i64 3] 44)).alloc (.cells #[.int .i64 1, .slice (some ⟨w.heap.size, 0, none⟩) 1 1] 27)).alloc (.cells #[.string (ByteArray.mk #[97])] 9)).alloc (.cells #[.int .i64 0] 3)).alloc (.cells #[.slice (some ⟨w.heap.size + 1 + 1, 0, none⟩) 1 1, .slice (some ⟨w.heap.size + 1 + 1 + 1, 0, none⟩) 1 1, .slice none 0 0, .int .i64 5] 56)) := by
  obtain ⟨w1, h1⟩ : ∃ V, w.alloc (.cells #[.int .i64 0, .int .i64 1, .int .i64 0, .int .i64 3] 44) = V := ⟨_, rfl⟩
  have b1 : Below w.heap.size w w1 := by rw [← h1]; exact nw _ (Below.refl _ _)
  have s1 : w1.heap.size = w.heap.size + 1 := by rw [← h1]; simp
  have k1 : Blk w1 w.heap.size 44 #[.int .i64 0, .int .i64 1, .int .i64 0, .int .i64 3] := by rw [← h1]; exact Blk.new _ _ _
  rw [h1]
  obtain ⟨w2, h2⟩ : ∃ V, w1.alloc (.cells #[.int .i64 1, .slice (some ⟨w.heap.size, 0, none⟩) 1 1] 27) = V := ⟨_, rfl⟩
  have b2 : Below w1.heap.size w1 w2 := by rw [← h2]; exact nw _ (Below.refl _ _)
  have s2 : w2.heap.size = w.heap.size + 1 + 1 := by rw [← h2]; simp; omega
  have k2 : Blk w2 (w.heap.size + 1) 27 #[.int .i64 1, .slice (some ⟨w.heap.size, 0, none⟩) 1 1] := by rw [← h2, ← s1]; exact Blk.new _ _ _
  rw [h2]
  obtain ⟨w3, h3⟩ : ∃ V, w2.alloc (.cells #[.string (ByteArray.mk #[97])] 9) = V := ⟨_, rfl⟩
  have b3 : Below w2.heap.size w2 w3 := by rw [← h3]; exact nw _ (Below.refl _ _)
  have s3 : w3.heap.size = w.heap.size + 1 + 1 + 1 := by rw [← h3]; simp; omega
  have k3 : Blk w3 (w.heap.size + 1 + 1) 9 #[.string (ByteArray.mk #[97])] := by rw [← h3, ← s2]; exact Blk.new _ _ _
  rw [h3]
  obtain ⟨w4, h4⟩ : ∃ V, w3.alloc (.cells #[.int .i64 0] 3) = V := ⟨_, rfl⟩
  have b4 : Below w3.heap.size w3 w4 := by rw [← h4]; exact nw _ (Below.refl _ _)
  have s4 : w4.heap.size = w.heap.size + 1 + 1 + 1 + 1 := by rw [← h4]; simp; omega
  have k4 : Blk w4 (w.heap.size + 1 + 1 + 1) 3 #[.int .i64 0] := by rw [← h4, ← s3]; exact Blk.new _ _ _
  rw [h4]
  obtain ⟨w5, h5⟩ : ∃ V, w4.alloc (.cells #[.slice (some ⟨w.heap.size + 1 + 1, 0, none⟩) 1 1, .slice (some ⟨w.heap.size + 1 + 1 + 1, 0, none⟩) 1 1, .slice none 0 0, .int .i64 5] 56) = V := ⟨_, rfl⟩
  have b5 : Below w4.heap.size w4 w5 := by rw [← h5]; exact nw _ (Below.refl _ _)
  have k5 : Blk w5 (w.heap.size + 1 + 1 + 1 + 1) 56 #[.slice (some ⟨w.heap.size + 1 + 1, 0, none⟩) 1 1, .slice (some ⟨w.heap.size + 1 + 1 + 1, 0, none⟩) 1 1, .slice none 0 0, .int .i64 5] := by rw [← h5, ← s4]; exact Blk.new _ _ _
  rw [h5]
  have b25 := bthen (bthen (bthen b2 b3) b4) b5
  have b35 := bthen (bthen b3 b4) b5
  have k1 := k1.below b25 k1.lt
  have k2 := k2.below b35 k2.lt
  have k3 := k3.below (bthen b4 b5) k3.lt
  have k4 := k4.below b5 k4.lt
  have e1 := slr_of_blk (s := 4) (R := REd) (enc := encEd) (xs := t20x.es) k1 (fun _ => rfl) (fun _ => rfl) (by decide)
  have e2 := slr_of_blk (s := 1) (R := RStr) (enc := fun x => [Value.string x]) (xs := t20m.ws) k3 (fun _ => rfl) (fun _ => rfl) (by decide)
  have e3 := slr_of_blk (s := 1) (R := RInt) (enc := fun x => [Value.int .i64 x]) (xs := t20m.cs) k4 (fun _ => rfl) (fun _ => rfl) (by decide)
  exact ⟨⟨k2, k5, e1, ⟨e2, e3, SlR.nil, by decide, by decide, by decide, by decide, by simp [t20m, Within]⟩⟩, bthen b1 b25⟩

theorem bool_inf : (Tryz.prog.info? 4).map (fun i => (i.zero, i.size, i.bytes)) = some (some (.bool false), 1, 1) := by kernel_rfl
set_option maxRecDepth 100000 in
set_option maxHeartbeats 8000000 in
theorem t20_reach (bE : Nat) (w : World) (hx : SlR 4 REd w (some ⟨bE, 0, none⟩) t20x.es) :
    Calls Tryz.prog 25 #[.agg #[.int .i64 1, .slice (some ⟨bE, 0, none⟩) 1 1]] w fun r w' => r = .returned (.bool true) ∧ Below w.heap.size w w' := by
  obtain ⟨i0, hi, hz0, hz1, hz2⟩ := info_parts bool_inf
  obtain ⟨w1, hw1⟩ : ∃ w1, w.alloc (.cells #[.int .i64 1, .slice (some ⟨bE, 0, none⟩) 1 1] 27) = w1 := ⟨_, rfl⟩
  have hb1 : Below w.heap.size w w1 := by rw [← hw1]; exact nw _ (Below.refl _ _)
  have hL : Blk w1 w.heap.size 27 #[.int .i64 1, .slice (some ⟨bE, 0, none⟩) 1 1] := by rw [← hw1]; exact Blk.new _ _ _
  have HW1 := Lib.hid hw1
  have HX : Hid (∀ W, Below w.heap.size w W → SlR 4 REd W (some ⟨bE, 0, none⟩) t20x.es) := fun W hW => hx.below keeps_ed hW
  have l0 := hL.cell 0
  have l1 := hL.cell 1
  have ll := hL.lt
  simp at l0 l1
  clear hw1 hx
  go_enter Tryz.func25, Tryz.ntmps25
  go_upto_region 1 with fail
  rw [HW1.out]
  go_upto_region 2 with (at_make; go_loud (refine wpList_mk _ rfl _ _ 138 rfl 4 i0 (.bool false) (.bool false) Tryz.underlying138 hi hz0 hz1 (by omega) rfl 2 rfl rfl (by omega) ?_))
  obtain ⟨g, hg⟩ : ∃ g, w1.heap.size = g := ⟨_, rfl⟩
  obtain ⟨w2, hw2⟩ : ∃ V, w1.alloc (.cells #[.bool false, .bool false] 4) = V := ⟨_, rfl⟩
  have hb2 : Below w1.heap.size w1 w2 := by rw [← hw2]; exact nw _ (Below.refl _ _)
  have hG : Blk w2 g 4 #[.bool false, .bool false] := by rw [← hw2]; exact Blk.new_ hg.symm
  have hL2 := hL.below hb2 hL.lt
  rw [hw2, hg]
  have hgl : w.heap.size < g := by rw [← hg]; exact hL.lt
  have g0 := hG.cell 0
  have gf := hG.frozen 0
  have gl := hG.lt
  simp at g0
  clear hw2 l0 l1 ll
  have HG := Lib.hid hG
  have HB2 := Lib.hid (bthen hb1 hb2)
  have HL2 := Lib.hid hL2
  clear hL hG hL2
  go_upto_region 3 with fail
  obtain ⟨w3, hw3⟩ : ∃ V, w2.setCell ⟨g, 0, none⟩ (.bool true) = V := ⟨_, rfl⟩
  have hG3 : Blk w3 g 4 #[.bool true, .bool false] := by rw [← hw3]; have := HG.out.set_ 0 (.bool true); simpa using this
  have hb3 : Below g w2 w3 := by rw [← hw3]; exact (Below.refl _ _).setCell (p := ⟨g, 0, none⟩) (Nat.le_refl _) _
  rw [hw3]
  clear hw3 g0 gf gl
  have HL3 := Lib.hid (HL2.out.below hb3 hgl)
  have HB3 := Lib.hid (HB2.out.trans (hb3.mono (by omega)))
  clear hb3 hb1 hb2 HB2 HL2 HG
  go_wp2_with fail
  go_loopw [4] (fun i wr => ∃ (k : Nat) (v : Bool), k ≤ 1 ∧ i = .int .i64 k ∧ (k = 0 ∨ v = true) ∧ Blk wr g 4 #[.bool true, .bool v] ∧ Below g w3 wr) (fun i _ => 1 - (intOf i).toNat)
  case atStart => exact ⟨0, false, by omega, rfl, .inl rfl, hG3, Below.refl _ _⟩
  case round =>
    obtain ⟨k, v, hk, rfl, hv, hG, hbr⟩ := hrel
    have hL := HL3.out.below hbr hgl
    have l0 := hL.cell 0
    have l1 := hL.cell 1
    have ll := hL.lt
    simp at l0 l1
    by_cases h0 : k = 0
    · subst h0
      obtain ⟨b, off, e, hA, hbb, hee, d0, d1, d2, d3⟩ := (HX.out wr (HB3.out.trans (hbr.mono (by omega)))).ed (k := 0) (by decide)
      obtain rfl : e = ⟨0, 1, 0, 3⟩ := by have : some (⟨0, 1, 0, 3⟩ : Ed) = some e := hee; exact (Option.some.inj this).symm
      injection hA with hA
      injection hA with e1 e2
      subst e1 e2
      rw [Nat.zero_mul, Nat.add_zero] at d0 d1 d2 d3
      clear hee hv
      go_upto_region 7 with fail
      obtain ⟨W4, hW4⟩ : ∃ V, wr.alloc (.cells #[.int .i64 0, .int .i64 1, .int .i64 0, .int .i64 3] 44) = V := ⟨_, rfl⟩
      have hb4 : Below wr.heap.size wr W4 := by rw [← hW4]; exact nw _ (Below.refl _ _)
      have hE4 : Blk W4 wr.heap.size 44 #[.int .i64 0, .int .i64 1, .int .i64 0, .int .i64 3] := by rw [← hW4]; exact Blk.new _ _ _
      have hG4 := hG.below hb4 hG.lt
      have hsg := hG.lt
      have hgb : g ≠ wr.heap.size := by omega
      have hbr4 := hbr.trans (hb4.mono (by omega))
      rw [hW4]
      obtain ⟨bX, hbX⟩ : ∃ b, wr.heap.size = b := ⟨_, rfl⟩
      rw [hbX] at hE4 hgb ⊢
      clear hW4 hbX hb4 d0 d1 d2 d3 hbb l0 l1 ll hL
      have e0 := hE4.cell 0
      have e1 := hE4.cell 1
      have el := hE4.lt
      have g0 := hG4.cell 0
      have g1 := hG4.cell 1
      have gl := hG4.lt
      have gf1 := hG4.frozen 1
      simp at e0 e1 g0 g1
      have HG4 := Lib.hid hG4
      have HR4 := Lib.hid hbr4
      clear hE4 hG4 hbr4 hG hbr
      cases v with
      | false =>
        refine ordT_below [16] [(0, false), (1, false), (2, false), (3, false), (4, false), (5, false), (6, false), (7, false), (8, false), (9, false), (10, false), (11, false), (12, false), (13, false), (14, false), (15, false), (16, true)] (by kernel_rfl) (by kernel_rfl) (by kernel_rfl) (fun _ _ _ _ _ h => h) ?_
        intro W0 hS0
        repeat (first
          | (refine ordT_skip rfl rfl (by assumption) ?_; simp only [Act.put, List.setIfInBounds_toArray, List.set_cons_zero, List.set_cons_succ])
          | (refine ordT_cskip rfl rfl (by assumption) ?_; simp only [Act.put, List.setIfInBounds_toArray, List.set_cons_zero, List.set_cons_succ])
          | (refine ordT_take (v := ?_) rfl rfl (by assumption) ?_ ?_
             rotate_left 1
             focus (intro W hW; obtain ⟨hcW, hfW⟩ := bcell hW; (go_simp <;> with_reducible rfl))
             simp only [Act.put, List.setIfInBounds_toArray, List.set_cons_zero, List.set_cons_succ])
          | (refine ordT_call rfl rfl (fun K hK => ?_)
             obtain ⟨hcS, hfS⟩ := bcell hS0
             go_simp
             first
               | (refine hK.out _ _ (fun h => by cases h) ?_)))
        refine ordT_nil ?_
        have hGn := (HG4.out.below hS0 HG4.out.lt).set_ 1 (.bool true)
        have HGN : Hid (Blk (W0.setCell ⟨g, 1, none⟩ (.bool true)) g 4 #[.bool true, .bool true]) := by show Blk _ _ _ _; simpa using hGn
        have HBE := Lib.hid ((HR4.out.trans (hS0.mono (Nat.le_of_lt HG4.out.lt))).setCell (p := ⟨g, 1, none⟩) (Nat.le_refl _) (.bool true))
        clear hGn
        go_wp2_with fail
        go_roundw
        case rel => exact ⟨0 + 1, true, by omega, by go_num, .inr rfl, HGN.out, HBE.out⟩
        case measure => simp [intOf]
      | true =>
        refine ordT_below [16] [(0, false), (1, false), (2, false), (3, false), (4, false), (5, false), (6, false), (7, false), (8, false), (9, false), (10, false), (11, false), (12, false), (13, false), (14, false), (15, false), (16, true)] (by kernel_rfl) (by kernel_rfl) (by kernel_rfl) (fun _ _ _ _ _ h => h) ?_
        intro W0 hS0
        repeat (first
          | (refine ordT_skip rfl rfl (by assumption) ?_; simp only [Act.put, List.setIfInBounds_toArray, List.set_cons_zero, List.set_cons_succ])
          | (refine ordT_cskip rfl rfl (by assumption) ?_; simp only [Act.put, List.setIfInBounds_toArray, List.set_cons_zero, List.set_cons_succ])
          | (refine ordT_take (v := ?_) rfl rfl (by assumption) ?_ ?_
             rotate_left 1
             focus (intro W hW; obtain ⟨hcW, hfW⟩ := bcell hW; (go_simp <;> with_reducible rfl))
             simp only [Act.put, List.setIfInBounds_toArray, List.set_cons_zero, List.set_cons_succ])
          | (refine ordT_call rfl rfl (fun K hK => ?_)
             obtain ⟨hcS, hfS⟩ := bcell hS0
             go_simp
             first
               | (refine hK.out _ _ (fun h => by cases h) ?_)))
        refine ordT_nil ?_
        have hGn := (HG4.out.below hS0 HG4.out.lt).set_ 1 (.bool true)
        have HGN : Hid (Blk (W0.setCell ⟨g, 1, none⟩ (.bool true)) g 4 #[.bool true, .bool true]) := by show Blk _ _ _ _; simpa using hGn
        have HBE := Lib.hid ((HR4.out.trans (hS0.mono (Nat.le_of_lt HG4.out.lt))).setCell (p := ⟨g, 1, none⟩) (Nat.le_refl _) (.bool true))
        clear hGn
        go_wp2_with fail
        go_roundw
        case rel => exact ⟨0 + 1, true, by omega, by go_num, .inr rfl, HGN.out, HBE.out⟩
        case measure => simp [intOf]
    · obtain rfl : k = 1 := by omega
      have hv1 : v = true := by rcases hv with h | h; · omega
                                · exact h
      subst hv1
      have g0 := hG.cell 0
      have g1 := hG.cell 1
      have gl := hG.lt
      simp at g0 g1
      have HBE := Lib.hid (HB3.out.trans (hbr.mono (by omega)))
      clear hG hbr hL hv h0
      go_wp2_with fail
      go_ret
      exact ⟨rfl, HBE.out⟩
section
variable {bE bX bS bC bM : Nat} {W : World}
theorem t20_build (h : T20 bE bX bS bC bM W) : Calls Tryz.prog 13 #[.agg #[.int .i64 1, .slice (some ⟨bE, 0, none⟩) 1 1], .agg #[.slice (some ⟨bS, 0, none⟩) 1 1, .slice (some ⟨bC, 0, none⟩) 1 1, .slice none 0 0, .int .i64 5], .int .i64 0] W fun e w' => ∃ (LA LB : Option Addr) (cA lB cB : Nat), e = .returned (.tuple #[.agg #[.int .i64 2, .slice LA 1 cA], .slice LB lB cB, .int .i64 0]) ∧ SlR 4 RLk w' LA t20g.ls ∧ Below W.heap.size W w' := by
  have := build_any t20x (some ⟨bE, 0, none⟩) 1 t20m _ _ _ 1 1 0 0 W h.x (by decide) h.r (by decide) (by decide)
  rw [t20_bu] at this
  refine this.mono ?_
  rintro e w' ⟨LA, LB, cA, cB, rfl, h1, _, _, h4, _, _⟩
  exact ⟨LA, LB, cA, _, cB, rfl, h1, h4⟩
end
theorem t20_make (A : Option Addr) (c : Nat) (W : World) (hx : SlR 4 RLk W A t20g.ls) : Calls Tryz.prog 14 #[.agg #[.int .i64 2, .slice A 1 c], .int .i64 5, .int .i64 100] W fun e w' => ∃ B d C f, e = .returned (.tuple #[.agg #[.slice B 1 d, .bool true], .slice C 2 f, .int .i64 0]) ∧ PgIn w' B d (pgL t20g 5) ∧ SlR 1 RInt w' C (potL t20g) ∧ Below W.heap.size W w' := by
  have := lmake_any A c t20g 5 100 5 W hx t20_g ⟨by decide, t20_w⟩ (by decide) (by decide) (by decide +kernel)
  rw [t20_wh] at this
  refine this.mono ?_
  rintro e w' ⟨B, d, C, f, rfl, h1, h2, h3⟩
  exact ⟨B, d, C, f, by rw [t20_l, t20_pot]; rfl, h1, h2, h3⟩
theorem t20_check (A B C : Option Addr) (c d f : Nat) (W : World) (hx : SlR 4 RLk W A t20g.ls) (hp : PgIn W B d (pgL t20g 5)) (hh : SlR 1 RInt W C (potL t20g)) : Calls Tryz.prog 15 #[.agg #[.int .i64 2, .slice A 1 c], .slice C 2 f, .agg #[.slice B 1 d, .bool true]] W fun e w' => e = .returned (.tuple #[.int .i64 1, .int .i64 0]) ∧ Below W.heap.size W w' := by
  have := lcheck_any A c t20g C f B d 5 W hx t20_g ⟨by decide, t20_w⟩ hh hp
  rw [t20_wh, t20_l, show (potL t20g).length = 2 by rw [t20_pot]; rfl] at this
  rw [show ((min 5 (allG t20g).length : Nat) : Int) = 1 by decide +kernel] at this
  exact this
set_option maxRecDepth 100000 in
set_option maxHeartbeats 16000000 in
theorem sanity20t_any (w : World) : Calls Tryz.prog 6 #[] w fun e w' => e = .returned (.bool true) ∧ Below w.heap.size w w' := by
  obtain ⟨hS, hbw⟩ := t20_start w
  obtain ⟨W1, hW1⟩ : ∃ V, (((((w.alloc (.cells #[.int .i64 0, .int .i64 1, .int .i64 0, .int .i64 3] 44)).alloc (.cells #[.int .i64 1, .slice (some ⟨w.heap.size, 0, none⟩) 1 1] 27)).alloc (.cells #[.string (ByteArray.mk #[97])] 9)).alloc (.cells #[.int .i64 0] 3)).alloc (.cells #[.slice (some ⟨w.heap.size + 1 + 1, 0, none⟩) 1 1, .slice (some ⟨w.heap.size + 1 + 1 + 1, 0, none⟩) 1 1, .slice none 0 0, .int .i64 5] 56)) = V := ⟨_, rfl⟩
  rw [hW1] at hS hbw
  have HW1 := Lib.hid hW1
  clear hW1
  go_enter Tryz.func6, Tryz.ntmps6
  go_upto_region 3 with fail
  rw [HW1.out]
  clear HW1
  generalize w.heap.size + 1 + 1 + 1 + 1 = bM at *
  generalize w.heap.size + 1 + 1 + 1 = bC at *
  generalize w.heap.size + 1 + 1 = bS at *
  generalize w.heap.size + 1 = bX at *
  obtain ⟨bE, hbE⟩ : ∃ b, w.heap.size = b := ⟨_, rfl⟩
  rw [hbE] at hS ⊢
  have HBW := Lib.hid hbw
  have HS := Lib.hid hS
  obtain ⟨⟨x0, x1⟩, ⟨m0, m1, m2, m3⟩, xl, ml⟩ := hS.cells
  clear hS hbw hbE
  go_upto_region 4 with (go_at_call 13; go_loud (refine (t20_build HS.out).mono ?_; rintro e w2 ⟨LA, LB, cA, lB, cB, rfl, hg, hb2⟩))
  obtain ⟨W4, hW4⟩ : ∃ V, w2.alloc (.cells #[.int .i64 2, .slice LA 1 cA] 38) = V := ⟨_, rfl⟩
  have hb4 : Below w2.heap.size w2 W4 := by rw [← hW4]; exact nw _ (Below.refl _ _)
  have hG : Blk W4 w2.heap.size 38 #[.int .i64 2, .slice LA 1 cA] := by rw [← hW4]; exact Blk.new _ _ _
  have hg4 := hg.below keeps_lk hb4
  have hb14 := bthen hb2 hb4
  rw [hW4]
  obtain ⟨bG, hbG⟩ : ∃ b, w2.heap.size = b := ⟨_, rfl⟩
  rw [hbG] at hG ⊢
  have HMK := Lib.hid (t20_make LA cA W4 hg4)
  have g0 := hG.cell 0
  have g1 := hG.cell 1
  have gl := hG.lt
  simp at g0 g1
  have HG := Lib.hid hG
  have HGS := Lib.hid hg4
  have HB4 := Lib.hid hb14
  clear hW4 hbG hG hg hg4 hb2 hb4 hb14 x0 x1 m0 m1 m2 m3 xl ml
  go_upto_region 5 with (go_at_call 14; go_loud (refine HMK.out.mono ?_; rintro e w5 ⟨B, d, C, f, rfl, hp, hh, hb5⟩))
  obtain ⟨W6, hW6⟩ : ∃ V, w5.alloc (.cells #[.slice B 1 d, .bool true] 61) = V := ⟨_, rfl⟩
  have hb6 : Below w5.heap.size w5 W6 := by rw [← hW6]; exact nw _ (Below.refl _ _)
  have hP : Blk W6 w5.heap.size 61 #[.slice B 1 d, .bool true] := by rw [← hW6]; exact Blk.new _ _ _
  have hb46 := bthen hb5 hb6
  have hG6 := HG.out.below hb46 HG.out.lt
  have HCK := Lib.hid (t20_check LA B C cA d f W6 (HGS.out.below keeps_lk hb46) (hp.mono hb6) (hh.below keeps_int hb6))
  have HPS := Lib.hid (hp.mono hb6)
  rw [hW6]
  obtain ⟨bP, hbP⟩ : ∃ b, w5.heap.size = b := ⟨_, rfl⟩
  rw [hbP] at hP ⊢
  clear g0 g1 gl
  have g0 := hG6.cell 0
  have g1 := hG6.cell 1
  have gl := hG6.lt
  have p0 := hP.cell 0
  have p1 := hP.cell 1
  have pl := hP.lt
  simp at g0 g1 p0 p1
  have HP := Lib.hid hP
  have HB6 := Lib.hid (bthen HB4.out hb46)
  clear hW6 hbP hP hG6 hp hh hb5 hb6 hb46
  go_upto_region 6 with (go_at_call 15; go_loud (refine HCK.out.mono ?_; rintro e w7 ⟨rfl, hb7⟩))
  have HB7 := Lib.hid (bthen HB6.out hb7)
  have HS7 := Lib.hid (HS.out.mono HB7.out)
  have HP7 := Lib.hid (HP.out.below hb7 HP.out.lt)
  have HPS7 := Lib.hid (HPS.out.mono hb7)
  have HRS : Hid (Calls Tryz.prog 9 #[.agg #[.int .i64 1, .slice (some ⟨bE, 0, none⟩) 1 1], .slice (some ⟨w7.heap.size, 0, none⟩) 1 1] (w7.alloc (.cells #[.int .i64 0, .int .i64 1, .int .i64 4] 46)) fun e w' => ∃ B c, e = .returned (.agg #[.int .i64 1, .slice B 0 c]) ∧ Below w7.heap.size w7 w') := by
    have hs : SlR 3 RPn (w7.alloc (.cells #[.int .i64 0, .int .i64 1, .int .i64 4] 46)) (some ⟨w7.heap.size, 0, none⟩) [t20p] := slr_blk (enc := encPn) (Blk.new _ _ _) (fun _ => rfl) (fun _ => rfl)
    have hb := nw (.cells #[.int .i64 0, .int .i64 1, .int .i64 4] 46) (Below.refl w7.heap.size w7)
    have := restrict_any t20x (some ⟨bE, 0, none⟩) 1 [t20p] _ 1 _ (HS7.out.x.below keeps_ed hb) (by decide) hs (by decide)
    refine this.mono ?_
    rintro e w' ⟨B, c, rfl, _, _, h4⟩
    exact ⟨B, c, by rw [t20_pin]; rfl, bthen hb h4⟩
  clear g0 g1 gl p0 p1 pl hb7
  obtain ⟨⟨x0, x1⟩, ⟨m0, m1, m2, m3⟩, xl, ml⟩ := HS7.out.cells
  go_upto_region 7 with (go_at_call 9; go_loud (refine HRS.out.mono ?_; rintro e w9 ⟨Br, cr, rfl, hb9⟩))
  obtain ⟨WA, hWA⟩ : ∃ V, w9.alloc (.cells #[.int .i64 1, .slice Br 0 cr] 27) = V := ⟨_, rfl⟩
  have hbA : Below w9.heap.size w9 WA := by rw [← hWA]; exact nw _ (Below.refl _ _)
  have hY : Blk WA w9.heap.size 27 #[.int .i64 1, .slice Br 0 cr] := by rw [← hWA]; exact Blk.new _ _ _
  have hb7A := bthen hb9 hbA
  have hPA := HP7.out.below hb7A HP7.out.lt
  have HSA := Lib.hid (HS7.out.mono hb7A)
  have HWD : Hid (Calls Tryz.prog 24 #[.agg #[.slice (some ⟨bS, 0, none⟩) 1 1, .slice (some ⟨bC, 0, none⟩) 1 1, .slice none 0 0, .int .i64 5], .int .i64 0] WA fun e w' => e = .returned (.int .i64 0) ∧ Below WA.heap.size WA w') := by
    have := wcost_any t20m _ _ _ 1 1 0 0 WA HSA.out.r (by decide +kernel) (by decide)
    rw [t20_cost] at this
    exact this
  have HRC : Hid (∀ W, Below WA.heap.size WA W → Calls Tryz.prog 25 #[.agg #[.int .i64 1, .slice (some ⟨bE, 0, none⟩) 1 1]] W fun r w' => r = .returned (.bool true) ∧ Below W.heap.size W w') := fun W hW => t20_reach bE W (HSA.out.mono hW).x
  have HCX : Hid (∀ W, Below WA.heap.size WA W → (W.cell? ⟨bX, 0, none⟩ = some (.int .i64 1) ∧ W.cell? ⟨bX, 1, none⟩ = some (.slice (some ⟨bE, 0, none⟩) 1 1)) ∧ bX < W.heap.size) := fun W hW => by
    have h := (HSA.out.mono hW).cells
    exact ⟨h.1, h.2.2.1⟩
  have hcan := (HPS7.out.mono hb7A).s
  rw [t20_l] at hcan
  obtain ⟨cb, co, cc, AC, cC, hB, hcb, hcc, c0, c1, _⟩ := hcan.can (k := 0) (by decide)
  obtain rfl : cc = ⟨[0], 8⟩ := by have : some (⟨[0], 8⟩ : Can) = some cc := hcc; exact (Option.some.inj this).symm
  subst hB
  rw [Nat.zero_mul, Nat.add_zero] at c1
  rw [hWA]
  obtain ⟨bY, hbY⟩ : ∃ b, w9.heap.size = b := ⟨_, rfl⟩
  rw [hbY] at hY ⊢
  clear x0 x1 m0 m1 m2 m3 xl ml
  obtain ⟨⟨x0, x1⟩, ⟨m0, m1, m2, m3⟩, xl, ml⟩ := HSA.out.cells
  have y0 := hY.cell 0
  have y1 := hY.cell 1
  have yl := hY.lt
  have p0 := hPA.cell 0
  have p1 := hPA.cell 1
  have pl := hPA.lt
  simp at y0 y1 p0 p1
  have HBA := Lib.hid (bthen HB7.out hb7A)
  clear hWA hbY hY hPA hcan hcc c0 hb9 hbA hb7A
  go_wp2_with (first
    | (go_at_call 24; go_loud (refine HWD.out.mono ?_; rintro e wB ⟨rfl, hbB⟩; clear x0 x1 m0 m1 m2 m3 xl ml y0 y1 yl p0 p1 pl c1 hcb; obtain ⟨⟨x0, x1⟩, xl⟩ := HCX.out _ hbB))
    | (go_at_call 25; go_loud (refine (HRC.out _ hbB).mono ?_; rintro e wC ⟨rfl, hbC⟩)))
  go_ret
  exact ⟨rfl, bthen HBW.out (bthen HBA.out (bthen hbB hbC))⟩
end Go.Proofs.YtfjkmgjjifhdkaaGreat
