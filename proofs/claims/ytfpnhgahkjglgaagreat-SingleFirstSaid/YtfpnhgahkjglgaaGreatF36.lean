/-
  SiOpn, SiWalkD, joined. No conditions.
-/
import Derived.Test.YtfpnhgahkjglgaaGreatF28
import Derived.Test.YtfpnhgahkjglgaaGreatF35
import Derived.Test.YtfpnhgahkjglgaaGreatF06
set_option maxRecDepth 100000
namespace Go.Proofs.YtfpnhgahkjglgaaGreat
open List
structure OpP (s : Sc) (H0 H : Hst Pl) (u : List UInt8) : Prop where
 inv : HInv (schA s) H u
 sub : ∀ p ∈ H0, p ∈ H
 new : ∀ x v, (x, v) ∈ H → (x, v) ∈ H0 ∨ v = u
 sz : SzH H
def stL (x : St Pl) (r : Ru) : St Pl := ⟨(r.to, bl r.inp), x.r, widen x.g (bl r.out) []⟩
def stR (x : St Pl) (r : Ru) : St Pl := ⟨x.l, (r.to, bl r.inp), widen x.g [] (bl r.out)⟩
def RulesK (s : Sc) (H : Hst Pl) (u : List UInt8) (x : St Pl) (k : Nat) : Prop := ∀ j r, j < k → s.rs[j]? = some r → (x.l = (r.fr, []) → KnownAt H (stL x r) u) ∧ (x.r = (r.fr, []) → KnownAt H (stR x r) u)
theorem RulesK.mono {s : Sc} {H H' : Hst Pl} {u : List UInt8} {x : St Pl} {k : Nat} (h : RulesK s H u x k) (hs : ∀ p ∈ H, p ∈ H') : RulesK s H' u x k :=
 fun j r hj hr => ⟨fun e => ((h j r hj hr).1 e).mono hs, fun e => ((h j r hj hr).2 e).mono hs⟩
theorem RulesK.zero {s : Sc} {H : Hst Pl} {u : List UInt8} {x : St Pl} : RulesK s H u x 0 := fun _ _ h => absurd h (Nat.not_lt_zero _)
theorem RulesK.next {s : Sc} {H : Hst Pl} {u : List UInt8} {x : St Pl} {k : Nat} {t : Ru} (h : RulesK s H u x k) (ht : s.rs[k]? = some t) (h1 : x.l = (t.fr, []) → KnownAt H (stL x t) u) (h2 : x.r = (t.fr, []) → KnownAt H (stR x t) u) : RulesK s H u x (k + 1) := fun j r hj hr => by
 by_cases e : j = k
 ·subst e
  obtain rfl := Option.some.inj (ht.symm.trans hr)
  exact ⟨h1, h2⟩
 ·exact h j r (by omega) hr
structure OpI (s : Sc) (H0 H : Hst Pl) (u : List UInt8) (xs : List (St Pl)) (i : Nat) : Prop extends OpP s H0 H u where
 mem : ∀ x, x ∈ xs ↔ (x, u) ∈ H
 len : xs.length ≤ H.length
 le : i ≤ xs.length
 done : ∀ j x, j < i → xs[j]? = some x → RulesK s H u x s.rs.length
section
variable {s : Sc} {H0 H : Hst Pl} {u : List UInt8} {xs : List (St Pl)} {i : Nat}
theorem OpI.start (h : HInv (schA s) H u) (hz : SzH H) (hm : ∀ x, x ∈ xs ↔ (x, u) ∈ H) (hl : xs.length ≤ H.length) : OpI s H H u xs 0 :=
 ⟨⟨h, fun _ hp => hp, fun _ _ hx => .inl hx, hz⟩, hm, hl, Nat.zero_le _, fun _ _ h => absurd h (Nat.not_lt_zero _)⟩
def addG (H : Hst Pl) (xs : List (St Pl)) (y : St Pl) : List (St Pl) := if known H y then xs else xs ++ [y]
theorem addG_len {y : St Pl} : xs.length ≤ (addG H xs y).length := by
 unfold addG
 split
 ·exact Nat.le_refl _
 ·rw [length_append]; omega
theorem addG_get {y : St Pl} {j : Nat} {x : St Pl} (h : xs[j]? = some x) : (addG H xs y)[j]? = some x := by
 unfold addG
 split
 ·exact h
 ·rw [getElem?_append_left (List.getElem?_eq_some_iff.1 h).1]; exact h
theorem OpI.add (h : OpI s H0 H u xs i) {y : St Pl} (hy : Two (schA s) u y.l y.r y.g) (hsz : y.g.sz ≤ 8 * H.length + 8) : OpI s H0 (addH H u y) u (addG H xs y) i ∧ KnownAt (addH H u y) y u := by
 obtain ⟨h1, h2⟩ := h.inv.add hy
 refine ⟨⟨⟨h1, fun p hp => add_sub p (h.sub p hp), fun x v hx => ?_, h.sz.add hsz⟩, fun x => ?_, ?_, Nat.le_trans h.le addG_len, fun j x hj hx => ?_⟩, h2⟩
 ·unfold addH at hx
  split at hx
  ·exact h.new x v hx
  ·rcases mem_append.1 hx with hx | hx
   ·exact h.new x v hx
   ·exact .inr (Prod.mk.inj (mem_singleton.1 hx)).2
 ·unfold addG addH
  split
  ·exact h.mem x
  ·rw [mem_append, mem_append, h.mem x, mem_singleton, mem_singleton, Prod.mk.injEq]
   simp
 ·unfold addG addH
  have := h.len
  split
  ·exact this
  ·rw [length_append, length_append]
   simp only [length_singleton]
   omega
 ·have hlt : j < xs.length := Nat.lt_of_lt_of_le hj h.le
  have e : xs[j]? = some xs[j] := getElem?_eq_getElem hlt
  have e2 := addG_get (H := H) (y := y) e
  rw [hx] at e2
  rw [Option.some.inj e2]
  exact (h.done j _ hj e).mono add_sub
theorem OpI.next (h : OpI s H0 H u xs i) {x : St Pl} (hx : xs[i]? = some x) (hr : RulesK s H u x s.rs.length) : OpI s H0 H u xs (i + 1) :=
 { h with
  le := (List.getElem?_eq_some_iff.1 hx).1
  done := fun j y hj hy => by
   by_cases e : j = i
   ·subst e
    obtain rfl := Option.some.inj (hx.symm.trans hy)
    exact hr
   ·exact h.done j y (by omega) hy }
theorem OpI.all (h : OpI s H0 H u xs i) (hi : xs.length ≤ i) : ∀ x, (x, u) ∈ H → ∀ y, SucO (schA s) x y → KnownAt H y u := fun x hx y hy => by
 obtain ⟨j, hj⟩ := getElem?_of_mem ((h.mem x).2 hx)
 have hr := h.done j x (by have := (List.getElem?_eq_some_iff.1 hj).1; omega) hj
 obtain ⟨yl, yr, yg⟩ := y
 rcases hy with ⟨o, ⟨h1, r, h2, h3, rfl, h4⟩, h5, h6⟩ | ⟨o, ⟨h1, r, h2, h3, rfl, h4⟩, h5, h6⟩
 ·obtain ⟨q, hq⟩ := getElem?_of_mem h2
  have := (hr q r (List.getElem?_eq_some_iff.1 hq).1 hq).1 (Prod.ext h3.symm h1)
  simp only at h4 h5 h6
  rw [h4, h5, h6]
  exact this
 ·obtain ⟨q, hq⟩ := getElem?_of_mem h2
  have := (hr q r (List.getElem?_eq_some_iff.1 hq).1 hq).2 (Prod.ext h3.symm h1)
  simp only at h4 h5 h6
  rw [h4, h5, h6]
  exact this
theorem OpI.two (h : OpI s H0 H u xs i) {j : Nat} {x : St Pl} (hx : xs[j]? = some x) : Two (schA s) u x.l x.r x.g ∧ x.g.sz ≤ 8 * H.length := by
 have hm := (h.mem x).1 (mem_of_getElem? hx)
 exact ⟨h.inv.two x u hm, h.sz x u hm⟩
theorem two_stL {x : St Pl} {r : Ru} (h : Two (schA s) u x.l x.r x.g) (hr : r ∈ s.rs) (he : x.l = (r.fr, [])) : Two (schA s) u (stL x r).l (stL x r).r (stL x r).g :=
 sucO_two (x := x) (y := stL x r) h (.inl ⟨bl r.out, ⟨by rw [he], r, hr, by rw [he], rfl, rfl⟩, rfl, rfl⟩)
theorem two_stR {x : St Pl} {r : Ru} (h : Two (schA s) u x.l x.r x.g) (hr : r ∈ s.rs) (he : x.r = (r.fr, [])) : Two (schA s) u (stR x r).l (stR x r).r (stR x r).g :=
 sucO_two (x := x) (y := stR x r) h (.inr ⟨bl r.out, ⟨by rw [he], r, hr, by rw [he], rfl, rfl⟩, rfl, rfl⟩)
theorem sz_stL {x : St Pl} {r : Ru} {n : Nat} (h : x.g.sz ≤ 8 * n) (hr : r.out.size ≤ 4) : (stL x r).g.sz ≤ 8 * n + 8 := by
 have := widen_sz x.g (bl r.out) []
 rw [bl_len] at this
 show (widen x.g (bl r.out) []).sz ≤ _
 simp only [length_nil] at this
 omega
theorem sz_stR {x : St Pl} {r : Ru} {n : Nat} (h : x.g.sz ≤ 8 * n) (hr : r.out.size ≤ 4) : (stR x r).g.sz ≤ 8 * n + 8 := by
 have := widen_sz x.g [] (bl r.out)
 rw [bl_len] at this
 show (widen x.g [] (bl r.out)).sz ≤ _
 simp only [length_nil] at this
 omega
end
end Go.Proofs.YtfpnhgahkjglgaaGreat
namespace Go.Proofs.YtfpnhgahkjglgaaGreat
open Go Go.RowKit Go.Maps
structure Kp3 (a b c : Nat) (w w' : World) : Prop where
 size : w.heap.size ≤ w'.heap.size
 a : w'.heap[a]? = w.heap[a]?
 b : w'.heap[b]? = w.heap[b]?
 c : w'.heap[c]? = w.heap[c]?
theorem Kp3.of_below {a b c : Nat} {w w' : World} (h : Below w.heap.size w w') (ha : a < w.heap.size) (hb : b < w.heap.size) (hc : c < w.heap.size) : Kp3 a b c w w' := ⟨h.size, h.block a ha, h.block b hb, h.block c hc⟩
theorem Kp3.cells {a b c : Nat} {w w' : World} (h : Kp3 a b c w w') : (∀ o, w'.cell? ⟨a, o, none⟩ = w.cell? ⟨a, o, none⟩) ∧ (∀ o, w'.cell? ⟨b, o, none⟩ = w.cell? ⟨b, o, none⟩) ∧ (∀ o, w'.cell? ⟨c, o, none⟩ = w.cell? ⟨c, o, none⟩) :=
 ⟨fun _ => World.cell?_of_block h.a, fun _ => World.cell?_of_block h.b, fun _ => World.cell?_of_block h.c⟩
theorem SrI.gmne {w : World} {gf gm c g : Nat} {s : Sc} {A : Option Addr} {H : Hst Pl} {t : TypeId} {cs : Array Value} (h : SrI w gf gm s A c H) (hk : Blk w g t cs) : g ≠ gm := by
 obtain ⟨n, V, D, _, h2⟩ := h.map
 exact h2.ne hk
def OwnTo (B : Nat) (v v' : Value) : Prop := v'.ownBlock = v.ownBlock ∨ ∃ k, v'.ownBlock = some k ∧ B ≤ k
theorem OwnTo.trans {B B' : Nat} {v v' v2 : Value} (h : OwnTo B v v') (h2 : OwnTo B' v' v2) (hB : B ≤ B') : OwnTo B v v2 := by
 rcases h2 with e | ⟨k, e, hk⟩
 ·rcases h with e2 | ⟨k, e2, hk⟩
  ·exact .inl (e.trans e2)
  ·exact .inr ⟨k, e.trans e2, hk⟩
 ·exact .inr ⟨k, e, by omega⟩
def XG (gg : Nat) (v : Value) (k : Nat) : Prop := k = gg ∨ v.ownBlock = some k
theorem OwnTo.x {B gg k : Nat} {v v' : Value} (h : OwnTo B v v') (hk : k < B) (hx : XG gg v' k) : XG gg v k := by
 rcases hx with e | e
 ·exact .inl e
 ·rcases h with h | ⟨j, h, hj⟩
  ·exact .inr (h ▸ e)
  ·rw [h] at e
   have := Option.some.inj e
   omega
structure StOp (w : World) (gf gm gg : Nat) (s : Sc) (A : Option Addr) (c : Nat) (H0 : Hst Pl) (u : List UInt8) (v0 : Value) (i : Nat) (W : World) (H : Hst Pl) (xs : List (St Pl)) (v : Value) : Prop where
 sr : SrI W gf gm s A c H
 gr : GrI W gm gg u v xs
 op : OpI s H0 H u xs i
 bel : BelS gm (XG gg v0) w.heap.size w W
 own : OwnTo w.heap.size v0 v
section
variable {w W W1 W2 : World} {gf gm gg c i : Nat} {s : Sc} {A : Option Addr} {H0 H : Hst Pl} {u : List UInt8} {v0 v v2 : Value} {xs : List (St Pl)} {y : St Pl}
theorem StOp.below (h : StOp w gf gm gg s A c H0 u v0 i W H xs v) (hb : Below W.heap.size W W1) : StOp w gf gm gg s A c H0 u v0 i W1 H xs v :=
 ⟨h.sr.below hb, h.gr.below hb, h.op, h.bel.trans ((BelS.of_below hb).mono h.bel.size fun _ _ h => h), h.own⟩
theorem StOp.add (h : StOp w gf gm gg s A c H0 u v0 i W H xs v) (hb : Below W.heap.size W W1)
 (ha : SrI W2 gf gm s A c (addH H u y) ∧ GrI W2 gm gg u v2 (if known H y then xs else xs ++ [y]) ∧ BelS gm (fun k => k = gg ∨ v.ownBlock = some k) W1.heap.size W1 W2 ∧ (v2.ownBlock = v.ownBlock ∨ ∃ k, v2.ownBlock = some k ∧ W1.heap.size ≤ k))
 (hy : Two (schA s) u y.l y.r y.g) (hsz : y.g.sz ≤ 8 * H.length + 8) : StOp w gf gm gg s A c H0 u v0 i W2 (addH H u y) (addG H xs y) v2 ∧ KnownAt (addH H u y) y u := by
 obtain ⟨h1, h2, h3, h4⟩ := ha
 obtain ⟨h5, h6⟩ := h.op.add hy hsz
 have hsz := h.bel.size
 have hb1 := hb.size
 exact ⟨⟨h1, h2, h5, (h.bel.trans ((BelS.of_below hb).mono hsz fun _ _ h => h)).trans (h3.mono (by omega) fun k hk hx => h.own.x hk hx), h.own.trans h4 (by omega)⟩, h6⟩
end
def IsOpenS (gf gm gg : Nat) (s : Sc) (A : Option Addr) (c : Nat) (H0 : Hst Pl) (u : List UInt8) (v0 : Value) (w : World) (e : Ending) (w' : World) : Prop :=
 e = .returned (.tuple #[]) ∧ ∃ i H xs v, StOp w gf gm gg s A c H0 u v0 i w' H xs v ∧ xs.length ≤ i
set_option maxHeartbeats 16000000 in
theorem sopen_any (ws : World) (s : Sc) (A : Option Addr) (c gf gm gg : Nat) (H0 : Hst Pl) (u : List UInt8) (v0 : Value) (xs0 : List (St Pl)) (w : World) (hsc : ScIn ws s A c) (hok : ScOK s) (hgm : ws.heap.size ≤ gm) (hbs : Below gm ws w)
 (hS : SrI w gf gm s A c H0) (hG : GrI w gm gg u v0 xs0) (hO : OpI s H0 H0 u xs0 0) :
 Calls Tryz.prog 58 #[.pointer (some ⟨gf, 0, none⟩), .pointer (some ⟨gg, 0, none⟩)] w (IsOpenS gf gm gg s A c H0 u v0 w) := by
 have hgml : gm < w.heap.size := by have := hS.lt; have := hS.blk.lt; omega
 have HSC : Hid (∀ W, BelS gm (XG gg v0) w.heap.size w W → ScIn W s A c) := fun W hW => hsc.below ((hbs.mono hgm).trans (hW.below (by omega) hgm fun k hk hx => by
  rcases hx with rfl | e
  ·have := hG.lt; omega
  ·have := own_block_le hG.row k e; omega))
 have HST0 : Hid (StOp w gf gm gg s A c H0 u v0 0 w H0 xs0 v0) := ⟨hS, hG, hO, .refl _ _ _ _, .inl rfl⟩
 have HOK := Lib.hid hok
 have hrl := hsc.len
 clear hsc hok hgm hbs hS hG hO
 go_enter Tryz.func58, Tryz.ntmps58
 go_wp2_with fail
 go_loopw [4] (fun iv wr => ∃ i : Nat, i ≤ 300000 ∧ iv = .int .i64 (i : Int) ∧ ∃ (H : Hst Pl) (xs : List (St Pl)) (v : Value), StOp w gf gm gg s A c H0 u v0 i wr H xs v) (fun iv _ => 300001 - (intOf iv).toNat)
 case atStart => exact ⟨0, by omega, rfl, H0, xs0, v0, HST0.out⟩
 case round =>
  obtain ⟨wR, rfl⟩ : ∃ W, W = wr := ⟨wr, rfl⟩
  obtain ⟨i, hi, rfl, H, xs, v, hst⟩ := hrel
  have hlen := met_len HOK.out hst.op.inv
  have hxl := hst.op.len
  obtain ⟨A1, c1, rfl, hx1, hx2, hx3⟩ := hst.gr.slr
  have HST := Lib.hid hst
  have g1 := hst.gr.blk.cell 1
  have gl := hst.gr.blk.lt
  simp at g1
  clear hst
  by_cases hlt : i < xs.length
  ·have hii : (i : Int) < (xs.length : Int) := by omega
   have hi0 : (0 : Int) ≤ (i : Int) := by omega
   obtain ⟨b, off, x, rfl, hbb, hxx, d0, d1, d2, d3, d4, d5, d6⟩ := hx3.sts hlt
   have HXI := Lib.hid hxx
   clear hxx hx3
   go_upto_region 4 with fail
   obtain ⟨gx, hgx⟩ : ∃ g, wR.heap.size = g := ⟨_, rfl⟩
   obtain ⟨W1, hW1⟩ : ∃ W, wR.alloc (.cells #[.int .i64 x.l.1, .string (ba x.l.2), .int .i64 x.r.1, .string (ba x.r.2), .string (ba x.g.a), .string (ba x.g.b), .bool x.g.p] 122) = W := ⟨_, rfl⟩
   have hb1 : Below wR.heap.size wR W1 := by rw [← hW1]; exact nw _ (Below.refl _ _)
   have hX1 : Blk W1 gx 122 #[.int .i64 x.l.1, .string (ba x.l.2), .int .i64 x.r.1, .string (ba x.r.2), .string (ba x.g.a), .string (ba x.g.b), .bool x.g.p] := by rw [← hW1, ← hgx]; exact Blk.new _ _ _
   have hst1 := HST.out.below hb1
   have HST1 := Lib.hid hst1
   have HX1 := Lib.hid hX1
   have HNV1 : Hid ((Value.slice (some ⟨b, off, none⟩) xs.length c1).ownBlock ≠ some gx) := by show _ ≠ _; rw [← hgx]; exact own_lt HST.out.gr.row (Nat.le_refl _)
   have HGX : Hid (w.heap.size ≤ gx ∧ gx ≠ gg) := ⟨by rw [← hgx]; exact HST.out.bel.size, by have := HST.out.gr.blk.lt; omega⟩
   have f2 := hst1.sr.blk.cell 2
   have fl := hst1.sr.blk.lt
   simp at f2
   rw [hW1, hgx]
   clear hW1 hgx hb1 hX1 hst1 d0 d1 d2 d3 d4 d5 d6 hbb g1 gl
   go_wp2_with fail
   go_loopw [31] (fun kv wr => ∃ k : Nat, k ≤ s.rs.length ∧ kv = .int .i64 (k : Int) ∧ ∃ (H : Hst Pl) (xs : List (St Pl)) (v : Value), StOp w gf gm gg s A c H0 u v0 i wr H xs v ∧ xs[i]? = some x ∧ RulesK s H u x k ∧ Blk wr gx 122 #[.int .i64 x.l.1, .string (ba x.l.2), .int .i64 x.r.1, .string (ba x.r.2), .string (ba x.g.a), .string (ba x.g.b), .bool x.g.p] ∧ v.ownBlock ≠ some gx) (fun kv _ => s.rs.length - (intOf kv).toNat)
   case atStart => exact ⟨0, by omega, rfl, H, xs, _, HST1.out, HXI.out, RulesK.zero, HX1.out, HNV1.out⟩
   case round =>
    clear HXI HST HST1 HX1 HNV1 hlt hii hx1 hx2 hlen hxl f2 fl
    obtain ⟨wQ, rfl⟩ : ∃ W, W = wr := ⟨wr, rfl⟩
    obtain ⟨k, hk, rfl, H, xs, v, hst, hxi, hrk, hX, hnv⟩ := hrel
    have HST := Lib.hid hst
    have HXI := Lib.hid hxi
    have HRK := Lib.hid hrk
    have HXQ := Lib.hid hX
    have HNV := Lib.hid hnv
    have hgxq := hX.lt
    have HSQ := Lib.hid (HSC.out _ hst.bel)
    clear hst hxi hrk hX hnv
    by_cases hlt : k < s.rs.length
    ·have hki : (k : Int) < (s.rs.length : Int) := by omega
     have hk0 : (0 : Int) ≤ (k : Int) := by omega
     obtain ⟨bb, off', t, rfl, hbb, htt, d0, d1, d2, d3, d4⟩ := (HSQ.out.sl).ru hlt
     have HTK := Lib.hid htt
     have HTO : Hid (t.out.size ≤ 4) := (HOK.out.2.2.2.1 t (List.mem_of_getElem? htt)).2.2.1.1
     clear htt
     go_upto_region 8 with fail
     obtain ⟨gr, hgr⟩ : ∃ g, wQ.heap.size = g := ⟨_, rfl⟩
     obtain ⟨gn, hgn⟩ : ∃ g, gr + 1 = g := ⟨_, rfl⟩
     obtain ⟨X1, hX1⟩ : ∃ W, (wQ.alloc (.cells #[.int .i64 t.fr, .int .i64 t.to, .string t.inp, .string t.out, .int .i64 t.co] 61)).alloc (.cells #[.int .i64 t.to, .string t.inp] 116) = W := ⟨_, rfl⟩
     have hb1 : Below wQ.heap.size wQ X1 := by rw [← hX1]; exact nw _ (nw _ (Below.refl _ _))
     have HRX : Hid (Blk X1 gr 61 #[.int .i64 t.fr, .int .i64 t.to, .string t.inp, .string t.out, .int .i64 t.co]) := by rw [← hX1, ← hgr]; exact (Blk.new _ _ _).alloc _
     have HNX : Hid (Blk X1 gn 116 #[.int .i64 t.to, .string t.inp]) := by rw [← hX1]; exact Blk.new_ (by simp; omega)
     have HXX := Lib.hid (HXQ.out.below hb1 hgxq)
     have HSX := Lib.hid (HST.out.below hb1)
     rw [hX1, hgr, hgn]
     clear hX1 hgr hgn hb1 d0 d1 d2 d3 d4 hbb HST HXQ HSQ hgxq
     have x0 := HXX.out.cell 0
     have x1 := HXX.out.cell 1
     have x2 := HXX.out.cell 2
     have x3 := HXX.out.cell 3
     have x4 := HXX.out.cell 4
     have x5 := HXX.out.cell 5
     have x6 := HXX.out.cell 6
     have r0 := HRX.out.cell 0
     have r1 := HRX.out.cell 1
     have r2 := HRX.out.cell 2
     have r3 := HRX.out.cell 3
     have n0 := HNX.out.cell 0
     have n1 := HNX.out.cell 1
     have hgxl := HXX.out.lt
     have hgrl := HRX.out.lt
     have hgnl := HNX.out.lt
     simp at x0 x1 x2 x3 x4 x5 x6 r0 r1 r2 r3 n0 n1
     go_cut [53] (fun sb W => sb = .bool (decide (x.l = (t.fr, []))) ∧ W = X1)
     case first =>
      by_cases q1 : x.l.2 = []
      ·have h1 : (ba x.l.2).toList.isEmpty = true := by rw [q1]; exact ba_emp _
       by_cases q2 : x.l.1 = t.fr
       ·have h2 : (x.l.1 == t.fr) = true := by simpa using q2
        have HE : Hid (decide (x.l = (t.fr, [])) = true) := decide_eq_true (Prod.ext q2 q1)
        clear q1 q2
        go_wp2_with fail
        go_meet
        exact ⟨by rw [HE.out], rfl⟩
       ·have h2 : (x.l.1 == t.fr) = false := by simpa using q2
        have HE : Hid (decide (x.l = (t.fr, [])) = false) := decide_eq_false fun e => q2 (by rw [e])
        clear q1 q2
        go_wp2_with fail
        go_meet
        exact ⟨by rw [HE.out], rfl⟩
      ·have h1 : (ba x.l.2).toList.isEmpty = false := by rw [ba_emp]; simpa using q1
       have HE : Hid (decide (x.l = (t.fr, [])) = false) := decide_eq_false fun e => q1 (by rw [e])
       clear q1
       go_wp2_with fail
       go_meet
       exact ⟨by rw [HE.out], rfl⟩
     case rest =>
      obtain ⟨rfl, hwc⟩ := hcut
      subst hwc
      obtain ⟨X1, rfl⟩ : ∃ W, W = wc := ⟨wc, rfl⟩
      go_upto_if 53 with fail
      go_cut [] (fun W => ∃ (H : Hst Pl) (xs : List (St Pl)) (v : Value), StOp w gf gm gg s (some ⟨bb, off', none⟩) c H0 u v0 i W H xs v ∧ xs[i]? = some x ∧ RulesK s H u x k ∧ (x.l = (t.fr, []) → KnownAt H (stL x t) u) ∧ Blk W gx 122 #[.int .i64 x.l.1, .string (ba x.l.2), .int .i64 x.r.1, .string (ba x.r.2), .string (ba x.g.a), .string (ba x.g.b), .bool x.g.p] ∧ v.ownBlock ≠ some gx ∧ Blk W gr 61 #[.int .i64 t.fr, .int .i64 t.to, .string t.inp, .string t.out, .int .i64 t.co] ∧ Blk W gn 116 #[.int .i64 t.to, .string t.inp])
      case first =>
       cases hE : decide (x.l = (t.fr, [])) with
       | false =>
        have HNE := Lib.hid (of_decide_eq_false hE)
        clear hE
        go_wp2_with fail
        go_meet
        exact ⟨H, xs, v, HSX.out, HXI.out, HRK.out, fun h => absurd h HNE.out, HXX.out, HNV.out, HRX.out, HNX.out⟩
       | true =>
        have HEQ := Lib.hid (of_decide_eq_true hE)
        have HXT := Lib.hid (HSX.out.op.two HXI.out)
        have HLN := Lib.hid (met_len HOK.out HSX.out.op.inv)
        have HNG : Hid (gx ≠ gg ∧ gx ≠ gm) := ⟨HGX.out.2, HSX.out.sr.gmne HXX.out⟩
        clear hE
        have HWD : Hid (∀ {W : World}, Calls Tryz.prog 91 #[.agg #[.string (ba x.g.a), .string (ba x.g.b), .bool x.g.p], .string t.out, .string { data := #[] }] W fun e w' => e = .returned (.agg #[.string (ba (stL x t).g.a), .string (ba (stL x t).g.b), .bool (stL x t).g.p]) ∧ Below W.heap.size W w') := fun {W} => by
         have := gwider_any x.g (bl t.out) [] W (by have h1 := HXT.out.2; have h2 := HLN.out; have h3 := HTO.out; simp only [bl_len, List.length_nil]; omega)
         rw [ba_bl] at this
         exact this
        have HTW := Lib.hid (two_stL HXT.out.1 (List.mem_of_getElem? HTK.out) HEQ.out)
        have HSZ := Lib.hid (sz_stL (n := H.length) HXT.out.2 HTO.out)
        have HAD : Hid (∀ W, Below X1.heap.size X1 W → Calls Tryz.prog 57 #[.pointer (some ⟨gf, 0, none⟩), .pointer (some ⟨gg, 0, none⟩), .agg #[.int .i64 t.to, .string t.inp, .int .i64 x.r.1, .string (ba x.r.2), .string (ba (stL x t).g.a), .string (ba (stL x t).g.b), .bool (stL x t).g.p]] W (IsAddS gf gm gg s (some ⟨bb, off', none⟩) c H u v xs (stL x t) W)) := fun W hW => by
         have := sadd_any s _ c gf gm gg H u v xs (stL x t) W (HSX.out.sr.below hW) (HSX.out.gr.below hW) (by have := HLN.out; omega) (by have := HSX.out.op.len; have := HLN.out; omega) (HSX.out.op.inv.few _ _) (two_modes HOK.out HTW.out).1 (two_modes HOK.out HTW.out).2
         rw [show ba (stL x t).l.2 = t.inp from ba_bl _] at this
         exact this
        obtain ⟨ga, hga⟩ : ∃ b, ba (stL x t).g.a = b := ⟨_, rfl⟩
        obtain ⟨gb, hgb⟩ : ∃ b, ba (stL x t).g.b = b := ⟨_, rfl⟩
        obtain ⟨gp, hgp⟩ : ∃ b, (stL x t).g.p = b := ⟨_, rfl⟩
        rw [hga, hgb, hgp] at HWD HAD
        clear hga hgb hgp
        go_upto_region 9 with fail
        refine ordB_start (Kp3 gx gr gn X1) (.quiet 0 (.quiet 1 (.quiet 2 (.quiet 3 (.quiet 4 (.quiet 5 (.quiet 6 (.quiet 7 (.quiet 8 (.quiet 9 (.quiet 10 (.only 11 (.quiet 12 (.only 13 .done)))))))))))))) (by kernel_rfl) (by kernel_rfl) (by kernel_rfl) (fun _ _ _ _ _ h => h) (Kp3.of_below (Below.refl _ _).drew hgxl hgrl hgnl) ?_
        have hV0 : Kp3 gx gr gn X1 X1.drew := Kp3.of_below (Below.refl _ _).drew hgxl hgrl hgnl
        have hB0 : Below X1.heap.size X1 X1.drew := (Below.refl _ _).drew
        obtain ⟨V0, qqV0⟩ : ∃ W, X1.drew = W := ⟨_, rfl⟩
        rw [qqV0] at hV0 hB0 ⊢
        clear qqV0
        iterate 11 ((first | refine ordB_skip rfl rfl ?_ | (refine ordB_take (v := ?_) rfl rfl ?_ ?_; rotate_left 1; (focus (intro W hW; obtain ⟨hcA, hcB, hcC⟩ := hW.cells; (go_simp <;> with_reducible rfl))))); simp only [Act.put, zA, zB, zC])
        refine ordB_only (opB_call rfl rfl (fun K hK => ?_))
        go_simp
        go_at_call 91
        refine HWD.out.mono ?_
        rintro e V1 ⟨rfl, hbw⟩
        have hB1 := hB0.trans (hbw.mono hB0.size)
        refine hK.out _ _ (Kp3.of_below hB1 hgxl hgrl hgnl) (fun hV0_1 => ?_)
        clear hK K
        iterate 1 ((first | refine ordB_skip rfl rfl ?_ | (refine ordB_take (v := ?_) rfl rfl ?_ ?_; rotate_left 1; (focus (intro W hW; obtain ⟨hcA, hcB, hcC⟩ := hW.cells; (go_simp <;> with_reducible rfl))))); simp only [Act.put, zA, zB, zC])
        refine ordB_only (opB_call rfl rfl (fun K hK => ?_))
        go_simp
        go_at_call 57
        refine (HAD.out V1 hB1).mono ?_
        rintro e V2 ⟨rfl, v2, hS2, hG2, hbs2, hat2⟩
        have hgx2 : V2.heap[gx]? = X1.heap[gx]? := (hbs2.block gx (Nat.lt_of_lt_of_le hgxl hB1.size) (fun h => h.elim (fun e => HNG.out.1 e) (fun e => HNV.out e)) (.inr ⟨HNG.out.2, .of_blk (HXX.out.below hB1 hgxl) (by decide)⟩)).trans (hB1.block gx hgxl)
        have hgr2 : V2.heap[gr]? = X1.heap[gr]? := (hbs2.block gr (Nat.lt_of_lt_of_le hgrl hB1.size) (fun h => h.elim (fun e => blk_ne HRX.out HSX.out.gr.blk (by decide) e) (fun e => own_blk_ne HSX.out.gr.row HRX.out (by decide) e)) (.inr ⟨(HSX.out.sr.gmne HRX.out), .of_blk (HRX.out.below hB1 hgrl) (by decide)⟩)).trans (hB1.block gr hgrl)
        have hgn2 : V2.heap[gn]? = X1.heap[gn]? := (hbs2.block gn (Nat.lt_of_lt_of_le hgnl hB1.size) (fun h => h.elim (fun e => blk_ne HNX.out HSX.out.gr.blk (by decide) e) (fun e => own_blk_ne HSX.out.gr.row HNX.out (by decide) e)) (.inr ⟨(HSX.out.sr.gmne HNX.out), .of_blk (HNX.out.below hB1 hgnl) (by decide)⟩)).trans (hB1.block gn hgnl)
        refine hK.out _ _ ⟨Nat.le_trans hB1.size hbs2.size, hgx2, hgr2, hgn2⟩ (fun hV0_1_2 => ?_)
        clear hK K
        refine ordB_nil ?_
        have hst2 := HSX.out.add hB1 ⟨hS2, hG2, hbs2, hat2⟩ HTW.out HSZ.out
        have hst3 := hst2.1
        have HK2 := Lib.hid hst2.2
        have HST2 := Lib.hid hst3
        have HX2 : Hid (Blk V2 gx 122 #[.int .i64 x.l.1, .string (ba x.l.2), .int .i64 x.r.1, .string (ba x.r.2), .string (ba x.g.a), .string (ba x.g.b), .bool x.g.p]) := hgx2.trans HXX.out
        have HR2 : Hid (Blk V2 gr 61 #[.int .i64 t.fr, .int .i64 t.to, .string t.inp, .string t.out, .int .i64 t.co]) := hgr2.trans HRX.out
        have HN2 : Hid (Blk V2 gn 116 #[.int .i64 t.to, .string t.inp]) := hgn2.trans HNX.out
        have HNV2 : Hid (v2.ownBlock ≠ some gx) := fun e => by rcases hat2 with h | ⟨k, h, hk⟩ <;> rw [h] at e <;> first | exact HNV.out e | (have := Option.some.inj e; have := hB1.size; omega)
        clear hst2 hst3 hgx2 hgr2 hgn2 hS2 hG2 hbs2 hat2 hB1 hB0 hbw hV0_1_2
        go_wp2_with fail
        go_meet
        exact ⟨_, _, v2, HST2.out, addG_get HXI.out, HRK.out.mono add_sub, fun _ => HK2.out, HX2.out, HNV2.out, HR2.out, HN2.out⟩
      case rest =>
       clear HXI HRK HNV HXX HSX HRX HNX x0 x1 x2 x3 x4 x5 x6 r0 r1 r2 r3 n0 n1 hgxl hgrl hgnl
       obtain ⟨X2, rfl⟩ : ∃ W, W = wc := ⟨wc, rfl⟩
       obtain ⟨H, xs, v, hst, hxi, hrk, hkl, hx, hnv, hr, hn⟩ := hcut
       have HSX := Lib.hid hst
       have HXI := Lib.hid hxi
       have HRK := Lib.hid hrk
       have HKL := Lib.hid hkl
       have HXX := Lib.hid hx
       have HNV := Lib.hid hnv
       have HRX := Lib.hid hr
       have HNX := Lib.hid hn
       clear hst hxi hrk hkl hx hnv hr hn
       have x0 := HXX.out.cell 0
       have x1 := HXX.out.cell 1
       have x2 := HXX.out.cell 2
       have x3 := HXX.out.cell 3
       have x4 := HXX.out.cell 4
       have x5 := HXX.out.cell 5
       have x6 := HXX.out.cell 6
       have r0 := HRX.out.cell 0
       have r1 := HRX.out.cell 1
       have r2 := HRX.out.cell 2
       have r3 := HRX.out.cell 3
       have n0 := HNX.out.cell 0
       have n1 := HNX.out.cell 1
       have hgxl := HXX.out.lt
       have hgrl := HRX.out.lt
       have hgnl := HNX.out.lt
       simp at x0 x1 x2 x3 x4 x5 x6 r0 r1 r2 r3 n0 n1
       go_upto_region 10 with fail
       go_cut [81] (fun sb W => sb = .bool (decide (x.r = (t.fr, []))) ∧ W = X2)
       case first =>
        by_cases q1 : x.r.2 = []
        ·have h1 : (ba x.r.2).toList.isEmpty = true := by rw [q1]; exact ba_emp _
         by_cases q2 : x.r.1 = t.fr
         ·have h2 : (x.r.1 == t.fr) = true := by simpa using q2
          have HE : Hid (decide (x.r = (t.fr, [])) = true) := decide_eq_true (Prod.ext q2 q1)
          clear q1 q2
          go_wp2_with fail
          go_meet
          exact ⟨by rw [HE.out], rfl⟩
         ·have h2 : (x.r.1 == t.fr) = false := by simpa using q2
          have HE : Hid (decide (x.r = (t.fr, [])) = false) := decide_eq_false fun e => q2 (by rw [e])
          clear q1 q2
          go_wp2_with fail
          go_meet
          exact ⟨by rw [HE.out], rfl⟩
        ·have h1 : (ba x.r.2).toList.isEmpty = false := by rw [ba_emp]; simpa using q1
         have HE : Hid (decide (x.r = (t.fr, [])) = false) := decide_eq_false fun e => q1 (by rw [e])
         clear q1
         go_wp2_with fail
         go_meet
         exact ⟨by rw [HE.out], rfl⟩
       case rest =>
        obtain ⟨rfl, hwc⟩ := hcut
        subst hwc
        obtain ⟨X1, rfl⟩ : ∃ W, W = wc := ⟨wc, rfl⟩
        cases hE : decide (x.r = (t.fr, [])) with
        | false =>
         have HNE := Lib.hid (of_decide_eq_false hE)
         clear hE
         go_wp2_with fail
         go_roundw
         case rel => exact ⟨k + 1, by omega, by go_num, H, xs, v, HSX.out, HXI.out, HRK.out.next HTK.out HKL.out (fun h => absurd h HNE.out), HXX.out, HNV.out⟩
         case measure => simp [intOf]; omega
        | true =>
         have HEQ := Lib.hid (of_decide_eq_true hE)
         have HXT := Lib.hid (HSX.out.op.two HXI.out)
         have HLN := Lib.hid (met_len HOK.out HSX.out.op.inv)
         have HNG : Hid (gx ≠ gg ∧ gx ≠ gm) := ⟨HGX.out.2, HSX.out.sr.gmne HXX.out⟩
         clear hE
         have HWD : Hid (∀ {W : World}, Calls Tryz.prog 91 #[.agg #[.string (ba x.g.a), .string (ba x.g.b), .bool x.g.p], .string { data := #[] }, .string t.out] W fun e w' => e = .returned (.agg #[.string (ba (stR x t).g.a), .string (ba (stR x t).g.b), .bool (stR x t).g.p]) ∧ Below W.heap.size W w') := fun {W} => by
          have := gwider_any x.g [] (bl t.out) W (by have h1 := HXT.out.2; have h2 := HLN.out; have h3 := HTO.out; simp only [bl_len, List.length_nil]; omega)
          rw [ba_bl] at this
          exact this
         have HTW := Lib.hid (two_stR HXT.out.1 (List.mem_of_getElem? HTK.out) HEQ.out)
         have HSZ := Lib.hid (sz_stR (n := H.length) HXT.out.2 HTO.out)
         have HAD : Hid (∀ W, Below X1.heap.size X1 W → Calls Tryz.prog 57 #[.pointer (some ⟨gf, 0, none⟩), .pointer (some ⟨gg, 0, none⟩), .agg #[.int .i64 x.l.1, .string (ba x.l.2), .int .i64 t.to, .string t.inp, .string (ba (stR x t).g.a), .string (ba (stR x t).g.b), .bool (stR x t).g.p]] W (IsAddS gf gm gg s (some ⟨bb, off', none⟩) c H u v xs (stR x t) W)) := fun W hW => by
          have := sadd_any s _ c gf gm gg H u v xs (stR x t) W (HSX.out.sr.below hW) (HSX.out.gr.below hW) (by have := HLN.out; omega) (by have := HSX.out.op.len; have := HLN.out; omega) (HSX.out.op.inv.few _ _) (two_modes HOK.out HTW.out).1 (two_modes HOK.out HTW.out).2
          rw [show ba (stR x t).r.2 = t.inp from ba_bl _] at this
          exact this
         obtain ⟨ga, hga⟩ : ∃ b, ba (stR x t).g.a = b := ⟨_, rfl⟩
         obtain ⟨gb, hgb⟩ : ∃ b, ba (stR x t).g.b = b := ⟨_, rfl⟩
         obtain ⟨gp, hgp⟩ : ∃ b, (stR x t).g.p = b := ⟨_, rfl⟩
         rw [hga, hgb, hgp] at HWD HAD
         clear hga hgb hgp
         go_upto_region 11 with fail
         refine ordB_start (Kp3 gx gr gn X1) (.quiet 0 (.quiet 1 (.quiet 2 (.quiet 3 (.quiet 4 (.quiet 5 (.quiet 6 (.quiet 7 (.quiet 8 (.quiet 9 (.quiet 10 (.only 11 (.quiet 12 (.only 13 .done)))))))))))))) (by kernel_rfl) (by kernel_rfl) (by kernel_rfl) (fun _ _ _ _ _ h => h) (Kp3.of_below (Below.refl _ _).drew hgxl hgrl hgnl) ?_
         have hV0 : Kp3 gx gr gn X1 X1.drew := Kp3.of_below (Below.refl _ _).drew hgxl hgrl hgnl
         have hB0 : Below X1.heap.size X1 X1.drew := (Below.refl _ _).drew
         obtain ⟨V0, qqV0⟩ : ∃ W, X1.drew = W := ⟨_, rfl⟩
         rw [qqV0] at hV0 hB0 ⊢
         clear qqV0
         iterate 11 ((first | refine ordB_skip rfl rfl ?_ | (refine ordB_take (v := ?_) rfl rfl ?_ ?_; rotate_left 1; (focus (intro W hW; obtain ⟨hcA, hcB, hcC⟩ := hW.cells; (go_simp <;> with_reducible rfl))))); simp only [Act.put, zA, zB, zC])
         refine ordB_only (opB_call rfl rfl (fun K hK => ?_))
         go_simp
         go_at_call 91
         refine HWD.out.mono ?_
         rintro e V1 ⟨rfl, hbw⟩
         have hB1 := hB0.trans (hbw.mono hB0.size)
         refine hK.out _ _ (Kp3.of_below hB1 hgxl hgrl hgnl) (fun hV0_1 => ?_)
         clear hK K
         iterate 1 ((first | refine ordB_skip rfl rfl ?_ | (refine ordB_take (v := ?_) rfl rfl ?_ ?_; rotate_left 1; (focus (intro W hW; obtain ⟨hcA, hcB, hcC⟩ := hW.cells; (go_simp <;> with_reducible rfl))))); simp only [Act.put, zA, zB, zC])
         refine ordB_only (opB_call rfl rfl (fun K hK => ?_))
         go_simp
         go_at_call 57
         refine (HAD.out V1 hB1).mono ?_
         rintro e V2 ⟨rfl, v2, hS2, hG2, hbs2, hat2⟩
         have hgx2 : V2.heap[gx]? = X1.heap[gx]? := (hbs2.block gx (Nat.lt_of_lt_of_le hgxl hB1.size) (fun h => h.elim (fun e => HNG.out.1 e) (fun e => HNV.out e)) (.inr ⟨HNG.out.2, .of_blk (HXX.out.below hB1 hgxl) (by decide)⟩)).trans (hB1.block gx hgxl)
         have hgr2 : V2.heap[gr]? = X1.heap[gr]? := (hbs2.block gr (Nat.lt_of_lt_of_le hgrl hB1.size) (fun h => h.elim (fun e => blk_ne HRX.out HSX.out.gr.blk (by decide) e) (fun e => own_blk_ne HSX.out.gr.row HRX.out (by decide) e)) (.inr ⟨(HSX.out.sr.gmne HRX.out), .of_blk (HRX.out.below hB1 hgrl) (by decide)⟩)).trans (hB1.block gr hgrl)
         have hgn2 : V2.heap[gn]? = X1.heap[gn]? := (hbs2.block gn (Nat.lt_of_lt_of_le hgnl hB1.size) (fun h => h.elim (fun e => blk_ne HNX.out HSX.out.gr.blk (by decide) e) (fun e => own_blk_ne HSX.out.gr.row HNX.out (by decide) e)) (.inr ⟨(HSX.out.sr.gmne HNX.out), .of_blk (HNX.out.below hB1 hgnl) (by decide)⟩)).trans (hB1.block gn hgnl)
         refine hK.out _ _ ⟨Nat.le_trans hB1.size hbs2.size, hgx2, hgr2, hgn2⟩ (fun hV0_1_2 => ?_)
         clear hK K
         refine ordB_nil ?_
         have hst2 := HSX.out.add hB1 ⟨hS2, hG2, hbs2, hat2⟩ HTW.out HSZ.out
         have hst3 := hst2.1
         have HK2 := Lib.hid hst2.2
         have HST2 := Lib.hid hst3
         have HX2 : Hid (Blk V2 gx 122 #[.int .i64 x.l.1, .string (ba x.l.2), .int .i64 x.r.1, .string (ba x.r.2), .string (ba x.g.a), .string (ba x.g.b), .bool x.g.p]) := hgx2.trans HXX.out
         have HR2 : Hid (Blk V2 gr 61 #[.int .i64 t.fr, .int .i64 t.to, .string t.inp, .string t.out, .int .i64 t.co]) := hgr2.trans HRX.out
         have HN2 : Hid (Blk V2 gn 116 #[.int .i64 t.to, .string t.inp]) := hgn2.trans HNX.out
         have HNV2 : Hid (v2.ownBlock ≠ some gx) := fun e => by rcases hat2 with h | ⟨k, h, hk⟩ <;> rw [h] at e <;> first | exact HNV.out e | (have := Option.some.inj e; have := hB1.size; omega)
         clear hst2 hst3 hgx2 hgr2 hgn2 hS2 hG2 hbs2 hat2 hB1 hB0 hbw hV0_1_2
         go_wp2_with fail
         go_roundw
         case rel => exact ⟨k + 1, by omega, by go_num, _, _, v2, HST2.out, addG_get HXI.out, (HRK.out.mono add_sub).next HTK.out (fun h => (HKL.out h).mono add_sub) (fun _ => HK2.out), HX2.out, HNV2.out⟩
         case measure => simp [intOf]; omega
    ·obtain rfl : k = s.rs.length := by omega
     have hki : ¬ ((s.rs.length : Nat) : Int) < (s.rs.length : Int) := by omega
     go_wp2_with fail
     go_roundw
     case rel => exact ⟨i + 1, by have h1 := met_len HOK.out HST.out.op.inv; have h2 := HST.out.op.len; have h3 := (List.getElem?_eq_some_iff.1 HXI.out).1; omega, by go_num, H, xs, v, HST.out.sr, HST.out.gr, HST.out.op.next HXI.out HRK.out, HST.out.bel, HST.out.own⟩
     case measure => simp [intOf]; omega
  ·have hii : ¬ (i : Int) < (xs.length : Int) := by omega
   go_wp2_with fail
   go_end0
   exact ⟨rfl, i, H, xs, _, HST.out, by omega⟩
end Go.Proofs.YtfpnhgahkjglgaaGreat
