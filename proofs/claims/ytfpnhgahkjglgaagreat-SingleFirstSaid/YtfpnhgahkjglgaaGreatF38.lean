/-
  The walk of package single: the first input with two outputs.
-/
import Derived.Test.YtfpnhgahkjglgaaGreatF37
import Derived.Test.YtfpnhgahkjglgaaGreatF24
import Derived.WalkMore
set_option maxRecDepth 100000
namespace Go.Proofs.YtfpnhgahkjglgaaGreat
open Go Go.RowKit Go.Maps
structure Mg8 where
 g : Nat
 u : List UInt8
 v : Value
 xs : List (St Pl)
def encG8 (m : Mg8) : List Value := [.pointer (some ⟨m.g, 0, none⟩)]
def RG8 (_ : World) (m : Mg8) (vs : List Value) : Prop := vs = encG8 m
structure LvS (w0 : World) (gf gm : Nat) (s : Sc) (A : Option Addr) (c n : Nat) (W : World) (H : Hst Pl) (lv lg : List Mg8) (v8 v9 : Value) (i cc : Nat) : Prop where
 sr : SrI W gf gm s A c H
 lev : LevI (schA s) H n (lv.map (·.u)) (lg.map (·.u)) i cc
 sz : SzH H
 grs : ∀ m, m ∈ lv ∨ m ∈ lg → GrI W gm m.g m.u m.v m.xs ∧ (∀ x, x ∈ m.xs ↔ (x, m.u) ∈ H) ∧ m.xs.length ≤ H.length
 ne : ∀ m ∈ lg, ∃ x, (x, m.u) ∈ H
 r8 : W.ownsRow (gm + 1) 110 1 v8 lv.length (lv.flatMap encG8)
 r9 : W.ownsRow (gm + 1) 110 1 v9 lg.length (lg.flatMap encG8)
 apart : ∀ k, v9.ownBlock = some k → v8.ownBlock ≠ some k
 bel : Below gm w0 W
section
variable {w0 W W2 : World} {gf gm c n i cc : Nat} {s : Sc} {A : Option Addr} {H : Hst Pl} {lv lg : List Mg8} {v8 v9 : Value}
theorem LvS.few (h : LvS w0 gf gm s A c n W H lv lg v8 v9 i cc) : lg.length ≤ H.length := by
 have h1 : (lg.map (·.u)).Nodup := h.lev.lgs.imp fun {a b} hab e => by rw [e] at hab; omega
 have := nodup_le (m := H.map (·.2)) h1 fun u hu => by
  obtain ⟨m, hm, rfl⟩ := List.mem_map.1 hu
  obtain ⟨x, hx⟩ := h.ne m hm
  exact List.mem_map.2 ⟨_, hx, rfl⟩
 simpa using this
theorem LvS.row (h : LvS w0 gf gm s A c n W H lv lg v8 v9 i 123) (hL : SmallA (schA s)) : LvS w0 gf gm s A c n W H lv lg v8 v9 (i + 1) 97 := { h with lev := h.lev.row hL }
theorem LvS.level (h : LvS w0 gf gm s A c n W H lv lg v8 v9 lv.length 97) (hL : SmallA (schA s)) : LvS w0 gf gm s A c (n + 1) W H lg [] v9 (.slice none 0 0) 0 97 :=
 { h with
  lev := (show LevI (schA s) H n (lv.map (·.u)) (lg.map (·.u)) (lv.map (·.u)).length 97 by rw [List.length_map]; exact h.lev).level hL
  grs := fun m hm => hm.elim (fun hm => h.grs m (.inr hm)) (fun hm => (nomatch hm))
  ne := fun _ hm => (nomatch hm)
  r8 := h.r9
  r9 := own_nil _ _ _ _
  apart := fun _ hk => (by cases hk) }
theorem LvS.below (h : LvS w0 gf gm s A c n W H lv lg v8 v9 i cc) (hb : Below W.heap.size W W2) : LvS w0 gf gm s A c n W2 H lv lg v8 v9 i cc :=
 { h with
  sr := h.sr.below hb
  grs := fun m hm => ⟨(h.grs m hm).1.below hb, (h.grs m hm).2⟩
  r8 := own_below h.r8 hb
  r9 := own_below h.r9 hb
  bel := h.bel.trans (hb.mono (by have := h.sr.lt; have := h.sr.blk.lt; omega)) }
theorem LvS.after (h : LvS w0 gf gm s A c n W H lv lg v8 v9 i cc) {m : Mg8} (hi : lv[i]? = some m) {cu : UInt8} (hcu : cu.toNat = cc) {H2 : Hst Pl} (hS : SrI W2 gf gm s A c H2) (hb : BelS gm (fun _ => False) W.heap.size W W2) (hO : OpP s H H2 (m.u ++ [cu]))
 (ht : ∀ x, (x, m.u) ∈ H → ∀ y, SucT (schA s) cu x y → KnownAt H2 y (m.u ++ [cu])) (ho : ∀ x, (x, m.u ++ [cu]) ∈ H2 → ∀ y, SucO (schA s) x y → KnownAt H2 y (m.u ++ [cu])) (hno : ∀ x, (x, m.u ++ [cu]) ∈ H2 → ends (schA s) x = false) (he : ∀ x, (x, m.u ++ [cu]) ∉ H2) : LvS w0 gf gm s A c n W2 H2 lv lg v8 v9 i (cc + 1) := by
 have hgm : gm < W.heap.size := by have := h.sr.lt; have := h.sr.blk.lt; omega
 have hi2 : (lv.map (·.u))[i]? = some m.u := by rw [List.getElem?_map, hi]; rfl
 have hmem : ∀ x v, (x, v) ∈ H2 ↔ (x, v) ∈ H := fun x v => ⟨fun hx => (hO.new x v hx).elim id fun e => by subst e; exact absurd hx (he x), fun hx => hO.sub _ hx⟩
 refine ⟨hS, h.lev.next hi2 hcu hO.inv hO.sub hO.new ht ho hno (.inl ⟨rfl, he⟩), hO.sz, fun k hk => ?_, fun k hk => ?_, ?_, ?_, h.apart, h.bel.trans (hb.below (by omega) (Nat.le_refl _) fun _ _ h => h)⟩
 ·obtain ⟨h1, h2, h3⟩ := h.grs k hk
  exact ⟨h1.belS hb h1.blk.lt id fun g hg => ⟨(h1.row.lt g hg).2, id⟩, fun x => (h2 x).trans (hmem x _).symm, Nat.le_trans h3 (sub_len hO.inv.nodup h.lev.nodup hO.sub)⟩
 ·obtain ⟨x, hx⟩ := h.ne k hk
  exact ⟨x, hO.sub _ hx⟩
 ·exact hb.own h.r8 (by decide) fun g hg => ⟨(h.r8.lt g hg).2, id, by have := own_block_le h.r8 g hg; omega⟩
 ·exact hb.own h.r9 (by decide) fun g hg => ⟨(h.r9.lt g hg).2, id, by have := own_block_le h.r9 g hg; omega⟩
theorem LvS.more (h : LvS w0 gf gm s A c n W H lv lg v8 v9 i cc) {m : Mg8} (hi : lv[i]? = some m) {cu : UInt8} (hcu : cu.toNat = cc) {H2 : Hst Pl} {m2 : Mg8} (hu : m2.u = m.u ++ [cu]) (hS : SrI W2 gf gm s A c H2) (hG : GrI W2 gm m2.g m2.u m2.v m2.xs) (hb : BelS gm (fun _ => False) W.heap.size W W2) (hO : OpP s H H2 (m.u ++ [cu]))
 (hm : ∀ x, x ∈ m2.xs ↔ (x, m.u ++ [cu]) ∈ H2) (hl : m2.xs.length ≤ H2.length) (ht : ∀ x, (x, m.u) ∈ H → ∀ y, SucT (schA s) cu x y → KnownAt H2 y (m.u ++ [cu])) (ho : ∀ x, (x, m.u ++ [cu]) ∈ H2 → ∀ y, SucO (schA s) x y → KnownAt H2 y (m.u ++ [cu]))
 (hno : ∀ x, (x, m.u ++ [cu]) ∈ H2 → ends (schA s) x = false) (hx : m2.xs ≠ []) {W3 W4 : World} {v9' : Value} (hb3 : Below W2.heap.size W2 W3) (hown : W4.ownsRow (gm + 1) 110 1 v9' (lg.length + 1) ((lg ++ [m2]).flatMap encG8)) (ha : Apps W3 W4 v9 v9') (hb4 : Below (gm + 1) W3 W4) : LvS w0 gf gm s A c n W4 H2 lv (lg ++ [m2]) v8 v9' i (cc + 1) := by
 have hgm : gm < W.heap.size := by have := h.sr.lt; have := h.sr.blk.lt; omega
 have hi2 : (lv.map (·.u))[i]? = some m.u := by rw [List.getElem?_map, hi]; rfl
 have hmem : ∀ k, (k ∈ lv ∨ k ∈ lg) → k.u ≠ m.u ++ [cu] := fun k hk e => by
  have hup := h.lev.before hi2 hcu
  rcases hk with hk | hk
  ·have h1 := h.lev.lvl k.u (List.mem_map.2 ⟨k, hk, rfl⟩)
   have h2 := h.lev.lvl m.u (List.mem_map.2 ⟨m, List.mem_of_getElem? hi, rfl⟩)
   rw [e, List.length_append, List.length_singleton] at h1
   omega
  ·have := hup k.u (List.mem_map.2 ⟨k, hk, rfl⟩)
   rw [e] at this
   omega
 have hmem2 : ∀ x v, v ≠ m.u ++ [cu] → ((x, v) ∈ H2 ↔ (x, v) ∈ H) := fun x v hv => ⟨fun hx => (hO.new x v hx).elim id fun e => absurd e hv, fun hx => hO.sub _ hx⟩
 have r8' := hb.own h.r8 (by decide) fun g hg => ⟨(h.r8.lt g hg).2, id, by have := own_block_le h.r8 g hg; omega⟩
 have r9' := hb.own h.r9 (by decide) fun g hg => ⟨(h.r9.lt g hg).2, id, by have := own_block_le h.r9 g hg; omega⟩
 have r8'' := own_below r8' hb3
 have r9'' := own_below r9' hb3
 have hS3 := hS.below hb3
 have kgr : ∀ {g : Nat} {u : List UInt8} {v : Value} {xs : List (St Pl)}, GrI W2 gm g u v xs → GrI W4 gm g u v xs := fun {g u v xs} hg => by
  have hg3 := hg.below hb3
  exact ⟨hg3.blk.apps ha (own_blk_ne r9'' hg3.blk (by decide)), own_apps hg3.row r9'' (by decide) ha, hg.lt⟩
 refine ⟨hS3.keepX (X := fun k => v9.ownBlock = some k) (fun k hk => ⟨fun e => own_blk_ne r9'' hS3.blk (by decide) (by rw [← e]; exact hk), by have := own_block_le r9'' k hk; omega, .of_own r9'' (by decide) hk⟩) (fun k hk hx => ha.keep k hk hx), ?_, hO.sz, fun k hk => ?_, fun k hk => ?_, ?_, by rw [List.length_append]; exact hown, fun k hk e => ?_, ?_⟩
 ·have := h.lev.next (lg' := lg.map (·.u) ++ [m.u ++ [cu]]) hi2 hcu hO.inv hO.sub hO.new ht ho hno (.inr rfl)
  rw [List.map_append, List.map_singleton, hu]
  exact this
 ·have hk2 : (k ∈ lv ∨ k ∈ lg) ∨ k = m2 := by
   rcases hk with hk | hk
   ·exact .inl (.inl hk)
   ·rcases List.mem_append.1 hk with hk | hk
    ·exact .inl (.inr hk)
    ·exact .inr (List.mem_singleton.1 hk)
  rcases hk2 with hk2 | rfl
  ·obtain ⟨h1, h2, h3⟩ := h.grs k hk2
   exact ⟨kgr (h1.belS hb h1.blk.lt id fun g hg => ⟨(h1.row.lt g hg).2, id⟩), fun x => (h2 x).trans (hmem2 x _ (hmem k hk2)).symm, Nat.le_trans h3 (sub_len hO.inv.nodup h.lev.nodup hO.sub)⟩
  ·exact ⟨kgr hG, fun x => by rw [hu]; exact hm x, hl⟩
 ·rcases List.mem_append.1 hk with hk | hk
  ·obtain ⟨x, hx⟩ := h.ne k hk
   exact ⟨x, hO.sub _ hx⟩
  ·obtain rfl := List.mem_singleton.1 hk
   obtain ⟨x, xs', hxs⟩ := List.exists_cons_of_ne_nil hx
   exact ⟨x, by rw [hu]; exact (hm x).1 (by rw [hxs]; exact List.mem_cons_self)⟩
 ·exact own_keep r8'' fun g hg hlt => ha.keep g hlt fun e => h.apart g e hg
 ·rcases ha.at_ with e2 | ⟨j, e2, hj⟩
  ·exact h.apart k (by rw [← e2]; exact hk) e
  ·rw [e2] at hk
   have := Option.some.inj hk
   have h5 := (h.r8.lt k e).2
   have h6 := hb.size
   have h7 := hb3.size
   omega
 ·exact ((h.bel.trans (hb.below (by omega) (Nat.le_refl _) fun _ _ h => h)).trans (hb3.mono (by have := hb.size; omega))).trans (hb4.mono (by omega))
theorem LvS.new (h : LvS w0 gf gm s A c n W H lv lg v8 v9 i cc) {m : Mg8} (hi : lv[i]? = some m) {cu : UInt8} (hcu : cu.toNat = cc) : HInv (schA s) H (m.u ++ [cu]) ∧ (∀ x, (x, m.u ++ [cu]) ∉ H) ∧ m.u.length = n := by
 have hi2 : (lv.map (·.u))[i]? = some m.u := by rw [List.getElem?_map, hi]; rfl
 have hl := h.lev.lvl m.u (List.mem_map.2 ⟨m, List.mem_of_getElem? hi, rfl⟩)
 refine ⟨h.lev.upto hi2 hcu, fun x hx => ?_, hl⟩
 have hup := h.lev.before hi2 hcu
 rcases h.lev.at_ x _ hx with h1 | h1 | h1
 ·rw [List.length_append, List.length_singleton] at h1; omega
 ·have := h.lev.lvl _ h1
  rw [List.length_append, List.length_singleton] at this
  omega
 ·have := hup _ h1
  omega
end
theorem SlR.g8 {w : World} {A : Option Addr} {k : Nat} {xs : List Mg8} (h : SlR 1 RG8 w A xs) (hk : k < xs.length) : ∃ b off m, A = some ⟨b, off, none⟩ ∧ b < w.heap.size ∧ xs[k]? = some m ∧ w.cell? ⟨b, off + k, none⟩ = some (.pointer (some ⟨m.g, 0, none⟩)) := by
 obtain ⟨b, off, x, vs, hA, hb, hx, rfl, _, hc⟩ := h.at_ hk
 refine ⟨b, off, x, hA, hb, hx, ?_⟩
 have := hc 0 _ rfl
 simpa using this
def IsFirstR (s : Sc) (w : World) (e : Ending) (w' : World) : Prop := ∃ o : Option (List UInt8), e = .returned (.tuple #[.string (ba (o.getD [])), .bool o.isSome]) ∧ FirstTo s o ∧ Below w.heap.size w w'
def x0S : St Pl := ⟨(0, []), (0, []), Gp.none_⟩
theorem start_inv (s : Sc) : HInv (schA s) (addH [] [] x0S) [] ∧ addH [] [] x0S = [(x0S, [])] ∧ SzH (addH [] [] x0S) := by
 have h0 : HInv (schA s) ([] : Hst Pl) [] := ⟨fun _ _ h => (nomatch h), fun _ _ h => (nomatch h), List.Pairwise.nil, fun _ _ => by simp [gapsAt]⟩
 exact ⟨(h0.add (x := x0S) ⟨[], [], .start, .start, rfl⟩).1, rfl, SzH.nil.add (by decide)⟩
theorem start_lev {s : Sc} {H0 H : Hst Pl} {i : Nat} {xs : List (St Pl)} (hok : ScOK s) (h0 : H0 = [(x0S, [])]) (hO : OpI s H0 H [] xs i) (hi : xs.length ≤ i) (hno : xs.any (ends (schA s)) = false) : LevI (schA s) H 0 [[]] [] 0 97 := by
 have hL : SmallA (schA s) := small_sch (scOK_small hok)
 have hv : ∀ x v, (x, v) ∈ H → v = [] := fun x v hx => by
  rcases hO.new x v hx with h | h
  ·rw [h0] at h; exact (Prod.mk.inj (List.mem_singleton.1 h)).2
  ·exact h
 refine ⟨hO.inv.two, hO.inv.nodup, hO.inv.few, List.pairwise_singleton _ _, fun v hv => by rw [List.mem_singleton.1 hv]; rfl, fun _ h => (nomatch h), List.Pairwise.nil, fun _ h => (nomatch h), fun x v hx => .inr (.inl (by rw [hv x v hx]; exact List.mem_singleton.2 rfl)), hO.sub _ (by rw [h0]; exact List.mem_singleton.2 rfl), fun x v hx y hy => ?_, fun x v hx d y hy hc => ?_, fun x v hx => ?_⟩
 ·have e := hv x v hx
  subst e
  exact hO.all hi x hx y hy
 ·exfalso
  have h2 := (sucT_letter hL (hO.inv.two x v hx) hy).1
  rcases hc with h | ⟨j, _, h | ⟨_, h⟩⟩ <;> omega
 ·have e := hv x v hx
  subst e
  have := List.any_eq_false.1 hno x ((hO.mem x).2 hx)
  simpa using this
theorem lv_modes {s : Sc} (hok : ScOK s) {H : Hst Pl} {u cur : List UInt8} {xs : List (St Pl)} (h : HInv (schA s) H cur) (hm : ∀ x, x ∈ xs ↔ (x, u) ∈ H) : ∀ x ∈ xs, (0 ≤ x.l.1 ∧ x.l.1 < 8) ∧ 0 ≤ x.r.1 ∧ x.r.1 < 8 := fun x hx => by
 have := two_modes hok (h.two x u ((hm x).1 hx))
 exact ⟨⟨this.1.1, this.1.2.1⟩, this.2.1, this.2.2.1⟩
theorem first_nil {s : Sc} {H : Hst Pl} {xs : List (St Pl)} {cur : List UInt8} (h : HInv (schA s) H cur) (hm : ∀ x, x ∈ xs ↔ (x, []) ∈ H) (hq : xs.any (ends (schA s)) = true) : FirstTo s (some []) := by
 obtain ⟨x, hx, he⟩ := List.any_eq_true.1 hq
 exact ⟨⟨ends_twice (h.two x [] ((hm x).1 hx)) he, fun V hV => by have : code ([] : List UInt8) = 0 := rfl; omega⟩, Nat.zero_le _⟩
theorem siPtInfo : (Tryz.prog.info? 110).map (fun i => (i.zero, i.size, i.bytes)) = some (some (.pointer none), 1, 8) := by kernel_rfl
set_option maxHeartbeats 16000000 in
theorem sfirst_any (s : Sc) (A : Option Addr) (c : Nat) (w : World) (hs : ScIn w s A c) (hok : ScOK s) : Calls Tryz.prog 27 #[.agg #[.int .i64 s.n, .int .u8 s.acc, .slice A s.rs.length c]] w (IsFirstR s w) := by
 obtain ⟨i0, hinf, hz0, hz1, hz2⟩ := info_partsR siPtInfo
 obtain ⟨w1, hw1⟩ : ∃ w1, w.alloc (.cells #[.int .i64 s.n, .int .u8 s.acc, .slice A s.rs.length c] 30) = w1 := ⟨_, rfl⟩
 obtain ⟨gs, hgs⟩ : ∃ g, w.heap.size = g := ⟨_, rfl⟩
 have hb1 : Below w.heap.size w w1 := by rw [← hw1]; exact nw _ (Below.refl _ _)
 have hB : Blk w1 gs 30 #[.int .i64 s.n, .int .u8 s.acc, .slice A s.rs.length c] := by rw [← hw1, ← hgs]; exact Blk.new _ _ _
 have HSC := Lib.hid (hs.below hb1)
 have HOK := Lib.hid hok
 have HL := Lib.hid (small_sch (scOK_small hok))
 have HAC := Lib.hid hs.acc
 have HW1 := Lib.hid hw1
 have HB1 := Lib.hid hb1
 have HGS := Lib.hid hgs
 have b0 := hB.cell 0
 have b1 := hB.cell 1
 have b2 := hB.cell 2
 have bl := hB.lt
 simp at b0 b1 b2
 have hmm := @run_makeMap Tryz.prog
 clear hw1 hb1 hs hok hgs hB
 go_enter Tryz.func27, Tryz.ntmps27
 go_upto_region 1 with fail
 rw [HW1.out, HGS.out]
 go_step3
 go_upto_region 3 with fail
 obtain ⟨gm, hgm⟩ : ∃ x, w1.heap.size = x := ⟨_, rfl⟩
 obtain ⟨gf, hgf⟩ : ∃ x, gm + 1 = x := ⟨_, rfl⟩
 obtain ⟨g0, hg0⟩ : ∃ x, gf + 1 = x := ⟨_, rfl⟩
 obtain ⟨w4, hw4⟩ : ∃ W, ((w1.alloc (.map #[] 0)).alloc (.cells #[.int .i64 s.n, .int .u8 s.acc, .slice A s.rs.length c, .map (some gm)] 109)).alloc (.cells #[.string { data := #[] }, .slice none 0 0] 113) = W := ⟨_, rfl⟩
 have hb4 : Below w1.heap.size w1 w4 := by rw [← hw4]; exact nw _ (nw _ (nw _ (Below.refl _ _)))
 have hM4 : GpM w4 gm 0 (gm + 1) (fun _ => .slice none 0 0) (fun _ => []) (.map []) := by
  have h1 : GpM (w1.alloc (.map #[] 0)) gm 0 (gm + 1) (fun _ => .slice none 0 0) (fun _ => []) (.map []) := by
   rw [← hgm]
   exact GpM.made (Nat.lt_succ_self _)
  rw [← hw4]
  exact h1.bel (nw _ (nw _ (Below.refl _ _)))
 have hS4 : SrI w4 gf gm s A c [] := ⟨by rw [← hw4]; exact (Blk.new_ (by simp; omega)).alloc _, ⟨0, _, _, Nat.le_refl _, hM4⟩, by omega⟩
 have hG4 : GrI w4 gm g0 [] (.slice none 0 0) [] := ⟨by rw [← hw4]; exact Blk.new_ (by simp; omega), own_nil _ _ _ _, by omega⟩
 have HADD : Hid (Calls Tryz.prog 57 #[.pointer (some ⟨gf, 0, none⟩), .pointer (some ⟨g0, 0, none⟩), .agg #[.int .i64 0, .string { data := #[] }, .int .i64 0, .string { data := #[] }, .string { data := #[] }, .string { data := #[] }, .bool false]] w4 (IsAddS gf gm g0 s A c [] [] (.slice none 0 0) [] x0S w4)) :=
  sadd_any s A c gf gm g0 [] [] (.slice none 0 0) [] x0S w4 hS4 hG4 (Nat.zero_le _) (Nat.zero_le _) (Nat.zero_le _) ⟨Int.le_refl _, by decide, Nat.zero_le _⟩ ⟨Int.le_refl _, by decide, Nat.zero_le _⟩
 have HB4 : Hid (Below gm w1 w4) := hb4.mono (by omega)
 have HGM : Hid (w1.heap.size = gm) := hgm
 have HLT : Hid (gm < gf ∧ gf < g0 ∧ g0 < w4.heap.size) := ⟨by omega, by omega, hG4.blk.lt⟩
 simp only [hgm, hgf, hg0]
 rw [hw4]
 clear hw4 hgm hgf hg0 hb4 hM4 hS4 hG4 hmm b0 b1 b2 bl
 go_upto_region 4 with (go_at_call 57; go_loud (refine HADD.out.mono ?_; rintro e W5 ⟨rfl, v5, hS5, hG5, hbs5, hat5⟩; have HS5 := Lib.hid hS5; have HG5 := Lib.hid hG5; have HBS5 := Lib.hid hbs5; have HAT5 := Lib.hid hat5; clear hS5 hG5 hbs5 hat5))
 obtain ⟨hI0, hH0, hZ0⟩ := start_inv s
 obtain ⟨H1, hH1⟩ : ∃ H, addH [] [] x0S = H := ⟨_, rfl⟩
 have HG5' : Hid (GrI W5 gm g0 [] v5 [x0S]) := HG5.out
 have hSR5 := HS5.out
 rw [hH1] at hI0 hH0 hZ0 hSR5
 have HOI : Hid (OpI s H1 H1 [] [x0S] 0) := OpI.start hI0 hZ0 (fun x => by rw [hH0]; simp) (by rw [hH0]; exact Nat.le_refl _)
 have HBW5 : Hid (Below gm w1 W5) := HB4.out.trans (HBS5.out.below (by have := HLT.out; omega) (Nat.le_refl _) fun k hk hx => by
  rcases hx with rfl | e
  ·have := HLT.out; omega
  ·cases e)
 have HOPN := Lib.hid (sopen_any w1 s A c gf gm g0 H1 [] v5 [x0S] W5 HSC.out HOK.out (Nat.le_of_eq HGM.out) HBW5.out hSR5 HG5'.out HOI.out)
 have HH0 := Lib.hid hH0
 clear hI0 hH0 hZ0 hSR5 hH1 HS5 HG5 HBS5
 go_upto_region 5 with (go_at_call 58; go_loud (refine HOPN.out.mono ?_; rintro e W6 ⟨rfl, i, H, xs, v, hst, hi⟩; have HST := Lib.hid hst; have HXI := Lib.hid hi; clear hst hi))
 have HBW6 : Hid (Below gm w1 W6) := HBW5.out.trans (HST.out.bel.below (by have := HBW5.out.size; have := HLT.out; have := HGM.out; have := HG5'.out.blk.lt; omega) (Nat.le_refl _) fun k hk hx => by
  rcases hx with rfl | e
  ·have := HLT.out; omega
  ·have := own_block_le HG5'.out.row k e; omega)
 have HTW := Lib.hid (stwice_any s A c gf gm g0 [] v xs W6 HST.out.sr.blk HST.out.gr (by have h1 := HST.out.op.len; have h2 := met_len HOK.out HST.out.op.inv; omega) HAC.out (lv_modes HOK.out HST.out.op.inv HST.out.op.mem))
 obtain ⟨q, hq⟩ : ∃ q, xs.any (ends (schA s)) = q := ⟨_, rfl⟩
 rw [hq] at HTW
 have HQ := Lib.hid hq
 clear hq
 cases q with
 | true =>
  have HF : Hid (FirstTo s (some [])) := first_nil HST.out.op.inv HST.out.op.mem HQ.out
  go_wp2_with (go_at_call 59; go_loud (refine HTW.out.mono ?_; rintro e W7 ⟨rfl, hb7⟩))
  rw [Exit.noGoto_ret]
  go_ret2
  exact ⟨some [], rfl, HF.out, bthen HB1.out ((HBW6.out.trans (hb7.mono (by have := HBW6.out.size; have := HGM.out; have := HB1.out.size; have := HST.out.gr.lt; have := HST.out.gr.blk.lt; omega))).mono (by have := HGM.out; omega))⟩
 | false =>
  go_wp2_with (go_at_call 59; go_loud (refine HTW.out.mono ?_; rintro e W7 ⟨rfl, hb7⟩))
  obtain ⟨w8, hw8⟩ : ∃ W, W7.alloc (.cells #[.pointer (some ⟨g0, 0, none⟩)] 110) = W := ⟨_, rfl⟩
  have hb8 : Below W6.heap.size W6 w8 := by rw [← hw8]; exact hb7.alloc hb7.size _
  have HLV : Hid (LvS w1 gf gm s A c 0 w8 H [⟨g0, [], v, xs⟩] [] (.slice (some ⟨W7.heap.size, 0, none⟩) 1 1) (.slice none 0 0) 0 97) := by
   refine ⟨HST.out.sr.below hb8, start_lev HOK.out HH0.out HST.out.op HXI.out HQ.out, HST.out.op.sz, fun m hm => ?_, fun _ h => (nomatch h), ?_, own_nil _ _ _ _, fun _ h => (by cases h), HBW6.out.trans (hb8.mono ?_)⟩
   ·rcases hm with hm | hm
    ·obtain rfl := List.mem_singleton.1 hm
     exact ⟨HST.out.gr.below hb8, HST.out.op.mem, HST.out.op.len⟩
    ·cases hm
   ·rw [← hw8]
    have h1 := hb7.size
    have h2 := HST.out.gr.lt
    have h3 := HST.out.gr.blk.lt
    exact own_lit W7 #[.pointer (some ⟨g0, 0, none⟩)] 110 1 1 (gm + 1) W7.heap.size rfl (by omega) rfl (by decide)
   ·have h2 := HST.out.gr.lt
    have h3 := HST.out.gr.blk.lt
    omega
  have HG8 : Hid (gm < w8.heap.size) := by show gm < w8.heap.size; have h1 := hb8.size; have h2 := HST.out.gr.lt; have h3 := HST.out.gr.blk.lt; omega
  obtain ⟨v8, hv8⟩ : ∃ x, Value.slice (some ⟨W7.heap.size, 0, none⟩) 1 1 = x := ⟨_, rfl⟩
  rw [hv8] at HLV ⊢
  rw [hw8]
  clear hw8 hb8 hv8 hb7 HTW HQ HXI HST HBW6 HOPN HOI HG5' HADD HB4 HAT5 HH0 HBW5
  go_step3
  go_wp2_with fail
  go_loopw [6, 7, 8, 32] (fun s6 s7 v8 nv wr => s6 = .string { data := #[] } ∧ s7 = .bool false ∧ ∃ (n : Nat) (H : Hst Pl) (lv : List Mg8), n ≤ 40 ∧ nv = .int .i64 (n : Int) ∧ LvS w1 gf gm s A c n wr H lv [] v8 (.slice none 0 0) 0 97) (fun _ _ _ nv _ => 40 - (intOf nv).toNat)
  case atStart => exact ⟨rfl, rfl, 0, H, _, Nat.zero_le _, rfl, HLV.out⟩
  case round =>
   clear HLV HG8
   obtain ⟨wR, rfl⟩ : ∃ W, W = wr := ⟨wr, rfl⟩
   obtain ⟨rfl, rfl, n, H, lv, hn, rfl, hlv⟩ := hrel
   have HLV := Lib.hid hlv
   by_cases hlt : n < 40
   ·have hni : (n : Int) < 40 := by omega
    obtain ⟨A8, c8, hv8, hc8, hm8, hs8⟩ := own_slr (R := RG8) hlv.r8 (fun _ => rfl) (fun _ => rfl) rfl
    subst hv8
    unfold maxLen at hm8
    clear hlv hs8
    go_wp2_with fail
    go_loopw [6, 7, 9, 36] (fun s6 s7 v9 iv wr => s6 = .string { data := #[] } ∧ s7 = .bool false ∧ ∃ (i : Nat) (H : Hst Pl) (lg : List Mg8), i ≤ lv.length ∧ iv = .int .i64 (i : Int) ∧ LvS w1 gf gm s A c n wr H lv lg (.slice A8 lv.length c8) v9 i 97) (fun _ _ _ iv _ => lv.length - (intOf iv).toNat)
    case atStart => exact ⟨rfl, rfl, 0, H, [], Nat.zero_le _, rfl, HLV.out⟩
    case round =>
     clear HLV
     obtain ⟨wP, rfl⟩ : ∃ W, W = wr := ⟨wr, rfl⟩
     obtain ⟨rfl, rfl, i, H, lg, hi, rfl, hlv⟩ := hrel
     have HLV := Lib.hid hlv
     by_cases hlt : i < lv.length
     ·have hii : (i : Int) < (lv.length : Int) := by omega
      have hi0 : (0 : Int) ≤ (i : Int) := by omega
      have hs8 := own_slr (R := RG8) hlv.r8 (fun _ => rfl) (fun _ => rfl) rfl
      obtain ⟨A8', c8', he8, _, _, hs8⟩ := hs8
      obtain ⟨rfl, rfl⟩ : A8 = A8' ∧ c8 = c8' := by injection he8 with h1 h2 h3; exact ⟨h1, h3⟩
      obtain ⟨b, off, m, rfl, hbb, hmm, d0⟩ := hs8.g8 hlt
      have HMI := Lib.hid hmm
      clear hlv hs8 he8 hmm
      go_wp2_with fail
      go_loopw [6, 7, 9, 12] (fun s6 s7 v9 cv wr => s6 = .string { data := #[] } ∧ s7 = .bool false ∧ ∃ (cc : Nat) (H : Hst Pl) (lg : List Mg8), 97 ≤ cc ∧ cc ≤ 123 ∧ cv = .int .u8 (cc : Int) ∧ LvS w1 gf gm s A c n wr H lv lg (.slice (some ⟨b, off, none⟩) lv.length c8) v9 i cc) (fun _ _ _ cv _ => 123 - (intOf cv).toNat)
      case atStart => exact ⟨rfl, rfl, 97, H, lg, Nat.le_refl _, by decide, rfl, HLV.out⟩
      case round =>
       clear HLV d0 hbb
       obtain ⟨wQ, rfl⟩ : ∃ W, W = wr := ⟨wr, rfl⟩
       obtain ⟨rfl, rfl, cc, H, lg, hc97, hc123, rfl, hlv⟩ := hrel
       have HLV := Lib.hid hlv
       by_cases hcl : cc ≤ 122
       ·have hci : (cc : Int) ≤ 122 := by omega
        have hw8 : IntKind.u8.wrap ((cc : Int) + 1) = ((cc + 1 : Nat) : Int) := by rw [IntKind.wrap_u8]; omega
        obtain ⟨cu, hcu⟩ : ∃ cu : UInt8, cu.toNat = cc := ⟨UInt8.ofNat cc, by rw [UInt8.toNat_ofNat']; omega⟩
        obtain ⟨hG, hmem, hlen⟩ := hlv.grs m (.inl (List.mem_of_getElem? HMI.out))
        obtain ⟨hI, hnew, hul⟩ := hlv.new HMI.out hcu
        have HAF := Lib.hid (safter_any w1 s A c gf gm m.g H m.u m.v m.xs cu wQ HSC.out HOK.out (Nat.le_of_eq HGM.out) hlv.bel hlv.sr hG hmem hlen hI hlv.sz hnew (by omega) (by omega))
        have HCU := Lib.hid hcu
        have HUL := Lib.hid hul
        rw [hcu] at HAF
        clear hlv hG hmem hlen hI hnew hcu hul
        go_upto_region 19 with (go_at_call 60; go_loud (refine HAF.out.mono ?_; rintro e W2 ⟨g2, H2, xs2, v2, rfl, hg2, hS2, hG2, hO2, hm2, hl2, ht2, ho2, hb2, hv2⟩; have HS2 := Lib.hid hS2; have HG2 := Lib.hid hG2; have HO2 := Lib.hid hO2; have HM2 := Lib.hid hm2; have HL2 := Lib.hid hl2; have HT2 := Lib.hid ht2; have HOP2 := Lib.hid ho2; have HBS2 := Lib.hid hb2; clear hg2 hS2 hG2 hO2 hm2 hl2 ht2 ho2 hb2 hv2))
        have HTW := Lib.hid (stwice_any s A c gf gm g2 (m.u ++ [cu]) v2 xs2 W2 HS2.out.blk HG2.out (by have h1 := HL2.out; have h2 := met_len HOK.out HO2.out.inv; omega) HAC.out (lv_modes HOK.out HO2.out.inv HM2.out))
        obtain ⟨q, hq⟩ : ∃ q, xs2.any (ends (schA s)) = q := ⟨_, rfl⟩
        rw [hq] at HTW
        have HQ := Lib.hid hq
        clear hq
        cases q with
        | true =>
         have HF : Hid (FirstTo s (some (m.u ++ [cu]))) := by
          obtain ⟨x, hx, he⟩ := List.any_eq_true.1 HQ.out
          refine ⟨⟨ends_twice (HO2.out.inv.two x _ ((HM2.out x).1 hx)) he, fun V hV => HLV.out.lev.found (by rw [List.getElem?_map, HMI.out]; rfl) HCU.out hV⟩, ?_⟩
          have := HUL.out
          rw [List.length_append, List.length_singleton]
          omega
         go_wp2_with (go_at_call 59; go_loud (refine HTW.out.mono ?_; rintro e W3 ⟨rfl, hb3⟩; have HB3 := Lib.hid hb3; have h0 := (HG2.out.below hb3).blk.cell 0; have hl0 := (HG2.out.below hb3).blk.lt; simp at h0; clear hb3))
         rw [Exit.noGoto_ret]
         go_ret2
         exact ⟨some (m.u ++ [cu]), rfl, HF.out, bthen HB1.out (((HLV.out.bel.trans (HBS2.out.below (by have := HLV.out.sr.lt; have := HLV.out.sr.blk.lt; omega) (Nat.le_refl _) fun _ _ h => h)).trans (HB3.out.mono (by have := HS2.out.lt; have := HS2.out.blk.lt; omega))).mono (Nat.le_of_eq HGM.out))⟩
        | false =>
         have HNO : Hid (∀ x, (x, m.u ++ [cu]) ∈ H2 → ends (schA s) x = false) := fun x hx => by
          have := List.any_eq_false.1 HQ.out x ((HM2.out x).2 hx)
          simpa using this
         obtain ⟨B2, c2, rfl, _, _, _⟩ := HG2.out.slr
         by_cases hx : xs2 = []
         ·have hxe : ¬ (0 : Int) < (xs2.length : Int) := by rw [hx]; decide
          have HE : Hid (∀ x, (x, m.u ++ [cu]) ∉ H2) := fun x h => by have := (HM2.out x).2 h; rw [hx] at this; cases this
          clear hx
          go_wp2_with (go_at_call 59; go_loud (refine HTW.out.mono ?_; rintro e W3 ⟨rfl, hb3⟩; have HB3 := Lib.hid hb3; have h1 := (HG2.out.below hb3).blk.cell 1; have hl1 := (HG2.out.below hb3).blk.lt; simp at h1; clear hb3))
          go_roundw
          case rel => exact ⟨rfl, rfl, cc + 1, H2, lg, by omega, by omega, by go_num, (HLV.out.after HMI.out HCU.out HS2.out HBS2.out HO2.out HT2.out HOP2.out HNO.out HE.out).below HB3.out⟩
          case measure => simp [intOf]; omega
         ·have hxe : (0 : Int) < (xs2.length : Int) := by have := List.length_pos_iff.2 hx; omega
          have HX := Lib.hid hx
          have hlg : lg.length ≤ 206082 := by
           have h1 := HLV.out.few
           have h2 := sub_len HO2.out.inv.nodup HLV.out.lev.nodup HO2.out.sub
           have h3 := met_len HOK.out HO2.out.inv
           omega
          clear hx
          go_upto_region 22 with (go_at_call 59; go_loud (refine HTW.out.mono ?_; rintro e W3 ⟨rfl, hb3⟩; have HB3 := Lib.hid hb3; have h1 := (HG2.out.below hb3).blk.cell 1; have hl1 := (HG2.out.below hb3).blk.lt; simp at h1; clear hb3))
          have HR9 : Hid (W3.ownsRow (gm + 1) 110 1 u9 lg.length (lg.flatMap encG8)) := own_below (HBS2.out.own HLV.out.r9 (by decide) fun g hg => ⟨(HLV.out.r9.lt g hg).2, id, by have := own_block_le HLV.out.r9 g hg; omega⟩) HB3.out
          have hgmw : gm < W3.heap.size := by have := HS2.out.lt; have := HS2.out.blk.lt; have := HB3.out.size; omega
          go_wp2_with (at_builtin; go_loud (refine wpList_appS5 (enc := encG8) (R := RG8) rfl _ _ 125 rfl (gm + 1) 110 i0 _ 1 8 Tryz.underlying125 hinf hz0 hz1 hz2 rfl (by decide) u9 _ _ rfl (HR9.out.alloc _) (some ⟨W3.heap.size, 0, none⟩) 1 [(⟨g2, m.u ++ [cu], .slice B2 xs2.length c2, xs2⟩ : Mg8)] rfl (slr_blkR (enc := encG8) (Blk.new_ (by simp)) (fun _ => rfl) (fun _ => rfl)) (fun _ _ _ h => h) (fun _ => rfl) (fun u hu => by simp [encG8] at hu; subst hu; rfl) (by simp; omega) (by decide) (by simp; omega) ?_; intro v4 w4 hown4 hb4 ha4; have HOW4 := Lib.hid hown4; have HA4 := Lib.hid ha4; have HB4 := Lib.hid hb4; clear hown4 ha4 hb4))
          go_roundw
          case rel => exact ⟨rfl, rfl, cc + 1, H2, lg ++ [⟨g2, m.u ++ [cu], .slice B2 xs2.length c2, xs2⟩], by omega, by omega, by go_num, HLV.out.more (m2 := ⟨g2, m.u ++ [cu], .slice B2 xs2.length c2, xs2⟩) HMI.out HCU.out rfl HS2.out HG2.out HBS2.out HO2.out HM2.out HL2.out HT2.out HOP2.out HNO.out HX.out (HB3.out.alloc HB3.out.size _) (by have := HOW4.out; rw [List.flatMap_append]; simpa using this) (by simpa using HA4.out) HB4.out⟩
          case measure => simp [intOf]; omega
       ·obtain rfl : cc = 123 := by omega
        have hci : ¬ ((123 : Nat) : Int) ≤ 122 := by decide
        clear hlv
        go_wp2_with fail
        go_roundw
        case rel => exact ⟨rfl, rfl, i + 1, H, lg, by omega, by go_num, HLV.out.row HL.out⟩
        case measure => simp [intOf]; omega
     ·obtain rfl : i = lv.length := by omega
      have hii : ¬ ((lv.length : Nat) : Int) < (lv.length : Int) := by omega
      clear hlv
      go_wp2_with fail
      go_roundw
      case rel => exact ⟨rfl, rfl, n + 1, H, lg, by omega, by go_num, HLV.out.level HL.out⟩
      case measure => simp [intOf]; omega
   ·obtain rfl : n = 40 := by omega
    have HNO : Hid (FirstTo s none) := fun U hU => (show LevI (schA s) H 40 (lv.map (·.u)) [] 0 97 from hlv.lev).none hU
    have HBE : Hid (Below gm w1 wR) := hlv.bel
    clear hlv
    go_wp2_with fail
    rw [Exit.noGoto_ret]
    go_ret2
    exact ⟨none, rfl, HNO.out, bthen HB1.out (HBE.out.mono (Nat.le_of_eq HGM.out))⟩
end Go.Proofs.YtfpnhgahkjglgaaGreat
