/-
  SiWalkE, SiWalkF, joined. No conditions.
-/
import Derived.Test.YtfpnhgahkjglgaaGreatF36
import Derived.Laws.EntriesVeiled
import Derived.Laws.Runes
set_option maxRecDepth 100000
namespace Go.Proofs.YtfpnhgahkjglgaaGreat
open Go Go.RowKit Go.Maps
set_option maxHeartbeats 8000000 in
theorem stw1_any (s : Sc) (A : Option Addr) (c gf gm gc : Nat) (x : St Pl) (w : World) (hS : Blk w gf 109 #[.int .i64 s.n, .int .u8 s.acc, .slice A s.rs.length c, .map (some gm)]) (hC : Blk w gc 106 #[.pointer (some ⟨gf, 0, none⟩)]) (hacc : 0 ≤ s.acc ∧ s.acc ≤ 255) (hl : 0 ≤ x.l.1 ∧ x.l.1 < 8) (hr : 0 ≤ x.r.1 ∧ x.r.1 < 8) :
 Calls Tryz.prog 93 #[.agg #[.int .i64 x.l.1, .string (ba x.l.2), .int .i64 x.r.1, .string (ba x.r.2), .string (ba x.g.a), .string (ba x.g.b), .bool x.g.p], .pointer (some ⟨gc, 0, none⟩)] w fun e w' => e = .returned (.bool (ends (schA s) x)) ∧ Below w.heap.size w w' := by
 obtain ⟨w1, hw1⟩ : ∃ w1, w.alloc (.cells #[.int .i64 x.l.1, .string (ba x.l.2), .int .i64 x.r.1, .string (ba x.r.2), .string (ba x.g.a), .string (ba x.g.b), .bool x.g.p] 122) = w1 := ⟨_, rfl⟩
 have hb1 : Below w.heap.size w w1 := by rw [← hw1]; exact nw _ (Below.refl _ _)
 have hB : Blk w1 w.heap.size 122 #[.int .i64 x.l.1, .string (ba x.l.2), .int .i64 x.r.1, .string (ba x.r.2), .string (ba x.g.a), .string (ba x.g.b), .bool x.g.p] := by rw [← hw1]; exact Blk.new _ _ _
 have hC1 := hC.below hb1 hC.lt
 have HW1 := Lib.hid hw1
 have HB1 := Lib.hid hb1
 have HD : Hid (∀ W, Below w1.heap.size w1 W → Calls Tryz.prog 94 #[.agg #[.string (ba x.g.a), .string (ba x.g.b), .bool x.g.p]] W fun e w' => e = .returned (.bool (!decide (x.g = Gp.none_))) ∧ Below W.heap.size W w') := fun W _ => gdiffer_any x.g W
 have HE1 : Hid (∀ W, Below w1.heap.size w1 W → Calls Tryz.prog 95 #[.pointer (some ⟨gf, 0, none⟩), .agg #[.int .i64 x.l.1, .string (ba x.l.2)]] W fun e w' => e = .returned (.bool ((schA s).acc x.l)) ∧ Below W.heap.size W w') := fun W hW => sended_any s A c gf gm x.l W ((hS.below hb1 hS.lt).below hW (Nat.lt_of_lt_of_le hS.lt hb1.size)) hacc hl
 have HE2 : Hid (∀ W, Below w1.heap.size w1 W → Calls Tryz.prog 95 #[.pointer (some ⟨gf, 0, none⟩), .agg #[.int .i64 x.r.1, .string (ba x.r.2)]] W fun e w' => e = .returned (.bool ((schA s).acc x.r)) ∧ Below W.heap.size W w') := fun W hW => sended_any s A c gf gm x.r W ((hS.below hb1 hS.lt).below hW (Nat.lt_of_lt_of_le hS.lt hb1.size)) hacc hr
 have hEN : ends (schA s) x = (!decide (x.g = Gp.none_) && (schA s).acc x.l && (schA s).acc x.r) := rfl
 obtain ⟨d, hd⟩ : ∃ b, (!decide (x.g = Gp.none_)) = b := ⟨_, rfl⟩
 obtain ⟨a, ha⟩ : ∃ b, (schA s).acc x.l = b := ⟨_, rfl⟩
 obtain ⟨b, hb⟩ : ∃ b, (schA s).acc x.r = b := ⟨_, rfl⟩
 rw [hd] at HD hEN
 rw [ha] at HE1 hEN
 rw [hb] at HE2 hEN
 have HEN := Lib.hid hEN
 have HCE : Hid (∀ W, Below w1.heap.size w1 W → W.cell? ⟨w.heap.size, 0, none⟩ = some (.int .i64 x.l.1) ∧ W.cell? ⟨w.heap.size, 1, none⟩ = some (.string (ba x.l.2)) ∧ W.cell? ⟨w.heap.size, 2, none⟩ = some (.int .i64 x.r.1) ∧ W.cell? ⟨w.heap.size, 3, none⟩ = some (.string (ba x.r.2)) ∧ w.heap.size < W.heap.size ∧ W.cell? ⟨gc, 0, none⟩ = some (.pointer (some ⟨gf, 0, none⟩)) ∧ gc < W.heap.size) := fun W hW => by
  have e1 := hB.below hW hB.lt
  have e2 := hC1.below hW hC1.lt
  exact ⟨by rw [e1.cell]; rfl, by rw [e1.cell]; rfl, by rw [e1.cell]; rfl, by rw [e1.cell]; rfl, e1.lt, by rw [e2.cell]; rfl, e2.lt⟩
 have x0 := hB.cell 0
 have x1 := hB.cell 1
 have x2 := hB.cell 2
 have x3 := hB.cell 3
 have x4 := hB.cell 4
 have x5 := hB.cell 5
 have x6 := hB.cell 6
 have xl := hB.lt
 have c0 := hC1.cell 0
 have cl := hC1.lt
 simp at x0 x1 x2 x3 x4 x5 x6 c0
 clear hw1 hb1 hB hC hC1 hS hd ha hb hEN
 cases d with
 | false =>
  go_enter Tryz.func93, Tryz.ntmps93
  go_upto_region 1 with fail
  rw [HW1.out]
  go_wp2_with (go_at_call 94; go_loud (refine (HD.out _ (Below.refl _ _)).mono ?_; rintro e W2 ⟨rfl, hb2⟩))
  go_ret
  exact ⟨by rw [HEN.out]; rfl, bthen HB1.out hb2⟩
 | true =>
  cases a with
  | false =>
   go_enter Tryz.func93, Tryz.ntmps93
   go_upto_region 1 with fail
   rw [HW1.out]
   go_wp2_with (first | (go_at_call 94; go_loud (refine (HD.out _ (Below.refl _ _)).mono ?_; rintro e W2 ⟨rfl, hb2⟩; obtain ⟨x0, x1, x2, x3, xl, c0, cl⟩ := HCE.out _ hb2)) | (go_at_call 95; go_loud (refine (HE1.out _ hb2).mono ?_; rintro e W3 ⟨rfl, hb3⟩)))
   go_ret
   exact ⟨by rw [HEN.out]; rfl, bthen HB1.out (bthen hb2 hb3)⟩
  | true =>
   go_enter Tryz.func93, Tryz.ntmps93
   go_upto_region 1 with fail
   rw [HW1.out]
   go_wp2_with (first | (go_at_call 94; go_loud (refine (HD.out _ (Below.refl _ _)).mono ?_; rintro e W2 ⟨rfl, hb2⟩; obtain ⟨x0, x1, x2, x3, xl, c0, cl⟩ := HCE.out _ hb2)) | (go_at_call 95; go_loud (first | (with_reducible refine (HE2.out _ (hb2.trans (hb3.mono hb2.size))).mono ?_; rintro e W4 ⟨rfl, hb4⟩) | (with_reducible refine (HE1.out _ hb2).mono ?_; rintro e W3 ⟨rfl, hb3⟩; obtain ⟨x0, x1, x2, x3, xl, c0, cl⟩ := HCE.out _ (hb2.trans (hb3.mono hb2.size))))))
   go_ret
   exact ⟨by rw [HEN.out]; rfl, bthen HB1.out (bthen (bthen hb2 hb3) hb4)⟩
def ixE (A : Aut Pl) (xs : List (St Pl)) : Int := if xs.any (ends A) = true then (xs.findIdx (ends A) : Int) else -1
theorem ixE_neg {A : Aut Pl} {xs : List (St Pl)} (h : xs.any (ends A) = false) : ixE A xs = -1 := if_neg (by rw [h]; decide)
theorem ixE_at {A : Aut Pl} {xs : List (St Pl)} {k : Nat} {p : St Pl} (h : (xs.take k).any (ends A) = false) (hp : xs[k]? = some p) (ha : ends A p = true) : ixE A xs = (k : Int) := by
 obtain ⟨hk, rfl⟩ := List.getElem?_eq_some_iff.1 hp
 unfold ixE
 rw [if_pos (List.any_eq_true.2 ⟨_, List.getElem_mem hk, ha⟩)]
 congr 1
 rw [List.findIdx_eq hk]
 refine ⟨ha, fun j hj => ?_⟩
 rw [List.any_eq_false] at h
 have := h xs[j] (List.mem_take_iff_getElem.2 ⟨j, by omega, rfl⟩)
 simpa using this
theorem ixE_iff {A : Aut Pl} {xs : List (St Pl)} : 0 ≤ ixE A xs ↔ xs.any (ends A) = true := by
 unfold ixE
 split
 ·rename_i h; simp [h]
 ·rename_i h; constructor
  ·intro h2; omega
  ·intro h2; exact absurd h2 h
set_option maxHeartbeats 8000000 in
theorem sindex_any (s : Sc) (A : Option Addr) (c gf gm gc : Nat) (B : Option Addr) (xs : List (St Pl)) (cx : Nat) (w : World) (hx : SlR 7 RSt w B xs) (hxl : xs.length ≤ 1000000) (hS : Blk w gf 109 #[.int .i64 s.n, .int .u8 s.acc, .slice A s.rs.length c, .map (some gm)]) (hC : Blk w gc 106 #[.pointer (some ⟨gf, 0, none⟩)]) (hacc : 0 ≤ s.acc ∧ s.acc ≤ 255)
 (hm : ∀ x ∈ xs, (0 ≤ x.l.1 ∧ x.l.1 < 8) ∧ 0 ≤ x.r.1 ∧ x.r.1 < 8) :
 Calls Tryz.prog 116 #[.slice B xs.length cx, .func (.func 93) #[] #[.pointer (some ⟨gc, 0, none⟩)]] w fun e w' => e = .returned (.int .i64 (ixE (schA s) xs)) ∧ Below w.heap.size w w' := by
 have HC : Hid (∀ (W : World) (x : St Pl), x ∈ xs → Below w.heap.size w W → Calls Tryz.prog 93 #[.agg #[.int .i64 x.l.1, .string (ba x.l.2), .int .i64 x.r.1, .string (ba x.r.2), .string (ba x.g.a), .string (ba x.g.b), .bool x.g.p], .pointer (some ⟨gc, 0, none⟩)] W fun e w' => e = .returned (.bool (ends (schA s) x)) ∧ Below W.heap.size W w') :=
  fun W x hx hW => stw1_any s A c gf gm gc x W (hS.below hW hS.lt) (hC.below hW hC.lt) hacc (hm x hx).1 (hm x hx).2
 clear hS hC hm
 go_enter Tryz.func116, Tryz.ntmps116
 go_wp2_with fail
 go_loopw [8] (fun i wr => ∃ k : Nat, k ≤ xs.length ∧ Hid ((xs.take k).any (ends (schA s)) = false) ∧ i = .int .i64 k ∧ Below w.heap.size w wr) (fun i _ => xs.length - (intOf i).toNat)
 case atStart => exact ⟨0, by omega, (by show (xs.take 0).any _ = _; simp), rfl, Below.refl _ _⟩
 case round =>
  obtain ⟨k, hk, HS, rfl, hbr⟩ := hrel
  by_cases hlt : k < xs.length
  ·obtain ⟨b, off, p, rfl, hbb, hee, d0, d1, d2, d3, d4, d5, d6⟩ := (hx.below keeps_st hbr).sts hlt
   have HL := Lib.hid hee
   have HC2 := Lib.hid (HC.out wr p (List.mem_of_getElem? hee) hbr)
   have hki : (k : Int) < (xs.length : Int) := by omega
   have hk0 : (0 : Int) ≤ (k : Int) := by omega
   obtain ⟨v, hv⟩ : ∃ v, ends (schA s) p = v := ⟨_, rfl⟩
   rw [hv] at HC2
   have HV := Lib.hid hv
   have HBr := Lib.hid hbr
   clear hee hv hbr
   cases v with
   | true =>
    have HR : Hid (ixE (schA s) xs = (k : Int)) := ixE_at HS.out HL.out HV.out
    go_wp2_with (go_at_call 93; go_loud (refine HC2.out.mono ?_; rintro e' w3 ⟨rfl, hb3⟩))
    go_ret
    exact ⟨by rw [HR.out]; rfl, bthen HBr.out hb3⟩
   | false =>
    have HES : Hid ((xs.take (k + 1)).any (ends (schA s)) = false) := by
     show _ = _
     rw [take_succ_of HL.out, List.any_append, HS.out]
     simp [HV.out]
    go_wp2_with (go_at_call 93; go_loud (refine HC2.out.mono ?_; rintro e' w3 ⟨rfl, hb3⟩))
    go_roundw
    case rel => exact ⟨k + 1, by omega, HES.out, by go_num, bthen HBr.out hb3⟩
    case measure => simp [intOf]; omega
  ·have HR : Hid (ixE (schA s) xs = -1) := by
    show _ = _
    have := HS.out
    rw [List.take_of_length_le (by omega)] at this
    exact ixE_neg this
   have hki : ¬ (k : Int) < (xs.length : Int) := by omega
   go_wp2_with fail
   go_ret
   exact ⟨by rw [HR.out]; rfl, hbr⟩
set_option maxHeartbeats 8000000 in
theorem scontf_any (s : Sc) (A : Option Addr) (c gf gm gc : Nat) (B : Option Addr) (xs : List (St Pl)) (cx : Nat) (w : World) (hx : SlR 7 RSt w B xs) (hxl : xs.length ≤ 1000000) (hS : Blk w gf 109 #[.int .i64 s.n, .int .u8 s.acc, .slice A s.rs.length c, .map (some gm)]) (hC : Blk w gc 106 #[.pointer (some ⟨gf, 0, none⟩)]) (hacc : 0 ≤ s.acc ∧ s.acc ≤ 255)
 (hm : ∀ x ∈ xs, (0 ≤ x.l.1 ∧ x.l.1 < 8) ∧ 0 ≤ x.r.1 ∧ x.r.1 < 8) :
 Calls Tryz.prog 92 #[.slice B xs.length cx, .func (.func 93) #[] #[.pointer (some ⟨gc, 0, none⟩)]] w fun e w' => e = .returned (.bool (xs.any (ends (schA s)))) ∧ Below w.heap.size w w' := by
 have HC := Lib.hid (sindex_any s A c gf gm gc B xs cx w hx hxl hS hC hacc hm)
 have hd : xs.any (ends (schA s)) = decide (0 ≤ ixE (schA s) xs) := by rw [Bool.eq_iff_iff, decide_eq_true_iff, ixE_iff]
 rw [hd]
 generalize ixE (schA s) xs = v at *
 clear hS hC hm hx hd
 go_enter Tryz.func92, Tryz.ntmps92
 go_wp2_with (go_at_call 116; go_loud (refine HC.out.mono ?_; rintro e w' ⟨rfl, hb2⟩))
 go_ret
 exact ⟨rfl, hb2⟩
set_option maxHeartbeats 8000000 in
theorem stwice_any (s : Sc) (A : Option Addr) (c gf gm gg : Nat) (u : List UInt8) (v : Value) (xs : List (St Pl)) (w : World) (hS : Blk w gf 109 #[.int .i64 s.n, .int .u8 s.acc, .slice A s.rs.length c, .map (some gm)]) (hG : GrI w gm gg u v xs) (hxl : xs.length ≤ 1000000) (hacc : 0 ≤ s.acc ∧ s.acc ≤ 255)
 (hm : ∀ x ∈ xs, (0 ≤ x.l.1 ∧ x.l.1 < 8) ∧ 0 ≤ x.r.1 ∧ x.r.1 < 8) :
 Calls Tryz.prog 59 #[.pointer (some ⟨gf, 0, none⟩), .pointer (some ⟨gg, 0, none⟩)] w fun e w' => e = .returned (.bool (xs.any (ends (schA s)))) ∧ Below w.heap.size w w' := by
 obtain ⟨w1, hw1⟩ : ∃ w1, w.alloc (.cells #[.pointer (some ⟨gf, 0, none⟩)] 106) = w1 := ⟨_, rfl⟩
 obtain ⟨gc, hgc⟩ : ∃ g, w.heap.size = g := ⟨_, rfl⟩
 have hb1 : Below w.heap.size w w1 := by rw [← hw1]; exact nw _ (Below.refl _ _)
 have hB : Blk w1 gc 106 #[.pointer (some ⟨gf, 0, none⟩)] := by rw [← hw1, ← hgc]; exact Blk.new _ _ _
 have hG1 := hG.below hb1
 obtain ⟨B, cx, rfl, hx1, hx2, hx3⟩ := hG1.slr
 have HC := Lib.hid (scontf_any s A c gf gm gc B xs cx w1 hx3 hxl (hS.below hb1 hS.lt) hB hacc hm)
 have HW1 := Lib.hid hw1
 have HB1 := Lib.hid hb1
 have HGC := Lib.hid hgc
 have g1 := hG1.blk.cell 1
 have gl := hG1.blk.lt
 have c0 := hB.cell 0
 have cl := hB.lt
 simp at g1 c0
 generalize xs.any (ends (schA s)) = q at *
 clear hw1 hb1 hB hG hG1 hS hm hx3 hgc
 go_enter Tryz.func59, Tryz.ntmps59
 go_upto_region 1 with fail
 rw [HW1.out, HGC.out]
 go_wp2_with (go_at_call 92; go_loud (refine HC.out.mono ?_; rintro e w' ⟨rfl, hb2⟩))
 go_ret
 exact ⟨rfl, bthen HB1.out hb2⟩
def TakeK (H : Hst Pl) (u : List UInt8) (cu : UInt8) (xs : List (St Pl)) (k : Nat) : Prop := ∀ j x, j < k → xs[j]? = some x → ∀ tl tr, x.l.2 = cu :: tl → x.r.2 = cu :: tr → KnownAt H ⟨(x.l.1, tl), (x.r.1, tr), x.g⟩ (u ++ [cu])
theorem TakeK.zero {H : Hst Pl} {u : List UInt8} {cu : UInt8} {xs : List (St Pl)} : TakeK H u cu xs 0 := fun _ _ h => absurd h (Nat.not_lt_zero _)
theorem TakeK.mono {H H' : Hst Pl} {u : List UInt8} {cu : UInt8} {xs : List (St Pl)} {k : Nat} (h : TakeK H u cu xs k) (hs : ∀ p ∈ H, p ∈ H') : TakeK H' u cu xs k := fun j x hj hx tl tr h1 h2 => (h j x hj hx tl tr h1 h2).mono hs
theorem TakeK.next {H : Hst Pl} {u : List UInt8} {cu : UInt8} {xs : List (St Pl)} {k : Nat} {x : St Pl} (h : TakeK H u cu xs k) (hx : xs[k]? = some x) (hn : ∀ tl tr, x.l.2 = cu :: tl → x.r.2 = cu :: tr → KnownAt H ⟨(x.l.1, tl), (x.r.1, tr), x.g⟩ (u ++ [cu])) : TakeK H u cu xs (k + 1) := fun j y hj hy => by
 by_cases e : j = k
 ·subst e
  obtain rfl := Option.some.inj (hx.symm.trans hy)
  exact hn
 ·exact h j y (by omega) hy
theorem utf8_small {cu : UInt8} (h : cu.toNat ≤ 122) : Utf8.encode (cu.toNat : Int) = ba [cu] := by
 have hv : Utf8.valid (cu.toNat : Int) = true := by
  rw [validRune_eq]
  exact decide_eq_true (.inl ⟨by omega, by omega⟩)
 have e : Utf8.encode (cu.toNat : Int) = ⟨#[UInt8.ofNat cu.toNat]⟩ := by
  unfold Utf8.encode
  rw [if_pos hv, Int.toNat_natCast]
  exact if_pos (by omega)
 rw [e, UInt8.ofNat_toNat]
 rfl
theorem two_take {s : Sc} {u : List UInt8} {cu : UInt8} {x : St Pl} {tl tr : List UInt8} (h : Two (schA s) u x.l x.r x.g) (h1 : x.l.2 = cu :: tl) (h2 : x.r.2 = cu :: tr) : Two (schA s) (u ++ [cu]) (x.l.1, tl) (x.r.1, tr) x.g :=
 sucT_two (x := x) (y := ⟨(x.l.1, tl), (x.r.1, tr), x.g⟩) h ⟨[], [], ⟨rfl, h1, rfl⟩, ⟨rfl, h2, rfl⟩, (widen_nil (two_right h)).symm⟩
theorem TakeK.all {s : Sc} {H0 H : Hst Pl} {u : List UInt8} {cu : UInt8} {xs : List (St Pl)} {k : Nat} (h : TakeK H u cu xs k) (hk : xs.length ≤ k) (hm : ∀ x, x ∈ xs ↔ (x, u) ∈ H0) (ht : ∀ x v, (x, v) ∈ H0 → Two (schA s) v x.l x.r x.g) : ∀ x, (x, u) ∈ H0 → ∀ y, SucT (schA s) cu x y → KnownAt H y (u ++ [cu]) := fun x hx y hy => by
 obtain ⟨j, hj⟩ := List.getElem?_of_mem ((hm x).2 hx)
 obtain ⟨⟨ym, yt⟩, ⟨zm, zt⟩, yg⟩ := y
 obtain ⟨a, b, ⟨rfl, h1, h2⟩, ⟨rfl, h3, h4⟩, h5⟩ := hy
 simp only at h1 h2 h3 h4 h5
 rw [widen_nil (two_right (ht x u hx))] at h5
 rw [h2, h4, h5]
 exact h j x (by have := (List.getElem?_eq_some_iff.1 hj).1; omega) hj yt zt h1 h3
def IsTake (cu : UInt8) (x : St Pl) (v : Value) : Prop := ∃ b, v = .bool b ∧ (b = true ↔ ∃ tl tr, x.l.2 = cu :: tl ∧ x.r.2 = cu :: tr)
theorem IsTake.yes {cu : UInt8} {x : St Pl} {tl tr : List UInt8} (h1 : x.l.2 = cu :: tl) (h2 : x.r.2 = cu :: tr) : IsTake cu x (.bool true) := ⟨true, rfl, fun _ => ⟨tl, tr, h1, h2⟩, fun _ => rfl⟩
theorem IsTake.noL {cu : UInt8} {x : St Pl} (h : ∀ t, x.l.2 ≠ cu :: t) : IsTake cu x (.bool false) := ⟨false, rfl, fun h => (by cases h), fun ⟨tl, _, h1, _⟩ => absurd h1 (h tl)⟩
theorem IsTake.noR {cu : UInt8} {x : St Pl} (h : ∀ t, x.r.2 ≠ cu :: t) : IsTake cu x (.bool false) := ⟨false, rfl, fun h => (by cases h), fun ⟨_, tr, _, h1⟩ => absurd h1 (h tr)⟩
theorem ne_emp {P : ByteArray} (h : 0 < P.size) : P.toList.isEmpty = false := by
 rw [Lib.toList_data]
 have : P.data.toList.length = P.size := Array.length_toList
 cases he : P.data.toList with
 | nil => rw [he] at this; simp at this; omega
 | cons _ _ => rfl
theorem em_emp {P : ByteArray} (h : ¬ 0 < P.size) : P.toList.isEmpty = true := by
 rw [Lib.toList_data]
 have : P.data.toList.length = P.size := Array.length_toList
 cases he : P.data.toList with
 | nil => rfl
 | cons _ _ => rw [he] at this; simp at this; omega
theorem head_ba {P : ByteArray} {l : List UInt8} {cu : UInt8} (h : ba l = P) (h0 : 0 < P.size) (hc : P[0] = cu) : l = cu :: l.drop 1 := by
 subst h
 have h1 := ba_get h0
 rw [hc] at h1
 cases l with
 | nil => cases h1
 | cons a t => simp at h1; rw [h1]; rfl
theorem ba_head {P : ByteArray} {l t : List UInt8} {cu : UInt8} (h : ba l = P) (he : l = cu :: t) (h0 : 0 < P.size) : P[0] = cu := by
 subst h
 have h1 := ba_get h0
 have h2 : l[0]? = some cu := by rw [he]; rfl
 exact Option.some.inj (h1.symm.trans h2)
theorem ba_pos {P : ByteArray} {l t : List UInt8} {cu : UInt8} (h : ba l = P) (he : l = cu :: t) : 0 < P.size := by
 subst h he
 show 0 < (cu :: t).length
 simp
theorem hbt2 {cu : UInt8} {x : St Pl} {b : Bool} (h : b = true ↔ ∃ tl tr, x.l.2 = cu :: tl ∧ x.r.2 = cu :: tr) (hb : b = true) : ∃ tl tr, x.l.2 = cu :: tl ∧ x.r.2 = cu :: tr := h.1 hb
theorem SrI.two0 {w : World} {gf gm c k : Nat} {s : Sc} {A : Option Addr} {H : Hst Pl} {u cur : List UInt8} {xs : List (St Pl)} {x : St Pl} (_ : SrI w gf gm s A c H) (hI : HInv (schA s) H cur) (hm : ∀ x, x ∈ xs ↔ (x, u) ∈ H) (hx : xs[k]? = some x) : Two (schA s) u x.l x.r x.g := hI.two x u ((hm x).1 (List.mem_of_getElem? hx))
theorem sub_len {H0 H : Hst Pl} (h : (H.map (·.1)).Nodup) (h0 : (H0.map (·.1)).Nodup) (hs : ∀ p ∈ H0, p ∈ H) : H0.length ≤ H.length := by
 have := nodup_le (l := H0.map (·.1)) (m := H.map (·.1)) h0 (fun x hx => by
  obtain ⟨p, hp, rfl⟩ := List.mem_map.1 hx
  exact List.mem_map.2 ⟨p, hs p hp, rfl⟩)
 simpa using this
def IsAfterS (gf gm : Nat) (s : Sc) (A : Option Addr) (c : Nat) (H : Hst Pl) (u : List UInt8) (cu : UInt8) (w : World) (e : Ending) (w' : World) : Prop :=
 ∃ g2 H' xs' v', e = .returned (.pointer (some ⟨g2, 0, none⟩)) ∧ w.heap.size ≤ g2 ∧ SrI w' gf gm s A c H' ∧ GrI w' gm g2 (u ++ [cu]) v' xs' ∧ OpP s H H' (u ++ [cu]) ∧ (∀ x, x ∈ xs' ↔ (x, u ++ [cu]) ∈ H') ∧ xs'.length ≤ H'.length ∧
  (∀ x, (x, u) ∈ H → ∀ y, SucT (schA s) cu x y → KnownAt H' y (u ++ [cu])) ∧ (∀ x, (x, u ++ [cu]) ∈ H' → ∀ y, SucO (schA s) x y → KnownAt H' y (u ++ [cu])) ∧ BelS gm (fun _ => False) w.heap.size w w' ∧ (∀ k, v'.ownBlock = some k → w.heap.size ≤ k)
set_option maxHeartbeats 16000000 in
theorem safter_any (ws : World) (s : Sc) (A : Option Addr) (c gf gm gg : Nat) (H0 : Hst Pl) (u : List UInt8) (v0 : Value) (xs : List (St Pl)) (cu : UInt8) (w : World) (hsc : ScIn ws s A c) (hok : ScOK s) (hgm : ws.heap.size ≤ gm) (hbs : Below gm ws w)
 (hS : SrI w gf gm s A c H0) (hG : GrI w gm gg u v0 xs) (hmem : ∀ x, x ∈ xs ↔ (x, u) ∈ H0) (hlen : xs.length ≤ H0.length) (hI : HInv (schA s) H0 (u ++ [cu])) (hz : SzH H0) (hnew : ∀ x, (x, u ++ [cu]) ∉ H0) (hcu : 97 ≤ cu.toNat ∧ cu.toNat ≤ 122) (hu : u.length ≤ 40) :
 Calls Tryz.prog 60 #[.pointer (some ⟨gf, 0, none⟩), .pointer (some ⟨gg, 0, none⟩), .int .u8 (cu.toNat : Int)] w (IsAfterS gf gm s A c H0 u cu w) := by
 have hgml : gm < w.heap.size := by have := hS.lt; have := hS.blk.lt; omega
 obtain ⟨B, cx, rfl, hx1, hx2, hx3⟩ := hG.slr
 have hxl : xs.length ≤ 206082 := Nat.le_trans hlen (met_len hok hI)
 have HG := Lib.hid hG
 have g0 := hG.blk.cell 0
 have g1 := hG.blk.cell 1
 have gl := hG.blk.lt
 simp at g0 g1
 have hzz : ¬ 9223372036854775807 < (ba u).size + (ba [cu]).size := by rw [ba_size, ba_size]; simp only [List.length_singleton]; omega
 obtain ⟨hc0, hc1⟩ := hcu
 have hw32 : IntKind.i32.wrap (cu.toNat : Int) = (cu.toNat : Int) := by rw [IntKind.wrap_i32]; omega
 have henc := utf8_small hc1
 have hrt : ∀ W : World, (convert 21 9 (.int .i32 (cu.toNat : Int))).run Tryz.prog W = .ok (.string (ba [cu])) W := fun W => by
  rw [run_convert_int_string W _ _ _ _ (by kernel_rfl) Tryz.underlying9, henc]
 have HSC := Lib.hid hsc
 have HOK := Lib.hid hok
 have HGM := Lib.hid hgm
 have HBS := Lib.hid hbs
 have HSR := Lib.hid hS
 have HMEM := Lib.hid hmem
 have HLEN := Lib.hid hlen
 have HI := Lib.hid hI
 have HZ := Lib.hid hz
 have HNW := Lib.hid hnew
 have HX3 := Lib.hid hx3
 clear hG hsc hok hgm hbs hS hmem hlen hI hz hnew hx3 henc
 go_enter Tryz.func60, Tryz.ntmps60
 go_upto_region 2 with fail
 obtain ⟨g2, hg2⟩ : ∃ g, w.heap.size = g := ⟨_, rfl⟩
 obtain ⟨w2, hw2⟩ : ∃ W, w.alloc (.cells #[.string (ba u ++ ba [cu]), .slice none 0 0] 113) = W := ⟨_, rfl⟩
 have hb2 : Below w.heap.size w w2 := by rw [← hw2]; exact nw _ (Below.refl _ _)
 have hB2 : Blk w2 g2 113 #[.string (ba (u ++ [cu])), .slice none 0 0] := by rw [← ba_app, ← hw2, ← hg2]; exact Blk.new _ _ _
 have HG2 : Hid (GrI w2 gm g2 (u ++ [cu]) (.slice none 0 0) []) := ⟨hB2, own_nil _ _ _ _, by omega⟩
 have HSR2 := Lib.hid (HSR.out.below hb2)
 have HGG2 := Lib.hid (HG.out.below hb2)
 have HB2 := Lib.hid hb2
 have HNE : Hid (g2 ≠ gg) := by show g2 ≠ gg; omega
 have HGE : Hid (w.heap.size ≤ g2) := Nat.le_of_eq hg2
 have HST2 : Hid (StOp w2 gf gm g2 s A c H0 (u ++ [cu]) (.slice none 0 0) 0 w2 H0 [] (.slice none 0 0)) :=
  ⟨HSR2.out, HG2.out, ⟨⟨HI.out, fun _ h => h, fun _ _ h => .inl h, HZ.out⟩, fun x => ⟨fun h => (nomatch h), fun h => absurd h (HNW.out x)⟩, Nat.zero_le _, Nat.zero_le _, fun _ _ h => absurd h (Nat.not_lt_zero _)⟩, .refl _ _ _ _, .inl rfl⟩
 have HGB : Hid (∀ W, BelS gm (XG g2 (.slice none 0 0)) w2.heap.size w2 W → GrI W gm gg u (.slice B xs.length cx) xs) := fun W hW => HGG2.out.belS hW HGG2.out.blk.lt (fun h => h.elim (fun e => HNE.out e.symm) (fun e => by cases e)) fun g hg => ⟨(HGG2.out.row.lt g hg).2, fun h => h.elim (fun e => by
  have h1 := (HG.out.row.lt g hg).2
  have := HGE.out
  omega) (fun e => by cases e)⟩
 have g1 := HGG2.out.blk.cell 1
 have gl := HGG2.out.blk.lt
 simp at g1
 rw [hw2, hg2]
 clear hw2 hg2 hb2 hB2 g0 hrt hw32 hzz
 go_wp2_with fail
 go_loopw [27] (fun kv wr => ∃ k : Nat, k ≤ xs.length ∧ kv = .int .i64 (k : Int) ∧ ∃ (H : Hst Pl) (ys : List (St Pl)) (v : Value), StOp w2 gf gm g2 s A c H0 (u ++ [cu]) (.slice none 0 0) 0 wr H ys v ∧ TakeK H u cu xs k) (fun kv _ => xs.length - (intOf kv).toNat)
 case atStart => exact ⟨0, by omega, rfl, H0, [], _, HST2.out, TakeK.zero⟩
 case round =>
  clear g1 gl
  obtain ⟨wR, rfl⟩ : ∃ W, W = wr := ⟨wr, rfl⟩
  obtain ⟨k, hk, rfl, H, ys, v, hst, htk⟩ := hrel
  have HST := Lib.hid hst
  have HTK := Lib.hid htk
  have HGR := Lib.hid (HGB.out _ hst.bel)
  clear hst htk
  by_cases hlt : k < xs.length
  ·have hki : (k : Int) < (xs.length : Int) := by omega
   have hk0 : (0 : Int) ≤ (k : Int) := by omega
   obtain ⟨B', cx', hBe, _, _, hx3⟩ := HGR.out.slr
   obtain ⟨rfl, rfl⟩ : B = B' ∧ cx = cx' := by injection hBe with h1 h2 h3; exact ⟨h1, h3⟩
   obtain ⟨b, off, x, rfl, hbb, hxx, d0, d1, d2, d3, d4, d5, d6⟩ := hx3.sts hlt
   have HXI := Lib.hid hxx
   clear hxx hx3 hBe
   go_upto_region 5 with fail
   obtain ⟨gx, hgx⟩ : ∃ g, wR.heap.size = g := ⟨_, rfl⟩
   obtain ⟨W1, hW1⟩ : ∃ W, wR.alloc (.cells #[.int .i64 x.l.1, .string (ba x.l.2), .int .i64 x.r.1, .string (ba x.r.2), .string (ba x.g.a), .string (ba x.g.b), .bool x.g.p] 122) = W := ⟨_, rfl⟩
   have hb1 : Below wR.heap.size wR W1 := by rw [← hW1]; exact nw _ (Below.refl _ _)
   have hX1 : Blk W1 gx 122 #[.int .i64 x.l.1, .string (ba x.l.2), .int .i64 x.r.1, .string (ba x.r.2), .string (ba x.g.a), .string (ba x.g.b), .bool x.g.p] := by rw [← hW1, ← hgx]; exact Blk.new _ _ _
   have HST1 := Lib.hid (HST.out.below hb1)
   have HX1 := Lib.hid hX1
   have HNV : Hid (v.ownBlock ≠ some gx) := by show _ ≠ _; rw [← hgx]; exact own_lt HST.out.gr.row (Nat.le_refl _)
   have HNG : Hid (gx ≠ g2 ∧ gx ≠ gm) := ⟨by have := HST.out.gr.blk.lt; omega, HST1.out.sr.gmne hX1⟩
   rw [hW1, hgx]
   clear hW1 hgx hb1 d0 d1 d2 d3 d4 d5 d6 hbb
   have x0 := hX1.cell 0
   have x1 := hX1.cell 1
   have x2 := hX1.cell 2
   have x3 := hX1.cell 3
   have xl := hX1.lt
   simp at x0 x1 x2 x3
   clear hX1
   go_cut [10, 11] (fun s10 s11 W => ∃ gl gr : Nat, s10 = .pointer (some ⟨gl, 0, none⟩) ∧ s11 = .pointer (some ⟨gr, 0, none⟩) ∧ Blk W gl 116 #[.int .i64 x.l.1, .string (ba x.l.2)] ∧ Blk W gr 116 #[.int .i64 x.r.1, .string (ba x.r.2)] ∧ Below W1.heap.size W1 W)
   case first =>
    refine ordB_below (.quiet 0 (.quiet 1 (.quiet 2 (.quiet 3 (.quiet 4 (.quiet 5 (.fork 6 7 (.only 7 (.only 8 (.only 9 .done))) (.only 6 (.only 8 (.only 9 .done)))))))))) (by kernel_rfl) (by kernel_rfl) (by kernel_rfl) (fun _ _ _ _ _ h => h) ?_
    intro V0 hV0
    iterate 6 ((first | refine ordB_skip rfl rfl ?_ | (refine ordB_take (v := ?_) rfl rfl ?_ ?_; rotate_left 1; (focus (intro W hW; obtain ⟨hcW, hfW⟩ := bcell hW; (go_simp <;> with_reducible rfl))))); simp only [Act.put, zA, zB, zC])
    refine ordB_fork (opB_call rfl rfl (fun K hK => ?_)) (opB_call rfl rfl (fun K hK => ?_))
    ·go_simp
     refine hK.out _ _ (hV0.alloc hV0.size _) (fun hV0_1 => ?_)
     have LL := Blk.new V0 116 #[.int .i64 0, .string ⟨#[]⟩]
     have LLb := nw (.cells #[.int .i64 0, .string ⟨#[]⟩] 116) (Below.refl V0.heap.size V0)
     have LLg := hV0.size
     obtain ⟨V0_1, qqV0_1⟩ : ∃ W', V0.alloc (.cells #[.int .i64 0, .string ⟨#[]⟩] 116) = W' := ⟨_, rfl⟩
     rw [qqV0_1] at hV0_1 LL LLb ⊢
     clear qqV0_1 LLb
     refine ordB_only (opB_call rfl rfl (fun K hK => ?_))
     have LL_RR := Nat.ne_of_lt LL.lt
     go_simp
     refine hK.out _ _ (hV0_1.alloc hV0_1.size _) (fun hV0_1_2 => ?_)
     have RR := Blk.new V0_1 116 #[.int .i64 0, .string ⟨#[]⟩]
     have RRb := nw (.cells #[.int .i64 0, .string ⟨#[]⟩] 116) (Below.refl V0_1.heap.size V0_1)
     have RRg := hV0_1.size
     obtain ⟨V0_1_2, qqV0_1_2⟩ : ∃ W', V0_1.alloc (.cells #[.int .i64 0, .string ⟨#[]⟩] 116) = W' := ⟨_, rfl⟩
     rw [qqV0_1_2] at hV0_1_2 RR RRb ⊢
     have LL := LL.below RRb LL.lt
     clear qqV0_1_2 RRb
     refine ordB_only (opB_call rfl rfl (fun K hK => ?_))
     have LLc0 := LL.cell 0
     have LLf0 := LL.frozen 0
     have LLc1 := LL.cell 1
     have LLf1 := LL.frozen 1
     simp at LLc0 LLc1
     go_simp
     refine hK.out _ _ ((hV0_1_2.setCell (p := ⟨V0.heap.size, 0, none⟩) LLg _).setCell (p := ⟨V0.heap.size, 1, none⟩) LLg _) (fun hV0_1_2_3 => ?_)
     have LL := ((LL.set_ 0 (.int .i64 x.l.1)).set_ 1 (.string (ba x.l.2)))
     have RRne : V0_1.heap.size ≠ V0.heap.size := by first | exact RR_LL | exact LL_RR.symm
     have RR := ((RR.far (p := ⟨V0.heap.size, 0, none⟩) RRne (.int .i64 x.l.1)).far (p := ⟨V0.heap.size, 1, none⟩) RRne (.string (ba x.l.2)))
     obtain ⟨V0_1_2_3, qqV0_1_2_3⟩ : ∃ W', ((V0_1_2.setCell ⟨V0.heap.size, 0, none⟩ (.int .i64 x.l.1)).setCell ⟨V0.heap.size, 1, none⟩ (.string (ba x.l.2))) = W' := ⟨_, rfl⟩
     rw [qqV0_1_2_3] at hV0_1_2_3 LL RR ⊢
     clear qqV0_1_2_3 LLc0 LLf0 LLc1 LLf1
     refine ordB_only (opB_call rfl rfl (fun K hK => ?_))
     have RRc0 := RR.cell 0
     have RRf0 := RR.frozen 0
     have RRc1 := RR.cell 1
     have RRf1 := RR.frozen 1
     simp at RRc0 RRc1
     go_simp
     refine hK.out _ _ ((hV0_1_2_3.setCell (p := ⟨V0_1.heap.size, 0, none⟩) RRg _).setCell (p := ⟨V0_1.heap.size, 1, none⟩) RRg _) (fun hV0_1_2_3_4 => ?_)
     have RR := ((RR.set_ 0 (.int .i64 x.r.1)).set_ 1 (.string (ba x.r.2)))
     have LLne : V0.heap.size ≠ V0_1.heap.size := by first | exact LL_RR | exact RR_LL.symm
     have LL := ((LL.far (p := ⟨V0_1.heap.size, 0, none⟩) LLne (.int .i64 x.r.1)).far (p := ⟨V0_1.heap.size, 1, none⟩) LLne (.string (ba x.r.2)))
     obtain ⟨V0_1_2_3_4, qqV0_1_2_3_4⟩ : ∃ W', ((V0_1_2_3.setCell ⟨V0_1.heap.size, 0, none⟩ (.int .i64 x.r.1)).setCell ⟨V0_1.heap.size, 1, none⟩ (.string (ba x.r.2))) = W' := ⟨_, rfl⟩
     rw [qqV0_1_2_3_4] at hV0_1_2_3_4 RR LL ⊢
     clear qqV0_1_2_3_4 RRc0 RRf0 RRc1 RRf1
     refine ordB_nil ?_
     go_wp2_with fail
     go_meet
     first | exact ⟨V0.heap.size, V0_1.heap.size, rfl, rfl, LL, RR, hV0_1_2_3_4⟩ | exact ⟨V0_1.heap.size, V0.heap.size, rfl, rfl, LL, RR, hV0_1_2_3_4⟩
    ·go_simp
     refine hK.out _ _ (hV0.alloc hV0.size _) (fun hV0_1 => ?_)
     have RR := Blk.new V0 116 #[.int .i64 0, .string ⟨#[]⟩]
     have RRb := nw (.cells #[.int .i64 0, .string ⟨#[]⟩] 116) (Below.refl V0.heap.size V0)
     have RRg := hV0.size
     obtain ⟨V0_1, qqV0_1⟩ : ∃ W', V0.alloc (.cells #[.int .i64 0, .string ⟨#[]⟩] 116) = W' := ⟨_, rfl⟩
     rw [qqV0_1] at hV0_1 RR RRb ⊢
     clear qqV0_1 RRb
     refine ordB_only (opB_call rfl rfl (fun K hK => ?_))
     have RR_LL := Nat.ne_of_lt RR.lt
     go_simp
     refine hK.out _ _ (hV0_1.alloc hV0_1.size _) (fun hV0_1_2 => ?_)
     have LL := Blk.new V0_1 116 #[.int .i64 0, .string ⟨#[]⟩]
     have LLb := nw (.cells #[.int .i64 0, .string ⟨#[]⟩] 116) (Below.refl V0_1.heap.size V0_1)
     have LLg := hV0_1.size
     obtain ⟨V0_1_2, qqV0_1_2⟩ : ∃ W', V0_1.alloc (.cells #[.int .i64 0, .string ⟨#[]⟩] 116) = W' := ⟨_, rfl⟩
     rw [qqV0_1_2] at hV0_1_2 LL LLb ⊢
     have RR := RR.below LLb RR.lt
     clear qqV0_1_2 LLb
     refine ordB_only (opB_call rfl rfl (fun K hK => ?_))
     have LLc0 := LL.cell 0
     have LLf0 := LL.frozen 0
     have LLc1 := LL.cell 1
     have LLf1 := LL.frozen 1
     simp at LLc0 LLc1
     go_simp
     refine hK.out _ _ ((hV0_1_2.setCell (p := ⟨V0_1.heap.size, 0, none⟩) LLg _).setCell (p := ⟨V0_1.heap.size, 1, none⟩) LLg _) (fun hV0_1_2_3 => ?_)
     have LL := ((LL.set_ 0 (.int .i64 x.l.1)).set_ 1 (.string (ba x.l.2)))
     have RRne : V0.heap.size ≠ V0_1.heap.size := by first | exact RR_LL | exact LL_RR.symm
     have RR := ((RR.far (p := ⟨V0_1.heap.size, 0, none⟩) RRne (.int .i64 x.l.1)).far (p := ⟨V0_1.heap.size, 1, none⟩) RRne (.string (ba x.l.2)))
     obtain ⟨V0_1_2_3, qqV0_1_2_3⟩ : ∃ W', ((V0_1_2.setCell ⟨V0_1.heap.size, 0, none⟩ (.int .i64 x.l.1)).setCell ⟨V0_1.heap.size, 1, none⟩ (.string (ba x.l.2))) = W' := ⟨_, rfl⟩
     rw [qqV0_1_2_3] at hV0_1_2_3 LL RR ⊢
     clear qqV0_1_2_3 LLc0 LLf0 LLc1 LLf1
     refine ordB_only (opB_call rfl rfl (fun K hK => ?_))
     have RRc0 := RR.cell 0
     have RRf0 := RR.frozen 0
     have RRc1 := RR.cell 1
     have RRf1 := RR.frozen 1
     simp at RRc0 RRc1
     go_simp
     refine hK.out _ _ ((hV0_1_2_3.setCell (p := ⟨V0.heap.size, 0, none⟩) RRg _).setCell (p := ⟨V0.heap.size, 1, none⟩) RRg _) (fun hV0_1_2_3_4 => ?_)
     have RR := ((RR.set_ 0 (.int .i64 x.r.1)).set_ 1 (.string (ba x.r.2)))
     have LLne : V0_1.heap.size ≠ V0.heap.size := by first | exact LL_RR | exact RR_LL.symm
     have LL := ((LL.far (p := ⟨V0.heap.size, 0, none⟩) LLne (.int .i64 x.r.1)).far (p := ⟨V0.heap.size, 1, none⟩) LLne (.string (ba x.r.2)))
     obtain ⟨V0_1_2_3_4, qqV0_1_2_3_4⟩ : ∃ W', ((V0_1_2_3.setCell ⟨V0.heap.size, 0, none⟩ (.int .i64 x.r.1)).setCell ⟨V0.heap.size, 1, none⟩ (.string (ba x.r.2))) = W' := ⟨_, rfl⟩
     rw [qqV0_1_2_3_4] at hV0_1_2_3_4 RR LL ⊢
     clear qqV0_1_2_3_4 RRc0 RRf0 RRc1 RRf1
     refine ordB_nil ?_
     go_wp2_with fail
     go_meet
     first | exact ⟨V0.heap.size, V0_1.heap.size, rfl, rfl, LL, RR, hV0_1_2_3_4⟩ | exact ⟨V0_1.heap.size, V0.heap.size, rfl, rfl, LL, RR, hV0_1_2_3_4⟩
   case rest =>
    clear x0 x1 x2 x3 xl
    obtain ⟨X1, rfl⟩ : ∃ W, W = wc := ⟨wc, rfl⟩
    obtain ⟨gl, gr, rfl, rfl, hL, hR, hb⟩ := hcut
    have HXX := Lib.hid (HX1.out.below hb HX1.out.lt)
    have HSX := Lib.hid (HST1.out.below hb)
    have HRX := Lib.hid hL
    have HNX := Lib.hid hR
    have l0 := hL.cell 0
    have l1 := hL.cell 1
    have r0 := hR.cell 0
    have r1 := hR.cell 1
    have x4 := HXX.out.cell 4
    have x5 := HXX.out.cell 5
    have x6 := HXX.out.cell 6
    have hgxl := HXX.out.lt
    have hgrl := hL.lt
    have hgnl := hR.lt
    simp at l0 l1 r0 r1 x4 x5 x6
    clear hb hL hR HX1 HST1
    obtain ⟨P, hP⟩ : ∃ P, ba x.l.2 = P := ⟨_, rfl⟩
    obtain ⟨Q, hQ⟩ : ∃ P, ba x.r.2 = P := ⟨_, rfl⟩
    rw [hP] at l1
    rw [hQ] at r1
    have HP := Lib.hid hP
    have HQ := Lib.hid hQ
    clear hP hQ
    go_upto_region 6 with fail
    go_cut [58] (fun sb W => IsTake cu x sb ∧ W = X1)
    case first =>
     by_cases p0 : 0 < P.size
     ·have p1 : P.toList.isEmpty = false := ne_emp p0
      have p2 : (0 : Int) < (P.size : Int) := by omega
      by_cases p3 : P[0] = cu
      ·have p4 : ((P[0].toNat : Int) == (cu.toNat : Int)) = true := by rw [p3]; simp
       have HPE := Lib.hid (head_ba HP.out p0 p3)
       clear p3
       by_cases q0 : 0 < Q.size
       ·have q1 : Q.toList.isEmpty = false := ne_emp q0
        have q2 : (0 : Int) < (Q.size : Int) := by omega
        by_cases q3 : Q[0] = cu
        ·have q4 : ((Q[0].toNat : Int) == (cu.toNat : Int)) = true := by rw [q3]; simp
         have HQE := Lib.hid (head_ba HQ.out q0 q3)
         clear q3
         go_wp2_with fail
         go_meet
         exact ⟨.yes HPE.out HQE.out, rfl⟩
        ·have q4 : ((Q[0].toNat : Int) == (cu.toNat : Int)) = false := by rw [beq_eq_false_iff_ne]; exact fun e => q3 (UInt8.toNat_inj.1 (by omega))
         have HNO : Hid (∀ t, x.r.2 ≠ cu :: t) := fun t e => q3 (ba_head HQ.out e q0)
         clear q3
         go_wp2_with fail
         go_meet
         exact ⟨.noR HNO.out, rfl⟩
       ·have q1 : Q.toList.isEmpty = true := em_emp q0
        have HNO : Hid (∀ t, x.r.2 ≠ cu :: t) := fun t e => q0 (ba_pos HQ.out e)
        go_wp2_with fail
        go_meet
        exact ⟨.noR HNO.out, rfl⟩
      ·have p4 : ((P[0].toNat : Int) == (cu.toNat : Int)) = false := by rw [beq_eq_false_iff_ne]; exact fun e => p3 (UInt8.toNat_inj.1 (by omega))
       have HNO : Hid (∀ t, x.l.2 ≠ cu :: t) := fun t e => p3 (ba_head HP.out e p0)
       clear p3
       go_wp2_with fail
       go_meet
       exact ⟨.noL HNO.out, rfl⟩
     ·have p1 : P.toList.isEmpty = true := em_emp p0
      have HNO : Hid (∀ t, x.l.2 ≠ cu :: t) := fun t e => p0 (ba_pos HP.out e)
      go_wp2_with fail
      go_meet
      exact ⟨.noL HNO.out, rfl⟩
    case rest =>
     obtain ⟨⟨bt, rfl, hbt⟩, hwc⟩ := hcut
     subst hwc
     obtain ⟨X1, rfl⟩ : ∃ W, W = wc := ⟨wc, rfl⟩
     have HBT := Lib.hid hbt
     clear hbt
     cases hbv : bt with
     | false =>
      have HNT : Hid (∀ tl tr, x.l.2 = cu :: tl → x.r.2 = cu :: tr → False) := fun tl tr h1 h2 => by have := HBT.out.2 ⟨tl, tr, h1, h2⟩; rw [hbv] at this; cases this
      clear hbv
      go_wp2_with fail
      go_roundw
      case rel => exact ⟨k + 1, by omega, by go_num, H, ys, v, HSX.out, HTK.out.next HXI.out fun tl tr h1 h2 => (HNT.out tl tr h1 h2).elim⟩
      case measure => simp [intOf]; omega
     | true =>
      obtain ⟨tl, tr, htl, htr⟩ := hbt2 HBT.out hbv
      have HTL := Lib.hid htl
      have HTR := Lib.hid htr
      clear hbv htl htr
      have HTW : Hid (Two (schA s) (u ++ [cu]) (x.l.1, tl) (x.r.1, tr) x.g) := two_take (HSR.out.two0 HI.out HMEM.out HXI.out) HTL.out HTR.out
      have HSZ : Hid (x.g.sz ≤ 8 * H.length + 8) := by
       have h1 := HZ.out x u ((HMEM.out x).1 (List.mem_of_getElem? HXI.out))
       have h2 := sub_len HST.out.op.inv.nodup HI.out.nodup HST.out.op.sub
       show _ ≤ _
       omega
      have HLN := Lib.hid (met_len HOK.out HSX.out.op.inv)
      have HE1 : Hid (ba tl = P.extract 1 P.size) := by show _ = _; have := HP.out; subst this; rw [HTL.out]; exact (ba_drop (cu :: tl) 1).symm
      have HE2 : Hid (ba tr = Q.extract 1 Q.size) := by show _ = _; have := HQ.out; subst this; rw [HTR.out]; exact (ba_drop (cu :: tr) 1).symm
      have HAD : Hid (∀ W, Below X1.heap.size X1 W → Calls Tryz.prog 57 #[.pointer (some ⟨gf, 0, none⟩), .pointer (some ⟨g2, 0, none⟩), .agg #[.int .i64 x.l.1, .string (P.extract 1 P.size), .int .i64 x.r.1, .string (Q.extract 1 Q.size), .string (ba x.g.a), .string (ba x.g.b), .bool x.g.p]] W (IsAddS gf gm g2 s A c H (u ++ [cu]) v ys ⟨(x.l.1, tl), (x.r.1, tr), x.g⟩ W)) := fun W hW => by
       have := sadd_any s A c gf gm g2 H (u ++ [cu]) v ys ⟨(x.l.1, tl), (x.r.1, tr), x.g⟩ W (HSX.out.sr.below hW) (HSX.out.gr.below hW) (by have := HLN.out; omega) (by have := HSX.out.op.len; have := HLN.out; omega) (HSX.out.op.inv.few _ _) (two_modes HOK.out HTW.out).1 (two_modes HOK.out HTW.out).2
       rw [show ba (⟨(x.l.1, tl), (x.r.1, tr), x.g⟩ : St Pl).l.2 = P.extract 1 P.size from HE1.out, show ba (⟨(x.l.1, tl), (x.r.1, tr), x.g⟩ : St Pl).r.2 = Q.extract 1 Q.size from HE2.out] at this
       exact this
      have hp1 : (1 : Int) ≤ (P.size : Int) := by have := ba_pos HP.out HTL.out; omega
      have hq1 : (1 : Int) ≤ (Q.size : Int) := by have := ba_pos HQ.out HTR.out; omega
      go_upto_region 7 with fail
      refine ordB_start (Kp3 gx gl gr X1) (.quiet 0 (.quiet 1 (.quiet 2 (.quiet 3 (.quiet 4 (.quiet 5 (.quiet 6 (.quiet 7 (.quiet 8 (.quiet 9 (.quiet 10 (.quiet 11 (.quiet 12 (.quiet 13 (.quiet 14 (.quiet 15 (.quiet 16 (.quiet 17 (.only 18 .done))))))))))))))))))) (by kernel_rfl) (by kernel_rfl) (by kernel_rfl) (fun _ _ _ _ _ h => h) (Kp3.of_below (Below.refl _ _).drew hgxl hgrl hgnl) ?_
      have hV0 : Kp3 gx gl gr X1 X1.drew := Kp3.of_below (Below.refl _ _).drew hgxl hgrl hgnl
      have hB0 : Below X1.heap.size X1 X1.drew := (Below.refl _ _).drew
      obtain ⟨V0, qqV0⟩ : ∃ W, X1.drew = W := ⟨_, rfl⟩
      rw [qqV0] at hV0 hB0 ⊢
      clear qqV0
      iterate 18 ((first | refine ordB_skip rfl rfl ?_ | (refine ordB_take (v := ?_) rfl rfl ?_ ?_; rotate_left 1; (focus (intro W hW; obtain ⟨hcA, hcB, hcC⟩ := hW.cells; (go_simp <;> with_reducible rfl))))); simp only [Act.put, zA, zB, zC])
      refine ordB_only (opB_call rfl rfl (fun K hK => ?_))
      go_simp
      go_at_call 57
      refine (HAD.out V0 hB0).mono ?_
      rintro e V2 ⟨rfl, v2, hS2, hG2, hbs2, hat2⟩
      have hgx2 : V2.heap[gx]? = X1.heap[gx]? := (hbs2.block gx (Nat.lt_of_lt_of_le hgxl hB0.size) (fun h => h.elim (fun e => HNG.out.1 e) (fun e => HNV.out e)) (.inr ⟨HNG.out.2, .of_blk (HXX.out.below hB0 hgxl) (by decide)⟩)).trans (hB0.block gx hgxl)
      have hgr2 : V2.heap[gl]? = X1.heap[gl]? := (hbs2.block gl (Nat.lt_of_lt_of_le hgrl hB0.size) (fun h => h.elim (fun e => blk_ne HRX.out HSX.out.gr.blk (by decide) e) (fun e => own_blk_ne HSX.out.gr.row HRX.out (by decide) e)) (.inr ⟨(HSX.out.sr.gmne HRX.out), .of_blk (HRX.out.below hB0 hgrl) (by decide)⟩)).trans (hB0.block gl hgrl)
      have hgn2 : V2.heap[gr]? = X1.heap[gr]? := (hbs2.block gr (Nat.lt_of_lt_of_le hgnl hB0.size) (fun h => h.elim (fun e => blk_ne HNX.out HSX.out.gr.blk (by decide) e) (fun e => own_blk_ne HSX.out.gr.row HNX.out (by decide) e)) (.inr ⟨(HSX.out.sr.gmne HNX.out), .of_blk (HNX.out.below hB0 hgnl) (by decide)⟩)).trans (hB0.block gr hgnl)
      refine hK.out _ _ ⟨Nat.le_trans hB0.size hbs2.size, hgx2, hgr2, hgn2⟩ (fun hV0_1 => ?_)
      clear hK K
      refine ordB_nil ?_
      have hst2 := HSX.out.add hB0 ⟨hS2, hG2, hbs2, hat2⟩ HTW.out HSZ.out
      have hst3 := hst2.1
      have HK2 := Lib.hid hst2.2
      have HST3 := Lib.hid hst3
      clear hst2 hst3 hgx2 hgr2 hgn2 hS2 hG2 hbs2 hat2 hB0 hV0_1
      go_wp2_with fail
      go_roundw
      case rel => exact ⟨k + 1, by omega, by go_num, _, _, v2, HST3.out, (HTK.out.mono add_sub).next HXI.out fun tl2 tr2 h1 h2 => by
       have e1 : tl2 = tl := (List.cons.inj (h1.symm.trans HTL.out)).2
       have e2 : tr2 = tr := (List.cons.inj (h2.symm.trans HTR.out)).2
       rw [e1, e2]
       exact HK2.out⟩
      case measure => simp [intOf]; omega
  ·obtain rfl : k = xs.length := by omega
   have hki : ¬ ((xs.length : Nat) : Int) < (xs.length : Int) := by omega
   have HBG : Hid (Below gm ws wR) := HBS.out.trans (((HB2.out.mono (by omega)) : Below gm w w2).trans (HST.out.bel.below (by have := HB2.out.size; omega) (Nat.le_refl _) fun k hk hx => by
    rcases hx with rfl | e
    ·have := HGE.out; omega
    ·cases e))
   have HOPN := Lib.hid (sopen_any ws s A c gf gm g2 H (u ++ [cu]) v ys wR HSC.out HOK.out HGM.out HBG.out HST.out.sr HST.out.gr (OpI.start HST.out.op.inv HST.out.op.sz HST.out.op.mem HST.out.op.len))
   go_wp2_with (go_at_call 58; go_loud (refine HOPN.out.mono ?_; rintro e W3 ⟨rfl, i, H3, zs, v3, hst3, hzi⟩; have HST3 := Lib.hid hst3; have HZI := Lib.hid hzi; clear hst3 hzi))
   go_ret
   have hO := HST.out.op
   have hO3 := HST3.out.op
   have hown : ∀ k, v.ownBlock = some k → w.heap.size ≤ k := fun k hk => by
    rcases HST.out.own with e | ⟨j, e, hj⟩
    ·rw [e] at hk; cases hk
    ·rw [e] at hk
     have := Option.some.inj hk
     have := HB2.out.size
     omega
   refine ⟨g2, H3, zs, v3, rfl, HGE.out, HST3.out.sr, HST3.out.gr, ⟨hO3.inv, fun p hp => hO3.sub p (hO.sub p hp), fun x y hx => ?_, hO3.sz⟩, hO3.mem, hO3.len, ?_, hO3.all HZI.out, ?_, fun k hk => ?_⟩
   ·rcases hO3.new x y hx with h | h
    ·exact hO.new x y h
    ·exact .inr h
   ·exact (HTK.out.mono hO3.sub).all (Nat.le_refl _) HMEM.out HI.out.two
   ·have hB := HB2.out.size
    have hW := HST.out.bel.size
    refine ((BelS.of_below HB2.out).trans (HST.out.bel.mono hB fun k hk hx => ?_)).trans (HST3.out.bel.mono (by omega) fun k hk hx => ?_)
    ·rcases hx with rfl | e
     ·have := HGE.out; omega
     ·cases e
    ·rcases hx with rfl | e
     ·have := HGE.out; omega
     ·have := hown k e; omega
   ·rcases HST3.out.own with e | ⟨j, e, hj⟩
    ·rw [e] at hk; exact hown k hk
    ·rw [e] at hk
     have := Option.some.inj hk
     have := HB2.out.size
     have := HST.out.bel.size
     omega
end Go.Proofs.YtfpnhgahkjglgaaGreat
