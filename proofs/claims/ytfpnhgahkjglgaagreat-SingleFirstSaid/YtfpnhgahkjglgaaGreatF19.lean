/-
  OuCost, CmpOr, OuSort, OuSortB, joined. No conditions.
-/
import Derived.Test.YtfpnhgahkjglgaaGreatF17
import Derived.Test.YtfpnhgahkjglgaaGreatF18
import Derived.Test.YtfpnhgahkjglgaaGreatF16
import Derived.Laws.EntriesVeiled
import Derived.Test.YtfpnhgahkjglgaaGreatF14
import Derived.Test.YtfpnhgahkjglgaaGreatShelf
import Derived.Shelf.SlSortCmp.WholeK
set_option maxRecDepth 100000
namespace Go.Proofs.YtfpnhgahkjglgaaGreat
open Go Go.RowKit Go.Maps
def FlatR (s : Sc) : Prop := ∀ r r', r ∈ s.rs → r' ∈ s.rs → r.mute = true → r'.mute = true → RM s r.fr → r'.fr ≠ r.to
theorem spot_goes (s : Sc) (out : List UInt8) : Goes_ (spotS s out) := fun k r k' h => by
 have h : (if bl r.out <+: out.drop k.2.toNat then some (r.to, k.2 + (r.out.size : Int)) else none) = some k' := h
 split at h
 ·rw [← Option.some.inj h]; rfl
 ·cases h
theorem pair_goes (s : Sc) : Goes_ (pairS s) := fun k r k' h => by
 have h : some (r.to, k.2 ++ r.out) = some k' := h
 rw [← Option.some.inj h]; rfl
theorem spot_flat {s : Sc} (h : FlatR s) (out inp : List UInt8) : Flat (spotS s out) (0, 0) inp := flat_of (s := s) rfl (spot_goes s out) rfl h
theorem pair_flat {s : Sc} (h : FlatR s) (inp : List UInt8) : Flat (pairS s) (0, ByteArray.empty) inp := flat_of (s := s) rfl (pair_goes s) rfl h
def CostOf (s : Sc) (inp out : ByteArray) (r : Int) : Prop := (soundE s = 0 ∧ letB inp = true → IsCost s inp out r) ∧ (¬ (soundE s = 0 ∧ letB inp = true) → r = -1)
theorem spot_facts {s : Sc} (hs : ScOK s) {inp out : ByteArray} (hF : Flat (spotS s (bl out)) (0, 0) (bl inp)) (hi : inp.size ≤ 40) (ho : out.size ≤ 1000) {i : Nat} {k : Int × Int} {d : Int} (hil : i ≤ inp.size) (h : Rch (spotS s (bl out)) (0, 0) (bl inp) i k d) :
 (KOk Tryz.prog 139 vSpot k ∧ 0 ≤ d ∧ d ≤ 1000000) ∧ (0 ≤ k.1 ∧ k.1 < 8) ∧ 0 ≤ k.2 ∧ k.2 ≤ (out.size : Int) := by
 obtain ⟨h1, h2, t, o, _, _, h3⟩ := spot_rte h
 rw [bl_len] at h2
 have h4 := rte_mode hs h3
 have hn := hs.1
 have h5 := rch_cost (S := spotS s (bl out)) (scOK_cost hs) h
 have h6 := rch_costB hF (fun r hr => (hs.2.2.2.1 r hr).2.2.2) i k d h
 exact ⟨⟨keySpot_ok (wf_small (by omega) (by omega)) (wf_small (by omega) (by omega)), h5, by omega⟩, ⟨by omega, by omega⟩, h1, h2⟩
theorem cost_round {M : Int × Int → Option Int} {p L : Int × Int → Bool} {o : Option Nat} {r most cnt cnt8 : Nat} {w w6 X7 X8 XF : World} {k : Int × Int} {q : Int} (hR8 : RTabO Tryz.prog 139 3 vSpot X8 o r most M (fun x => L x && !decide (x = k)) cnt8) (hF : Below X8.heap.size X8 XF) (hlt : cnt8 < cnt)
 (hR7 : RTabO Tryz.prog 139 3 vSpot X7 o r most M L cnt) (h0 : -1 ≤ q) (h1 : q ≤ 1000000) (hL : LeastOf M p (fun x => L x && !decide (x = k)) q) (hc : CelK w6 X7) (hb : Below w.heap.size w X7) (hg : X7.grownBy X8 (some r)) (hr : w.heap.size ≤ r) :
 (∃ (q1 : Int) (L : Int × Int → Bool) (cnt : Nat), Value.int .i64 q = .int .i64 q1 ∧ -1 ≤ q1 ∧ q1 ≤ 1000000 ∧ RTabO Tryz.prog 139 3 vSpot XF o r most M L cnt ∧ LeastOf M p L q1 ∧ CelK w6 XF ∧ Below w.heap.size w XF) ∧ leftO XF o r < leftO X7 o r := by
 have hRF := hR8.below hF
 have hb8 : Below w.heap.size w X8 := hb.grown hg hb.size (fun k hk => by injection hk with hk; omega)
 refine ⟨⟨q, _, cnt8, rfl, h0, h1, hRF, hL, (hc.trans (CelK.of_iter hg hR7.iter)).trans (CelK.of_below hF), hb8.trans (hF.mono hb8.size)⟩, ?_⟩
 rw [hRF.left_eq, hR7.left_eq]
 exact hlt
set_option maxHeartbeats 8000000 in
theorem cost05_any (s : Sc) (A : Option Addr) (c : Nat) (inp out : ByteArray) (w : World) (hs : ScIn w s A c) (hfl : ScOK s → SoundP s → FlatR s) (hin : inp.size ≤ maxLen) (ho : out.size ≤ 1000) :
 Calls Tryz.prog 29 #[.agg #[.int .i64 s.n, .int .u8 s.acc, .slice A s.rs.length c], .string inp, .string out] w fun e w' => (∃ r, e = .returned (.int .i64 r) ∧ CostOf s inp out r) ∧ Below w.heap.size w w' := by
 obtain ⟨w1, hw1⟩ : ∃ w1, (w.alloc (.cells #[.int .i64 s.n, .int .u8 s.acc, .slice A s.rs.length c] 30)).alloc (.cells #[.string out] 9) = w1 := ⟨_, rfl⟩
 obtain ⟨g, hg⟩ : ∃ g, w.heap.size = g := ⟨_, rfl⟩
 have hb1 : Below w.heap.size w w1 := by rw [← hw1]; exact nw _ (nw _ (Below.refl _ _))
 have hB : Blk w1 g 30 #[.int .i64 s.n, .int .u8 s.acc, .slice A s.rs.length c] := by rw [← hw1, ← hg]; exact (Blk.new _ _ _).alloc _
 have hO : Blk w1 (g + 1) 9 #[.string out] := by rw [← hw1]; exact Blk.new_ (by simp; omega)
 have HW1 := Lib.hid hw1
 have HG := Lib.hid hg
 have HB1 := Lib.hid hb1
 have HBX := Lib.hid hB
 have HOX := Lib.hid hO
 have HS := Lib.hid hs
 have HFL := Lib.hid hfl
 have HSO : Hid (∀ W, Below w1.heap.size w1 W → Calls Tryz.prog 37 #[.agg #[.int .i64 s.n, .int .u8 s.acc, .slice A s.rs.length c]] W fun e w' => e = .returned (.bool (decide (soundE s = 0))) ∧ Below W.heap.size W w') := fun W hW => osound05_any s A c W (hs.below (bthen hb1 hW))
 have HLE : Hid (∀ W : World, Calls Tryz.prog 38 #[.string inp] W fun e w' => e = .returned (.bool (letB inp)) ∧ W = w') := fun W => letters_any inp W hin
 have b0 := hB.cell 0
 have b1 := hB.cell 1
 have b2 := hB.cell 2
 have bl_ := hB.lt
 simp at b0 b1 b2
 clear hw1 hg hb1 hB hO hs hfl
 cases hso : decide (soundE s = 0) with
 | false =>
  have HC : Hid (CostOf s inp out (-1)) := ⟨fun h => absurd h.1 (of_decide_eq_false hso), fun _ => rfl⟩
  rw [hso] at HSO
  clear hso
  go_enter Tryz.func29, Tryz.ntmps29
  go_upto_region 1 with fail
  rw [HW1.out, HG.out]
  go_wp2_with (go_at_call 37; go_loud (refine (HSO.out _ (Below.refl _ _)).mono ?_; rintro e w2 ⟨rfl, hb2⟩))
  go_ret
  exact ⟨⟨-1, rfl, HC.out⟩, HB1.out.trans (hb2.mono HB1.out.size)⟩
 | true =>
  rw [hso] at HSO
  have HSE := Lib.hid (of_decide_eq_true hso)
  clear hso
  cases hle : letB inp with
  | false =>
   have HC : Hid (CostOf s inp out (-1)) := ⟨(fun h => by rw [hle] at h; cases h.2), fun _ => rfl⟩
   rw [hle] at HLE
   clear hle
   go_enter Tryz.func29, Tryz.ntmps29
   go_upto_region 1 with fail
   rw [HW1.out, HG.out]
   go_wp2_with (first | (go_at_call 37; go_loud (refine (HSO.out _ (Below.refl _ _)).mono ?_; rintro e w2 ⟨rfl, hb2⟩)) | (go_at_call 38; refine (HLE.out _).mono ?_; rintro e w' ⟨rfl, rfl⟩))
   go_ret
   exact ⟨⟨-1, rfl, HC.out⟩, HB1.out.trans (hb2.mono HB1.out.size)⟩
  | true =>
   rw [hle] at HLE
   have HLI := Lib.hid hle
   have hi40 : inp.size ≤ 40 := by have := hle; unfold letB at this; simp at this; exact this.1
   clear hle
   obtain ⟨hok, hsp⟩ := soundE_iff.1 HSE.out
   have hFl := HFL.out hok hsp
   have HOK := Lib.hid hok
   have HFS := Lib.hid (spot_flat hFl (bl out) (bl inp))
   clear hok hsp hFl
   go_enter Tryz.func29, Tryz.ntmps29
   go_upto_region 1 with fail
   rw [HW1.out, HG.out]
   go_upto_region 3 with (first | (go_at_call 37; go_loud (refine (HSO.out _ (Below.refl _ _)).mono ?_; rintro e w2 ⟨rfl, hb2⟩)) | (go_at_call 38; refine (HLE.out _).mono ?_; rintro e w' ⟨rfl, rfl⟩))
   have HB2 : Hid (Below w.heap.size w w2) := HB1.out.trans (hb2.mono HB1.out.size)
   have HBY := Lib.hid (HBX.out.below hb2 HBX.out.lt)
   have HOY := Lib.hid (HOX.out.below hb2 HOX.out.lt)
   clear b0 b1 b2 bl_ hb2
   have b0 := HBY.out.cell 0
   have b1 := HBY.out.cell 1
   have b2 := HBY.out.cell 2
   have bl_ := HBY.out.lt
   have o0 := HOY.out.cell 0
   have ol := HOY.out.lt
   simp at b0 b1 b2 o0
   obtain ⟨most, hmo⟩ : ∃ m : Nat, (out.size + 1) * 8 = m := ⟨_, rfl⟩
   have HMO := Lib.hid hmo
   have hmo1 : ((out.size : Int) + 1) * 8 = (most : Int) := by omega
   have hmo2 : 1 ≤ most ∧ most ≤ 10000 := by omega
   have hso : (out.size : Int) ≤ 1000 := by omega
   have hso0 : (0 : Int) ≤ (out.size : Int) := by omega
   clear hmo
   go_upto_region 4 with fail
   obtain ⟨w4, hw4⟩ : ∃ W, w2.alloc (.cells #[.int .i64 s.n, .int .u8 s.acc, .slice A s.rs.length c, .func (.func 67) #[] #[], .func (.func 68) #[] #[.pointer (some ⟨g + 1, 0, none⟩)], .int .i64 (most : Int)] 144) = W := ⟨_, rfl⟩
   obtain ⟨g7, hg7⟩ : ∃ g, w2.heap.size = g := ⟨_, rfl⟩
   have hb4 : Below w2.heap.size w2 w4 := by rw [← hw4]; exact nw _ (Below.refl _ _)
   have hWK : Blk w4 g7 144 #[.int .i64 s.n, .int .u8 s.acc, .slice A s.rs.length c, .func (.func 67) #[] #[], .func (.func 68) #[] #[.pointer (some ⟨g + 1, 0, none⟩)], .int .i64 (most : Int)] := by rw [← hw4, ← hg7]; exact Blk.new _ _ _
   have HB4 : Hid (Below w.heap.size w w4) := HB2.out.trans (hb4.mono HB2.out.size)
   have HB4X := Lib.hid (HBY.out.below hb4 HBY.out.lt)
   have HB4O := Lib.hid (HOY.out.below hb4 HOY.out.lt)
   rw [hw4, hg7]
   have HRUN : Hid (Calls Tryz.prog 70 #[.agg #[.int .i64 s.n, .int .u8 s.acc, .slice A s.rs.length c, .func (.func 67) #[] #[], .func (.func 68) #[] #[.pointer (some ⟨g + 1, 0, none⟩)], .int .i64 (most : Int)], .agg #[.int .i64 0, .int .i64 0], .string inp] w4 (IsRun 139 vSpot (spotS s (bl out)) (0, 0) inp most w4)) :=
    runSpot_any (spotS s (bl out)) (0, 0) inp s A c most (g + 1) w4 (HS.out.below HB4.out) HOK.out rfl HFS.out (by omega) hmo2.1 hmo2.2 (keySpot_ok (wf_small (by decide) (by decide)) (wf_small (by decide) (by decide)))
     (fun i k d hi h => (spot_facts HOK.out HFS.out hi40 ho hi h).1) (fun W k => modeSpot_any k W) (fun W hW k x hx ⟨i, d, hi, h⟩ => by
      obtain ⟨_, _, h2, h3⟩ := spot_facts HOK.out HFS.out hi40 ho hi h
      obtain ⟨m, a⟩ := k
      obtain ⟨n, rfl⟩ : ∃ n : Nat, a = (n : Int) := ⟨a.toNat, (Int.toNat_of_nonneg h2).symm⟩
      have hOW := HB4O.out.below hW HB4O.out.lt
      exact stepSpot_any s out m n (g + 1) x W (by rw [hOW.cell]; rfl) hOW.lt (by have h3 : (n : Int) ≤ (out.size : Int) := h3; omega) (by omega) (by have := (HOK.out.2.2.2.1 x hx).2.2.1.1; omega))
   have k0 := hWK.cell 0
   have k1 := hWK.cell 1
   have k2 := hWK.cell 2
   have k3 := hWK.cell 3
   have k4 := hWK.cell 4
   have k5 := hWK.cell 5
   have kl := hWK.lt
   simp at k0 k1 k2 k3 k4 k5
   clear hw4 hg7 hb4 hWK b0 b1 b2 bl_ o0 ol
   go_upto_region 5 with (go_at_call 70; go_loud (refine HRUN.out.mono ?_; rintro e w5 hru; obtain ⟨o, M, rfl, hb5, hTO, hM⟩ := hru.ok (fun i _ => by rw [← HMO.out]; exact spots_few (inp := bl inp) (out := bl out) HOK.out)))
   have HTO := Lib.hid hTO
   have HM := Lib.hid hM
   have HB5 : Hid (Below w.heap.size w w5) := HB4.out.trans (hb5.mono HB4.out.size)
   have HB5X := Lib.hid (HB4X.out.below hb5 HB4X.out.lt)
   have HB5O := Lib.hid (HB4O.out.below hb5 HB4O.out.lt)
   clear hTO hM hb5 k0 k1 k2 k3 k4 k5 kl
   go_wp2_with (at_range; refine tabO_range ktSpot _ rfl _ rfl (b := o) rfl HTO.out ?_; intro w6 cnt6 hR6 hg6 hs6)
   go_frame
   obtain ⟨r, hr⟩ : ∃ r, w5.heap.size = r := ⟨_, rfl⟩
   have hb6 := grown_none hg6 w5.heap.size (Nat.le_refl _)
   rw [hr] at hR6 ⊢
   have HR6 := Lib.hid hR6
   have HB6 : Hid (Below w.heap.size w w6) := HB5.out.trans (hb6.mono HB5.out.size)
   have hrw : w.heap.size ≤ r := by have := HB5.out.size; omega
   have HB6X := Lib.hid (HB5X.out.below hb6 HB5X.out.lt)
   have HB6O := Lib.hid (HB5O.out.below hb6 HB5O.out.lt)
   obtain ⟨p, hp⟩ : ∃ p : Int × Int → Bool, (fun k : Int × Int => decide (k.2 = (out.size : Int)) && accB s.acc k.1) = p := ⟨_, rfl⟩
   have HPP := Lib.hid hp
   clear hR6 hg6 hs6 hb6 hr hp
   have HCC : Hid (∀ W, CelK w6 W → W.cell? ⟨g, 0, none⟩ = some (.int .i64 s.n) ∧ W.cell? ⟨g, 1, none⟩ = some (.int .u8 s.acc) ∧ W.cell? ⟨g, 2, none⟩ = some (.slice A s.rs.length c) ∧ g < W.heap.size ∧ W.cell? ⟨g + 1, 0, none⟩ = some (.string out) ∧ g + 1 < W.heap.size) := fun W hW => by
    have e1 := hW.blk HB6X.out
    have e2 := hW.blk HB6O.out
    exact ⟨by rw [e1.cell]; rfl, by rw [e1.cell]; rfl, by rw [e1.cell]; rfl, e1.lt, by rw [e2.cell]; rfl, e2.lt⟩
   go_loopw [10] (fun v wr => ∃ (q : Int) (L : Int × Int → Bool) (cnt : Nat), v = .int .i64 q ∧ -1 ≤ q ∧ q ≤ 1000000 ∧ RTabO Tryz.prog 139 3 vSpot wr o r most M L cnt ∧ LeastOf M p L q ∧ CelK w6 wr ∧ Below w.heap.size w wr) (fun _ wr => leftO wr o r)
   case atStart => exact ⟨-1, _, cnt6, rfl, by omega, by omega, HR6.out, least_start, CelK.refl _, HB6.out⟩
   case round =>
    obtain ⟨X7, rfl⟩ : ∃ W, W = wr := ⟨wr, rfl⟩
    obtain ⟨q, L, cnt, rfl, hq0, hq1, hR7, hL7, hc7, hb7⟩ := hrel
    have HR7 := Lib.hid hR7
    have HL7 := Lib.hid hL7
    have HC7 := Lib.hid hc7
    have HB7 := Lib.hid hb7
    clear hR7 hL7 hc7 hb7
    have HAC : Hid (∀ (W : World) (m : Int), CelK w6 W → Below w.heap.size w W → 0 ≤ m ∧ m < 8 → Calls Tryz.prog 42 #[.agg #[.int .i64 s.n, .int .u8 s.acc, .slice A s.rs.length c], .int .i64 m] W fun e w' => e = .returned (.bool (accB s.acc m)) ∧ Below W.heap.size W w') := fun W m _ hW hm => oaccepting_any s A c m W (HS.out.below hW) hm
    go_wp2_with (first | (at_next; refine nextSpot _ rfl _ rfl (b := o) rfl HR7.out (fun hd => ?_) (fun k d X8 cnt8 hk hMk hLk hR8 hlt8 hg8 hs8 hen => have hck := fun (cs : Array Value) => HCC.out (X8.alloc (.cells cs 139)) ((HC7.out.trans (CelK.of_iter hg8 HR7.out.iter)).trans (CelK.of_below (nw _ (Below.refl _ _)))); have b0 := fun cs => (hck cs).1; have b1 := fun cs => (hck cs).2.1; have b2 := fun cs => (hck cs).2.2.1; have bl_ := fun cs => (hck cs).2.2.2.1; have o0 := fun cs => (hck cs).2.2.2.2.1; have ol := fun cs => (hck cs).2.2.2.2.2; have HMK := Lib.hid hMk; have HR8 := Lib.hid hR8; have HG8 := Lib.hid hg8; have HKF := Lib.hid (spot_facts HOK.out HFS.out hi40 ho (Nat.le_refl _) ((HM.out k).1 d hMk).1); ?_); rotate_left; (by_cases hz : k.2 = (out.size : Int)) <;> (cases hac : accB s.acc k.1) <;> (by_cases hq : q < 0) <;> (by_cases hdq : d < q)) | (go_at_call 42; go_loud (refine (HAC.out _ _ ((HC7.out.trans (CelK.of_iter HG8.out HR7.out.iter)).trans (CelK.of_below (nw _ (Below.refl _ _)))) (nw _ (HB7.out.grown HG8.out HB7.out.size (fun k hk => by injection hk with hk; omega))) HKF.out.2.1).mono ?_; rintro e X9 ⟨rfl, hb9⟩)))
    all_goals first
     | (go_ret
        exact ⟨⟨q, rfl, (fun _ => cost_of_spots HM.out (fun k d h => hd k (TabO.ok HR7.out.tab (by rw [h]; simp))) (by rw [HPP.out]; exact HL7.out)), fun h => absurd ⟨HSE.out, HLI.out⟩ h⟩, HB7.out⟩)
     | (refine cost_round HR8.out ?_ hlt8 HR7.out ?_ ?_ ?_ HC7.out HB7.out HG8.out hrw
        ·first | exact nw _ (Below.refl _ _) | exact (nw _ (Below.refl _ _)).trans (hb9.mono (by simp))
        ·have := HKF.out.1.2; omega
        ·have := HKF.out.1.2; omega
        ·first
          | (refine least_skip HL7.out ?_; rw [← HPP.out]; simp [hz]; done)
          | (refine least_skip HL7.out ?_; rw [← HPP.out]; simp [hac]; done)
          | (refine least_take HL7.out HMK.out HKF.out.1.2.1 ?_ ?_
             ·rw [← HPP.out]; simp [hz, hac]; done
             ·omega)
          | (refine least_keep HL7.out HMK.out ?_ ?_
             ·rw [← HPP.out]; simp [hz, hac]; done
             ·omega))
end Go.Proofs.YtfpnhgahkjglgaaGreat
namespace Go.Proofs.YtfpnhgahkjglgaaGreat
open Go Go.RowKit
def orL : List Int → Int
 | [] => 0
 | x :: r => if x = 0 then orL r else x
set_option maxHeartbeats 4000000 in
theorem or_any (A : Option Addr) (xs : List Int) (c : Nat) (w : World) (hx : SlR 1 RInt w A xs) (hl : xs.length ≤ maxLen) :
 Calls Tryz.prog 82 #[.slice A xs.length c] w fun e w' => e = .returned (.int .i64 (orL xs)) ∧ w = w' := by
 unfold maxLen at hl
 go_enter Tryz.func82, Tryz.ntmps82
 go_wp2_with fail
 go_loop [8] (fun i => ∃ k : Nat, k ≤ xs.length ∧ Hid (orL xs = orL (xs.drop k)) ∧ i = .int .i64 k) (fun i => xs.length - (intOf i).toNat)
 case atStart => exact ⟨0, by omega, rfl, rfl⟩
 case round =>
  obtain ⟨k, hk, HS, rfl⟩ := hrel
  by_cases hlt : k < xs.length
  ·obtain ⟨b, off, x, rfl, hbb, hxx, hc0⟩ := hx.int hlt
   have HD : Hid (orL (xs.drop k) = if x = 0 then orL (xs.drop (k + 1)) else x) := by
    show _ = _
    rw [List.drop_eq_getElem_cons hlt, (List.getElem?_eq_some_iff.1 hxx).2]
    rfl
   clear hxx
   by_cases he : x = 0
   ·have HR : Hid (orL xs = orL (xs.drop (k + 1))) := HS.out.trans (HD.out.trans (if_pos he))
    have e1 : (x != 0) = false := by simpa using he
    clear he
    go_wp2_with fail
    go_round
    case rel => exact ⟨k + 1, by omega, HR.out, by go_num⟩
    case measure => simp [intOf]; omega
   ·have HR : Hid (orL xs = x) := HS.out.trans (HD.out.trans (if_neg he))
    have e1 : (x != 0) = true := by simpa using he
    clear he
    go_wp2_with fail
    go_ret
    exact ⟨ret_int (by rw [HR.out]), rfl⟩
  ·have HR : Hid (orL xs = 0) := by show _ = _; rw [HS.out, List.drop_eq_nil_of_le (by omega)]; rfl
   go_wp2_with fail
   go_ret
   exact ⟨ret_int (by rw [HR.out]), rfl⟩
end Go.Proofs.YtfpnhgahkjglgaaGreat
namespace Go.Proofs.YtfpnhgahkjglgaaGreat
open Go Go.RowKit Go.Shelf Go.Lib Go.Sort
theorem slr_blkR {α : Type} {s : Nat} {R : World → α → List Value → Prop} {enc : α → List Value} {w : World} {g : Nat} {t : TypeId} {xs : List α} (h : Blk w g t (xs.flatMap enc).toArray) (hl : ∀ x, (enc x).length = s) (hR : ∀ x, R w x (enc x)) :
 SlR s R w (some ⟨g, 0, none⟩) xs := fun _ => by
 refine ⟨g, 0, rfl, h.lt, fun k x hx => ⟨enc x, hR x, hl x, fun j v hj => ?_⟩⟩
 have hget : ∀ (l : List α) (k : Nat) (x : α), l[k]? = some x → ∀ j u, (enc x)[j]? = some u → (l.flatMap enc)[k * s + j]? = some u := by
  intro l
  induction l with
  | nil => intro k x h; simp at h
  | cons y l ih =>
   intro k x hx j u hu
   rw [List.flatMap_cons]
   cases k with
   | zero =>
    simp at hx
    subst hx
    rw [List.getElem?_append_left (by have := (List.getElem?_eq_some_iff.1 hu).1; omega)]
    simpa using hu
   | succ k =>
    rw [List.getElem?_cons_succ] at hx
    rw [List.getElem?_append_right (by rw [hl, Nat.add_mul]; omega), hl, show (k + 1) * s + j - s = k * s + j by rw [Nat.add_mul]; omega]
    exact ih k x hx j u hu
 have := h.cell (k * s + j)
 rw [show 0 + k * s + j = k * s + j by omega, this]
 simpa using hget xs k x hx j v hj
instance : Inhabited Rs := ⟨⟨ByteArray.empty, 0⟩⟩
def encRs (p : Rs) : List Value := [.string p.tx, .int .i64 p.co]
abbrev vRs (p : Rs) : Value := .agg #[.string p.tx, .int .i64 p.co]
def RRs (_ : World) (p : Rs) (vs : List Value) : Prop := vs = [.string p.tx, .int .i64 p.co]
theorem keeps_rs : Keeps RRs := fun _ _ _ _ _ h => h
theorem SlR.rs {w : World} {A : Option Addr} {k : Nat} {xs : List Rs} (h : SlR 2 RRs w A xs) (hk : k < xs.length) : ∃ b off x, A = some ⟨b, off, none⟩ ∧ b < w.heap.size ∧ xs[k]? = some x ∧
 w.cell? ⟨b, off + k * 2, none⟩ = some (.string x.tx) ∧ w.cell? ⟨b, off + k * 2 + 1, none⟩ = some (.int .i64 x.co) := by
 obtain ⟨b, off, x, vs, hA, hb, hx, rfl, _, hc⟩ := h.at_ hk
 exact ⟨b, off, x, hA, hb, hx, hc 0 _ rfl, hc 1 _ rfl⟩
def cmpT (x y : ByteArray) : Int := if ltS x y = true then -1 else if ltS y x = true then 1 else 0
def cmpR (x y : Rs) : Int := orL [if x.co < y.co then -1 else if y.co < x.co then 1 else 0, cmpT x.tx y.tx]
theorem lt_cmpR (x y : Rs) : ltOf cmpR x y = befR x y := by
 unfold ltOf cmpR
 rw [Bool.eq_iff_iff, decide_eq_true_iff, befR_iff]
 by_cases h1 : x.co < y.co
 ·rw [if_pos h1]
  exact ⟨fun _ => .inl h1, fun _ => by show (if (-1 : Int) = 0 then _ else -1) < 0; rw [if_neg (by decide)]; decide⟩
 ·by_cases h2 : y.co < x.co
  ·rw [if_neg h1, if_pos h2]
   refine ⟨fun h => ?_, fun h => by omega⟩
   have h : (if (1 : Int) = 0 then orL [cmpT x.tx y.tx] else 1) < 0 := h
   rw [if_neg (by decide)] at h
   omega
  ·have e : x.co = y.co := by omega
   rw [if_neg h1, if_neg h2]
   show (if (0 : Int) = 0 then orL [cmpT x.tx y.tx] else 0) < 0 ↔ _
   rw [if_pos rfl]
   show (if cmpT x.tx y.tx = 0 then 0 else cmpT x.tx y.tx) < 0 ↔ _
   unfold cmpT
   cases h3 : ltS x.tx y.tx with
   | true => simp [e]
   | false =>
    cases h4 : ltS y.tx x.tx <;> simp [e]
theorem swo_cmpR : SWO (ltOf cmpR) where
 irrefl x := by rw [lt_cmpR]; exact befR_irr x
 trans x y z h1 h2 := by rw [lt_cmpR] at *; exact befR_trans h1 h2
 ntrans x y z h1 h2 := by
  rw [lt_cmpR] at *
  cases h : befR x z with
  | false => rfl
  | true =>
   rcases befR_tri y z with h3 | h3 | h3
   ·rw [h3] at h2; cases h2
   ·rw [h3] at h1; rw [h1] at h; cases h
   ·rw [befR_trans h h3] at h1; cases h1
def GrownR (w W : World) : Prop := ∃ q os, W = grow (w.drewN q) os
theorem GrownR.start {w : World} : GrownR w w.drew := ⟨1, #[], by rw [grow_empty]; rfl⟩
theorem GrownR.refl (w : World) : GrownR w w := ⟨0, #[], by rw [grow_empty]; rfl⟩
theorem GrownR.below {w W : World} (h : GrownR w W) : RowKit.Below w.heap.size w W := by
 obtain ⟨q, os, rfl⟩ := h
 exact ⟨rfl, rfl, rfl, by show w.heap.size ≤ (w.heap ++ os).size; simp, fun k hk => by show (w.heap ++ os)[k]? = _; rw [Array.getElem?_append_left hk]⟩
theorem GrownR.trans {a b c : World} (h : GrownR a b) (h2 : GrownR b c) : GrownR a c := by
 obtain ⟨q, os, rfl⟩ := h
 obtain ⟨q2, os2, rfl⟩ := h2
 exact ⟨q + q2, os ++ os2, by rw [← grow_grow, ← World.drewN_drewN]; rfl⟩
theorem GrownR.alloc {w W : World} (h : GrownR w W) (o : Obj) : GrownR w (W.alloc o) := h.trans ⟨0, #[o], by rw [alloc_eq_grow]; rfl⟩
set_option maxHeartbeats 4000000 in
theorem cmpStr_any (x y : ByteArray) (w : World) : Calls Tryz.prog 84 #[.string x, .string y] w fun e w' => e = .returned (.int .i64 (cmpT x y)) ∧ w = w' := by
 have hn : ∀ (x : ByteArray) (w : World), Calls Tryz.prog 110 #[.string x] w fun e w' => e = .returned (.bool false) ∧ w = w' := fun x w => by
  go_enter Tryz.func110, Tryz.ntmps110
  go_wp2_with fail
  go_ret
  exact ⟨rfl, rfl⟩
 have HN := Lib.hid hn
 clear hn
 cases h1 : ltS x y with
 | true =>
  have HC : Hid (cmpT x y = -1) := if_pos h1
  have h2 : Op.bytesLess x.toList y.toList = true := h1
  clear h1
  go_enter Tryz.func84, Tryz.ntmps84
  go_wp2_with (go_at_call 110; refine (HN.out _ _).mono ?_; rintro e w' ⟨rfl, rfl⟩)
  go_ret
  exact ⟨ret_int HC.out.symm, rfl⟩
 | false =>
  cases h3 : ltS y x with
  | true =>
   have HC : Hid (cmpT x y = 1) := by show cmpT x y = 1; unfold cmpT; rw [h1, h3]; rfl
   have h2 : Op.bytesLess x.toList y.toList = false := h1
   have h4 : Op.bytesLess y.toList x.toList = true := h3
   have h5 : (x.toList == y.toList) = false := by
    cases h6 : (x.toList == y.toList) with
    | false => rfl
    | true => have := toL_inj (beq_iff_eq.1 h6); subst this; rw [ouS_irr] at h3; cases h3
   clear h1 h3
   go_enter Tryz.func84, Tryz.ntmps84
   go_wp2_with (go_at_call 110; refine (HN.out _ _).mono ?_; rintro e w' ⟨rfl, rfl⟩)
   go_ret
   exact ⟨ret_int HC.out.symm, rfl⟩
  | false =>
   have HC : Hid (cmpT x y = 0) := by show cmpT x y = 0; unfold cmpT; rw [h1, h3]; rfl
   have h2 : Op.bytesLess x.toList y.toList = false := h1
   have h4 : Op.bytesLess y.toList x.toList = false := h3
   have h5 : (x.toList == y.toList) = true := by
    rcases ouS_tri x y with h6 | h6 | h6
    ·rw [h1] at h6; cases h6
    ·rw [h6]; simp
    ·rw [h3] at h6; cases h6
   clear h1 h3
   go_enter Tryz.func84, Tryz.ntmps84
   go_wp2_with (go_at_call 110; refine (HN.out _ _).mono ?_; rintro e w' ⟨rfl, rfl⟩)
   go_ret
   exact ⟨ret_int HC.out.symm, rfl⟩
set_option maxHeartbeats 4000000 in
theorem best3_any (x : Rs) (w : World) : Calls Tryz.prog 45 #[vRs x] w fun e w' => e = .returned (.int .i64 x.co) ∧ GrownR w w' := by
 obtain ⟨w1, hw1⟩ : ∃ w1, w.alloc (.cells #[.string x.tx, .int .i64 x.co] 48) = w1 := ⟨_, rfl⟩
 have hb1 : GrownR w w1 := by rw [← hw1]; exact (GrownR.refl _).alloc _
 have hB : Blk w1 w.heap.size 48 #[.string x.tx, .int .i64 x.co] := by rw [← hw1]; exact Blk.new _ _ _
 have HW1 := Lib.hid hw1
 have HB1 := Lib.hid hb1
 have c0 := hB.cell 1
 have cl := hB.lt
 simp at c0
 clear hw1 hb1 hB
 go_enter Tryz.func45, Tryz.ntmps45
 go_upto_region 1 with fail
 rw [HW1.out]
 go_wp2_with fail
 go_ret
 exact ⟨rfl, HB1.out⟩
set_option maxHeartbeats 4000000 in
theorem best4_any (x : Rs) (w : World) : Calls Tryz.prog 46 #[vRs x] w fun e w' => e = .returned (.string x.tx) ∧ GrownR w w' := by
 obtain ⟨w1, hw1⟩ : ∃ w1, w.alloc (.cells #[.string x.tx, .int .i64 x.co] 48) = w1 := ⟨_, rfl⟩
 have hb1 : GrownR w w1 := by rw [← hw1]; exact (GrownR.refl _).alloc _
 have hB : Blk w1 w.heap.size 48 #[.string x.tx, .int .i64 x.co] := by rw [← hw1]; exact Blk.new _ _ _
 have HW1 := Lib.hid hw1
 have HB1 := Lib.hid hb1
 have c0 := hB.cell 0
 have cl := hB.lt
 simp at c0
 clear hw1 hb1 hB
 go_enter Tryz.func46, Tryz.ntmps46
 go_upto_region 1 with fail
 rw [HW1.out]
 go_wp2_with fail
 go_ret
 exact ⟨rfl, HB1.out⟩
set_option maxHeartbeats 8000000 in
theorem closR_any (x y : Rs) (g1 g2 : Nat) (w : World) (h1 : w.cell? ⟨g1, 0, none⟩ = some (.func (.func 45) #[] #[])) (l1 : g1 < w.heap.size) (h2 : w.cell? ⟨g2, 0, none⟩ = some (.func (.func 46) #[] #[])) (l2 : g2 < w.heap.size) :
 Calls Tryz.prog 81 #[vRs x, vRs y, .pointer (some ⟨g1, 0, none⟩), .pointer (some ⟨g2, 0, none⟩)] w fun e w' => e = .returned (.int .i64 (cmpR x y)) ∧ GrownR w w' := by
 obtain ⟨w2, hw2⟩ : ∃ w2, (w.alloc (.cells #[.string x.tx, .int .i64 x.co] 48)).alloc (.cells #[.string y.tx, .int .i64 y.co] 48) = w2 := ⟨_, rfl⟩
 obtain ⟨g, hg⟩ : ∃ g, w.heap.size = g := ⟨_, rfl⟩
 have hG2 : GrownR w w2 := by rw [← hw2]; exact ((GrownR.refl w).alloc _).alloc _
 have hA : Blk w2 g 48 #[.string x.tx, .int .i64 x.co] := by rw [← hw2, ← hg]; exact (Blk.new _ _ _).alloc _
 have hB : Blk w2 (g + 1) 48 #[.string y.tx, .int .i64 y.co] := by rw [← hw2]; exact Blk.new_ (by simp; omega)
 have p1 : w2.cell? ⟨g1, 0, none⟩ = some (.func (.func 45) #[] #[]) := (hG2.below.cell (p := ⟨g1, 0, none⟩) l1).trans h1
 have p2 : w2.cell? ⟨g2, 0, none⟩ = some (.func (.func 46) #[] #[]) := (hG2.below.cell (p := ⟨g2, 0, none⟩) l2).trans h2
 have q1 : g1 < w2.heap.size := Nat.lt_of_lt_of_le l1 hG2.below.size
 have q2 : g2 < w2.heap.size := Nat.lt_of_lt_of_le l2 hG2.below.size
 obtain ⟨ca, hca⟩ : ∃ c : Int, (if x.co < y.co then -1 else if y.co < x.co then 1 else 0) = c := ⟨_, rfl⟩
 obtain ⟨cb, hcb⟩ : ∃ c : Int, cmpT x.tx y.tx = c := ⟨_, rfl⟩
 have HCI : Hid (∀ W : World, Calls Tryz.prog 83 #[.int .i64 x.co, .int .i64 y.co] W fun e w' => e = .returned (.int .i64 ca) ∧ W = w') := fun W => by rw [← hca]; exact cmpInt_any x.co y.co W
 have HCS : Hid (∀ W : World, Calls Tryz.prog 84 #[.string x.tx, .string y.tx] W fun e w' => e = .returned (.int .i64 cb) ∧ W = w') := fun W => by rw [← hcb]; exact cmpStr_any x.tx y.tx W
 have HR : Hid (cmpR x y = orL [ca, cb]) := by show cmpR x y = orL [ca, cb]; unfold cmpR; rw [hca, hcb]
 have HW2 := Lib.hid hw2
 have HG := Lib.hid hG2
 have HGE := Lib.hid hg
 have a0 := hA.cell 0
 have a1 := hA.cell 1
 have al := hA.lt
 have b0 := hB.cell 0
 have b1 := hB.cell 1
 have bl := hB.lt
 simp at a0 a1 b0 b1
 clear hw2 hG2 hA hB hg hca hcb h1 h2 l1 l2
 go_enter Tryz.func81, Tryz.ntmps81
 go_upto_region 1 with fail
 rw [HW2.out, HGE.out]
 refine ordB_start (GrownR w2) (.quiet 0 (.quiet 1 (.quiet 3 (.quiet 4 (.quiet 7 (.quiet 8 (.quiet 10 (.quiet 11 (.only 2 (.only 5 (.only 6 (.only 9 (.only 12 (.only 13 (.only 14 (.only 15 (.quiet 16 .done))))))))))))))))) (by kernel_rfl) (by kernel_rfl) (by kernel_rfl) (fun _ _ _ _ _ h => h) GrownR.start ?_
 have hV0 : GrownR w2 w2.drew := GrownR.start
 obtain ⟨V0, qqV0⟩ : ∃ W, w2.drew = W := ⟨_, rfl⟩
 rw [qqV0] at hV0 ⊢
 clear qqV0
 iterate 8 ((first | refine ordB_skip rfl rfl ?_ | (refine ordB_take (v := ?_) rfl rfl ?_ ?_; rotate_left 1; (focus (intro W hW; obtain ⟨hcW, hfW⟩ := bcell hW.below; (go_simp <;> with_reducible rfl))))); simp only [Act.put, zA, zB, zC])
 refine ordB_only (opB_call rfl rfl (fun K hK => ?_))
 go_simp
 go_at_call 45
 refine (best3_any x V0).mono ?_
 rintro e V0_1 ⟨rfl, hg⟩
 refine hK.out _ _ (hV0.trans hg) (fun hV0_1 => ?_)
 clear hg hK K
 refine ordB_only (opB_call rfl rfl (fun K hK => ?_))
 go_simp
 go_at_call 45
 refine (best3_any y V0_1).mono ?_
 rintro e V0_1_2 ⟨rfl, hg⟩
 refine hK.out _ _ (hV0_1.trans hg) (fun hV0_1_2 => ?_)
 clear hg hK K
 refine ordB_only (opB_call rfl rfl (fun K hK => ?_))
 go_simp
 go_at_call 83
 refine (HCI.out V0_1_2).mono ?_
 rintro e w' ⟨rfl, rfl⟩
 refine hK.out _ _ hV0_1_2 (fun hV0_1_2_3 => ?_)
 clear hK K
 obtain ⟨V0_1_2_3, rfl⟩ : ∃ V, V = V0_1_2 := ⟨_, rfl⟩
 refine ordB_only (opB_call rfl rfl (fun K hK => ?_))
 go_simp
 go_at_call 46
 refine (best4_any x V0_1_2_3).mono ?_
 rintro e V0_1_2_3_4 ⟨rfl, hg⟩
 refine hK.out _ _ (hV0_1_2_3.trans hg) (fun hV0_1_2_3_4 => ?_)
 clear hg hK K
 refine ordB_only (opB_call rfl rfl (fun K hK => ?_))
 go_simp
 go_at_call 46
 refine (best4_any y V0_1_2_3_4).mono ?_
 rintro e V0_1_2_3_4_5 ⟨rfl, hg⟩
 refine hK.out _ _ (hV0_1_2_3_4.trans hg) (fun hV0_1_2_3_4_5 => ?_)
 clear hg hK K
 refine ordB_only (opB_call rfl rfl (fun K hK => ?_))
 go_simp
 go_at_call 84
 refine (HCS.out V0_1_2_3_4_5).mono ?_
 rintro e w' ⟨rfl, rfl⟩
 refine hK.out _ _ hV0_1_2_3_4_5 (fun hV0_1_2_3_4_5_6 => ?_)
 clear hK K
 obtain ⟨V0_1_2_3_4_5_6, rfl⟩ : ∃ V, V = V0_1_2_3_4_5 := ⟨_, rfl⟩
 refine ordB_only (opB_call rfl rfl (fun K hK => ?_))
 go_simp
 refine hK.out _ _ (hV0_1_2_3_4_5_6.alloc _) (fun hV0_1_2_3_4_5_6_7 => ?_)
 clear hK K
 have hsl : SlR 1 RInt (V0_1_2_3_4_5_6.alloc (.cells #[.int .i64 ca, .int .i64 cb] 3)) (some ⟨V0_1_2_3_4_5_6.heap.size, 0, none⟩) [ca, cb] := slr_blkR (enc := fun s => [.int .i64 s]) (Blk.new_ rfl) (fun _ => rfl) (fun _ => rfl)
 obtain ⟨gs, hgs⟩ : ∃ g, V0_1_2_3_4_5_6.heap.size = g := ⟨_, rfl⟩
 rw [hgs] at hsl ⊢
 obtain ⟨V0_1_2_3_4_5_6_7, qq⟩ : ∃ V, V0_1_2_3_4_5_6.alloc (.cells #[.int .i64 ca, .int .i64 cb] 3) = V := ⟨_, rfl⟩
 rw [qq] at hV0_1_2_3_4_5_6_7 hsl ⊢
 clear qq hgs
 refine ordB_only (opB_call rfl rfl (fun K hK => ?_))
 go_simp
 go_at_call 82
 refine (or_any (some ⟨gs, 0, none⟩) [ca, cb] 2 V0_1_2_3_4_5_6_7 hsl (by unfold maxLen; simp)).mono ?_
 rintro e w' ⟨rfl, rfl⟩
 refine hK.out _ _ hV0_1_2_3_4_5_6_7 (fun hV0_1_2_3_4_5_6_7_8 => ?_)
 clear hK K
 obtain ⟨V0_1_2_3_4_5_6_7_8, rfl⟩ : ∃ V, V = V0_1_2_3_4_5_6_7 := ⟨_, rfl⟩
 iterate 1 ((first | refine ordB_skip rfl rfl ?_ | (refine ordB_take (v := ?_) rfl rfl ?_ ?_; rotate_left 1; (focus (intro W hW; obtain ⟨hcW, hfW⟩ := bcell hW.below; (go_simp <;> with_reducible rfl))))); simp only [Act.put, zA, zB, zC])
 refine ordB_nil ?_
 have hbE := hV0_1_2_3_4_5_6_7_8
 clear hV0_1_2_3_4_5_6_7_8
 go_wp2_with fail
 go_ret
 exact ⟨by rw [HR.out] <;> rfl, HG.out.trans hbE⟩
theorem swR_below {w : World} {blk off n base : Nat} {d : Array Rs} {os : Array Obj} (hb : base ≤ blk) (hbase : base ≤ w.heap.size) : Go.RowKit.Below base w (sortWorldK encRs 2 w blk off n d os) where
 os := rfl
 tape := rfl
 output := rfl
 size := by
  unfold sortWorldK
  rw [size_grow, size_putRowK]
  show w.heap.size ≤ w.heap.size + _
  omega
 block := fun k hk => by
  unfold sortWorldK
  have h1 : k < (putRowK encRs 2 (Sort.ahead w n) blk off d).heap.size := by rw [size_putRowK]; show k < w.heap.size; omega
  rw [heap_grow_old _ _ h1]
  show (w.heap.modify blk _)[k]? = _
  rw [Array.getElem?_modify, if_neg (by omega)]
theorem swR_but {w : World} {blk off n : Nat} {d : Array Rs} {os : Array Obj} : ButB blk w (sortWorldK encRs 2 w blk off n d os) where
 size := by
  unfold sortWorldK
  rw [size_grow, size_putRowK]
  show w.heap.size ≤ w.heap.size + _
  omega
 block := fun k hk hn => by
  unfold sortWorldK
  have h1 : k < (putRowK encRs 2 (Sort.ahead w n) blk off d).heap.size := by rw [size_putRowK]; show k < w.heap.size; omega
  rw [heap_grow_old _ _ h1]
  show (w.heap.modify blk _)[k]? = _
  rw [Array.getElem?_modify, if_neg (fun e => hn e.symm)]
theorem isAggR : ∀ w, (isAgg 48).run Tryz.prog w = .ok true w := Tryz.isAgg48
theorem sizeR : ∀ w, (Go.sizeOf 48).run Tryz.prog w = .ok 2 w := Tryz.sizeOf48
theorem holdsR_of {w : World} {blk off : Nat} {d : Array Rs} (h : ∀ i (hi : i < d.size), w.cell? ⟨blk, off + i * 2, none⟩ = some (.string d[i].tx) ∧ w.cell? ⟨blk, off + i * 2 + 1, none⟩ = some (.int .i64 d[i].co) ∧
 w.frozen? ⟨blk, off + i * 2, none⟩ = false ∧ w.frozen? ⟨blk, off + i * 2 + 1, none⟩ = false) : HoldsK encRs 2 w blk off d := by
 intro j hj
 rw [size_flatK] at hj
 rw [get_flatK _ _ _ _ hj]
 have hi : j / 2 < d.size := by omega
 obtain ⟨h0, h1, h2, h3⟩ := h (j / 2) hi
 have e : d[j / 2]! = d[j / 2] := by rw [getElem!_pos d (j / 2) hi]
 rw [e]
 rcases Nat.mod_two_eq_zero_or_one j with hm | hm
 ·rw [hm, show off + j = off + j / 2 * 2 by omega]
  exact ⟨h0, h2⟩
 ·rw [hm, show off + j = off + j / 2 * 2 + 1 by omega]
  exact ⟨h1, h3⟩
theorem holdsR_to {w : World} {blk off : Nat} {d : Array Rs} (h : HoldsK encRs 2 w blk off d) (i : Nat) (hi : i < d.size) : w.cell? ⟨blk, off + i * 2, none⟩ = some (.string d[i].tx) ∧ w.cell? ⟨blk, off + i * 2 + 1, none⟩ = some (.int .i64 d[i].co) ∧
 w.frozen? ⟨blk, off + i * 2, none⟩ = false ∧ w.frozen? ⟨blk, off + i * 2 + 1, none⟩ = false := by
 have h0 := h.cell hi (show 0 < 2 by omega)
 have h1 := h.cell hi (show 1 < 2 by omega)
 have e : d[i]! = d[i] := by rw [getElem!_pos d i hi]
 rw [e] at h0 h1
 exact ⟨h0.1, h1.1, h0.2, h1.2⟩
theorem holdsR_slr {w : World} {blk off : Nat} {d : Array Rs} (h : HoldsK encRs 2 w blk off d) (hb : blk < w.heap.size) : SlR 2 RRs w (some ⟨blk, off, none⟩) d.toList := fun _ => by
 refine ⟨blk, off, rfl, hb, fun k x hx => ⟨encRs x, rfl, rfl, fun j v hj => ?_⟩⟩
 obtain ⟨hk, rfl⟩ := List.getElem?_eq_some_iff.1 hx
 obtain ⟨h0, h1, _⟩ := holdsR_to h k (by simpa using hk)
 rw [Array.getElem_toList] at hj
 match j, hj with
 | 0, hj => simp [encRs] at hj; rw [← hj]; exact h0
 | 1, hj => simp [encRs] at hj; rw [← hj]; exact h1
 | j + 2, hj => simp [encRs] at hj
theorem own_holdsR {w : World} {base : Nat} {v : Value} {L : List Rs} (h : w.ownsRow base 48 2 v L.length (L.flatMap encRs)) (hn : L ≠ []) :
 ∃ g cap, v = .slice (some ⟨g, 0, none⟩) L.length cap ∧ base ≤ g ∧ g < w.heap.size ∧ L.length ≤ cap ∧ cap ≤ maxLen ∧ HoldsK encRs 2 w g 0 L.toArray := by
 have hs := own_slr (R := RRs) h (fun _ => rfl) (fun _ => rfl) rfl
 rcases h.2 with ⟨rfl, h0⟩ | ⟨g, cap, cur, rfl, hg, hh, hnc, hcm, hcs, htk⟩
 ·exact absurd (List.length_eq_zero_iff.1 h0) hn
 ·obtain ⟨A, cap', e, _, _, hslr⟩ := hs
  injection e with e1 _ e3
  subst e1
  subst e3
  obtain ⟨b, off, e, hb, hc⟩ := hslr hn
  injection e with e
  injection e with e1 e2
  subst e1
  subst e2
  have hB : Blk w g 48 cur := hh
  refine ⟨g, cap, rfl, hg, hb, hnc, hcm, holdsR_of fun i hi => ?_⟩
  simp at hi
  obtain ⟨vs, rfl, _, hv⟩ := hc i L[i] (List.getElem?_eq_getElem hi)
  exact ⟨by have := hv 0 _ rfl; simpa using this, by have := hv 1 _ rfl; simpa using this, hB.frozen _, hB.frozen _⟩
theorem permR {d d' : Array Rs} (h : PermIn 0 d.size d d') : d'.toList.Perm d.toList := by
 obtain ⟨h1, _, h3⟩ := h
 have e1 : d'.extract 0 d.size = d' := by rw [← h1]; simp
 have e2 : d.extract 0 d.size = d := by simp
 rwa [e1, e2] at h3
theorem sortedR_pw {lt : Rs → Rs → Bool} {n : Nat} {d : Array Rs} (h : SortedIn lt 0 n d) (hn : d.size = n) : d.toList.Pairwise (fun x y => lt y x = false) := by
 rw [List.pairwise_iff_getElem]
 intro i j hi hj hij
 have := h i j (Nat.zero_le _) hij (by simp at hj; omega)
 simp at hi hj
 rw [getElem!_pos d j hj, getElem!_pos d i hi] at this
 simpa using this
set_option maxHeartbeats 2000000 in
def LeR (a b : Rs) : Prop := befR b a = false
theorem sortR_any (base g1 g2 : Nat) (v : Value) (L : List Rs) (w : World) (h : w.ownsRow base 48 2 v L.length (L.flatMap encRs)) (hk1 : Blk w g1 96 #[.func (.func 45) #[] #[]]) (hk2 : Blk w g2 97 #[.func (.func 46) #[] #[]]) (hn : L ≠ []) (hlen : L.length ≤ 50000) :
 Calls Tryz.prog 80 #[v, .func (.func 81) #[] #[.pointer (some ⟨g1, 0, none⟩), .pointer (some ⟨g2, 0, none⟩)]] w fun e w' => e = .returned (.tuple #[]) ∧
  ∃ g cap L', v = .slice (some ⟨g, 0, none⟩) L.length cap ∧ base ≤ g ∧ L'.Perm L ∧ L'.Pairwise LeR ∧ SlR 2 RRs w' (some ⟨g, 0, none⟩) L' ∧ ButB g w w' ∧ ∀ b, b ≤ g → Go.RowKit.Below b w w' := by
 obtain ⟨g, cap, rfl, hg, hgl, hnc, hcm, hH⟩ := own_holdsR h hn
 have eg : ∀ args w, (callFunc 81 args).run Tryz.prog w = .ok (.enter 81 args) w := enters_of Tryz.func81 (by kernel_rfl) rfl
 have hne1 : g1 ≠ g := fun e => own_blk_ne h hk1 (by decide) (by rw [e]; rfl)
 have hne2 : g2 ≠ g := fun e => own_blk_ne h hk2 (by decide) (by rw [e]; rfl)
 have hcmp : CmpLays Tryz.prog 81 #[.pointer (some ⟨g1, 0, none⟩), .pointer (some ⟨g2, 0, none⟩)] encRs 2 cmpR g 0 L.toArray.size w := fun m os dk hdk x y => by
  have e1 := swR_but (w := w) (blk := g) (off := 0) (n := m) (d := dk) (os := os)
  have f1 := e1.blk hk1 hne1
  have f2 := e1.blk hk2 hne2
  refine (closR_any x y g1 g2 _ (by rw [f1.cell]; rfl) f1.lt (by rw [f2.cell]; rfl) f2.lt).mono ?_
  rintro e w' ⟨rfl, q, os', rfl⟩
  exact ⟨rfl, q, os', rfl⟩
 have hcon := AnyQ.slices_SortFunc Tryz.sortRs 2 isAggR sizeR encRs (fun _ => rfl) (fun x v hv => by simp [encRs] at hv; rcases hv with rfl | rfl <;> rfl) cmpR swo_cmpR 81 #[.pointer (some ⟨g1, 0, none⟩), .pointer (some ⟨g2, 0, none⟩)] g 0 cap L.toArray w eg hcmp hH (by omega) (by simp; omega)
 change Calls Tryz.prog 80 _ _ _ at hcon
 rw [show L.toArray.size = L.length by simp] at hcon
 refine hcon.mono ?_
 rintro e w' ⟨rfl, d', n, os, hp, hs, rfl⟩
 have hds : d'.size = L.length := by have := hp.1; simpa using this
 have hH' : HoldsK encRs 2 (sortWorldK encRs 2 w g 0 n d' os) g 0 d' := holdsK_sortWorldK_c _ _ _ _ _ L.toArray d' n os hH (by omega) (by have := hp.1; simpa using this)
 refine ⟨rfl, g, cap, d'.toList, rfl, hg, ?_, ?_, holdsR_slr hH' (Nat.lt_of_lt_of_le hgl swR_but.size), swR_but, fun b hb => swR_below hb (by omega)⟩
 ·have hp' : PermIn 0 L.toArray.size L.toArray d' := by rw [show L.toArray.size = L.length by simp]; exact hp
  have := permR hp'
  simpa using this
 ·refine (sortedR_pw hs hds).imp fun {a b} h => ?_
  rw [lt_cmpR] at h
  exact h
end Go.Proofs.YtfpnhgahkjglgaaGreat
namespace Go.Proofs.YtfpnhgahkjglgaaGreat
open Go Go.RowKit
theorem cloneR_info : (Tryz.prog.info? 48).map (fun i => (i.zero, i.size, i.bytes)) = some (some (.agg #[.string ByteArray.empty, .int .i64 0]), 2, 24) := by kernel_rfl
set_option maxHeartbeats 1000000 in
theorem cloneR_any (A : Option Addr) (xs : List Rs) (c : Nat) (w : World) (hx : SlR 2 RRs w A xs) (hl : xs.length ≤ 65536) :
 Calls Tryz.prog 47 #[.slice A xs.length c] w fun e w' => ∃ v, e = .returned v ∧ w'.ownsRow w.heap.size 48 2 v xs.length (xs.flatMap encRs) ∧ Below w.heap.size w w' := by
 obtain ⟨i0, hi, hz0, hz1, hz2⟩ := info_parts cloneR_info
 rcases A with _ | a
 ·have h0 : xs = [] := Classical.byContradiction fun hn => by obtain ⟨_, _, h, _⟩ := hx hn; cases h
  subst h0
  have hnil := Lib.run_eql_slice_nil (P := Tryz.prog) w 43 48 none 0 c 0 0 Tryz.underlying43
  go_enter Tryz.func47, Tryz.ntmps47
  go_wp2_with fail
  go_ret
  exact ⟨_, rfl, own_nil _ _ _ _, Below.refl _ _⟩
 ·have hnil := Lib.run_eql_slice_nil (P := Tryz.prog) w 43 48 (some a) xs.length c 0 0 Tryz.underlying43
  have HC := Lib.hid (slr_cells (enc := encRs) (hx.below keeps_rs ((Below.refl _ _).alloc (Nat.le_refl _) (.cells #[] 48))) (by decide) (fun _ _ _ h => h))
  have HL := Lib.hid (show (xs.flatMap encRs).length = xs.length * 2 from flatMap_len (s := 2) (enc := encRs) (fun _ => rfl) xs)
  go_enter Tryz.func47, Tryz.ntmps47
  go_wp2_with (first | (at_builtin; refine wpList_appN rfl _ _ 43 rfl w.heap.size 48 i0 _ 2 24 Tryz.underlying43 hi hz0 hz1 hz2 rfl (by decide) (.slice (some ⟨w.heap.size, 0, none⟩) 0 0) 0 [] rfl (own_empty w 48 2 w.heap.size (Nat.le_refl _)) a xs.length c (xs.flatMap encRs) rfl HL.out HC.out (fun u hu => by obtain ⟨x, _, hx⟩ := List.mem_flatMap.1 hu; simp [encRs] at hx; rcases hx with rfl | rfl | rfl <;> rfl) (by omega) (by decide) (by simp) ?_; intro v1 w1 hown1 hb1 ha1))
  go_ret
  exact ⟨_, rfl, by simpa using hown1, ((Below.refl _ _).alloc (Nat.le_refl _) _).trans hb1⟩
set_option maxHeartbeats 4000000 in
theorem sortedF_any (base : Nat) (v : Value) (L : List Rs) (w : World) (h : w.ownsRow base 48 2 v L.length (L.flatMap encRs)) (hb : base ≤ w.heap.size) (hn : L ≠ []) (hlen : L.length ≤ 50000) :
 Calls Tryz.prog 44 #[v, .func (.func 45) #[] #[], .func (.func 46) #[] #[]] w fun e w' => ∃ g cap L', e = .returned (.slice (some ⟨g, 0, none⟩) L.length cap) ∧ (base ≤ g ∧ L.length ≤ cap ∧ cap ≤ maxLen) ∧ L'.Perm L ∧ L'.Pairwise LeR ∧ SlR 2 RRs w' (some ⟨g, 0, none⟩) L' ∧ Below base w w' := by
 obtain ⟨g, cap, rfl, hg, hgl, hnc, hcm, hH⟩ := own_holdsR h hn
 obtain ⟨w2, hw2⟩ : ∃ w2, (w.alloc (.cells #[.func (.func 45) #[] #[]] 96)).alloc (.cells #[.func (.func 46) #[] #[]] 97) = w2 := ⟨_, rfl⟩
 obtain ⟨g1, hg1⟩ : ∃ g, w.heap.size = g := ⟨_, rfl⟩
 have hb2 : Below w.heap.size w w2 := by rw [← hw2]; exact nw _ (nw _ (Below.refl _ _))
 have hk1 : Blk w2 g1 96 #[.func (.func 45) #[] #[]] := by rw [← hw2, ← hg1]; exact (Blk.new _ _ _).alloc _
 have hk2 : Blk w2 (g1 + 1) 97 #[.func (.func 46) #[] #[]] := by rw [← hw2]; exact Blk.new_ (by simp; omega)
 have hS := sortR_any base g1 (g1 + 1) _ L w2 (own_below h hb2) hk1 hk2 hn hlen
 have HS := Lib.hid hS
 have HW2 := Lib.hid hw2
 have HG1 := Lib.hid hg1
 have HB2 : Hid (Below base w w2) := hb2.mono hb
 clear hS hw2 hg1 hk1 hk2 hb2 h hH
 go_enter Tryz.func44, Tryz.ntmps44
 go_upto_region 1 with fail
 rw [HW2.out, HG1.out]
 go_wp2_with (go_at_call 80; go_loud (refine HS.out.mono ?_; rintro e w3 ⟨rfl, g', cap', L', heq, hg', hp, hs, hsl, hbb, hbl⟩; obtain ⟨rfl, rfl⟩ : g = g' ∧ cap = cap' := (by injection heq with e1 e2 e3; injection e1 with e1; injection e1 with e1 _ _; exact ⟨e1, e3⟩); clear heq))
 go_ret
 exact ⟨g, cap, L', rfl, ⟨hg, hnc, hcm⟩, hp, hs, hsl, HB2.out.trans (hbl base hg)⟩
end Go.Proofs.YtfpnhgahkjglgaaGreat
