/-
  OuStuck, OuEndless, joined. No conditions.
-/
import Derived.Test.YtfpnhgahkjglgaaGreatF24
import Derived.Test.YtfpnhgahkjglgaaGreatF23
set_option maxRecDepth 100000
namespace Go.Proofs.YtfpnhgahkjglgaaGreat
open Go Go.RowKit
theorem WkIn.is_ {W : World} {g n : Nat} {f : Int → Bool} {ch : List Chn} (h : WkIn W g f ch n) (b : Bool) (k : Nat) (hk : k < 8) (h0 : n = 0) (hall : ∀ x ∈ ch, x.L = []) (hb : b = true → True) : WkIn (W.setCell ⟨g, k, none⟩ (.bool b)) g (fun x => if x = (k : Int) then b else f x) ch 0 := by
 have e : (wkC f ch).set k (.bool b) = wkC (fun x => if x = (k : Int) then b else f x) ch := by
  refine List.ext_getElem? fun j => ?_
  rw [List.getElem?_set]
  by_cases e : k = j
  ·subst e
   rw [if_pos rfl, wkC_is hk, if_pos (by unfold wkC; simp; omega)]
   simp
  ·rw [if_neg e]
   by_cases hj : j < 8
   ·rw [wkC_is hj, wkC_is hj]
    have : ¬ (j : Int) = (k : Int) := by omega
    simp [this]
   ·obtain ⟨i, rfl⟩ : ∃ i, j = 8 + i := ⟨j - 8, by omega⟩
    rw [wkC_l, wkC_l]
 have h1 : Blk (W.setCell ⟨g, k, none⟩ (.bool b)) g 203 (wkC (fun x => if x = (k : Int) then b else f x) ch).toArray := by
  have := h.blk.set_ k (.bool b)
  rw [← e]
  simpa using this
 refine ⟨h1, h.len, fun j y hy => ?_⟩
 have hnil := hall y (List.mem_of_getElem? hy)
 obtain ⟨h3, _, _⟩ := h.ok j y hy
 rw [hnil]
 refine ⟨⟨SlT.nil, by have := h3.2.1; simp, h3.2.2⟩, Nat.le_refl _, fun _ => rfl⟩
theorem WkIn.row {W : World} {g n m : Nat} {f f' : Int → Bool} {ch ch' : List Chn} (h : WkIn W g f ch m) (hl : ch'.length = 8)
 (hok : ∀ (k : Nat) (x : Chn), ch'[k]? = some x → (SlT W x.A x.L ∧ x.L.length ≤ x.c ∧ x.c ≤ maxLen) ∧ x.L.length ≤ n ∧ (f' (k : Int) = true → x.L.length = n)) : WkIn (W.setRow g (wkC f' ch').toArray) g f' ch' n :=
 ⟨setRow_heap _ _ _ _ _ _ h.blk, hl, fun k x hx => ⟨⟨(hok k x hx).1.1.row_ h.blk (by decide) _, (hok k x hx).1.2⟩, (hok k x hx).2⟩⟩
theorem stepB_chP {s : Sc} {p : Ru → Bool} {f : Int → Bool} {a : Int} {n : Nat} {G : Prop} (hf : ∀ x, f x = true ↔ G ∧ Ch s p a n x) (x : Int) : stepB s p f s.rs.length x = true ↔ G ∧ Ch s p a (n + 1) x := by
 rw [stepB_iff _ (Nat.le_refl _), List.take_length]
 constructor
 ·rintro ⟨r, h1, h2, h3, rfl⟩
  have h4 := (hf _).1 h2
  exact ⟨h4.1, .succ h4.2 h1 h3 rfl⟩
 ·rintro ⟨hG, h⟩
  cases h with
  | succ h1 h2 h3 h4 => exact ⟨_, h2, by rw [h4]; exact (hf _).2 ⟨hG, h1⟩, h3, rfl⟩
def IsCh (p : Prop) (w : World) (e : Ending) (w' : World) : Prop := (∃ C l c, e = .returned (.slice C l c) ∧ (0 < l ↔ p)) ∧ Below w.heap.size w w'
def IsPutB (p r : Prop) (v : Value) : Prop := ∃ bb : Bool, v = .bool bb ∧ (bb = true → p) ∧ (bb = false → r)
theorem IsPutB.yes {p r : Prop} (h : p) : IsPutB p r (.bool true) := ⟨true, rfl, fun _ => h, fun h => (by cases h)⟩
theorem IsPutB.no {p r : Prop} (h : r) : IsPutB p r (.bool false) := ⟨false, rfl, fun h => (by cases h), fun _ => h⟩
theorem IsPutB.any {p r : Prop} {b : Bool} (h : p) (h2 : r) : IsPutB p r (.bool b) := ⟨b, rfl, fun _ => h, fun _ => h2⟩
def BestC (n : Nat) (l : Nat) (P : Nat → Prop) (k : Nat) : Prop := (l = 0 ∧ ∀ x, x < k → ¬ P x) ∨ (l = n ∧ ∃ x, x < k ∧ P x)
theorem BestC.put {n k : Nat} {P : Nat → Prop} (hp : P k) : BestC n n P (k + 1) := .inr ⟨rfl, k, by omega, hp⟩
theorem BestC.keep {n l k : Nat} {P : Nat → Prop} (h : BestC n l P k) (h2 : ¬ P k ∨ 0 < l) : BestC n l P (k + 1) := by
 rcases h with ⟨h0, ha⟩ | ⟨h0, x, hx, hp⟩
 ·refine .inl ⟨h0, fun x hx => ?_⟩
  by_cases e : x = k
  ·subst e
   exact h2.resolve_right (by omega)
  ·exact ha x (by omega)
 ·exact .inr ⟨h0, x, by omega, hp⟩
theorem ask_true : askP false = fun _ => true := by funext r; rfl
theorem ch_start {s : Sc} {p : Ru → Bool} {a x : Int} : (if x = a then true else false) = true ↔ Ch s p a 0 x := by
 constructor
 ·intro h
  split at h
  ·rename_i e; subst e; exact .zero
  ·cases h
 ·intro h
  cases h
  rw [if_pos rfl]
set_option maxHeartbeats 16000000 in
theorem rstuck_any (s : Sc) (A : Option Addr) (c : Nat) (w : World) (hs : ScIn w s A c) (hok : ScOK s) :
 Calls Tryz.prog 103 #[.agg #[.int .i64 s.n, .int .u8 s.acc, .slice A s.rs.length c]] w (IsCh (LV s 0 ∧ ∃ m, RM s m ∧ ¬ LV s m) w) := by
 obtain ⟨w1, hw1⟩ : ∃ w1, w.alloc (.cells #[.int .i64 s.n, .int .u8 s.acc, .slice A s.rs.length c] 30) = w1 := ⟨_, rfl⟩
 have hb1 : Below w.heap.size w w1 := by rw [← hw1]; exact nw _ (Below.refl _ _)
 have hB : Blk w1 w.heap.size 30 #[.int .i64 s.n, .int .u8 s.acc, .slice A s.rs.length c] := by rw [← hw1]; exact Blk.new _ _ _
 have HW1 := Lib.hid hw1
 have HB1 := Lib.hid hb1
 have HCE : Hid (∀ W, Below w1.heap.size w1 W → W.cell? ⟨w.heap.size, 0, none⟩ = some (.int .i64 s.n) ∧ W.cell? ⟨w.heap.size, 1, none⟩ = some (.int .u8 s.acc) ∧ W.cell? ⟨w.heap.size, 2, none⟩ = some (.slice A s.rs.length c) ∧ w.heap.size < W.heap.size) := fun W hW => by
  have e1 := hB.below hW hB.lt
  exact ⟨by rw [e1.cell]; rfl, by rw [e1.cell]; rfl, by rw [e1.cell]; rfl, e1.lt⟩
 obtain ⟨b0, b1, b2, bl⟩ := HCE.out _ (Below.refl _ _)
 clear hw1 hb1 hB
 have HLI : Hid (Calls Tryz.prog 76 #[.agg #[.int .i64 s.n, .int .u8 s.acc, .slice A s.rs.length c]] w1 (IsLvR s s.n.toNat w1)) := rlive_any s A c w1 (hs.below HB1.out) hok
 have hn := hok.1
 obtain ⟨N, hN⟩ : ∃ N : Nat, s.n = (N : Int) := ⟨s.n.toNat, by omega⟩
 have hNN : s.n.toNat = N := by omega
 have hN8 : 1 ≤ N ∧ N ≤ 8 := by omega
 rw [hNN] at HLI
 have HS := Lib.hid hs
 have HOK := Lib.hid hok
 have hto : ∀ r ∈ s.rs, 0 ≤ r.to ∧ r.to < (N : Int) := fun r hr => by have := (hok.2.2.2.1 r hr).1.2; omega
 have HTO := Lib.hid hto
 have HNN := Lib.hid hN
 have hnN : (0 : Int) < s.n := by omega
 clear hs hok hn hNN hto hN
 go_enter Tryz.func103, Tryz.ntmps103
 go_upto_region 1 with fail
 rw [HW1.out]
 go_upto_region 2 with (go_at_call 76; go_loud (refine HLI.out.mono ?_; rintro e w2 ⟨⟨gl, fl, rfl, hgl, hbl, hfl⟩, hb2⟩; obtain ⟨b0, b1, b2, bl⟩ := HCE.out _ hb2))
 have hl0 : w2.cell? ⟨gl, 0, none⟩ = some (.bool (fl 0)) := hbl.cell (k := 0) (by omega)
 have hll := hbl.lt
 have hN0 : (0 : Int) < (N : Int) := by omega
 have HFL := Lib.hid hfl
 have HBL := Lib.hid hbl
 have HB2 := Lib.hid hb2
 clear hfl hbl hb2
 cases hz : fl 0 with
 | false =>
  have hno : ¬ LV s 0 := fun h => by have := (HFL.out 0 (by omega)).2 h; rw [show ((0 : Nat) : Int) = 0 from rfl, hz] at this; cases this
  have hz' : fl ((0 : Nat) : Int) = false := hz
  have HNO := Lib.hid hno
  clear hno
  go_wp2_with fail
  go_ret
  exact ⟨⟨none, 0, 0, rfl, fun h => absurd h (by omega), fun h => absurd h.1 HNO.out⟩, HB1.out.trans (HB2.out.mono HB1.out.size)⟩
 | true =>
  have hlv : LV s 0 := (HFL.out 0 (by omega)).1 hz
  have HLV := Lib.hid hlv
  clear hlv
  go_upto_region 5 with fail
  obtain ⟨g4, hg4⟩ : ∃ x, w2.heap.size = x := ⟨_, rfl⟩
  obtain ⟨w3, hw3⟩ : ∃ W, w2.alloc (.cells #[.bool false, .bool false, .bool false, .bool false, .bool false, .bool false, .bool false, .bool false, .slice none 0 0, .slice none 0 0, .slice none 0 0, .slice none 0 0, .slice none 0 0, .slice none 0 0, .slice none 0 0, .slice none 0 0] 203) = W := ⟨_, rfl⟩
  have hk3 : WkIn w3 g4 (fun _ => false) (List.replicate 8 ⟨none, [], 0⟩) 0 := by rw [← hw3, ← hg4]; exact WkIn.new _ _
  have hb3 : Below g4 w2 w3 := by rw [← hw3, ← hg4]; exact nw _ (Below.refl _ _)
  rw [hg4, hw3]
  have hs0 : w3.cell? ⟨g4, 0, none⟩ = some (.bool false) := hk3.is (k := 0) (by decide)
  have hsf := hk3.frozen 0
  have hsl := hk3.lt
  have hk4 := hk3.is_ true 0 (by decide) rfl (fun x hx => by rw [(List.mem_replicate.1 hx).2]) (fun _ => trivial)
  have hb4 := hb3.setCell (p := ⟨g4, 0, none⟩) (Nat.le_refl _) (.bool true)
  have HK4 := Lib.hid hk4
  have HB4 := Lib.hid hb4
  have HG4 : Hid (w2.heap.size = g4 ∧ w1.heap.size ≤ g4) := ⟨hg4, by rw [← hg4]; exact HB2.out.size⟩
  clear hw3 hk3 hb3 hk4 hb4 hg4 b0 b1 b2 bl hl0 hll
  go_upto_region 6 with fail
  obtain ⟨w4, hw4⟩ : ∃ W, w3.setCell ⟨g4, 0, none⟩ (.bool true) = W := ⟨_, rfl⟩
  rw [hw4] at HK4 HB4 ⊢
  clear hw4 hs0 hsf hsl
  have HBG : Hid (∀ W, Below g4 w2 W → Below w1.heap.size w1 W) := fun W h => HB2.out.trans (h.mono HG4.out.2)
  go_wp2_with fail
  go_loopw [5] (fun iv wr => ∃ (q : Nat) (f : Int → Bool) (ch : List Chn), q ≤ N ∧ iv = .int .i64 (q : Int) ∧ Hid (WkIn wr g4 f ch q) ∧ Hid (∀ x, f x = true ↔ Ch s (askP false) 0 q x) ∧ Hid (∀ n' m, n' < q → Ch s (askP false) 0 (n' + 1) m → LV s m) ∧ Below g4 w2 wr) (fun iv _ => N - (intOf iv).toNat)
  case atStart => exact ⟨0, _, _, Nat.zero_le _, rfl, HK4.out, fun x => ch_start, fun n' m h => absurd h (by omega), HB4.out⟩
  case round =>
   obtain ⟨wR, rfl⟩ : ∃ W, W = wr := ⟨wr, rfl⟩
   obtain ⟨q, f, ch, hq, rfl, HV, HF, HNO, hbr⟩ := hrel
   have HBR := Lib.hid hbr
   clear hbr
   obtain ⟨b0, b1, b2, bl⟩ := HCE.out _ (HBG.out _ HBR.out)
   by_cases hlt : q < N
   ·have hqn : (q : Int) < s.n := by rw [HNN.out]; omega
    have hgl4 := HV.out.lt
    have HNX : Hid (Calls Tryz.prog 117 #[.agg #[.int .i64 s.n, .int .u8 s.acc, .slice A s.rs.length c], .agg (wkC f ch).toArray, .bool false] wR (IsWk s false f q wR)) := rnext_any s A c f ch false q wR (HS.out.below (bthen HB1.out (HBG.out _ HBR.out))) HOK.out HV.out.len (by omega) HV.out.ok
    obtain ⟨f', hf'⟩ : ∃ z, stepB s (askP false) f s.rs.length = z := ⟨_, rfl⟩
    have HF' : Hid (∀ x, f' x = true ↔ Ch s (askP false) 0 (q + 1) x) := by
     show ∀ x, _
     intro x
     rw [← hf']
     exact stepB_ch HF.out x
    have HSF := Lib.hid hf'
    have HSZ : Hid ((Tryz.prog.info? 203).map (·.size) = some (wkC f ch).toArray.size) := by
     show _ = _
     rw [walk_info, List.size_toArray, wkC_len HV.out.len]
    clear hf'
    go_upto_region 10 with (first
     | (refine wpList_load_row rfl 203 _ rfl g4 rfl 203 (wkC f ch).toArray (0, 0) _ HV.out.blk Tryz.underlying203 rfl HSZ.out ?_)
     | (go_at_call 117; go_loud (refine HNX.out.mono ?_; rintro e X1 ⟨⟨ch', rfl, hl', hok'⟩, hb1X⟩; rw [HSF.out] at hok' ⊢; have HSZ' : Hid ((Tryz.prog.info? 203).map (·.size) = some (wkC f' ch').toArray.size) := (by show _ = _; rw [walk_info, List.size_toArray, wkC_len hl']); have HVX := Lib.hid (HV.out.below hb1X); have HOLD : Hid ((wkC f ch).toArray.size = (wkC f' ch').toArray.size) := (by show _ = _; rw [List.size_toArray, List.size_toArray, wkC_len hl', wkC_len HV.out.len]); have HL' := Lib.hid hl'; have HOK' := Lib.hid hok'; have HB1X := Lib.hid hb1X; clear hl' hok' hb1X))
     | (refine wpList_store_row rfl 203 _ _ rfl g4 (wkC f' ch').toArray rfl rfl 203 _ HVX.out.blk HSZ'.out HOLD.out wkC_one ?_))
    obtain ⟨X2, hX2⟩ : ∃ W, X1.setRow g4 (wkC f' ch').toArray = W := ⟨_, rfl⟩
    have HV2 : Hid (WkIn X2 g4 f' ch' (q + 1)) := by show WkIn _ _ _ _ _; rw [← hX2]; exact HVX.out.row HL'.out HOK'.out
    have HB22 : Hid (Below g4 w2 X2) := by show Below _ _ _; rw [← hX2]; exact below_setRow (HBR.out.trans (HB1X.out.mono (Nat.le_of_lt HV.out.lt))) (Nat.le_refl _) _
    rw [hX2]
    clear hX2 HOK' HB1X HVX HOLD HSZ HSZ' HNX b0 b1 b2 bl hgl4
    go_upto_region 11 with fail
    obtain ⟨g6, hg6⟩ : ∃ x, X2.heap.size = x := ⟨_, rfl⟩
    obtain ⟨X3, hX3⟩ : ∃ W, X2.alloc (.cells #[] 3) = W := ⟨_, rfl⟩
    have hb23 : Below X2.heap.size X2 X3 := by rw [← hX3]; exact nw _ (Below.refl _ _)
    rw [hg6, hX3]
    have HV3 := Lib.hid (HV2.out.below hb23)
    have HB23 : Hid (Below g4 w2 X3) := HB22.out.trans (hb23.mono (Nat.le_of_lt HV2.out.lt))
    have HBL3 := Lib.hid (HBL.out.below ((HB23.out.mono (Nat.le_of_eq HG4.out.1))))
    clear hX3 hg6 hb23 HV2 HB22
    go_wp2_with fail
    go_loopw [6, 7] (fun bv mv wr => ∃ (p : Nat) (C : Option Addr) (L : List Int) (cc : Nat), p ≤ N ∧ mv = .int .i64 (p : Int) ∧ bv = .slice C L.length cc ∧ Hid (SlT wr C L) ∧ Hid (BestC (q + 1) L.length (fun x => f' (x : Int) = true ∧ ¬ LV s (x : Int)) p) ∧ L.length ≤ 9 ∧ Below X3.heap.size X3 wr) (fun _ mv _ => N - (intOf mv).toNat)
    case atStart => exact ⟨0, some ⟨g6, 0, none⟩, [], 0, Nat.zero_le _, rfl, rfl, SlT.nil, .inl ⟨rfl, fun x h => absurd h (by omega)⟩, by simp, Below.refl _ _⟩
    case round =>
     obtain ⟨wQ, rfl⟩ : ∃ W, W = wr := ⟨wr, rfl⟩
     obtain ⟨p, C, L, cc, hp, rfl, rfl, HC, HBC, hL9, hbq⟩ := hrel
     have HBQ := Lib.hid hbq
     have hgq : g4 ≤ X3.heap.size := Nat.le_of_lt HV3.out.lt
     have HB2Q : Hid (Below g4 w2 wQ) := HB23.out.trans (hbq.mono hgq)
     clear hbq
     obtain ⟨b0, b1, b2, bl⟩ := HCE.out _ (HBG.out _ HB2Q.out)
     by_cases hlp : p < N
     ·have hpn : (p : Int) < s.n := by rw [HNN.out]; omega
      have hpN : (p : Int) < (N : Int) := by omega
      have hp8 : (p : Int) < 8 := by omega
      have hp0 : (0 : Int) ≤ (p : Int) := by omega
      have hp88 : p < 8 := by omega
      have HVQ := Lib.hid (HV3.out.below HBQ.out)
      obtain ⟨x, hx⟩ := HVQ.out.get hp88
      have r0 := HVQ.out.is hp88
      have r8 := HVQ.out.l hx
      have rl := HVQ.out.lt
      have l0 := (HBL3.out.below HBQ.out).cell hlp
      have ll := (HBL3.out.below HBQ.out).lt
      obtain ⟨⟨hxs, hxc, hxm⟩, hxn, hxe⟩ := HVQ.out.ok p x hx
      have HXE := Lib.hid hxe
      have HXS := Lib.hid hxs
      have HFLP := Lib.hid (HFL.out p hlp)
      have HBF : Hid (Calls Tryz.prog 118 #[.slice x.A x.L.length x.c, .slice C L.length cc] wQ fun e w' => IsBool e ∧ Below wQ.heap.size wQ w') := rbefore04_any x.A C x.L L x.c cc wQ hxs.slr HC.out.slr (by omega)
      clear hx hxs hxe
      go_upto_region 14 with fail
      go_cut [56] (fun s56 W => IsPutB (f' (p : Int) = true ∧ ¬ LV s (p : Int)) (¬ (f' (p : Int) = true ∧ ¬ LV s (p : Int)) ∨ 0 < L.length) s56 ∧ Below wQ.heap.size wQ W)
      case first =>
       cases hfp : f' (p : Int) with
       | false =>
        rw [hfp] at r0
        have HFP := Lib.hid hfp
        clear hfp
        go_wp2_with fail
        go_meet
        exact ⟨.no (.inl fun h => by rw [HFP.out] at h; cases h.1), Below.refl _ _⟩
       | true =>
        rw [hfp] at r0
        have HFP := Lib.hid hfp
        clear hfp
        cases hlv : fl (p : Int) with
        | true =>
         rw [hlv] at l0
         have HNL : Hid (LV s (p : Int)) := HFLP.out.1 hlv
         clear hlv
         go_wp2_with fail
         go_meet
         exact ⟨.no (.inl fun h => h.2 HNL.out), Below.refl _ _⟩
        | false =>
         rw [hlv] at l0
         have HNL : Hid (¬ LV s (p : Int)) := fun h => by have := HFLP.out.2 h; rw [hlv] at this; cases this
         clear hlv
         by_cases hz0 : L.length = 0
         ·have hzi : (L.length : Int) = 0 := by omega
          go_wp2_with fail
          go_meet
          exact ⟨.yes ⟨HFP.out, HNL.out⟩, Below.refl _ _⟩
         ·have hzi : ¬ (L.length : Int) = 0 := by omega
          go_wp2_with (go_at_call 118; go_loud (refine HBF.out.mono ?_; rintro e W7 ⟨⟨bv, rfl⟩, hb7⟩))
          go_meet
          exact ⟨.any ⟨HFP.out, HNL.out⟩ (.inr (by omega)), hb7⟩
      case rest =>
       obtain ⟨X7, rfl⟩ : ∃ W, W = wc := ⟨wc, rfl⟩
       obtain ⟨⟨bb, rfl, hyes, hno⟩, hb7⟩ := hcut
       have HY := Lib.hid hyes
       have HN := Lib.hid hno
       have HV7 := Lib.hid (HVQ.out.below hb7)
       have HB7 := Lib.hid (HBQ.out.trans (hb7.mono HBQ.out.size))
       have HX7 := Lib.hid (HXS.out.below hb7)
       have HC7 := Lib.hid (HC.out.below hb7)
       have r8 : X7.cell? ⟨g4, 8 + p, none⟩ = some (.slice x.A x.L.length x.c) := (hb7.cell (p := ⟨g4, _, none⟩) rl).trans r8
       have rl := HV7.out.lt
       clear hb7 hyes hno
       cases hbv : bb with
       | true =>
        have HP := Lib.hid (HY.out hbv)
        have HXL : Hid (x.L.length = q + 1) := HXE.out HP.out.1
        go_wp2_with fail
        go_roundw
        case rel => exact ⟨p + 1, x.A, x.L, x.c, by omega, by go_num, rfl, HX7.out, (by show BestC _ _ _ _; rw [HXL.out]; exact BestC.put HP.out), by have := HXL.out; omega, HB7.out⟩
        case measure => simp [intOf]; omega
       | false =>
        have HP := Lib.hid (HN.out hbv)
        go_wp2_with fail
        go_roundw
        case rel => exact ⟨p + 1, C, L, cc, by omega, by go_num, rfl, HC7.out, HBC.out.keep HP.out, hL9, HB7.out⟩
        case measure => simp [intOf]; omega
     ·obtain rfl : p = N := by omega
      have hpn : ¬ (p : Int) < s.n := by rw [HNN.out]; omega
      by_cases hz0 : L.length = 0
      ·have hzi : ¬ (0 : Int) < (L.length : Int) := by omega
       have HALL : Hid (∀ n' m, n' < q + 1 → Ch s (askP false) 0 (n' + 1) m → LV s m) := by
        show ∀ n' m, _
        intro n' m h1 h2
        by_cases e : n' = q
        ·subst e
         rcases HBC.out with ⟨_, ha⟩ | ⟨h0, _⟩
         ·have hm := ch_range (s := s) (N := p) ⟨by omega, by omega⟩ HTO.out h2
          obtain ⟨k, rfl⟩ : ∃ k : Nat, m = (k : Int) := ⟨m.toNat, by omega⟩
          exact Classical.byContradiction fun hl => ha k (by omega) ⟨(HF'.out _).2 h2, hl⟩
         ·omega
        ·exact HNO.out n' m (by omega) h2
       go_wp2_with fail
       go_roundw
       case rel => exact ⟨q + 1, f', ch', by omega, by go_num, HV3.out.below HBQ.out, HF'.out, HALL.out, HB2Q.out⟩
       case measure => simp [intOf]; omega
      ·have hzi : (0 : Int) < (L.length : Int) := by omega
       have HEX : Hid (∃ m, RM s m ∧ ¬ LV s m) := by
        rcases HBC.out with ⟨h0, _⟩ | ⟨_, x, _, h1, h2⟩
        ·exact absurd h0 hz0
        ·exact ⟨x, rm_ch.2 ⟨q + 1, by rw [← ask_true]; exact (HF'.out _).1 h1⟩, h2⟩
       go_wp2_with fail
       go_ret
       exact ⟨⟨C, L.length, cc, rfl, fun _ => ⟨HLV.out, HEX.out⟩, fun _ => by omega⟩, bthen HB1.out (HBG.out _ HB2Q.out)⟩
   ·obtain rfl : q = N := by omega
    have hqn : ¬ (q : Int) < s.n := by rw [HNN.out]; omega
    go_wp2_with fail
    go_ret
    refine ⟨⟨none, 0, 0, rfl, fun h => absurd h (by omega), fun h => ?_⟩, bthen HB1.out (HBG.out _ HBR.out)⟩
    obtain ⟨n', m, h1, h2, h3⟩ := (stuck_short (by omega) HTO.out h.1).1 h.2
    exact absurd (HNO.out n' m h1 (by rw [ask_true]; exact h2)) h3
theorem ask_mute : askP true = Ru.mute := by funext r; unfold askP; simp
def RoundP (s : Sc) (x : Int) : Prop := (RM s x ∧ LV s x) ∧ Mt s x x
def BestE (s : Sc) (l k : Nat) : Prop := (l = 0 ∧ ∀ x : Nat, x < k → ¬ RoundP s (x : Int)) ∨ (0 < l ∧ ∃ x, RoundP s x)
def BestF (s : Sc) (l k q : Nat) : Prop := (l = 0 ∧ (∀ x : Nat, x < k → ¬ RoundP s (x : Int)) ∧ ∀ n, n < q → ¬ ((RM s (k : Int) ∧ LV s (k : Int)) ∧ Ch s Ru.mute (k : Int) (n + 1) (k : Int))) ∨ (0 < l ∧ ∃ x, RoundP s x)
theorem BestF.start {s : Sc} {l k : Nat} (h : BestE s l k) : BestF s l k 0 := h.imp (fun h => ⟨h.1, h.2, fun n hn => absurd hn (by omega)⟩) id
theorem BestF.put {s : Sc} {l k q : Nat} (hl : 0 < l) (h : (RM s (k : Int) ∧ LV s (k : Int)) ∧ Ch s Ru.mute (k : Int) (q + 1) (k : Int)) : BestF s l k (q + 1) := .inr ⟨hl, _, h.1, mt_ch.2 ⟨q, h.2⟩⟩
theorem BestF.keep {s : Sc} {l k q : Nat} (h : BestF s l k q) (h2 : ¬ ((RM s (k : Int) ∧ LV s (k : Int)) ∧ Ch s Ru.mute (k : Int) (q + 1) (k : Int)) ∨ 0 < l) : BestF s l k (q + 1) := by
 rcases h with ⟨h0, ha, hb⟩ | h
 ·refine .inl ⟨h0, ha, fun n hn => ?_⟩
  by_cases e : n = q
  ·subst e; exact h2.resolve_right (by omega)
  ·exact hb n (by omega)
 ·exact .inr h
theorem BestF.done {s : Sc} {l k N : Nat} (hk : k < N) (hr : ∀ r ∈ s.rs, 0 ≤ r.to ∧ r.to < (N : Int)) (h : BestF s l k N) : BestE s l (k + 1) := by
 rcases h with ⟨h0, ha, hb⟩ | h
 ·refine .inl ⟨h0, fun x hx hp => ?_⟩
  by_cases e : x = k
  ·subst e
   obtain ⟨n, h1, h2⟩ := (mt_short (a := (x : Int)) ⟨by omega, by omega⟩ hr).1 hp.2
   exact hb n h1 ⟨hp.1, h2⟩
  ·exact ha x (by omega) hp
 ·exact .inr h
set_option maxHeartbeats 16000000 in
theorem rendless_any (s : Sc) (A : Option Addr) (c : Nat) (w : World) (hs : ScIn w s A c) (hok : ScOK s) :
 Calls Tryz.prog 104 #[.agg #[.int .i64 s.n, .int .u8 s.acc, .slice A s.rs.length c]] w (IsCh (∃ x, RoundP s x) w) := by
 obtain ⟨w1, hw1⟩ : ∃ w1, w.alloc (.cells #[.int .i64 s.n, .int .u8 s.acc, .slice A s.rs.length c] 30) = w1 := ⟨_, rfl⟩
 have hb1 : Below w.heap.size w w1 := by rw [← hw1]; exact nw _ (Below.refl _ _)
 have hB : Blk w1 w.heap.size 30 #[.int .i64 s.n, .int .u8 s.acc, .slice A s.rs.length c] := by rw [← hw1]; exact Blk.new _ _ _
 have HW1 := Lib.hid hw1
 have HB1 := Lib.hid hb1
 have HCE : Hid (∀ W, Below w1.heap.size w1 W → W.cell? ⟨w.heap.size, 0, none⟩ = some (.int .i64 s.n) ∧ W.cell? ⟨w.heap.size, 1, none⟩ = some (.int .u8 s.acc) ∧ W.cell? ⟨w.heap.size, 2, none⟩ = some (.slice A s.rs.length c) ∧ w.heap.size < W.heap.size) := fun W hW => by
  have e1 := hB.below hW hB.lt
  exact ⟨by rw [e1.cell]; rfl, by rw [e1.cell]; rfl, by rw [e1.cell]; rfl, e1.lt⟩
 obtain ⟨b0, b1, b2, bl⟩ := HCE.out _ (Below.refl _ _)
 clear hw1 hb1 hB
 have hn := hok.1
 obtain ⟨N, hN⟩ : ∃ N : Nat, s.n = (N : Int) := ⟨s.n.toNat, by omega⟩
 have hNN : s.n.toNat = N := by omega
 have hN8 : 1 ≤ N ∧ N ≤ 8 := by omega
 have HRE : Hid (Calls Tryz.prog 20 #[.agg #[.int .i64 s.n, .int .u8 s.acc, .slice A s.rs.length c], .int .i64 0] w1 fun e w' => (∃ g f, e = .returned (.slice (some ⟨g, 0, none⟩) N N) ∧ w1.heap.size ≤ g ∧ BB w' g N f ∧ ∀ x, f x = true ↔ RM s x) ∧ Below w1.heap.size w1 w') := by
  have h := rreached_any s A c 0 w1 (hs.below HB1.out) hok (by omega)
  rw [hNN] at h
  refine h.mono ?_
  rintro e w' ⟨⟨g, h1, h2, h3⟩, h4⟩
  exact ⟨⟨g, _, h1, h2, h3, fun x => by rw [← hNN]; exact rm_iff hok⟩, h4⟩
 have HLI : Hid (∀ W, Below w1.heap.size w1 W → Calls Tryz.prog 76 #[.agg #[.int .i64 s.n, .int .u8 s.acc, .slice A s.rs.length c]] W (IsLvR s N W)) := fun W hW => by
  have h := rlive_any s A c W (hs.below (HB1.out.trans (hW.mono HB1.out.size))) hok
  rw [hNN] at h
  exact h
 have HS := Lib.hid hs
 have HOK := Lib.hid hok
 have hto : ∀ r ∈ s.rs, 0 ≤ r.to ∧ r.to < (N : Int) := fun r hr => by have := (hok.2.2.2.1 r hr).1.2; omega
 have HTO := Lib.hid hto
 have HNN := Lib.hid hN
 have hnN : (0 : Int) < s.n := by omega
 clear hs hok hn hNN hto hN
 go_enter Tryz.func104, Tryz.ntmps104
 go_upto_region 1 with fail
 rw [HW1.out]
 go_upto_region 3 with (first
  | (go_at_call 20; go_loud (refine HRE.out.mono ?_; rintro e w2 ⟨⟨gr, fr, rfl, hgr, hbr, hfr⟩, hb2⟩; obtain ⟨b0, b1, b2, bl⟩ := HCE.out _ hb2))
  | (go_at_call 76; go_loud (refine (HLI.out _ hb2).mono ?_; rintro e w3 ⟨⟨gl, fl, rfl, hgl, hbl, hfl⟩, hb3⟩)))
 have HFR := Lib.hid hfr
 have HFL := Lib.hid hfl
 have HB13 := Lib.hid (hb2.trans (hb3.mono hb2.size))
 have HBR := Lib.hid (hbr.below hb3)
 have HBL := Lib.hid hbl
 clear hfr hfl hbr hbl hb2 hb3 b0 b1 b2 bl hgr hgl
 go_upto_region 4 with fail
 obtain ⟨g5, hg5⟩ : ∃ x, w3.heap.size = x := ⟨_, rfl⟩
 obtain ⟨w4, hw4⟩ : ∃ W, w3.alloc (.cells #[] 3) = W := ⟨_, rfl⟩
 have hb34 : Below w3.heap.size w3 w4 := by rw [← hw4]; exact nw _ (Below.refl _ _)
 rw [hg5, hw4]
 have HB14 := Lib.hid (HB13.out.trans (hb34.mono HB13.out.size))
 have HBR := Lib.hid (HBR.out.below hb34)
 have HBL := Lib.hid (HBL.out.below hb34)
 clear hw4 hg5 hb34
 go_wp2_with fail
 go_loopw [5, 6] (fun bv mv wr => ∃ (p : Nat) (C : Option Addr) (L : List Int) (cc : Nat), p ≤ N ∧ bv = .slice C L.length cc ∧ mv = .int .i64 (p : Int) ∧ Hid (SlT wr C L) ∧ Hid (BestE s L.length p) ∧ L.length ≤ 9 ∧ Below w4.heap.size w4 wr) (fun _ mv _ => N - (intOf mv).toNat)
 case atStart => exact ⟨0, some ⟨g5, 0, none⟩, [], 0, Nat.zero_le _, rfl, rfl, SlT.nil, .inl ⟨rfl, fun x h => absurd h (by omega)⟩, by simp, Below.refl _ _⟩
 case round =>
  obtain ⟨wP, rfl⟩ : ∃ W, W = wr := ⟨wr, rfl⟩
  obtain ⟨p, C0, L0, cc0, hp, rfl, rfl, HC0, HBE, hL0, hbp⟩ := hrel
  have HBP := Lib.hid hbp
  clear hbp
  obtain ⟨b0, b1, b2, bl⟩ := HCE.out _ (HB14.out.trans (HBP.out.mono HB14.out.size))
  by_cases hlp : p < N
  ·have hpn : (p : Int) < s.n := by rw [HNN.out]; omega
   have hpN : (p : Int) < (N : Int) := by omega
   have hp8 : (p : Int) < 8 := by omega
   have hp0 : (0 : Int) ≤ (p : Int) := by omega
   have hp88 : p < 8 := by omega
   go_upto_region 8 with fail
   obtain ⟨g7, hg7⟩ : ∃ x, wP.heap.size = x := ⟨_, rfl⟩
   obtain ⟨w7, hw7⟩ : ∃ W, wP.alloc (.cells #[.bool false, .bool false, .bool false, .bool false, .bool false, .bool false, .bool false, .bool false, .slice none 0 0, .slice none 0 0, .slice none 0 0, .slice none 0 0, .slice none 0 0, .slice none 0 0, .slice none 0 0, .slice none 0 0] 203) = W := ⟨_, rfl⟩
   have hk7 : WkIn w7 g7 (fun _ => false) (List.replicate 8 ⟨none, [], 0⟩) 0 := by rw [← hw7, ← hg7]; exact WkIn.new _ _
   have hb7 : Below g7 wP w7 := by rw [← hw7, ← hg7]; exact nw _ (Below.refl _ _)
   rw [hg7, hw7]
   have hG7 : wP.heap.size = g7 := hg7
   have HBP7 : Hid (∀ W, Below g7 wP W → Below w4.heap.size w4 W) := fun W h => HBP.out.trans (h.mono (by have := HBP.out.size; omega))
   have HBQ7 : Hid (∀ W, Below g7 wP W → Below w1.heap.size w1 W) := fun W h => HB14.out.trans ((HBP7.out W h).mono HB14.out.size)
   have hs0 : w7.cell? ⟨g7, p, none⟩ = some (.bool false) := hk7.is hp88
   have hsf := hk7.frozen p
   have hsl := hk7.lt
   have r0 := (HBR.out.below (HBP7.out _ hb7)).cell hlp
   have rl := (HBR.out.below (HBP7.out _ hb7)).lt
   have l0 := (HBL.out.below (HBP7.out _ hb7)).cell hlp
   have ll := (HBL.out.below (HBP7.out _ hb7)).lt
   have HK7 : Hid (∀ b : Bool, WkIn (w7.setCell ⟨g7, p, none⟩ (.bool b)) g7 (fun x => if x = (p : Int) then b else false) (List.replicate 8 ⟨none, [], 0⟩) 0) := fun b => hk7.is_ b p hp88 rfl (fun x hx => by rw [(List.mem_replicate.1 hx).2]) (fun _ => trivial)
   have HB7 : Hid (∀ b : Bool, Below g7 wP (w7.setCell ⟨g7, p, none⟩ (.bool b))) := fun b => hb7.setCell (p := ⟨g7, p, none⟩) (Nat.le_refl _) _
   have HST : Hid (∀ b : Bool, (b = true ↔ RM s (p : Int) ∧ LV s (p : Int)) → ∀ x, (if x = (p : Int) then b else false) = true ↔ (RM s (p : Int) ∧ LV s (p : Int)) ∧ Ch s (askP true) (p : Int) 0 x) := by
    show ∀ b, _
    intro b hb x
    constructor
    ·intro h
     split at h
     ·rename_i e; subst e; exact ⟨hb.1 h, .zero⟩
     ·cases h
    ·rintro ⟨h1, h2⟩
     cases h2
     rw [if_pos rfl]
     exact hb.2 h1
   have HRP := Lib.hid (HFR.out (p : Int))
   have HLP := Lib.hid (HFL.out p hlp)
   clear hw7 hk7 hg7 b0 b1 b2 bl hb7
   go_cut [] (fun W => ∃ f, Hid (WkIn W g7 f (List.replicate 8 ⟨none, [], 0⟩) 0) ∧ Hid (∀ x, f x = true ↔ (RM s (p : Int) ∧ LV s (p : Int)) ∧ Ch s (askP true) (p : Int) 0 x) ∧ Below g7 wP W)
   case first =>
    cases hfr : fr (p : Int) with
    | false =>
     rw [hfr] at r0
     have HNR : Hid (¬ RM s (p : Int)) := fun h => by have := HRP.out.2 h; rw [hfr] at this; cases this
     clear hfr
     go_wp2_with fail
     go_meet
     exact ⟨_, HK7.out false, HST.out false ⟨fun h => (by cases h), fun h => absurd h.1 HNR.out⟩, HB7.out false⟩
    | true =>
     rw [hfr] at r0
     have HNR : Hid (RM s (p : Int)) := HRP.out.1 hfr
     clear hfr
     cases hlv : fl (p : Int) with
     | false =>
      rw [hlv] at l0
      have HNL : Hid (¬ LV s (p : Int)) := fun h => by have := HLP.out.2 h; rw [hlv] at this; cases this
      clear hlv
      go_wp2_with fail
      go_meet
      exact ⟨_, HK7.out false, HST.out false ⟨fun h => (by cases h), fun h => absurd h.2 HNL.out⟩, HB7.out false⟩
     | true =>
      rw [hlv] at l0
      have HNL : Hid (LV s (p : Int)) := HLP.out.1 hlv
      clear hlv
      go_wp2_with fail
      go_meet
      exact ⟨_, HK7.out true, HST.out true ⟨fun _ => ⟨HNR.out, HNL.out⟩, fun _ => rfl⟩, HB7.out true⟩
   case rest =>
    obtain ⟨w8, rfl⟩ : ∃ W, W = wc := ⟨wc, rfl⟩
    obtain ⟨f0, HK8, HF8, hb8⟩ := hcut
    have HB8 := Lib.hid hb8
    have HC8 := Lib.hid (HC0.out.below (hb8.mono (Nat.le_of_eq hG7)))
    clear hb8 hs0 hsf hsl r0 rl l0 ll HST
    go_wp2_with fail
    go_loopw [5, 8] (fun bv nv wr => ∃ (q : Nat) (f : Int → Bool) (ch : List Chn) (C : Option Addr) (L : List Int) (cc : Nat), q ≤ N ∧ bv = .slice C L.length cc ∧ nv = .int .i64 (q : Int) ∧ Hid (WkIn wr g7 f ch q) ∧ Hid (∀ x, f x = true ↔ (RM s (p : Int) ∧ LV s (p : Int)) ∧ Ch s (askP true) (p : Int) q x) ∧ Hid (SlT wr C L) ∧ Hid (BestF s L.length p q) ∧ L.length ≤ 9 ∧ Below g7 wP wr) (fun _ nv _ => N - (intOf nv).toNat)
    case atStart => exact ⟨0, f0, _, C0, L0, cc0, Nat.zero_le _, rfl, rfl, HK8.out, HF8.out, HC8.out, .start HBE.out, hL0, HB8.out⟩
    case round =>
     obtain ⟨wQ, rfl⟩ : ∃ W, W = wr := ⟨wr, rfl⟩
     obtain ⟨q, f, ch, C, L, cc, hq, rfl, rfl, HV, HF, HC, HBF, hL9, hbq⟩ := hrel
     have HBQ := Lib.hid hbq
     clear hbq
     obtain ⟨b0, b1, b2, bl⟩ := HCE.out _ (HBQ7.out _ HBQ.out)
     by_cases hlq : q < N
     ·have hqn : (q : Int) < s.n := by rw [HNN.out]; omega
      have HNX : Hid (Calls Tryz.prog 117 #[.agg #[.int .i64 s.n, .int .u8 s.acc, .slice A s.rs.length c], .agg (wkC f ch).toArray, .bool true] wQ (IsWk s true f q wQ)) := rnext_any s A c f ch true q wQ (HS.out.below (bthen HB1.out (HBQ7.out _ HBQ.out))) HOK.out HV.out.len (by omega) HV.out.ok
      obtain ⟨f', hf'⟩ : ∃ z, stepB s (askP true) f s.rs.length = z := ⟨_, rfl⟩
      have HF' : Hid (∀ x, f' x = true ↔ (RM s (p : Int) ∧ LV s (p : Int)) ∧ Ch s (askP true) (p : Int) (q + 1) x) := by
       show ∀ x, _
       intro x
       rw [← hf']
       exact stepB_chP HF.out x
      have HSF := Lib.hid hf'
      have HSZ : Hid ((Tryz.prog.info? 203).map (·.size) = some (wkC f ch).toArray.size) := by
       show _ = _
       rw [walk_info, List.size_toArray, wkC_len HV.out.len]
      clear hf'
      go_upto_region 13 with (first
       | (refine wpList_load_row rfl 203 _ rfl g7 rfl 203 (wkC f ch).toArray (0, 0) _ HV.out.blk Tryz.underlying203 rfl HSZ.out ?_)
       | (go_at_call 117; go_loud (refine HNX.out.mono ?_; rintro e X1 ⟨⟨ch', rfl, hl', hok'⟩, hb1X⟩; rw [HSF.out] at hok' ⊢; have HSZ' : Hid ((Tryz.prog.info? 203).map (·.size) = some (wkC f' ch').toArray.size) := (by show _ = _; rw [walk_info, List.size_toArray, wkC_len hl']); have HVX := Lib.hid (HV.out.below hb1X); have HOLD : Hid ((wkC f ch).toArray.size = (wkC f' ch').toArray.size) := (by show _ = _; rw [List.size_toArray, List.size_toArray, wkC_len hl', wkC_len HV.out.len]); have HL' := Lib.hid hl'; have HOK' := Lib.hid hok'; have HB1X := Lib.hid hb1X; clear hl' hok' hb1X))
       | (refine wpList_store_row rfl 203 _ _ rfl g7 (wkC f' ch').toArray rfl rfl 203 _ HVX.out.blk HSZ'.out HOLD.out wkC_one ?_))
      obtain ⟨X2, hX2⟩ : ∃ W, X1.setRow g7 (wkC f' ch').toArray = W := ⟨_, rfl⟩
      have HV2 : Hid (WkIn X2 g7 f' ch' (q + 1)) := by show WkIn _ _ _ _ _; rw [← hX2]; exact HVX.out.row HL'.out HOK'.out
      have HB2 : Hid (Below g7 wP X2) := by show Below _ _ _; rw [← hX2]; exact below_setRow (HBQ.out.trans (HB1X.out.mono (Nat.le_of_lt HV.out.lt))) (Nat.le_refl _) _
      have HC2 : Hid (SlT X2 C L) := by show SlT _ _ _; rw [← hX2]; exact (HC.out.below HB1X.out).row_ HVX.out.blk (by decide) _
      rw [hX2]
      clear hX2 HOK' HB1X HVX HOLD HSZ HSZ' HNX b0 b1 b2 bl
      obtain ⟨x, hx⟩ := HV2.out.get hp88
      have r0 := HV2.out.is hp88
      have r8 := HV2.out.l hx
      have rl := HV2.out.lt
      obtain ⟨⟨hxs, hxc, hxm⟩, hxn, hxe⟩ := HV2.out.ok p x hx
      have HXE := Lib.hid hxe
      have HXS := Lib.hid hxs
      have HBF2 : Hid (Calls Tryz.prog 118 #[.slice x.A x.L.length x.c, .slice C L.length cc] X2 fun e w' => IsBool e ∧ Below X2.heap.size X2 w') := rbefore04_any x.A C x.L L x.c cc X2 hxs.slr HC2.out.slr (by omega)
      clear hx hxs hxe
      go_upto_region 14 with fail
      go_cut [75] (fun s75 W => IsPutB (f' (p : Int) = true) (¬ f' (p : Int) = true ∨ 0 < L.length) s75 ∧ Below X2.heap.size X2 W)
      case first =>
       cases hfp : f' (p : Int) with
       | false =>
        rw [hfp] at r0
        have HFP := Lib.hid hfp
        clear hfp
        go_wp2_with fail
        go_meet
        exact ⟨.no (.inl fun h => by rw [HFP.out] at h; cases h), Below.refl _ _⟩
       | true =>
        rw [hfp] at r0
        have HFP := Lib.hid hfp
        clear hfp
        by_cases hz0 : L.length = 0
        ·have hzi : (L.length : Int) = 0 := by omega
         go_wp2_with fail
         go_meet
         exact ⟨.yes HFP.out, Below.refl _ _⟩
        ·have hzi : ¬ (L.length : Int) = 0 := by omega
         by_cases hz1 : x.L.length < L.length
         ·have hz1i : (x.L.length : Int) < (L.length : Int) := by omega
          go_wp2_with fail
          go_meet
          exact ⟨.yes HFP.out, Below.refl _ _⟩
         ·have hz1i : ¬ (x.L.length : Int) < (L.length : Int) := by omega
          by_cases hz2 : x.L.length = L.length
          ·have hz2i : (x.L.length : Int) = (L.length : Int) := by omega
           have HZ2 := Lib.hid hz2
           clear hz2
           go_wp2_with (go_at_call 118; go_loud (refine HBF2.out.mono ?_; rintro e W7 ⟨⟨bv, rfl⟩, hb7⟩))
           go_meet
           exact ⟨.any HFP.out (.inr (by omega)), hb7⟩
          ·have hz2i : ¬ (x.L.length : Int) = (L.length : Int) := by omega
           go_wp2_with fail
           go_meet
           exact ⟨.any HFP.out (.inr (by omega)), Below.refl _ _⟩
      case rest =>
       obtain ⟨X7, rfl⟩ : ∃ W, W = wc := ⟨wc, rfl⟩
       obtain ⟨⟨bb, rfl, hyes, hno⟩, hb7⟩ := hcut
       have HY := Lib.hid hyes
       have HN := Lib.hid hno
       have HV7 := Lib.hid (HV2.out.below hb7)
       have HB7' := Lib.hid (HB2.out.trans (hb7.mono (Nat.le_of_lt HV2.out.lt)))
       have HX7 := Lib.hid (HXS.out.below hb7)
       have HC7 := Lib.hid (HC2.out.below hb7)
       clear hb7 hyes hno r0 r8 rl
       cases hbv : bb with
       | true =>
        have HP := Lib.hid (HY.out hbv)
        have HXL : Hid (x.L.length = q + 1) := HXE.out HP.out
        have HPP : Hid ((RM s (p : Int) ∧ LV s (p : Int)) ∧ Ch s Ru.mute (p : Int) (q + 1) (p : Int)) := by
         show _ ∧ _
         rw [← ask_mute]
         exact (HF'.out _).1 HP.out
        go_wp2_with fail
        go_roundw
        case rel => exact ⟨q + 1, f', ch', x.A, x.L, x.c, by omega, rfl, by go_num, HV7.out, HF'.out, HX7.out, .put (by have := HXL.out; omega) HPP.out, by have := HXL.out; omega, HB7'.out⟩
        case measure => simp [intOf]; omega
       | false =>
        have HP : Hid (¬ ((RM s (p : Int) ∧ LV s (p : Int)) ∧ Ch s Ru.mute (p : Int) (q + 1) (p : Int)) ∨ 0 < L.length) := (HN.out hbv).imp (fun h h2 => h ((HF'.out _).2 (by rw [ask_mute]; exact h2))) id
        go_wp2_with fail
        go_roundw
        case rel => exact ⟨q + 1, f', ch', C, L, cc, by omega, rfl, by go_num, HV7.out, HF'.out, HC7.out, HBF.out.keep HP.out, hL9, HB7'.out⟩
        case measure => simp [intOf]; omega
     ·obtain rfl : q = N := by omega
      have hqn : ¬ (q : Int) < s.n := by rw [HNN.out]; omega
      go_wp2_with fail
      go_roundw
      case rel => exact ⟨p + 1, C, L, cc, by omega, rfl, by go_num, HC.out, HBF.out.done hlp HTO.out, hL9, HBP7.out _ HBQ.out⟩
      case measure => simp [intOf]; omega
  ·obtain rfl : p = N := by omega
   have hpn : ¬ (p : Int) < s.n := by rw [HNN.out]; omega
   have HEX : Hid (0 < L0.length ↔ ∃ x, RoundP s x) := by
    rcases HBE.out with ⟨h0, ha⟩ | ⟨h0, h1⟩
    ·refine ⟨fun h => absurd h (by omega), fun ⟨x, hx⟩ => ?_⟩
     obtain ⟨n', hn'⟩ := rm_ch.1 hx.1.1
     have hm := ch_range (s := s) (N := p) ⟨by omega, by omega⟩ HTO.out hn'
     obtain ⟨k, rfl⟩ : ∃ k : Nat, x = (k : Int) := ⟨x.toNat, by omega⟩
     exact absurd hx (ha k (by omega))
    ·exact ⟨fun _ => h1, fun _ => h0⟩
   go_wp2_with fail
   go_ret
   exact ⟨⟨C0, L0.length, cc0, rfl, HEX.out⟩, bthen HB1.out (HB14.out.trans (HBP.out.mono HB14.out.size))⟩
end Go.Proofs.YtfpnhgahkjglgaaGreat
