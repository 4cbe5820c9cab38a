/-
  OuEndless, OuFind, OuWalk5, OuSndP, joined. No conditions.
-/
import Derived.Test.YtfpnhgahkjglgaaGreatQ33
import Derived.Test.YtfpnhgahkjglgaaGreatQ22
import Derived.Deep.CutBlock
import Derived.Test.YtfpnhgahkjglgaaGreatQ06
import Derived.Test.YtfpnhgahkjglgaaGreatQ30
/-
  The walks of layers 05 and 08: the reference's way round without input.
-/
namespace Go.Proofs.YtfpnhgahkjglgaaGreat
open Go Go.RowKit

theorem ask_mute : askP true = Ru.mute := by funext r; unfold askP; simp
/-- A mode from which a way round goes. -/
def RoundP (s : Sc) (x : Int) : Prop := (RM s x ∧ LV s x) ∧ Mt s x x
def BestE (s : Sc) (l k : Nat) : Prop := (l = 0 ∧ ∀ x : Nat, x < k → ¬ RoundP s (x : Int)) ∨ (0 < l ∧ ∃ x, RoundP s x)
def BestF (s : Sc) (l k q : Nat) : Prop := (l = 0 ∧ (∀ x : Nat, x < k → ¬ RoundP s (x : Int)) ∧ ∀ n, n < q → ¬ ((RM s (k : Int) ∧ LV s (k : Int)) ∧ Ch s Ru.mute (k : Int) (n + 1) (k : Int))) ∨ (0 < l ∧ ∃ x, RoundP s x)
theorem BestF.start {s : Sc} {l k : Nat} (h : BestE s l k) : BestF s l k 0 := h.imp (fun h => ⟨h.1, h.2, fun n hn => absurd hn (by omega)⟩) id
theorem BestF.put {s : Sc} {l k q : Nat} (hl : 0 < l) (h : (RM s (k : Int) ∧ LV s (k : Int)) ∧ Ch s Ru.mute (k : Int) (q + 1) (k : Int)) : BestF s l k (q + 1) := .inr ⟨hl, _, h.1, mt_ch.2 ⟨q, h.2⟩⟩
theorem BestF.keep {s : Sc} {l k q : Nat} (h : BestF s l k q) (h2 : ¬ ((RM s (k : Int) ∧ LV s (k : Int)) ∧ Ch s Ru.mute (k : Int) (q + 1) (k : Int)) ∨ 0 < l) : BestF s l k (q + 1) := by
  rcases h with ⟨h0, ha, hb⟩ | h
  · refine .inl ⟨h0, ha, fun n hn => ?_⟩
    by_cases e : n = q
    · subst e; exact h2.resolve_right (by omega)
    · exact hb n (by omega)
  · exact .inr h
theorem BestF.done {s : Sc} {l k N : Nat} (hk : k < N) (hr : ∀ r ∈ s.rs, 0 ≤ r.to ∧ r.to < (N : Int)) (h : BestF s l k N) : BestE s l (k + 1) := by
  rcases h with ⟨h0, ha, hb⟩ | h
  · refine .inl ⟨h0, fun x hx hp => ?_⟩
    by_cases e : x = k
    · subst e
      obtain ⟨n, h1, h2⟩ := (mt_short (a := (x : Int)) ⟨by omega, by omega⟩ hr).1 hp.2
      exact hb n h1 ⟨hp.1, h2⟩
    · exact ha x (by omega) hp
  · exact .inr h
set_option maxRecDepth 100000 in
set_option maxHeartbeats 16000000 in
theorem rendless_any (s : Sc) (A : Option Addr) (c : Nat) (w : World) (hs : ScIn w s A c) (hok : ScOK s) :
    Calls Tryz.prog 104 #[.agg #[.int .i64 s.n, .int .u8 s.acc, .slice A s.rs.length c]] w (IsCh (∃ x, RoundP s x) w) := by
  obtain ⟨w1, hw1⟩ : ∃ w1, w.alloc (.cells #[.int .i64 s.n, .int .u8 s.acc, .slice A s.rs.length c] 30) = w1 := ⟨_, rfl⟩
  have hb1 : Below w.heap.size w w1 := by rw [← hw1]; exact nw _ (Below.refl _ _)
  have hB : Blk w1 w.heap.size 30 #[.int .i64 s.n, .int .u8 s.acc, .slice A s.rs.length c] := by rw [← hw1]; exact Blk.new _ _ _
  have HW1 := Lib.hid hw1
  have HB1 := Lib.hid hb1
  have HCE : Hid (∀ W, Below w1.heap.size w1 W → W.cell? ⟨w.heap.size, 0, none⟩ = some (.int .i64 s.n) ∧ W.cell? ⟨w.heap.size, 1, none⟩ = some (.int .u8 s.acc) ∧ W.cell? ⟨w.heap.size, 2, none⟩ = some (.slice A s.rs.length c) ∧ w.heap.size < W.heap.size) := fun W hW => by
    have e1 := hB.below hW hB.lt
    exact ⟨by rw [e1.cell]; rfl, by rw [e1.cell]; rfl, by rw [e1.cell]; rfl, e1.lt⟩
  obtain ⟨b0, b1, b2, bl⟩ := HCE.out _ (Below.refl _ _)
  clear hw1 hb1 hB
  have hn := hok.1
  obtain ⟨N, hN⟩ : ∃ N : Nat, s.n = (N : Int) := ⟨s.n.toNat, by omega⟩
  have hNN : s.n.toNat = N := by omega
  have hN8 : 1 ≤ N ∧ N ≤ 8 := by omega
  have HRE : Hid (Calls Tryz.prog 20 #[.agg #[.int .i64 s.n, .int .u8 s.acc, .slice A s.rs.length c], .int .i64 0] w1 fun e w' => (∃ g f, e = .returned (.slice (some ⟨g, 0, none⟩) N N) ∧ w1.heap.size ≤ g ∧ BB w' g N f ∧ ∀ x, f x = true ↔ RM s x) ∧ Below w1.heap.size w1 w') := by
    have h := rreached_any s A c 0 w1 (hs.below HB1.out) hok (by omega)
    rw [hNN] at h
    refine h.mono ?_
    rintro e w' ⟨⟨g, h1, h2, h3⟩, h4⟩
    exact ⟨⟨g, _, h1, h2, h3, fun x => by rw [← hNN]; exact rm_iff hok⟩, h4⟩
  have HLI : Hid (∀ W, Below w1.heap.size w1 W → Calls Tryz.prog 76 #[.agg #[.int .i64 s.n, .int .u8 s.acc, .slice A s.rs.length c]] W (IsLvR s N W)) := fun W hW => by
    have h := rlive_any s A c W (hs.below (HB1.out.trans (hW.mono HB1.out.size))) hok
    rw [hNN] at h
    exact h
  have HS := Lib.hid hs
  have HOK := Lib.hid hok
  have hto : ∀ r ∈ s.rs, 0 ≤ r.to ∧ r.to < (N : Int) := fun r hr => by have := (hok.2.2.2.1 r hr).1.2; omega
  have HTO := Lib.hid hto
  have HNN := Lib.hid hN
  have hnN : (0 : Int) < s.n := by omega
  clear hs hok hn hNN hto hN
  go_enter Tryz.func104, Tryz.ntmps104
  go_upto_region 1 with fail
  rw [HW1.out]
  go_upto_region 3 with (first
    | (go_at_call 20; go_loud (refine HRE.out.mono ?_; rintro e w2 ⟨⟨gr, fr, rfl, hgr, hbr, hfr⟩, hb2⟩; obtain ⟨b0, b1, b2, bl⟩ := HCE.out _ hb2))
    | (go_at_call 76; go_loud (refine (HLI.out _ hb2).mono ?_; rintro e w3 ⟨⟨gl, fl, rfl, hgl, hbl, hfl⟩, hb3⟩)))
  have HFR := Lib.hid hfr
  have HFL := Lib.hid hfl
  have HB13 := Lib.hid (hb2.trans (hb3.mono hb2.size))
  have HBR := Lib.hid (hbr.below hb3)
  have HBL := Lib.hid hbl
  clear hfr hfl hbr hbl hb2 hb3 b0 b1 b2 bl hgr hgl
  go_upto_region 4 with fail
  obtain ⟨g5, hg5⟩ : ∃ x, w3.heap.size = x := ⟨_, rfl⟩
  obtain ⟨w4, hw4⟩ : ∃ W, w3.alloc (.cells #[] 3) = W := ⟨_, rfl⟩
  have hb34 : Below w3.heap.size w3 w4 := by rw [← hw4]; exact nw _ (Below.refl _ _)
  rw [hg5, hw4]
  have HB14 := Lib.hid (HB13.out.trans (hb34.mono HB13.out.size))
  have HBR := Lib.hid (HBR.out.below hb34)
  have HBL := Lib.hid (HBL.out.below hb34)
  clear hw4 hg5 hb34
  go_wp2_with fail
  go_loopw [5, 6] (fun bv mv wr => ∃ (p : Nat) (C : Option Addr) (L : List Int) (cc : Nat), p ≤ N ∧ bv = .slice C L.length cc ∧ mv = .int .i64 (p : Int) ∧ Hid (SlT wr C L) ∧ Hid (BestE s L.length p) ∧ L.length ≤ 9 ∧ Below w4.heap.size w4 wr) (fun _ mv _ => N - (intOf mv).toNat)
  case atStart => exact ⟨0, some ⟨g5, 0, none⟩, [], 0, Nat.zero_le _, rfl, rfl, SlT.nil, .inl ⟨rfl, fun x h => absurd h (by omega)⟩, by simp, Below.refl _ _⟩
  case round =>
    obtain ⟨wP, rfl⟩ : ∃ W, W = wr := ⟨wr, rfl⟩
    obtain ⟨p, C0, L0, cc0, hp, rfl, rfl, HC0, HBE, hL0, hbp⟩ := hrel
    have HBP := Lib.hid hbp
    clear hbp
    obtain ⟨b0, b1, b2, bl⟩ := HCE.out _ (HB14.out.trans (HBP.out.mono HB14.out.size))
    by_cases hlp : p < N
    · have hpn : (p : Int) < s.n := by rw [HNN.out]; omega
      have hpN : (p : Int) < (N : Int) := by omega
      have hp8 : (p : Int) < 8 := by omega
      have hp0 : (0 : Int) ≤ (p : Int) := by omega
      have hp88 : p < 8 := by omega
      go_upto_region 8 with fail
      obtain ⟨g7, hg7⟩ : ∃ x, wP.heap.size = x := ⟨_, rfl⟩
      obtain ⟨w7, hw7⟩ : ∃ W, wP.alloc (.cells #[.bool false, .bool false, .bool false, .bool false, .bool false, .bool false, .bool false, .bool false, .slice none 0 0, .slice none 0 0, .slice none 0 0, .slice none 0 0, .slice none 0 0, .slice none 0 0, .slice none 0 0, .slice none 0 0] 203) = W := ⟨_, rfl⟩
      have hk7 : WkIn w7 g7 (fun _ => false) (List.replicate 8 ⟨none, [], 0⟩) 0 := by rw [← hw7, ← hg7]; exact WkIn.new _ _
      have hb7 : Below g7 wP w7 := by rw [← hw7, ← hg7]; exact nw _ (Below.refl _ _)
      rw [hg7, hw7]
      have hG7 : wP.heap.size = g7 := hg7
      have HBP7 : Hid (∀ W, Below g7 wP W → Below w4.heap.size w4 W) := fun W h => HBP.out.trans (h.mono (by have := HBP.out.size; omega))
      have HBQ7 : Hid (∀ W, Below g7 wP W → Below w1.heap.size w1 W) := fun W h => HB14.out.trans ((HBP7.out W h).mono HB14.out.size)
      have hs0 : w7.cell? ⟨g7, p, none⟩ = some (.bool false) := hk7.is hp88
      have hsf := hk7.frozen p
      have hsl := hk7.lt
      have r0 := (HBR.out.below (HBP7.out _ hb7)).cell hlp
      have rl := (HBR.out.below (HBP7.out _ hb7)).lt
      have l0 := (HBL.out.below (HBP7.out _ hb7)).cell hlp
      have ll := (HBL.out.below (HBP7.out _ hb7)).lt
      have HK7 : Hid (∀ b : Bool, WkIn (w7.setCell ⟨g7, p, none⟩ (.bool b)) g7 (fun x => if x = (p : Int) then b else false) (List.replicate 8 ⟨none, [], 0⟩) 0) := fun b => hk7.is_ b p hp88 rfl (fun x hx => by rw [(List.mem_replicate.1 hx).2]) (fun _ => trivial)
      have HB7 : Hid (∀ b : Bool, Below g7 wP (w7.setCell ⟨g7, p, none⟩ (.bool b))) := fun b => hb7.setCell (p := ⟨g7, p, none⟩) (Nat.le_refl _) _
      have HST : Hid (∀ b : Bool, (b = true ↔ RM s (p : Int) ∧ LV s (p : Int)) → ∀ x, (if x = (p : Int) then b else false) = true ↔ (RM s (p : Int) ∧ LV s (p : Int)) ∧ Ch s (askP true) (p : Int) 0 x) := by
        show ∀ b, _
        intro b hb x
        constructor
        · intro h
          split at h
          · rename_i e; subst e; exact ⟨hb.1 h, .zero⟩
          · cases h
        · rintro ⟨h1, h2⟩
          cases h2
          rw [if_pos rfl]
          exact hb.2 h1
      have HRP := Lib.hid (HFR.out (p : Int))
      have HLP := Lib.hid (HFL.out p hlp)
      clear hw7 hk7 hg7 b0 b1 b2 bl hb7
      go_cut [] (fun W => ∃ f, Hid (WkIn W g7 f (List.replicate 8 ⟨none, [], 0⟩) 0) ∧ Hid (∀ x, f x = true ↔ (RM s (p : Int) ∧ LV s (p : Int)) ∧ Ch s (askP true) (p : Int) 0 x) ∧ Below g7 wP W)
      case first =>
        cases hfr : fr (p : Int) with
        | false =>
          rw [hfr] at r0
          have HNR : Hid (¬ RM s (p : Int)) := fun h => by have := HRP.out.2 h; rw [hfr] at this; cases this
          clear hfr
          go_wp2_with fail
          go_meet
          exact ⟨_, HK7.out false, HST.out false ⟨fun h => (by cases h), fun h => absurd h.1 HNR.out⟩, HB7.out false⟩
        | true =>
          rw [hfr] at r0
          have HNR : Hid (RM s (p : Int)) := HRP.out.1 hfr
          clear hfr
          cases hlv : fl (p : Int) with
          | false =>
            rw [hlv] at l0
            have HNL : Hid (¬ LV s (p : Int)) := fun h => by have := HLP.out.2 h; rw [hlv] at this; cases this
            clear hlv
            go_wp2_with fail
            go_meet
            exact ⟨_, HK7.out false, HST.out false ⟨fun h => (by cases h), fun h => absurd h.2 HNL.out⟩, HB7.out false⟩
          | true =>
            rw [hlv] at l0
            have HNL : Hid (LV s (p : Int)) := HLP.out.1 hlv
            clear hlv
            go_wp2_with fail
            go_meet
            exact ⟨_, HK7.out true, HST.out true ⟨fun _ => ⟨HNR.out, HNL.out⟩, fun _ => rfl⟩, HB7.out true⟩
      case rest =>
        obtain ⟨w8, rfl⟩ : ∃ W, W = wc := ⟨wc, rfl⟩
        obtain ⟨f0, HK8, HF8, hb8⟩ := hcut
        have HB8 := Lib.hid hb8
        have HC8 := Lib.hid (HC0.out.below (hb8.mono (Nat.le_of_eq hG7)))
        clear hb8 hs0 hsf hsl r0 rl l0 ll HST
        go_wp2_with fail
        go_loopw [5, 8] (fun bv nv wr => ∃ (q : Nat) (f : Int → Bool) (ch : List Chn) (C : Option Addr) (L : List Int) (cc : Nat), q ≤ N ∧ bv = .slice C L.length cc ∧ nv = .int .i64 (q : Int) ∧ Hid (WkIn wr g7 f ch q) ∧ Hid (∀ x, f x = true ↔ (RM s (p : Int) ∧ LV s (p : Int)) ∧ Ch s (askP true) (p : Int) q x) ∧ Hid (SlT wr C L) ∧ Hid (BestF s L.length p q) ∧ L.length ≤ 9 ∧ Below g7 wP wr) (fun _ nv _ => N - (intOf nv).toNat)
        case atStart => exact ⟨0, f0, _, C0, L0, cc0, Nat.zero_le _, rfl, rfl, HK8.out, HF8.out, HC8.out, .start HBE.out, hL0, HB8.out⟩
        case round =>
          obtain ⟨wQ, rfl⟩ : ∃ W, W = wr := ⟨wr, rfl⟩
          obtain ⟨q, f, ch, C, L, cc, hq, rfl, rfl, HV, HF, HC, HBF, hL9, hbq⟩ := hrel
          have HBQ := Lib.hid hbq
          clear hbq
          obtain ⟨b0, b1, b2, bl⟩ := HCE.out _ (HBQ7.out _ HBQ.out)
          by_cases hlq : q < N
          · have hqn : (q : Int) < s.n := by rw [HNN.out]; omega
            have HNX : Hid (Calls Tryz.prog 117 #[.agg #[.int .i64 s.n, .int .u8 s.acc, .slice A s.rs.length c], .agg (wkC f ch).toArray, .bool true] wQ (IsWk s true f q wQ)) := rnext_any s A c f ch true q wQ (HS.out.below (bthen HB1.out (HBQ7.out _ HBQ.out))) HOK.out HV.out.len (by omega) HV.out.ok
            obtain ⟨f', hf'⟩ : ∃ z, stepB s (askP true) f s.rs.length = z := ⟨_, rfl⟩
            have HF' : Hid (∀ x, f' x = true ↔ (RM s (p : Int) ∧ LV s (p : Int)) ∧ Ch s (askP true) (p : Int) (q + 1) x) := by
              show ∀ x, _
              intro x
              rw [← hf']
              exact stepB_chP HF.out x
            have HSF := Lib.hid hf'
            have HSZ : Hid ((Tryz.prog.info? 203).map (·.size) = some (wkC f ch).toArray.size) := by
              show _ = _
              rw [walk_info, List.size_toArray, wkC_len HV.out.len]
            clear hf'
            go_upto_region 13 with (first
              | (refine wpList_load_row rfl 203 _ rfl g7 rfl 203 (wkC f ch).toArray (0, 0) _ HV.out.blk Tryz.underlying203 rfl HSZ.out ?_)
              | (go_at_call 117; go_loud (refine HNX.out.mono ?_; rintro e X1 ⟨⟨ch', rfl, hl', hok'⟩, hb1X⟩; rw [HSF.out] at hok' ⊢; have HSZ' : Hid ((Tryz.prog.info? 203).map (·.size) = some (wkC f' ch').toArray.size) := (by show _ = _; rw [walk_info, List.size_toArray, wkC_len hl']); have HVX := Lib.hid (HV.out.below hb1X); have HOLD : Hid ((wkC f ch).toArray.size = (wkC f' ch').toArray.size) := (by show _ = _; rw [List.size_toArray, List.size_toArray, wkC_len hl', wkC_len HV.out.len]); have HL' := Lib.hid hl'; have HOK' := Lib.hid hok'; have HB1X := Lib.hid hb1X; clear hl' hok' hb1X))
              | (refine wpList_store_row rfl 203 _ _ rfl g7 (wkC f' ch').toArray rfl rfl 203 _ HVX.out.blk HSZ'.out HOLD.out wkC_one ?_))
            obtain ⟨X2, hX2⟩ : ∃ W, X1.setRow g7 (wkC f' ch').toArray = W := ⟨_, rfl⟩
            have HV2 : Hid (WkIn X2 g7 f' ch' (q + 1)) := by show WkIn _ _ _ _ _; rw [← hX2]; exact HVX.out.row HL'.out HOK'.out
            have HB2 : Hid (Below g7 wP X2) := by show Below _ _ _; rw [← hX2]; exact below_setRow (HBQ.out.trans (HB1X.out.mono (Nat.le_of_lt HV.out.lt))) (Nat.le_refl _) _
            have HC2 : Hid (SlT X2 C L) := by show SlT _ _ _; rw [← hX2]; exact (HC.out.below HB1X.out).row_ HVX.out.blk (by decide) _
            rw [hX2]
            clear hX2 HOK' HB1X HVX HOLD HSZ HSZ' HNX b0 b1 b2 bl
            obtain ⟨x, hx⟩ := HV2.out.get hp88
            have r0 := HV2.out.is hp88
            have r8 := HV2.out.l hx
            have rl := HV2.out.lt
            obtain ⟨⟨hxs, hxc, hxm⟩, hxn, hxe⟩ := HV2.out.ok p x hx
            have HXE := Lib.hid hxe
            have HXS := Lib.hid hxs
            have HBF2 : Hid (Calls Tryz.prog 118 #[.slice x.A x.L.length x.c, .slice C L.length cc] X2 fun e w' => IsBool e ∧ Below X2.heap.size X2 w') := rbefore04_any x.A C x.L L x.c cc X2 hxs.slr HC2.out.slr (by omega)
            clear hx hxs hxe
            go_upto_region 14 with fail
            go_cut [75] (fun s75 W => IsPutB (f' (p : Int) = true) (¬ f' (p : Int) = true ∨ 0 < L.length) s75 ∧ Below X2.heap.size X2 W)
            case first =>
              cases hfp : f' (p : Int) with
              | false =>
                rw [hfp] at r0
                have HFP := Lib.hid hfp
                clear hfp
                go_wp2_with fail
                go_meet
                exact ⟨.no (.inl fun h => by rw [HFP.out] at h; cases h), Below.refl _ _⟩
              | true =>
                rw [hfp] at r0
                have HFP := Lib.hid hfp
                clear hfp
                by_cases hz0 : L.length = 0
                · have hzi : (L.length : Int) = 0 := by omega
                  go_wp2_with fail
                  go_meet
                  exact ⟨.yes HFP.out, Below.refl _ _⟩
                · have hzi : ¬ (L.length : Int) = 0 := by omega
                  by_cases hz1 : x.L.length < L.length
                  · have hz1i : (x.L.length : Int) < (L.length : Int) := by omega
                    go_wp2_with fail
                    go_meet
                    exact ⟨.yes HFP.out, Below.refl _ _⟩
                  · have hz1i : ¬ (x.L.length : Int) < (L.length : Int) := by omega
                    by_cases hz2 : x.L.length = L.length
                    · have hz2i : (x.L.length : Int) = (L.length : Int) := by omega
                      have HZ2 := Lib.hid hz2
                      clear hz2
                      go_wp2_with (go_at_call 118; go_loud (refine HBF2.out.mono ?_; rintro e W7 ⟨⟨bv, rfl⟩, hb7⟩))
                      go_meet
                      exact ⟨.any HFP.out (.inr (by omega)), hb7⟩
                    · have hz2i : ¬ (x.L.length : Int) = (L.length : Int) := by omega
                      go_wp2_with fail
                      go_meet
                      exact ⟨.any HFP.out (.inr (by omega)), Below.refl _ _⟩
            case rest =>
              obtain ⟨X7, rfl⟩ : ∃ W, W = wc := ⟨wc, rfl⟩
              obtain ⟨⟨bb, rfl, hyes, hno⟩, hb7⟩ := hcut
              have HY := Lib.hid hyes
              have HN := Lib.hid hno
              have HV7 := Lib.hid (HV2.out.below hb7)
              have HB7' := Lib.hid (HB2.out.trans (hb7.mono (Nat.le_of_lt HV2.out.lt)))
              have HX7 := Lib.hid (HXS.out.below hb7)
              have HC7 := Lib.hid (HC2.out.below hb7)
              clear hb7 hyes hno r0 r8 rl
              cases hbv : bb with
              | true =>
                have HP := Lib.hid (HY.out hbv)
                have HXL : Hid (x.L.length = q + 1) := HXE.out HP.out
                have HPP : Hid ((RM s (p : Int) ∧ LV s (p : Int)) ∧ Ch s Ru.mute (p : Int) (q + 1) (p : Int)) := by
                  show _ ∧ _
                  rw [← ask_mute]
                  exact (HF'.out _).1 HP.out
                go_wp2_with fail
                go_roundw
                case rel => exact ⟨q + 1, f', ch', x.A, x.L, x.c, by omega, rfl, by go_num, HV7.out, HF'.out, HX7.out, .put (by have := HXL.out; omega) HPP.out, by have := HXL.out; omega, HB7'.out⟩
                case measure => simp [intOf]; omega
              | false =>
                have HP : Hid (¬ ((RM s (p : Int) ∧ LV s (p : Int)) ∧ Ch s Ru.mute (p : Int) (q + 1) (p : Int)) ∨ 0 < L.length) := (HN.out hbv).imp (fun h h2 => h ((HF'.out _).2 (by rw [ask_mute]; exact h2))) id
                go_wp2_with fail
                go_roundw
                case rel => exact ⟨q + 1, f', ch', C, L, cc, by omega, rfl, by go_num, HV7.out, HF'.out, HC7.out, HBF.out.keep HP.out, hL9, HB7'.out⟩
                case measure => simp [intOf]; omega
          · obtain rfl : q = N := by omega
            have hqn : ¬ (q : Int) < s.n := by rw [HNN.out]; omega
            go_wp2_with fail
            go_roundw
            case rel => exact ⟨p + 1, C, L, cc, by omega, rfl, by go_num, HC.out, HBF.out.done hlp HTO.out, hL9, HBP7.out _ HBQ.out⟩
            case measure => simp [intOf]; omega
    · obtain rfl : p = N := by omega
      have hpn : ¬ (p : Int) < s.n := by rw [HNN.out]; omega
      have HEX : Hid (0 < L0.length ↔ ∃ x, RoundP s x) := by
        rcases HBE.out with ⟨h0, ha⟩ | ⟨h0, h1⟩
        · refine ⟨fun h => absurd h (by omega), fun ⟨x, hx⟩ => ?_⟩
          obtain ⟨n', hn'⟩ := rm_ch.1 hx.1.1
          have hm := ch_range (s := s) (N := p) ⟨by omega, by omega⟩ HTO.out hn'
          obtain ⟨k, rfl⟩ : ∃ k : Nat, x = (k : Int) := ⟨x.toNat, by omega⟩
          exact absurd hx (ha k (by omega))
        · exact ⟨fun _ => h1, fun _ => h0⟩
      go_wp2_with fail
      go_ret
      exact ⟨⟨C0, L0.length, cc0, rfl, HEX.out⟩, bthen HB1.out (HB14.out.trans (HBP.out.mono HB14.out.size))⟩
end Go.Proofs.YtfpnhgahkjglgaaGreat

/-
  The walks of layers 05 and 08: the reference's report, and whether a scheme is sound.
-/
namespace Go.Proofs.YtfpnhgahkjglgaaGreat
open Go Go.RowKit

theorem own_form {w : World} {base n s : Nat} {e : TypeId} {v : Value} {xs : List Value} (h : w.ownsRow base e s v n xs) : ∃ A c, v = .slice A n c := by
  rcases h.2 with ⟨rfl, rfl⟩ | ⟨g, cap, cur, rfl, _⟩
  · exact ⟨none, 0, rfl⟩
  · exact ⟨_, _, rfl⟩
def IsBoolV (v : Value) : Prop := ∃ b : Bool, v = .bool b
def IsFind (s : Sc) (w : World) (e : Ending) (w' : World) : Prop :=
  (∃ D ld cd C lc cc E le ce, e = .returned (.agg #[.slice D ld cd, .slice C lc cc, .slice E le ce]) ∧ (0 < lc ↔ (LV s 0 ∧ ∃ m, RM s m ∧ ¬ LV s m)) ∧ (0 < le ↔ ∃ x, RoundP s x)) ∧ Below w.heap.size w w'
set_option maxRecDepth 100000 in
set_option maxHeartbeats 16000000 in
theorem rfind_any (s : Sc) (A : Option Addr) (c : Nat) (w : World) (hs : ScIn w s A c) (hok : ScOK s) : Calls Tryz.prog 75 #[.agg #[.int .i64 s.n, .int .u8 s.acc, .slice A s.rs.length c]] w (IsFind s w) := by
  obtain ⟨i0, hinf, hz0, hz1, hz2⟩ := info_parts cloneI_info
  obtain ⟨w1, hw1⟩ : ∃ w1, w.alloc (.cells #[.int .i64 s.n, .int .u8 s.acc, .slice A s.rs.length c] 30) = w1 := ⟨_, rfl⟩
  have hb1 : Below w.heap.size w w1 := by rw [← hw1]; exact nw _ (Below.refl _ _)
  have hB : Blk w1 w.heap.size 30 #[.int .i64 s.n, .int .u8 s.acc, .slice A s.rs.length c] := by rw [← hw1]; exact Blk.new _ _ _
  have HW1 := Lib.hid hw1
  have HB1 := Lib.hid hb1
  have HCE : Hid (∀ W, Below w1.heap.size w1 W → W.cell? ⟨w.heap.size, 0, none⟩ = some (.int .i64 s.n) ∧ W.cell? ⟨w.heap.size, 1, none⟩ = some (.int .u8 s.acc) ∧ W.cell? ⟨w.heap.size, 2, none⟩ = some (.slice A s.rs.length c) ∧ w.heap.size < W.heap.size) := fun W hW => by
    have e1 := hB.below hW hB.lt
    exact ⟨by rw [e1.cell]; rfl, by rw [e1.cell]; rfl, by rw [e1.cell]; rfl, e1.lt⟩
  obtain ⟨b0, b1, b2, bl⟩ := HCE.out _ (Below.refl _ _)
  clear hw1 hb1 hB
  have HVA : Hid (∀ W, Below w1.heap.size w1 W → Calls Tryz.prog 35 #[.agg #[.int .i64 s.n, .int .u8 s.acc, .slice A s.rs.length c]] W fun e w' => e = .returned (.bool true) ∧ Below W.heap.size W w') := fun W hW => by
    have h := rvalid_any s A c W (hs.below (HB1.out.trans (hW.mono HB1.out.size)))
    rw [decide_eq_true hok] at h
    exact h
  have HDE : Hid (∀ (k : Nat) (W : World), k < s.rs.length → Below w1.heap.size w1 W → Calls Tryz.prog 102 #[.agg #[.int .i64 s.n, .int .u8 s.acc, .slice A s.rs.length c], .int .i64 (k : Int)] W fun e w' => IsBool e ∧ Below W.heap.size W w') := fun k W hk hW => rdead_any s A c k W (hs.below (HB1.out.trans (hW.mono HB1.out.size))) hok hk
  have HST : Hid (∀ W, Below w1.heap.size w1 W → Calls Tryz.prog 103 #[.agg #[.int .i64 s.n, .int .u8 s.acc, .slice A s.rs.length c]] W (IsCh (LV s 0 ∧ ∃ m, RM s m ∧ ¬ LV s m) W)) := fun W hW => rstuck_any s A c W (hs.below (HB1.out.trans (hW.mono HB1.out.size))) hok
  have HEN : Hid (∀ W, Below w1.heap.size w1 W → Calls Tryz.prog 104 #[.agg #[.int .i64 s.n, .int .u8 s.acc, .slice A s.rs.length c]] W (IsCh (∃ x, RoundP s x) W)) := fun W hW => rendless_any s A c W (hs.below (HB1.out.trans (hW.mono HB1.out.size))) hok
  have hl := hs.len
  have hl64 := hok.2.1
  clear hs hok
  go_enter Tryz.func75, Tryz.ntmps75
  go_upto_region 1 with fail
  rw [HW1.out]
  obtain ⟨g2, hg2e⟩ : ∃ x, w.heap.size + 1 = x := ⟨_, rfl⟩
  have hg2 : w1.heap.size = g2 := by rw [← hg2e, ← HW1.out]; simp
  obtain ⟨w2, hw2⟩ : ∃ W, w1.alloc (.cells #[.slice none 0 0, .slice none 0 0, .slice none 0 0] 156) = W := ⟨_, rfl⟩
  have hB2 : Blk w2 g2 156 #[.slice none 0 0, .slice none 0 0, .slice none 0 0] := by rw [← hw2]; exact Blk.new_ hg2.symm
  have hb2 : Below w1.heap.size w1 w2 := by rw [← hw2]; exact nw _ (Below.refl _ _)
  have hs2 : w2.heap.size = w1.heap.size + 1 := by rw [← hw2]; simp
  rw [hw2]
  try rw [hg2]
  try rw [hg2e]
  clear hw2
  go_upto_region 2 with fail
  obtain ⟨g3, hg3⟩ : ∃ x, g2 + 1 = x := ⟨_, rfl⟩
  obtain ⟨w3, hw3⟩ : ∃ W, w2.alloc (.cells #[.slice none 0 0, .slice none 0 0, .slice none 0 0] 156) = W := ⟨_, rfl⟩
  have hB3 : Blk w3 g3 156 #[.slice none 0 0, .slice none 0 0, .slice none 0 0] := by rw [← hw3]; exact Blk.new_ (by omega)
  have hb3 : Below w2.heap.size w2 w3 := by rw [← hw3]; exact nw _ (Below.refl _ _)
  have hs3 : w3.heap.size = g3 + 1 := by rw [← hw3]; simp; omega
  rw [hw3]
  have e23 : w2.heap.size = g3 := by omega
  try rw [e23]
  try rw [hg3]
  have HB2 : Hid (∀ W, Below g3 w3 W → Blk W g2 156 #[.slice none 0 0, .slice none 0 0, .slice none 0 0]) := fun W h => (hB2.below hb3 hB2.lt).below h (by omega)
  have HB13 : Hid (∀ W, Below g3 w3 W → Below w1.heap.size w1 W) := fun W h => (hb2.trans (hb3.mono hb2.size)).trans (h.mono (by omega))
  have HG : Hid (g2 < g3 ∧ w1.heap.size ≤ g2 ∧ w.heap.size ≤ g2) := ⟨by omega, by omega, by have := HB1.out.size; omega⟩
  have HB3 := Lib.hid hB3
  have hle3 : g3 + 1 ≤ w3.heap.size := by omega
  clear hw3 hb2 hb3 hs2 hs3 hg2 hg2e hg3 hB2 hB3 b0 b1 b2 bl e23
  obtain ⟨b0, b1, b2, bl⟩ := HCE.out _ (HB13.out _ (Below.refl _ _))
  go_upto_region 6 with (go_at_call 35; go_loud (refine (HVA.out _ (HB13.out _ (Below.refl _ _))).mono ?_; rintro e w4 ⟨rfl, hb4⟩))
  have HB4 : Hid (Below g3 w3 w4) := hb4.mono (by omega)
  have hle4 : g3 + 1 ≤ w4.heap.size := by have := hb4.size; omega
  have HB34 := Lib.hid (HB3.out.below hb4 HB3.out.lt)
  clear hb4 b0 b1 b2 bl
  go_loopw [5] (fun iv wr => ∃ (k : Nat) (D : Option Addr) (ld cd : Nat) (ys : List Value), k ≤ s.rs.length ∧ ld ≤ k ∧ iv = .int .i64 (k : Int) ∧ wr.ownsRow (g3 + 1) 3 1 (.slice D ld cd) ld ys ∧ Blk wr g3 156 #[.slice D ld cd, .slice none 0 0, .slice none 0 0] ∧ Below g3 w3 wr ∧ g3 + 1 ≤ wr.heap.size) (fun iv _ => s.rs.length - (intOf iv).toNat)
  case atStart => exact ⟨0, none, 0, 0, [], Nat.zero_le _, Nat.le_refl _, rfl, own_nil _ _ _ _, HB34.out, HB4.out, hle4⟩
  case round =>
    obtain ⟨wR, rfl⟩ : ∃ W, W = wr := ⟨wr, rfl⟩
    obtain ⟨k, D, ld, cd, ys, hk, hld, rfl, hown, hB, hbr, hsz⟩ := hrel
    have HBR := Lib.hid hbr
    have HOW := Lib.hid hown
    have HBB := Lib.hid hB
    obtain ⟨b0, b1, b2, bl⟩ := HCE.out _ (HB13.out _ hbr)
    have h0 := hB.cell 0
    have h1 := hB.cell 1
    have h2 := hB.cell 2
    have hl3 := hB.lt
    simp at h0 h1 h2
    clear hbr hown hB
    by_cases hlt : k < s.rs.length
    · have hki : (k : Int) < (s.rs.length : Int) := by omega
      have HD := Lib.hid (HDE.out k wR hlt (HB13.out _ HBR.out))
      go_upto_region 8 with fail
      go_cut [21] (fun s21 W => IsBoolV s21 ∧ Below wR.heap.size wR W)
      case first =>
        go_wp2_with (go_at_call 102; go_loud (refine HD.out.mono ?_; rintro e W7 ⟨⟨bv, rfl⟩, hb7⟩))
        go_meet
        exact ⟨⟨bv, rfl⟩, hb7⟩
      case rest =>
        obtain ⟨X7, rfl⟩ : ∃ W, W = wc := ⟨wc, rfl⟩
        obtain ⟨⟨bb, rfl⟩, hb7⟩ := hcut
        have HOW7 := Lib.hid (own_below HOW.out hb7)
        have HB7 := Lib.hid (HBB.out.below hb7 HBB.out.lt)
        have HBR7 : Hid (Below g3 w3 X7) := HBR.out.trans (hb7.mono (by omega))
        have hsz7 : g3 + 1 ≤ X7.heap.size := by have := hb7.size; omega
        have h0 := HB7.out.cell 0
        have h1 := HB7.out.cell 1
        have h2 := HB7.out.cell 2
        have hl3 := HB7.out.lt
        simp at h0 h1 h2
        clear hb7
        cases hbv : bb with
        | false =>
          go_wp2_with fail
          go_roundw
          case rel => exact ⟨k + 1, D, ld, cd, ys, by omega, by omega, by go_num, HOW7.out, HB7.out, HBR7.out, hsz7⟩
          case measure => simp [intOf]; omega
        | true =>
          have hvne : (Value.slice D ld cd).ownBlock ≠ some g3 := fun e => absurd (own_block_le HOW7.out _ e) (Nat.not_succ_le_self _)
          go_wp2_with (at_builtin; go_loud (refine wpList_appS5 (enc := fun x => [Value.int .i64 x]) (R := RInt) rfl _ _ 99 rfl (g3 + 1) 3 i0 _ 1 8 Tryz.underlying99 hinf hz0 hz1 hz2 rfl (by decide) (.slice D ld cd) _ _ rfl (HOW7.out.alloc _) (some ⟨X7.heap.size, 0, none⟩) 1 [(k : Int)] rfl (slr_blkR (enc := fun x => [Value.int .i64 x]) (Blk.new_ rfl) (fun _ => rfl) (fun _ => rfl)) (fun _ _ _ h => h) (fun _ => rfl) ints_one (by simp; omega) (by decide) (by simp; omega) ?_; intro v6 X6 hown6 hb6 ha6; obtain ⟨D6, cd6, rfl⟩ := own_form hown6; have hB6 := (HB7.out.alloc (.cells #[.int .i64 (k : Int)] 3)).apps ha6 hvne; have HB6 := Lib.hid hB6; have HOW6 := Lib.hid hown6; have HBX6 : Hid (Below g3 w3 X6) := (HBR7.out.alloc (by omega) (.cells #[.int .i64 (k : Int)] 3)).trans (hb6.mono (by omega)); have hsz6 : g3 + 1 ≤ X6.heap.size := (by have := hb6.size; simp at this; omega); have h0 := hB6.cell 0; have hf0 := hB6.frozen 0; have hl3 := hB6.lt; simp at h0; clear hB6 hown6 hb6 ha6))
          go_roundw
          case rel => exact ⟨k + 1, D6, ld + 1, cd6, _, by omega, by omega, by go_num, own_set HOW6.out (a := ⟨g3, 0, none⟩) (fun e => absurd (own_block_le HOW6.out _ e) (Nat.not_succ_le_self _)) _, by simpa using HB6.out.set_ 0 (.slice D6 (ld + 1) cd6), HBX6.out.setCell (p := ⟨g3, 0, none⟩) (Nat.le_refl _) _, by simpa using hsz6⟩
          case measure => simp [intOf]; omega
    · have hki : ¬ (k : Int) < (s.rs.length : Int) := by omega
      have hf1 := HBB.out.frozen 1
      go_upto_region 11 with (go_at_call 103; go_loud (refine (HST.out _ (HB13.out _ HBR.out)).mono ?_; rintro e W7 ⟨⟨C, lc, cc, rfl, hlc⟩, hb7⟩; have HB7 := Lib.hid (HBB.out.below hb7 HBB.out.lt); have HBR7 : Hid (Below g3 w3 W7) := HBR.out.trans (hb7.mono (by omega)); have h1 := HB7.out.cell 1; have hf1 := HB7.out.frozen 1; have hl3 := HB7.out.lt; simp at h1; have HLC := Lib.hid hlc; clear hb7 hlc))
      have hB8 := HB7.out.set_ 1 (.slice C lc cc)
      have hB8r := HBR7.out.setCell (p := ⟨g3, 1, none⟩) (Nat.le_refl _) (.slice C lc cc)
      obtain ⟨W8, hW8⟩ : ∃ W, W7.setCell ⟨g3, 1, none⟩ (.slice C lc cc) = W := ⟨_, rfl⟩
      rw [hW8] at hB8 hB8r ⊢
      have HB8 := Lib.hid hB8
      have HBR8 := Lib.hid hB8r
      have hsz8 : g3 + 1 ≤ W8.heap.size := hB8.lt
      clear hW8 hB8 hB8r b0 b1 b2 bl h0 h1 h2 hl3 hf1
      obtain ⟨b0, b1, b2, bl⟩ := HCE.out _ (HB13.out _ HBR8.out)
      go_upto_region 12 with (go_at_call 104; go_loud (refine (HEN.out _ (HB13.out _ HBR8.out)).mono ?_; rintro e W9 ⟨⟨E, le, ce, rfl, hle⟩, hb9⟩; have HB9 := Lib.hid (HB8.out.below hb9 HB8.out.lt); have HBR9 : Hid (Below g3 w3 W9) := HBR8.out.trans (hb9.mono (by omega)); have h2 := HB9.out.cell 2; have hf2 := HB9.out.frozen 2; have hl3 := HB9.out.lt; simp at h2; have HLE := Lib.hid hle; clear hb9 hle))
      have hBA := HB9.out.set_ 2 (.slice E le ce)
      have hBAr := HBR9.out.setCell (p := ⟨g3, 2, none⟩) (Nat.le_refl _) (.slice E le ce)
      obtain ⟨WA, hWA⟩ : ∃ W, W9.setCell ⟨g3, 2, none⟩ (.slice E le ce) = W := ⟨_, rfl⟩
      rw [hWA] at hBA hBAr ⊢
      have HBA : Hid (Blk WA g3 156 #[.slice D ld cd, .slice C lc cc, .slice E le ce]) := by show Blk _ _ _ _; simpa using hBA
      have HBAR := Lib.hid hBAr
      clear hWA hBA hBAr b0 b1 b2 bl h2 hl3 hf2
      have HR := Lib.hid (HB2.out _ HBAR.out)
      have h0 := HBA.out.cell 0
      have h1 := HBA.out.cell 1
      have h2 := HBA.out.cell 2
      have hl3 := HBA.out.lt
      have z0 := HR.out.cell 0
      have z1 := HR.out.cell 1
      have z2 := HR.out.cell 2
      have zf0 := HR.out.frozen 0
      have zf1 := HR.out.frozen 1
      have zf2 := HR.out.frozen 2
      have zl := HR.out.lt
      simp at h0 h1 h2 z0 z1 z2
      go_wp2_with fail
      (try simp only [Exit.inBlock, Exit.then])
      refine ret_cell (t := 156) (cs := #[.slice D ld cd, .slice C lc cc, .slice E le ce]) (((HR.out.set_ 0 (.slice D ld cd)).set_ 1 (.slice C lc cc)).set_ 2 (.slice E le ce)) rfl rfl Tryz.underlying156 rfl (by kernel_rfl) rfl ?_
      have hwg : w.heap.size ≤ g2 := HG.out.2.2
      exact ⟨⟨D, ld, cd, C, lc, cc, E, le, ce, rfl, HLC.out, HLE.out⟩, (((bthen HB1.out (HB13.out _ HBAR.out)).setCell (p := ⟨g2, 0, none⟩) hwg _).setCell (p := ⟨g2, 1, none⟩) hwg _).setCell (p := ⟨g2, 2, none⟩) hwg _⟩
theorem soundE_20 {s : Sc} (h : ¬ ScOK s) : soundE s = 20 := if_pos h
theorem soundE_50 {s : Sc} (h : ScOK s) (h2 : ¬ LV s 0) : soundE s = 50 := (if_neg (fun x => x h)).trans (if_pos h2)
theorem soundE_40 {s : Sc} (h : ScOK s) (h2 : LV s 0) (h3 : ∃ m, RM s m ∧ ¬ LV s m) : soundE s = 40 := (if_neg (fun x => x h)).trans ((if_neg (fun x => x h2)).trans (if_pos h3))
theorem soundE_41 {s : Sc} (h : ScOK s) (h2 : LV s 0) (h3 : ¬ ∃ m, RM s m ∧ ¬ LV s m) (h4 : HasEnd s s.n) : soundE s = 41 := (if_neg (fun x => x h)).trans ((if_neg (fun x => x h2)).trans ((if_neg h3).trans (if_pos h4)))
theorem soundE_0 {s : Sc} (h : ScOK s) (h2 : LV s 0) (h3 : ¬ ∃ m, RM s m ∧ ¬ LV s m) (h4 : ¬ HasEnd s s.n) : soundE s = 0 := (if_neg (fun x => x h)).trans ((if_neg (fun x => x h2)).trans ((if_neg h3).trans (if_neg h4)))
theorem hasEnd_round {s : Sc} (h : ScOK s) : HasEnd s s.n ↔ ∃ x, RoundP s x :=
  ⟨fun ⟨m, _, h1, h2, h3⟩ => ⟨m, ⟨h1, h2⟩, h3⟩, fun ⟨m, ⟨h1, h2⟩, h3⟩ => ⟨m, rm_range h h1, h1, h2, h3⟩⟩
set_option maxRecDepth 100000 in
set_option maxHeartbeats 16000000 in
theorem rsound04_any (s : Sc) (A : Option Addr) (c : Nat) (w : World) (hs : ScIn w s A c) : Calls Tryz.prog 36 #[.agg #[.int .i64 s.n, .int .u8 s.acc, .slice A s.rs.length c]] w fun e w' => e = .returned (.int .i64 (soundE s)) ∧ Below w.heap.size w w' := by
  obtain ⟨w1, hw1⟩ : ∃ w1, w.alloc (.cells #[.int .i64 s.n, .int .u8 s.acc, .slice A s.rs.length c] 30) = w1 := ⟨_, rfl⟩
  have hb1 : Below w.heap.size w w1 := by rw [← hw1]; exact nw _ (Below.refl _ _)
  have hB : Blk w1 w.heap.size 30 #[.int .i64 s.n, .int .u8 s.acc, .slice A s.rs.length c] := by rw [← hw1]; exact Blk.new _ _ _
  have HW1 := Lib.hid hw1
  have HB1 := Lib.hid hb1
  have HCE : Hid (∀ W, Below w1.heap.size w1 W → W.cell? ⟨w.heap.size, 0, none⟩ = some (.int .i64 s.n) ∧ W.cell? ⟨w.heap.size, 1, none⟩ = some (.int .u8 s.acc) ∧ W.cell? ⟨w.heap.size, 2, none⟩ = some (.slice A s.rs.length c) ∧ w.heap.size < W.heap.size) := fun W hW => by
    have e1 := hB.below hW hB.lt
    exact ⟨by rw [e1.cell]; rfl, by rw [e1.cell]; rfl, by rw [e1.cell]; rfl, e1.lt⟩
  obtain ⟨b0, b1, b2, bl⟩ := HCE.out _ (Below.refl _ _)
  clear hw1 hb1 hB
  by_cases hok : ScOK s
  · have HVA : Hid (Calls Tryz.prog 35 #[.agg #[.int .i64 s.n, .int .u8 s.acc, .slice A s.rs.length c]] w1 fun e w' => e = .returned (.bool true) ∧ Below w1.heap.size w1 w') := by
      have h := rvalid_any s A c w1 (hs.below HB1.out)
      rw [decide_eq_true hok] at h
      exact h
    have HFI : Hid (∀ W, Below w1.heap.size w1 W → Calls Tryz.prog 75 #[.agg #[.int .i64 s.n, .int .u8 s.acc, .slice A s.rs.length c]] W (IsFind s W)) := fun W hW => rfind_any s A c W (hs.below (HB1.out.trans (hW.mono HB1.out.size))) hok
    have hn := hok.1
    obtain ⟨N, hN⟩ : ∃ N : Nat, s.n = (N : Int) := ⟨s.n.toNat, by omega⟩
    have hNN : s.n.toNat = N := by omega
    have hN8 : 1 ≤ N ∧ N ≤ 8 := by omega
    have HLI : Hid (∀ W, Below w1.heap.size w1 W → Calls Tryz.prog 76 #[.agg #[.int .i64 s.n, .int .u8 s.acc, .slice A s.rs.length c]] W (IsLvR s N W)) := fun W hW => by
      have h := rlive_any s A c W (hs.below (HB1.out.trans (hW.mono HB1.out.size))) hok
      rw [hNN] at h
      exact h
    have hN0 : (0 : Int) < (N : Int) := by omega
    have HOK := Lib.hid hok
    clear hs hok hn hNN hN
    go_enter Tryz.func36, Tryz.ntmps36
    go_upto_region 1 with fail
    rw [HW1.out]
    go_upto_region 4 with (go_at_call 35; go_loud (refine HVA.out.mono ?_; rintro e w2 ⟨rfl, hb2⟩; obtain ⟨b0, b1, b2, bl⟩ := HCE.out _ hb2))
    go_upto_region 5 with (go_at_call 75; go_loud (refine (HFI.out _ hb2).mono ?_; rintro e w3 ⟨⟨D, ld, cd, C, lc, cc, E, le, ce, rfl, hlc, hle⟩, hb3⟩))
    obtain ⟨g4, hg4⟩ : ∃ x, w3.heap.size = x := ⟨_, rfl⟩
    obtain ⟨w4, hw4⟩ : ∃ W, w3.alloc (.cells #[.slice D ld cd, .slice C lc cc, .slice E le ce] 156) = W := ⟨_, rfl⟩
    have hB4 : Blk w4 g4 156 #[.slice D ld cd, .slice C lc cc, .slice E le ce] := by rw [← hw4]; exact Blk.new_ hg4.symm
    have hb14 : Below w1.heap.size w1 w4 := by rw [← hw4]; exact (hb2.trans (hb3.mono hb2.size)).alloc (by have := hb2.size; have := hb3.size; omega) _
    rw [hg4, hw4]
    have HB4 := Lib.hid hB4
    have HB14 := Lib.hid hb14
    have HLC := Lib.hid hlc
    have HLE := Lib.hid hle
    clear hw4 hg4 hB4 hb14 hlc hle hb2 hb3 b0 b1 b2 bl
    obtain ⟨b0, b1, b2, bl⟩ := HCE.out _ HB14.out
    have HLV5 := Lib.hid (HLI.out _ HB14.out)
    go_cut [15] (fun s15 W => IsPutB (¬ LV s 0) (LV s 0) s15 ∧ Below w4.heap.size w4 W)
    case first =>
      go_wp2_with (go_at_call 76; go_loud (refine HLV5.out.mono ?_; rintro e w5 ⟨⟨gl, fl, rfl, hgl, hbl, hfl⟩, hb5⟩; have l0 : w5.cell? ⟨gl, 0, none⟩ = some (.bool (fl 0)) := hbl.cell (k := 0) (by omega); have ll := hbl.lt; have HFL0 := Lib.hid (hfl 0 (by omega)); have HB5 := Lib.hid hb5; clear hbl hfl hb5))
      go_meet
      refine ⟨⟨!fl 0, rfl, fun h => ?_, fun h => ?_⟩, HB5.out⟩
      · intro hl
        have h1 : fl 0 = true := HFL0.out.2 hl
        rw [h1] at h
        cases h
      · have h1 : fl 0 = true := by simpa using h
        exact HFL0.out.1 h1
    case rest =>
      obtain ⟨w5, rfl⟩ : ∃ W, W = wc := ⟨wc, rfl⟩
      obtain ⟨⟨bb, rfl, hyes, hno⟩, hb5⟩ := hcut
      have HB45 := Lib.hid (HB4.out.below hb5 HB4.out.lt)
      have HBW : Hid (Below w.heap.size w w5) := bthen HB1.out (HB14.out.trans (hb5.mono HB14.out.size))
      have HY := Lib.hid hyes
      have HN := Lib.hid hno
      have h1 := HB45.out.cell 1
      have h2 := HB45.out.cell 2
      have hl4 := HB45.out.lt
      simp at h1 h2
      clear hb5 hyes hno b0 b1 b2 bl
      cases hbv : bb with
      | true =>
        have HE : Hid (soundE s = 50) := soundE_50 HOK.out (HY.out hbv)
        go_wp2_with fail
        go_ret
        exact ⟨by rw [HE.out]; rfl, HBW.out⟩
      | false =>
        have HLV := Lib.hid (HN.out hbv)
        by_cases hc0 : 0 < lc
        · have hci : (0 : Int) < (lc : Int) := by omega
          have HE : Hid (soundE s = 40) := soundE_40 HOK.out HLV.out (HLC.out.1 hc0).2
          go_wp2_with fail
          go_ret
          exact ⟨by rw [HE.out]; rfl, HBW.out⟩
        · have hci : ¬ (0 : Int) < (lc : Int) := by omega
          have HNS : Hid (¬ ∃ m, RM s m ∧ ¬ LV s m) := fun h => hc0 (HLC.out.2 ⟨HLV.out, h⟩)
          by_cases he0 : 0 < le
          · have hei : (0 : Int) < (le : Int) := by omega
            have HE : Hid (soundE s = 41) := soundE_41 HOK.out HLV.out HNS.out ((hasEnd_round HOK.out).2 (HLE.out.1 he0))
            go_wp2_with fail
            go_ret
            exact ⟨by rw [HE.out]; rfl, HBW.out⟩
          · have hei : ¬ (0 : Int) < (le : Int) := by omega
            have HE : Hid (soundE s = 0) := soundE_0 HOK.out HLV.out HNS.out (fun h => he0 (HLE.out.2 ((hasEnd_round HOK.out).1 h)))
            go_wp2_with fail
            go_ret
            exact ⟨by rw [HE.out]; rfl, HBW.out⟩
  · have HVA : Hid (Calls Tryz.prog 35 #[.agg #[.int .i64 s.n, .int .u8 s.acc, .slice A s.rs.length c]] w1 fun e w' => e = .returned (.bool false) ∧ Below w1.heap.size w1 w') := by
      have h := rvalid_any s A c w1 (hs.below HB1.out)
      rw [decide_eq_false hok] at h
      exact h
    have HE : Hid (soundE s = 20) := soundE_20 hok
    clear hs hok
    go_enter Tryz.func36, Tryz.ntmps36
    go_upto_region 1 with fail
    rw [HW1.out]
    go_wp2_with (go_at_call 35; go_loud (refine HVA.out.mono ?_; rintro e w2 ⟨rfl, hb2⟩))
    go_ret
    exact ⟨by rw [HE.out]; rfl, HB1.out.trans (hb2.mono HB1.out.size)⟩
/-- What R5.Sound says. -/
def IsSnd (s : Sc) (e : Ending) : Prop := ∃ b : Bool, e = .returned (.bool b) ∧ (b = true ↔ soundE s = 0)
set_option maxRecDepth 100000 in
set_option maxHeartbeats 16000000 in
theorem rsound5_any (s : Sc) (A : Option Addr) (c : Nat) (w : World) (hs : ScIn w s A c) : Calls Tryz.prog 16 #[.agg #[.int .i64 s.n, .int .u8 s.acc, .slice A s.rs.length c]] w fun e w' => IsSnd s e ∧ Below w.heap.size w w' := by
  obtain ⟨w1, hw1⟩ : ∃ w1, w.alloc (.cells #[.int .i64 s.n, .int .u8 s.acc, .slice A s.rs.length c] 30) = w1 := ⟨_, rfl⟩
  have hb1 : Below w.heap.size w w1 := by rw [← hw1]; exact nw _ (Below.refl _ _)
  have hB : Blk w1 w.heap.size 30 #[.int .i64 s.n, .int .u8 s.acc, .slice A s.rs.length c] := by rw [← hw1]; exact Blk.new _ _ _
  have HW1 := Lib.hid hw1
  have HB1 := Lib.hid hb1
  have HCE : Hid (∀ W, Below w1.heap.size w1 W → W.cell? ⟨w.heap.size, 0, none⟩ = some (.int .i64 s.n) ∧ W.cell? ⟨w.heap.size, 1, none⟩ = some (.int .u8 s.acc) ∧ W.cell? ⟨w.heap.size, 2, none⟩ = some (.slice A s.rs.length c) ∧ w.heap.size < W.heap.size) := fun W hW => by
    have e1 := hB.below hW hB.lt
    exact ⟨by rw [e1.cell]; rfl, by rw [e1.cell]; rfl, by rw [e1.cell]; rfl, e1.lt⟩
  obtain ⟨b0, b1, b2, bl⟩ := HCE.out _ (Below.refl _ _)
  clear hw1 hb1 hB
  have HSO : Hid (∀ W, Below w1.heap.size w1 W → Calls Tryz.prog 36 #[.agg #[.int .i64 s.n, .int .u8 s.acc, .slice A s.rs.length c]] W fun e w' => e = .returned (.int .i64 (soundE s)) ∧ Below W.heap.size W w') := fun W hW => rsound04_any s A c W (hs.below (HB1.out.trans (hW.mono HB1.out.size)))
  by_cases hok : ScOK s
  · have HVA : Hid (Calls Tryz.prog 35 #[.agg #[.int .i64 s.n, .int .u8 s.acc, .slice A s.rs.length c]] w1 fun e w' => e = .returned (.bool true) ∧ Below w1.heap.size w1 w') := by
      have h := rvalid_any s A c w1 (hs.below HB1.out)
      rw [decide_eq_true hok] at h
      exact h
    obtain ⟨z, hz⟩ : ∃ z, soundE s = z := ⟨_, rfl⟩
    rw [hz] at HSO
    have HZ := Lib.hid hz
    clear hs hok hz
    go_enter Tryz.func16, Tryz.ntmps16
    go_upto_region 1 with fail
    rw [HW1.out]
    go_wp2_with (first
      | (go_at_call 36; go_loud (refine (HSO.out _ hb2).mono ?_; rintro e w3 ⟨rfl, hb3⟩))
      | (go_at_call 35; go_loud (refine HVA.out.mono ?_; rintro e w2 ⟨rfl, hb2⟩; obtain ⟨b0, b1, b2, bl⟩ := HCE.out _ hb2)))
    go_ret
    exact ⟨⟨z == 0, rfl, by rw [HZ.out]; simp⟩, HB1.out.trans ((hb2.trans (hb3.mono hb2.size)).mono HB1.out.size)⟩
  · have HVA : Hid (Calls Tryz.prog 35 #[.agg #[.int .i64 s.n, .int .u8 s.acc, .slice A s.rs.length c]] w1 fun e w' => e = .returned (.bool false) ∧ Below w1.heap.size w1 w') := by
      have h := rvalid_any s A c w1 (hs.below HB1.out)
      rw [decide_eq_false hok] at h
      exact h
    have HE : Hid (soundE s = 20) := soundE_20 hok
    clear hs hok HSO
    go_enter Tryz.func16, Tryz.ntmps16
    go_upto_region 1 with fail
    rw [HW1.out]
    go_wp2_with (go_at_call 35; go_loud (refine HVA.out.mono ?_; rintro e w2 ⟨rfl, hb2⟩))
    go_ret
    exact ⟨⟨false, rfl, fun h => (by cases h), fun h => by rw [HE.out] at h; cases h⟩, HB1.out.trans (hb2.mono HB1.out.size)⟩
end Go.Proofs.YtfpnhgahkjglgaaGreat

/-
  The walk of layer 05: a whole route.
-/
namespace Go.Proofs.YtfpnhgahkjglgaaGreat
open Go Go.RowKit

def FitP (s : Sc) (m : Int) (i : ByteArray) (L : List Int) : Prop := ∀ x ∈ L, ∃ (q : Nat) (r : Ru), x = (q : Int) ∧ s.rs[q]? = some r ∧ r.fr = m ∧ i.size + r.inp.size ≤ 6
theorem FitP.snoc {s : Sc} {m : Int} {i : ByteArray} {L : List Int} (h : FitP s m i L) {q : Nat} {r : Ru} (hr : s.rs[q]? = some r) (h1 : r.fr = m) (h2 : i.size + r.inp.size ≤ 6) : FitP s m i (L ++ [(q : Int)]) := fun x hx => by
  rcases List.mem_append.1 hx with hx | hx
  · exact h x hx
  · exact ⟨q, r, List.mem_singleton.1 hx, hr, h1, h2⟩
end Go.Proofs.YtfpnhgahkjglgaaGreat

/-
  What the laws of layer 05 say of sound schemes. Plain laws. No conditions.
-/
namespace Go.Proofs.YtfpnhgahkjglgaaGreat
open Go Go.RowKit

theorem IsSnd.parts {s : Sc} {e : Ending} (h : IsSnd s e) : (e = .returned (.bool true) ∧ soundE s = 0) ∨ (e = .returned (.bool false) ∧ ¬ soundE s = 0) := by
  obtain ⟨b, h1, h2⟩ := h
  cases b with
  | true => exact .inl ⟨h1, h2.1 rfl⟩
  | false => exact .inr ⟨h1, fun h => by have := h2.2 h; cases this⟩
end Go.Proofs.YtfpnhgahkjglgaaGreat
