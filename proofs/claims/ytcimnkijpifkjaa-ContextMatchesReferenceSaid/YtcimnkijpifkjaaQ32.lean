/-
  CxPl, CxWalkG, CxWalkN, joined. No conditions.
-/
import Derived.Test.YtcimnkijpifkjaaQ30
import Derived.Test.YtcimnkijpifkjaaQ31
import Derived.Test.YtcimnkijpifkjaaQ14
import Derived.Test.YtcimnkijpifkjaaQ27
import Derived.Test.YtcimnkijpifkjaaQ21
import Derived.Test.YtcimnkijpifkjaaQ24
import Derived.Deep.DeepCutAuto
/-
  The plain law of layer 20: costs of ways without pairs, after learning; the reference's way. No program in sight; no conditions.
-/
namespace Go.Proofs.Ytcimnkijpifkjaa
open Go Go.RowKit

/-- The model without pairs and Back. -/
abbrev bareM (m : Mo) : Mo := ⟨m.ws, m.cs, [], 0⟩
theorem bareM_ok {m : Mo} (h : MoOK m) : MoOK (bareM m) := ⟨⟨h.1.1, by simp [PsOK, incP]⟩, by show (0 : Int) ≤ 0; omega, by show (0 : Int) ≤ 1000; omega⟩
theorem bareM_cost (m : Mo) (p : Int) (k : Nat) : pcost (bareM m) p k = wcost (bareM m) k := by
  unfold pcost
  split
  · rfl
  · have : known (bareM m).ps p k = 0 := rfl
    rw [if_pos this]
    show (0 : Int) + _ = _
    omega
/-- The cost of the edges and words of a way alone. -/
def psum (x : La) (m : Mo) (l : List Int) : Int := (l.map (fun k : Int => match x.es[k.toNat]? with | some e => e.co + wcost m e.wd.toNat | none => 0)).sum
theorem psum_cons {x : La} {m : Mo} {k : Int} {l : List Int} {e : Ed} (h : x.es[k.toNat]? = some e) : psum x m (k :: l) = e.co + wcost m e.wd.toNat + psum x m l := by
  unfold psum
  rw [List.map_cons, List.sum_cons, h]
theorem psum_succ {x : La} {m : Mo} {k : Int} {l : List Int} {e : Ed} {j : Nat} (hj : l[j]? = some k) (h : x.es[k.toNat]? = some e) : psum x m (l.take (j + 1)) = psum x m (l.take j) + (e.co + wcost m e.wd.toNat) := by
  rw [take_snoc_of hj]
  unfold psum
  rw [List.map_append, List.sum_append, List.map_cons, List.sum_cons, h]
  simp
theorem wsum_bare {x : La} {m : Mo} : ∀ {l : List Int} {a b p : Int}, WayTo x a l b → wsum x (bareM m) p l = psum x (bareM m) l
  | [], _, _, _, _ => rfl
  | k :: l, a, b, p, ⟨e, _, h1, _, h3⟩ => by rw [wsum_cons h1, psum_cons h1, bareM_cost, wsum_bare h3]
theorem psum_bd {x : La} {m : Mo} (hm : MoOK m) (hf : FitsL x m.ws.length) (hco : ∀ e ∈ x.es, e.co ≤ 1000) : ∀ (l : List Int), 0 ≤ psum x (bareM m) l ∧ psum x (bareM m) l ≤ 2512 * l.length
  | [] => by simp [psum]
  | k :: l => by
    have ih := psum_bd hm hf hco l
    cases he : x.es[k.toNat]? with
    | none =>
      have : psum x (bareM m) (k :: l) = psum x (bareM m) l := by
        unfold psum
        rw [List.map_cons, List.sum_cons, he]
        simp
      rw [this, List.length_cons]
      omega
    | some e =>
      have hem := List.mem_of_getElem? he
      have h1 := hf.1.2.2.1 e hem
      have h2 := hf.2 e hem
      have h3 := hco e hem
      have hcs : m.cs.length = m.ws.length := hm.1.1.2.1
      have h4 := pcost_in (bareM_ok hm) (-1) (k := e.wd.toNat) (by show e.wd.toNat < m.cs.length; have := h1.2.1; omega)
      rw [bareM_cost] at h4
      rw [psum_cons he, List.length_cons]
      have := h1.2.2
      omega
/-- Costs of other words do not fall when a word is learnt. -/
def LessC (m m2 : Mo) (a : Int) : Prop := ∀ (p : Int) (k : Nat), k < m.ws.length → (k : Int) ≠ a → pcost m p k ≤ pcost m2 p k
theorem wsum_less {x : La} {m m2 : Mo} {a0 : Int} (h : LessC m m2 a0) (hf : FitsL x m.ws.length) : ∀ {l : List Int} {a b p : Int}, WayTo x a l b → (∀ k ∈ l, ∀ e, x.es[k.toNat]? = some e → e.wd ≠ a0) → wsum x m p l ≤ wsum x m2 p l
  | [], _, _, _, _, _ => Int.le_refl _
  | k :: l, a, b, p, ⟨e, _, h1, _, h3⟩, hn => by
    have ih := wsum_less h hf (p := e.wd) h3 fun i hi => hn i (List.mem_cons_of_mem _ hi)
    rw [wsum_cons h1, wsum_cons h1]
    have hem := List.mem_of_getElem? h1
    have h4 := hf.1.2.2.1 e hem
    have h5 := hf.2 e hem
    have h6 := hn k List.mem_cons_self e h1
    have := h p e.wd.toNat (by have := h4.2.1; omega) (by have := h4.2.1; omega)
    omega
theorem full_frI {x : La} (h : ∀ p, 0 ≤ p → p < x.n → ∃ e ∈ x.es, e.fr = p) : ∀ p, 0 ≤ p → p < x.n → frI x.es p x.es.length ≠ [] := fun p h0 h1 hn => by
  obtain ⟨e, he, hp⟩ := h p h0 h1
  obtain ⟨k, hk, hke⟩ := List.getElem_of_mem he
  have : k ∈ frTo x.es p x.es.length := (frTo_mem _ (Nat.le_refl _) k).2 ⟨hk, e, by rw [List.getElem?_eq_getElem hk, hke], hp⟩
  unfold frI at hn
  rw [List.map_eq_nil_iff] at hn
  rw [hn] at this
  cases this
/-- The reference's way, its numbers a literal row. -/
theorem way20_any {la : La} {g : Nat} {A9 : Option Addr} {c9 : Nat} {W : World} (hX : LB la g A9 c9 W) (hok : LaOK la) (h13 : la.es.length ≤ 13) (hfull : ∀ p, 0 ≤ p → p < la.n → ∃ e ∈ la.es, e.fr = p) {a b c : Int} (ha : 0 ≤ a ∧ a ≤ 255) (hb : 0 ≤ b ∧ b ≤ 255) (hc : 0 ≤ c ∧ c ≤ 255) :
    Calls Try.prog 12 #[.agg #[.int .i64 la.n, .slice A9 la.es.length c9], .slice (some ⟨W.heap.size, 0, none⟩) 3 3] (W.alloc (.cells #[.int .u8 a, .int .u8 b, .int .u8 c] 5)) (IsWayR la W) := by
  have hbw : Below W.heap.size W (W.alloc (.cells #[.int .u8 a, .int .u8 b, .int .u8 c] 5)) := nw _ (Below.refl _ _)
  have hs := slr_of_blk (s := 1) (R := RU8) (enc := fun x => [Value.int .u8 x]) (xs := [a, b, c]) (Blk.new W 5 #[.int .u8 a, .int .u8 b, .int .u8 c]) (fun _ => rfl) (fun _ => rfl) (by simp)
  refine (way_any la A9 c9 (some ⟨W.heap.size, 0, none⟩) [a, b, c] 3 _ (hX.below hbw).s hok (by omega) (full_frI hfull) hs (by simp) (by simp; omega)).mono ?_
  rintro e w' ⟨B, d, o, h1, h2, h3, h4, h5, h6, h7⟩
  exact ⟨B, d, o, h1, h2, h3, h4, h5, h6, bthen hbw h7⟩
end Go.Proofs.Ytcimnkijpifkjaa

/-
  The walks of layer 20: Cost of the program.
-/
namespace Go.Proofs.Ytcimnkijpifkjaa
open Go Go.RowKit

set_option maxRecDepth 100000 in
set_option maxHeartbeats 16000000 in
theorem ccost_any (x : La) (A : Option Addr) (c : Nat) (m : Mo) (A1 A2 A3 : Option Addr) (c1 c2 c3 : Nat) (prev : Int) (B : Option Addr) (l : List Int) (cB : Nat) (w : World) (hx : SlR 4 REd w A x.es) (hlx : x.es.length ≤ maxLen) (hm : MoR w m A1 A2 A3) (hc3 : m.ps.length ≤ c3) (hm3 : c3 ≤ maxLen) (hb : SlR 1 RInt w B l) (hl : l.length ≤ 1000) :
    Calls Try.prog 15 #[.agg #[.int .i64 x.n, .slice A x.es.length c], .agg #[.slice A1 m.ws.length c1, .slice A2 m.cs.length c2, .slice A3 m.ps.length c3, .int .i64 m.back], .int .i64 prev, .slice B l.length cB] w fun e w' => e = .returned (.tuple #[.int .i64 (cx_costM x m prev l).1, .bool (cx_costM x m prev l).2]) ∧ Below w.heap.size w w' := by
  obtain ⟨w2, hw2⟩ : ∃ w2, (w.alloc (.cells #[.int .i64 x.n, .slice A x.es.length c] 38)).alloc (.cells #[.slice A1 m.ws.length c1, .slice A2 m.cs.length c2, .slice A3 m.ps.length c3, .int .i64 m.back] 34) = w2 := ⟨_, rfl⟩
  have hb2 : Below w.heap.size w w2 := by rw [← hw2]; exact nw _ (nw _ (Below.refl _ _))
  have hLB : Blk w2 w.heap.size 38 #[.int .i64 x.n, .slice A x.es.length c] := by rw [← hw2]; exact (Blk.new _ _ _).alloc _
  have hMB : Blk w2 (w.heap.size + 1) 34 #[.slice A1 m.ws.length c1, .slice A2 m.cs.length c2, .slice A3 m.ps.length c3, .int .i64 m.back] := by rw [← hw2]; exact Blk.new_ (by simp)
  have HW2 := Lib.hid hw2
  have HBX : Hid (∀ W, Below w2.heap.size w2 W → (W.cell? ⟨w.heap.size, 0, none⟩ = some (.int .i64 x.n) ∧ W.cell? ⟨w.heap.size, 1, none⟩ = some (.slice A x.es.length c)) ∧ (W.cell? ⟨w.heap.size + 1, 0, none⟩ = some (.slice A1 m.ws.length c1) ∧ W.cell? ⟨w.heap.size + 1, 1, none⟩ = some (.slice A2 m.cs.length c2) ∧ W.cell? ⟨w.heap.size + 1, 2, none⟩ = some (.slice A3 m.ps.length c3) ∧ W.cell? ⟨w.heap.size + 1, 3, none⟩ = some (.int .i64 m.back)) ∧ w.heap.size < W.heap.size ∧ w.heap.size + 1 < W.heap.size) := fun W hW => by
    have e1 := hLB.below hW hLB.lt
    have e2 := hMB.below hW hMB.lt
    exact ⟨⟨by rw [e1.cell]; rfl, by rw [e1.cell]; rfl⟩, ⟨by rw [e2.cell]; rfl, by rw [e2.cell]; rfl, by rw [e2.cell]; rfl, by rw [e2.cell]; rfl⟩, e1.lt, e2.lt⟩
  have HB2 := Lib.hid hb2
  clear hw2 hLB hMB hb2
  have hl1 := hm.l1
  have HCV : Hid (∀ W, Below w2.heap.size w2 W → Calls Try.prog 39 #[.agg #[.slice A1 m.ws.length c1, .slice A2 m.cs.length c2, .slice A3 m.ps.length c3, .int .i64 m.back]] W fun e w' => e = .returned (.bool (decide (MoOK m))) ∧ Below W.heap.size W w') := fun W hW => co_valid_any m A1 A2 A3 c1 c2 c3 W (hm.below (bthen HB2.out hW))
  have HFT : Hid (∀ W, Below w2.heap.size w2 W → Calls Try.prog 40 #[.agg #[.int .i64 x.n, .slice A x.es.length c], .agg #[.slice A1 m.ws.length c1, .slice A2 m.cs.length c2, .slice A3 m.ps.length c3, .int .i64 m.back], .int .i64 prev] W fun e w' => e = .returned (.bool (decide ((-1 ≤ prev ∧ prev < (m.ws.length : Int)) ∧ FitsL x m.ws.length))) ∧ Below W.heap.size W w') := fun W hW => fits_any x A c m A1 A2 A3 c1 c2 c3 prev W (hx.below keeps_ed (bthen HB2.out hW)) hlx hl1
  have HX2 : Hid (∀ W, Below w2.heap.size w2 W → SlR 4 REd W A x.es) := fun W hW => hx.below keeps_ed (bthen HB2.out hW)
  have HBL : Hid (∀ W, Below w2.heap.size w2 W → SlR 1 RInt W B l) := fun W hW => hb.below keeps_int (bthen HB2.out hW)
  have h22 := Below.refl w2.heap.size w2
  unfold maxLen at hlx
  by_cases hmo : ¬ MoOK m
  · have HR : Hid (cx_costM x m prev l = (0, false)) := cx_costM_no fun h => hmo h.1
    rw [decide_eq_false hmo] at HCV
    obtain ⟨⟨l0, l1⟩, ⟨m0, m1, m2, m3⟩, ll, ml⟩ := HBX.out _ h22
    clear hmo
    go_enter Try.func15, Try.ntmps15
    go_upto_region 1 with fail
    rw [HW2.out]
    go_wp2_with (go_at_call 39; go_loud (refine (HCV.out _ h22).mono ?_; rintro e w3 ⟨rfl, hb3⟩))
    go_ret2
    exact ⟨by rw [HR.out]; rfl, bthen HB2.out hb3⟩
  have hmo := Decidable.not_not.1 hmo
  rw [decide_eq_true hmo] at HCV
  by_cases hft : ¬ ((-1 ≤ prev ∧ prev < (m.ws.length : Int)) ∧ FitsL x m.ws.length)
  · have HR : Hid (cx_costM x m prev l = (0, false)) := cx_costM_no fun h => hft h.2
    rw [decide_eq_false hft] at HFT
    obtain ⟨⟨l0, l1⟩, ⟨m0, m1, m2, m3⟩, ll, ml⟩ := HBX.out _ h22
    clear hmo hft
    go_enter Try.func15, Try.ntmps15
    go_upto_region 1 with fail
    rw [HW2.out]
    go_wp2_with (first | (go_at_call 39; go_loud (refine (HCV.out _ h22).mono ?_; rintro e w3 ⟨rfl, hb3⟩; clear l0 l1 m0 m1 m2 m3 ll ml; obtain ⟨⟨l0, l1⟩, ⟨m0, m1, m2, m3⟩, ll, ml⟩ := HBX.out _ hb3)) | (go_at_call 40; go_loud (refine (HFT.out _ hb3).mono ?_; rintro e w4 ⟨rfl, hb4⟩)))
    go_ret2
    exact ⟨by rw [HR.out]; rfl, bthen HB2.out (bthen hb3 hb4)⟩
  have hft := Decidable.not_not.1 hft
  rw [decide_eq_true hft] at HFT
  have HALL : Hid (FitsAll x m prev) := ⟨hmo, hft⟩
  have HPRA : Hid (∀ W (a : Int) (k : Nat), Below w2.heap.size w2 W → a < 65536 → k < m.cs.length → Calls Try.prog 41 #[.agg #[.slice A1 m.ws.length c1, .slice A2 m.cs.length c2, .slice A3 m.ps.length c3, .int .i64 m.back], .int .i64 a, .int .i64 (k : Int)] W fun e w' => e = .returned (.int .i64 (pcost m a k)) ∧ Below W.heap.size W w') := fun W a k hW ha hk => pair_any m A1 A2 A3 c1 c2 c3 a k W (hm.below (bthen HB2.out hW)) hmo hk ha hc3 hm3
  obtain ⟨⟨l0, l1⟩, ⟨m0, m1, m2, m3⟩, ll, ml⟩ := HBX.out _ h22
  have hnw : m.ws.length ≤ 200 := hmo.1.1.1.1.2
  clear hmo hft hm hx hb
  go_enter Try.func15, Try.ntmps15
  go_upto_region 1 with fail
  rw [HW2.out]
  go_wp2_with (first | (go_at_call 39; go_loud (refine (HCV.out _ h22).mono ?_; rintro e w3 ⟨rfl, hb3⟩; clear l0 l1 m0 m1 m2 m3 ll ml; obtain ⟨⟨l0, l1⟩, ⟨m0, m1, m2, m3⟩, ll, ml⟩ := HBX.out _ hb3)) | (go_at_call 40; go_loud (refine (HFT.out _ hb3).mono ?_; rintro e w4 ⟨rfl, hb4⟩)))
  have hb24 := bthen hb3 hb4
  clear l0 l1 m0 m1 m2 m3 ll ml
  go_loopw [2, 10, 11, 27] (fun p a s i wr => ∃ (j : Nat) (st : CSt), j ≤ l.length ∧ p = .int .i64 st.pv ∧ a = .int .i64 st.pl ∧ s = .int .i64 st.sum ∧ i = .int .i64 j ∧ Hid (costTo x m prev l j = some st) ∧ Below w2.heap.size w2 wr) (fun _ _ _ i _ => l.length - (intOf i).toNat)
  case atStart => exact ⟨0, ⟨0, prev, 0⟩, by omega, rfl, rfl, rfl, rfl, rfl, hb24⟩
  case round =>
    obtain ⟨j, st, hj, rfl, rfl, rfl, rfl, HS, hbr⟩ := hrel
    obtain ⟨⟨hp0, hp1⟩, ⟨hv0, hv1⟩, hs0, hs1⟩ := costTo_bd HALL.out j st HS.out
    obtain ⟨⟨l0, l1⟩, ⟨m0, m1, m2, m3⟩, ll, ml⟩ := HBX.out _ hbr
    by_cases hlt : j < l.length
    · obtain ⟨bB, oB, k, rfl, hbB, hkk, dB⟩ := (HBL.out _ hbr).int hlt
      have HNX := Lib.hid (costTo_succ hkk HS.out)
      have hjl := hlt
      have HBr := Lib.hid hbr
      clear hkk
      by_cases hk0 : k < 0
      · have HR : Hid (cx_costM x m prev l = (0, false)) := cx_costM_none hjl (by rw [HNX.out]; exact stepC_neg hk0)
        go_wp2_with fail
        go_ret2
        exact ⟨by rw [HR.out]; rfl, bthen HB2.out HBr.out⟩
      by_cases hk1 : (x.es.length : Int) ≤ k
      · have HR : Hid (cx_costM x m prev l = (0, false)) := cx_costM_none hjl (by rw [HNX.out]; exact stepC_big hk1)
        go_wp2_with fail
        go_ret2
        exact ⟨by rw [HR.out]; rfl, bthen HB2.out HBr.out⟩
      obtain ⟨kk, hkn⟩ : ∃ kk : Nat, k = (kk : Int) := ⟨k.toNat, by omega⟩
      subst hkn
      have hkl : kk < x.es.length := by omega
      obtain ⟨b, off, e, rfl, hbb, hee, d0, d1, d2, d3⟩ := (HX2.out _ hbr).ed hkl
      rw [stepC_at hee] at HNX
      have hem := List.mem_of_getElem? hee
      have hok := HALL.out.2.2.1.2.2.1 e hem
      have hwd := HALL.out.2.2.2 e hem
      have hk2 : (kk : Int) < (x.es.length : Int) := by omega
      have hk3 : (0 : Int) ≤ (kk : Int) := by omega
      clear hk0 hk1 hee hem
      by_cases hfn : ¬ e.fr = st.pl
      · have hfr := hfn
        have z1 : (e.fr != st.pl) = true := by simpa using hfr
        have HR : Hid (cx_costM x m prev l = (0, false)) := cx_costM_none hjl (by rw [HNX.out]; exact if_neg hfr)
        clear hfr hfn
        go_wp2_with fail
        go_ret2
        exact ⟨by rw [HR.out]; rfl, bthen HB2.out HBr.out⟩
      have hfr := Decidable.not_not.1 hfn
      clear hfn
      have z1 : (e.fr != st.pl) = false := by simpa using hfr
      rw [if_pos hfr] at HNX
      obtain ⟨wn, hwn⟩ : ∃ wn : Nat, e.wd = (wn : Int) := ⟨e.wd.toNat, by have := hok.2.1; omega⟩
      have hwnl : wn < m.cs.length := by have hcs : m.cs.length = m.ws.length := HALL.out.1.1.1.2.1; omega
      have hpc := pcost_in HALL.out.1 st.pv hwnl
      have HPR : Hid (∀ W, Below w2.heap.size w2 W → Calls Try.prog 41 #[.agg #[.slice A1 m.ws.length c1, .slice A2 m.cs.length c2, .slice A3 m.ps.length c3, .int .i64 m.back], .int .i64 st.pv, .int .i64 (wn : Int)] W fun e w' => e = .returned (.int .i64 (pcost m st.pv wn)) ∧ Below W.heap.size W w') := fun W hW => HPRA.out W st.pv wn hW (by omega) hwnl
      have hco := hok.2.2
      obtain ⟨ef, et, ew, ec⟩ := e
      simp only at hwn d0 d1 d2 d3 hco HNX z1 hfr
      subst hwn
      subst hfr
      rw [show ((wn : Int)).toNat = wn from Int.toNat_natCast wn] at HNX
      generalize pcost m st.pv wn = pc at *
      have hw1 : IntKind.i64.wrap (ec + pc) = ec + pc := IntWalk.i64_in _ (by omega)
      have hw2 : IntKind.i64.wrap (st.sum + (ec + pc)) = st.sum + (ec + pc) := IntWalk.i64_in _ (by omega)
      clear hok hwd hbr
      go_upto_region 10 with fail
      obtain ⟨W5, hW5⟩ : ∃ W, wr.alloc (.cells #[.int .i64 st.pl, .int .i64 et, .int .i64 (wn : Int), .int .i64 ec] 43) = W := ⟨_, rfl⟩
      have hbE : Below wr.heap.size wr W5 := by rw [← hW5]; exact nw _ (Below.refl _ _)
      have hEb : Blk W5 wr.heap.size 43 #[.int .i64 st.pl, .int .i64 et, .int .i64 (wn : Int), .int .i64 ec] := by rw [← hW5]; exact Blk.new _ _ _
      rw [hW5]
      have HB5 := Lib.hid (bthen HBr.out hbE)
      have HEB := Lib.hid hEb
      clear l0 l1 m0 m1 m2 m3 ll ml
      obtain ⟨⟨l0, l1⟩, ⟨m0, m1, m2, m3⟩, ll, ml⟩ := HBX.out _ HB5.out
      have e0 := hEb.cell 0
      have e1 := hEb.cell 1
      have e2 := hEb.cell 2
      have e3 := hEb.cell 3
      have el := hEb.lt
      simp at e0 e1 e2 e3
      obtain ⟨tE, htE⟩ : ∃ b, wr.heap.size = b := ⟨_, rfl⟩
      rw [htE] at HEB hEb e0 e1 e2 e3 el ⊢
      clear hW5 hbE hEb htE d0 d1 d2 d3 hbb dB hbB
      refine ordB_below (.quiet 0 (.quiet 1 (.quiet 2 (.quiet 3 (.quiet 4 (.quiet 5 (.quiet 6 (.only 7 (.quiet 8 (.quiet 9 (.quiet 10 .done))))))))))) (by kernel_rfl) (by kernel_rfl) (by kernel_rfl) (fun _ _ _ _ _ h => h) ?_
      intro V0 hV0
      iterate 7 (first
        | (refine ordB_skip rfl rfl ?_; simp only [Act.put, List.setIfInBounds_toArray, List.set_cons_zero, List.set_cons_succ])
        | (refine ordB_take (v := ?_) rfl rfl ?_ ?_
           rotate_left 1
           focus (intro W hW; obtain ⟨hcW, hfW⟩ := bcell hW; (go_simp <;> with_reducible rfl))
           simp only [Act.put, List.setIfInBounds_toArray, List.set_cons_zero, List.set_cons_succ]))
      refine ordB_only (opB_call rfl rfl (fun K hK => ?_))
      go_simp
      go_at_call 41
      refine (HPR.out V0 (HB5.out.trans (hV0.mono HB5.out.size))).mono ?_
      rintro e V0_1 ⟨rfl, hx9⟩
      refine hK.out _ _ (hV0.trans (hx9.mono hV0.size)) (fun hV0_1 => ?_)
      iterate 3 (first
        | (refine ordB_skip rfl rfl ?_; simp only [Act.put, List.setIfInBounds_toArray, List.set_cons_zero, List.set_cons_succ])
        | (refine ordB_take (v := ?_) rfl rfl ?_ ?_
           rotate_left 1
           focus (intro W hW; obtain ⟨hcW, hfW⟩ := bcell hW; (go_simp <;> with_reducible rfl))
           simp only [Act.put, List.setIfInBounds_toArray, List.set_cons_zero, List.set_cons_succ]))
      refine ordB_nil ?_
      have HB6 := Lib.hid (HB5.out.trans (hV0_1.mono HB5.out.size))
      have hE6 := HEB.out.below hV0_1 HEB.out.lt
      obtain ⟨W6, hW6⟩ : ∃ V, V0_1 = V := ⟨_, rfl⟩
      rw [hW6] at HB6 hE6 ⊢
      have y1 := hE6.cell 1
      have y2 := hE6.cell 2
      have yl := hE6.lt
      simp at y1 y2
      clear e0 e1 e2 e3 el l0 l1 m0 m1 m2 m3 ll ml
      go_upto_region 11 with fail
      refine ordB_below (.quiet 0 (.quiet 1 (.quiet 2 (.quiet 3 (.quiet 4 (.quiet 5 .done)))))) (by kernel_rfl) (by kernel_rfl) (by kernel_rfl) (fun _ _ _ _ _ h => h) ?_
      intro U0 hU0
      iterate 6 (first
        | (refine ordB_skip rfl rfl ?_; simp only [Act.put, List.setIfInBounds_toArray, List.set_cons_zero, List.set_cons_succ])
        | (refine ordB_take (v := ?_) rfl rfl ?_ ?_
           rotate_left 1
           focus (intro W hW; obtain ⟨hcW, hfW⟩ := bcell hW; (go_simp <;> with_reducible rfl))
           simp only [Act.put, List.setIfInBounds_toArray, List.set_cons_zero, List.set_cons_succ]))
      refine ordB_nil ?_
      have HBE := Lib.hid (HB6.out.trans (hU0.mono HB6.out.size))
      go_wp2_with fail
      go_roundw
      case rel => exact ⟨j + 1, ⟨et, (wn : Int), st.sum + (ec + pc)⟩, by omega, rfl, rfl, rfl, by go_num, HNX.out, HBE.out⟩
      case measure => simp [intOf]; omega
    · obtain rfl : j = l.length := by omega
      have HE := Lib.hid (cx_costM_end HALL.out HS.out)
      have HBr := Lib.hid hbr
      by_cases ha : st.pl = x.n
      · have z1 : (st.pl != x.n) = false := by simpa using ha
        have HR : Hid (cx_costM x m prev l = (st.sum, true)) := HE.out.trans (if_pos ha)
        clear ha
        go_wp2_with fail
        go_ret2
        exact ⟨by rw [HR.out]; rfl, bthen HB2.out HBr.out⟩
      · have z1 : (st.pl != x.n) = true := by simpa using ha
        have HR : Hid (cx_costM x m prev l = (0, false)) := HE.out.trans (if_neg ha)
        clear ha
        go_wp2_with fail
        go_ret2
        exact ⟨by rw [HR.out]; rfl, bthen HB2.out HBr.out⟩
end Go.Proofs.Ytcimnkijpifkjaa

/-
  The walks of layer 20: words of a candidate.
-/
namespace Go.Proofs.Ytcimnkijpifkjaa
open Go Go.RowKit

/-- 'make([]T, 0, n)' of elements of one cell: a row of the call's own. -/
theorem wpList_mk0 {P : Program} (w : World) {ops : Array Oper} {rest : List Oper} {o : Oper} {a : Act} {Q : Exit → Act → World → Prop}
    (hg : o.guard = none) (l c : Operand) (t : TypeId) (hop : o.op = Op.makeSlice t l c)
    (e : TypeId) (i : TypeInfo) (z : Value) (h1 : P.underlying t = some (.slice e)) (h2 : P.info? e = some i) (h3 : i.zero = some z) (h4 : i.size = 1) (h5 : i.bytes ≤ 1000)
    (n : Nat) (hl : a.eval l = .int .i64 0) (hc : a.eval c = .int .i64 (n : Int)) (hn : n ≤ 1000000)
    (hK : ∀ w', w'.ownsRow w.heap.size e 1 (.slice (some ⟨w.heap.size, 0, none⟩) 0 n) 0 [] → Below w.heap.size w w' → wpList P ops Q rest (a.put o.dst (.slice (some ⟨w.heap.size, 0, none⟩) 0 n)) w') :
    wpList P ops Q (o :: rest) a w := by
  refine wpList_plain hg fun K hK' => ?_
  have hb : i.bytes * n ≤ 281474976710656 := by
    have h : i.bytes * n ≤ 1000 * 1000000 := Nat.mul_le_mul h5 hn
    omega
  obtain ⟨w', hr, hO, hg'⟩ := run_make_own (P := P) w w.heap.size t e i z 1 h1 h2 h3 h4 .i64 .i64 n hb (by unfold maxLen; omega) (Nat.le_refl _)
  have hB : Below w.heap.size w w' := (Below.refl _ _).grown hg' (Nat.le_refl _) (fun k hk => by cases hk)
  unfold Oper.wp
  simp [execOp, hop, hl, hc, hr, Result.andThen]
  exact hK' _ _ (hK _ hO hB)

/-- The word of a link. -/
def wdAt (es : List Ed) (g : List Lk) (i : Int) : Int :=
  match g[i.toNat]? with
  | some l => match es[l.lb.toNat]? with
    | some e => e.wd
    | none => 0
  | none => 0
/-- The links lie in the graph, and the labels in the lattice. -/
def LkIn (es : List Ed) (g : List Lk) (i : Int) : Prop := ∃ (p : Nat) (l : Lk) (q : Nat) (e : Ed), i = (p : Int) ∧ g[p]? = some l ∧ l.lb = (q : Int) ∧ es[q]? = some e
def GivesIs (xs : List Int) (w : World) (r : Ending) (w' : World) : Prop := ∃ (B : Option Addr) (c : Nat), r = .returned (.slice B xs.length c) ∧ SlR 1 RInt w' B xs ∧ (xs.length ≤ c ∧ c ≤ maxLen) ∧ Below w.heap.size w w'
set_option maxRecDepth 100000 in
set_option maxHeartbeats 16000000 in
theorem cxwords_any (x : La) (A : Option Addr) (c : Nat) (gn : Int) (AG : Option Addr) (g : List Lk) (cG : Nat) (AC : Option Addr) (cl : List Int) (cC : Nat) (cost : Int) (w : World)
    (hx : SlR 4 REd w A x.es) (hg : SlR 4 RLk w AG g) (hc : SlR 1 RInt w AC cl) (hcl : cl.length ≤ 1000) (hI : ∀ i ∈ cl, LkIn x.es g i) :
    Calls Try.prog 19 #[.agg #[.int .i64 x.n, .slice A x.es.length c], .agg #[.int .i64 gn, .slice AG g.length cG], .agg #[.slice AC cl.length cC, .int .i64 cost]] w (GivesIs (cl.map (wdAt x.es g)) w) := by
  obtain ⟨j0, hj, hy0, hy1, hy2⟩ := info_parts bint_inf
  obtain ⟨w3, hw3⟩ : ∃ W, ((w.alloc (.cells #[.int .i64 x.n, .slice A x.es.length c] 38)).alloc (.cells #[.int .i64 gn, .slice AG g.length cG] 46)).alloc (.cells #[.slice AC cl.length cC, .int .i64 cost] 58) = W := ⟨_, rfl⟩
  have hb3 : Below w.heap.size w w3 := by rw [← hw3]; exact nw _ (nw _ (nw _ (Below.refl _ _)))
  have hLB : Blk w3 w.heap.size 38 #[.int .i64 x.n, .slice A x.es.length c] := by rw [← hw3]; exact ((Blk.new _ _ _).alloc _).alloc _
  have hGB : Blk w3 (w.heap.size + 1) 46 #[.int .i64 gn, .slice AG g.length cG] := by rw [← hw3]; exact (Blk.new_ (by simp)).alloc _
  have hCB : Blk w3 (w.heap.size + 2) 58 #[.slice AC cl.length cC, .int .i64 cost] := by rw [← hw3]; exact Blk.new_ (by simp)
  have HW3 := Lib.hid hw3
  have HBW := Lib.hid hb3
  have HCE : Hid (∀ W, Below w3.heap.size w3 W → W.cell? ⟨w.heap.size, 1, none⟩ = some (.slice A x.es.length c) ∧ W.cell? ⟨w.heap.size + 1, 1, none⟩ = some (.slice AG g.length cG) ∧ W.cell? ⟨w.heap.size + 2, 0, none⟩ = some (.slice AC cl.length cC) ∧ w.heap.size + 2 < W.heap.size) := fun W hW => by
    have e1 := hLB.below hW hLB.lt
    have e2 := hGB.below hW hGB.lt
    have e3 := hCB.below hW hCB.lt
    exact ⟨by rw [e1.cell]; rfl, by rw [e2.cell]; rfl, by rw [e3.cell]; rfl, e3.lt⟩
  have HXX : Hid (∀ W, Below w3.heap.size w3 W → SlR 4 REd W A x.es ∧ SlR 4 RLk W AG g ∧ SlR 1 RInt W AC cl) := fun W hW => by
    have h := HBW.out.trans (hW.mono HBW.out.size)
    exact ⟨hx.below keeps_ed h, hg.below keeps_lk h, hc.below keeps_int h⟩
  have HI := Lib.hid hI
  clear hw3 hb3 hLB hGB hCB hx hg hc hI
  go_enter Try.func19, Try.ntmps19
  go_upto_region 1 with fail
  rw [HW3.out]
  obtain ⟨l0, g0, q0, ll⟩ := HCE.out _ (Below.refl _ _)
  obtain ⟨b1, hb1⟩ : ∃ b, w3.heap.size = b := ⟨_, rfl⟩
  go_upto_region 2 with (at_make; refine wpList_mk0 _ rfl _ _ 31 rfl 3 j0 (.int .i64 0) Try.underlying31 hj hy0 hy1 (by omega) cl.length rfl rfl (by omega) ?_; intro w4 hO4 hB4)
  rw [hb1] at hO4 hB4
  have HB4 := Lib.hid hB4
  have HO4 := Lib.hid hO4
  rw [hb1] at HCE HXX
  have HBE := Lib.hid hb1
  clear l0 g0 q0 ll hO4 hB4 hb1
  obtain ⟨l0, g0, q0, ll⟩ := HCE.out _ HB4.out
  go_wp2_with fail
  clear l0 g0 q0 ll
  go_loopw [7, 18] (fun v i wr => ∃ (j : Nat) (V : Value), V = v ∧ i = .int .i64 j ∧ j ≤ cl.length ∧ Hid (wr.ownsRow b1 3 1 V j (((cl.take j).map (wdAt x.es g)).map (Value.int .i64))) ∧ Below b1 w3 wr) (fun _ i _ => cl.length - (intOf i).toNat)
  case atStart => exact ⟨0, _, rfl, rfl, by omega, HO4, HB4.out⟩
  case round =>
    obtain ⟨W0, rfl⟩ : ∃ V, V = wr := ⟨wr, rfl⟩
    obtain ⟨j, V, rfl, rfl, hj5, HOV, hbr⟩ := hrel
    have HBR := Lib.hid hbr
    have hbs : b1 ≤ W0.heap.size := by have := HBE.out; have := hbr.size; omega
    clear hbr
    by_cases hlt : j < cl.length
    · obtain ⟨⟨l0, g0, q0, ll⟩, hs1, hs2, hs3⟩ := And.intro (HCE.out _ HBR.out) (HXX.out _ HBR.out)
      obtain ⟨bC, oC, iv, hAC, hbC, hiv, dC⟩ := hs3.int hlt
      subst hAC
      obtain ⟨p, lk, q, e, hip, hlk, hlq, hee⟩ := HI.out iv (List.mem_of_getElem? hiv)
      subst hip
      have HWS : Hid ((cl.take (j + 1)).map (wdAt x.es g) = (cl.take j).map (wdAt x.es g) ++ [e.wd]) := by
        show _ = _
        rw [List.take_add_one, hiv]
        simp [wdAt, hlk, hlq, hee]
      have hpl := (List.getElem?_eq_some_iff.1 hlk).1
      have hql := (List.getElem?_eq_some_iff.1 hee).1
      obtain ⟨bG, oG, lk', hAG, hbG, hlk', g1, g2, g3, g4⟩ := hs2.lk hpl
      rw [hlk] at hlk'
      obtain rfl := Option.some.inj hlk'
      subst hAG
      rw [hlq] at g3
      obtain ⟨bE, oE, e', hAE, hbE, hee', f0, f1, f2, f3⟩ := hs1.ed hql
      rw [hee] at hee'
      obtain rfl := Option.some.inj hee'
      subst hAE
      obtain ⟨ef, et, ew, ec⟩ := e
      simp only at f0 f1 f2 f3 HWS
      have hpI : (p : Int) < (g.length : Int) := by omega
      have hqI : (q : Int) < (x.es.length : Int) := by omega
      have hp0 : ¬ (p : Int) < 0 := by omega
      have hq0 : ¬ (q : Int) < 0 := by omega
      have hp1 : ¬ (p : Int) ≥ (g.length : Int) := by omega
      have hq1 : ¬ (q : Int) ≥ (x.es.length : Int) := by omega
      have hjm : j ≤ 1000000 := by omega
      have hjI : (j : Int) < (cl.length : Int) := by omega
      have hj0 : (0 : Int) ≤ (j : Int) := by omega
      clear hiv hlk hlq hee hs1 hs2 hs3 g1 g2 g4 f0 f1 f3
      go_wp2_with (first | (at_builtin; refine wpList_app1 rfl _ _ 31 rfl (b1) 3 j0 _ 1 8 Try.underlying31 hj hy0 hy1 hy2 rfl (by decide) _ _ _ rfl W0 [.int .i64 ew] rfl HOV.out _ rfl (by simp) rfl (by simp [Value.oneCell']) hjm (by decide) hbs ?_; intro v5 w5 hown5 hb5 ha5))
      go_roundw
      case rel => exact ⟨j + 1, _, rfl, by go_num, by omega, (by show w5.ownsRow _ _ _ _ _ _; rw [HWS.out, List.map_append]; exact hown5), HBR.out.trans hb5⟩
      case measure => simp [intOf]; omega
    · obtain rfl : j = cl.length := by omega
      obtain ⟨AV, cV, hV, hcV, hcmV, hsV⟩ := own_ints (xs := cl.map (wdAt x.es g)) (by have := HOV.out; rwa [List.take_length] at this) (by simp)
      subst hV
      have HE := Lib.hid (And.intro hcV hcmV)
      have HSV := Lib.hid hsV
      clear hcV hcmV hsV
      go_wp2_with fail
      go_ret
      exact ⟨AV, cV, by simp, HSV.out, by simpa using HE.out, HBW.out.trans (HBR.out.mono (by have := HBE.out; have := HBW.out.size; omega))⟩
set_option maxRecDepth 100000 in
set_option maxHeartbeats 16000000 in
theorem cxrwords_any (x : La) (A : Option Addr) (c : Nat) (gn : Int) (AG : Option Addr) (g : List Lk) (cG : Nat) (AC : Option Addr) (cl : List Int) (cC : Nat) (cost : Int) (w : World)
    (hx : SlR 4 REd w A x.es) (hg : SlR 4 RLk w AG g) (hc : SlR 1 RInt w AC cl) (hcl : cl.length ≤ 1000) (hI : ∀ i ∈ cl, LkIn x.es g i) :
    Calls Try.prog 20 #[.agg #[.int .i64 x.n, .slice A x.es.length c], .agg #[.int .i64 gn, .slice AG g.length cG], .agg #[.slice AC cl.length cC, .int .i64 cost]] w (GivesIs (cl.map (wdAt x.es g)) w) := by
  obtain ⟨j0, hj, hy0, hy1, hy2⟩ := info_parts bint_inf
  obtain ⟨w3, hw3⟩ : ∃ W, ((w.alloc (.cells #[.int .i64 x.n, .slice A x.es.length c] 38)).alloc (.cells #[.int .i64 gn, .slice AG g.length cG] 46)).alloc (.cells #[.slice AC cl.length cC, .int .i64 cost] 58) = W := ⟨_, rfl⟩
  have hb3 : Below w.heap.size w w3 := by rw [← hw3]; exact nw _ (nw _ (nw _ (Below.refl _ _)))
  have hLB : Blk w3 w.heap.size 38 #[.int .i64 x.n, .slice A x.es.length c] := by rw [← hw3]; exact ((Blk.new _ _ _).alloc _).alloc _
  have hGB : Blk w3 (w.heap.size + 1) 46 #[.int .i64 gn, .slice AG g.length cG] := by rw [← hw3]; exact (Blk.new_ (by simp)).alloc _
  have hCB : Blk w3 (w.heap.size + 2) 58 #[.slice AC cl.length cC, .int .i64 cost] := by rw [← hw3]; exact Blk.new_ (by simp)
  have HW3 := Lib.hid hw3
  have HBW := Lib.hid hb3
  have HCE : Hid (∀ W, Below w3.heap.size w3 W → W.cell? ⟨w.heap.size, 1, none⟩ = some (.slice A x.es.length c) ∧ W.cell? ⟨w.heap.size + 1, 1, none⟩ = some (.slice AG g.length cG) ∧ W.cell? ⟨w.heap.size + 2, 0, none⟩ = some (.slice AC cl.length cC) ∧ w.heap.size + 2 < W.heap.size) := fun W hW => by
    have e1 := hLB.below hW hLB.lt
    have e2 := hGB.below hW hGB.lt
    have e3 := hCB.below hW hCB.lt
    exact ⟨by rw [e1.cell]; rfl, by rw [e2.cell]; rfl, by rw [e3.cell]; rfl, e3.lt⟩
  have HXX : Hid (∀ W, Below w3.heap.size w3 W → SlR 4 REd W A x.es ∧ SlR 4 RLk W AG g ∧ SlR 1 RInt W AC cl) := fun W hW => by
    have h := HBW.out.trans (hW.mono HBW.out.size)
    exact ⟨hx.below keeps_ed h, hg.below keeps_lk h, hc.below keeps_int h⟩
  have HI := Lib.hid hI
  clear hw3 hb3 hLB hGB hCB hx hg hc hI
  obtain ⟨w4, hw4⟩ : ∃ W, w3.alloc (.cells #[] 3) = W := ⟨_, rfl⟩
  have hB4 : Below w3.heap.size w3 w4 := by rw [← hw4]; exact nw _ (Below.refl _ _)
  have hO4 : w4.ownsRow w3.heap.size 3 1 (.slice (some ⟨w3.heap.size, 0, none⟩) 0 0) 0 [] := by rw [← hw4]; exact own_empty w3 3 1 w3.heap.size (Nat.le_refl _)
  have HW4 := Lib.hid hw4
  obtain ⟨b1, hb1⟩ : ∃ b, w3.heap.size = b := ⟨_, rfl⟩
  rw [hb1] at hO4 hB4 HCE HXX
  have HB4 := Lib.hid hB4
  have HO4 := Lib.hid hO4
  have HBE := Lib.hid hb1
  clear hO4 hB4 hb1 hw4
  go_enter Try.func20, Try.ntmps20
  go_upto_region 1 with fail
  rw [HW3.out]
  go_upto_region 2 with fail
  rw [HW4.out, HBE.out]
  go_wp2_with fail
  go_loopw [7, 8] (fun v i wr => ∃ (j : Nat) (V : Value), V = v ∧ i = .int .i64 j ∧ j ≤ cl.length ∧ Hid (wr.ownsRow b1 3 1 V j (((cl.take j).map (wdAt x.es g)).map (Value.int .i64))) ∧ Below b1 w3 wr) (fun _ i _ => cl.length - (intOf i).toNat)
  case atStart => exact ⟨0, _, rfl, rfl, by omega, HO4, HB4.out⟩
  case round =>
    obtain ⟨W0, rfl⟩ : ∃ V, V = wr := ⟨wr, rfl⟩
    obtain ⟨j, V, rfl, rfl, hj5, HOV, hbr⟩ := hrel
    have HBR := Lib.hid hbr
    have hbs : b1 ≤ W0.heap.size := by have := HBE.out; have := hbr.size; omega
    clear hbr
    by_cases hlt : j < cl.length
    · obtain ⟨⟨l0, g0, q0, ll⟩, hs1, hs2, hs3⟩ := And.intro (HCE.out _ HBR.out) (HXX.out _ (Below.refl _ _))
      obtain ⟨bC, oC, iv, hAC, hbC, hiv, dC⟩ := hs3.int hlt
      subst hAC
      obtain ⟨p, lk, q, e, hip, hlk, hlq, hee⟩ := HI.out iv (List.mem_of_getElem? hiv)
      subst hip
      have HWS : Hid ((cl.take (j + 1)).map (wdAt x.es g) = (cl.take j).map (wdAt x.es g) ++ [e.wd]) := by
        show _ = _
        rw [List.take_add_one, hiv]
        simp [wdAt, hlk, hlq, hee]
      have hpl := (List.getElem?_eq_some_iff.1 hlk).1
      have hql := (List.getElem?_eq_some_iff.1 hee).1
      obtain ⟨bG, oG, lk', hAG, hbG, hlk', g1, g2, g3, g4⟩ := hs2.lk hpl
      rw [hlk] at hlk'
      obtain rfl := Option.some.inj hlk'
      subst hAG
      rw [hlq] at g3
      obtain ⟨bE, oE, e', hAE, hbE, hee', f0, f1, f2, f3⟩ := hs1.ed hql
      rw [hee] at hee'
      obtain rfl := Option.some.inj hee'
      subst hAE
      obtain ⟨ef, et, ew, ec⟩ := e
      simp only at f0 f1 f2 f3 HWS
      have hpI : (p : Int) < (g.length : Int) := by omega
      have hqI : (q : Int) < (x.es.length : Int) := by omega
      have hp0 : ¬ (p : Int) < 0 := by omega
      have hq0 : ¬ (q : Int) < 0 := by omega
      have hp1 : ¬ (p : Int) ≥ (g.length : Int) := by omega
      have hq1 : ¬ (q : Int) ≥ (x.es.length : Int) := by omega
      have hjm : j ≤ 1000000 := by omega
      have hjI : (j : Int) < (cl.length : Int) := by omega
      have hj0 : (0 : Int) ≤ (j : Int) := by omega
      rw [HBE.out] at hbC hbG hbE
      replace dC := (World.cell?_of_block (HBR.out.block bC hbC)).trans dC
      replace g3 := (World.cell?_of_block (HBR.out.block bG hbG)).trans g3
      replace f2 := (World.cell?_of_block (HBR.out.block bE hbE)).trans f2
      have hlC : bC < W0.heap.size := by omega
      have hlG : bG < W0.heap.size := by omega
      have hlE : bE < W0.heap.size := by omega
      have HOE : Hid (W0.ownsRow b1 3 1 V j (((cl.take j).map (wdAt x.es g)).map (Value.int .i64))) := HOV
      clear hiv hlk hlq hee hee' hs1 hs2 hs3 g1 g2 g4 f0 f1 f3
      go_upto_region 5 with fail
      have ll0 : w.heap.size < W0.heap.size := by omega
      have ll1 : w.heap.size + 1 < W0.heap.size := by omega
      have ll2 : w.heap.size + 1 + 1 < W0.heap.size := by omega
      have hn0 : V.ownBlock ≠ some w.heap.size := fun e => by have := own_block_le HOV.out _ e; have := HBE.out; have := HBW.out.size; have := HCE.out _ (Below.refl _ _); omega
      have hn1 : V.ownBlock ≠ some (w.heap.size + 1) := fun e => by have := own_block_le HOV.out _ e; have := HBE.out; have := (HCE.out _ (Below.refl _ _)).2.2.2; omega
      have hn2 : V.ownBlock ≠ some (w.heap.size + 1 + 1) := fun e => by have := own_block_le HOV.out _ e; have := HBE.out; have := (HCE.out _ (Below.refl _ _)).2.2.2; omega
      have hn3 : V.ownBlock ≠ some bC := fun e => by have := own_block_le HOV.out _ e; omega
      have hn4 : V.ownBlock ≠ some bG := fun e => by have := own_block_le HOV.out _ e; omega
      have hn5 : V.ownBlock ≠ some bE := fun e => by have := own_block_le HOV.out _ e; omega
      refine ordV_start (ButOwn V W0) (fun _ => True) [] [(0, some false), (1, some false), (2, some false), (3, some false), (4, some false), (5, some false), (6, some false), (7, some false), (8, some false), (9, some false), (10, some false), (11, some false), (12, some false), (13, some false), (14, some false), (15, some false), (16, some true), (17, some true), (18, none)] (by kernel_rfl) (by kernel_rfl) (by kernel_rfl) (fun _ _ _ _ _ h => h) trivial ?_
      have HD : Below W0.heap.size W0 W0.drew := (Below.refl _ _).drew
      obtain ⟨Wd, hWd⟩ : ∃ Wd, W0.drew = Wd := ⟨_, rfl⟩
      rw [hWd] at HD ⊢
      clear hWd
      have HS0 := ButOwn.of_below (v := V) HD
      iterate 16 (refine ordV_takeS (v := ?_) rfl rfl HS0 ?_ ?_; rotate_left 1; (focus (intro W hW; have hcW := hW.cell; (go_simp <;> (try with_reducible rfl)))); simp only [Act.put, List.setIfInBounds_toArray, List.set_cons_zero, List.set_cons_succ])
      refine ordV_call rfl rfl (fun K hK => ?_)
      go_simp
      have HDc := HD.alloc HD.size (.cells #[.int .i64 ew] 3)
      have HSc := ButOwn.of_below (v := V) HDc
      refine hK.out _ _ trivial (fun _ _ => HSc) ?_
      clear hK K
      try simp only [Act.put, List.setIfInBounds_toArray, List.set_cons_zero, List.set_cons_succ]
      refine ordV_call rfl rfl (fun K hK => ?_)
      refine wp_appS (enc := fun s : Int => [Value.int .i64 s]) (R := RInt) _ _ 31 rfl b1 3 j0 _ 1 8 Try.underlying31 hj hy0 hy1 hy2 rfl (by decide) V _ _ rfl ((own_below HOE.out HD).alloc _) (some ⟨Wd.heap.size, 0, none⟩) 1 [ew] rfl (slr_blk (enc := fun s : Int => [Value.int .i64 s]) (Blk.new_ rfl) (fun _ => rfl) (fun _ => rfl)) (fun _ _ _ h => h) (fun _ => rfl) (fun u hu => by simp at hu; subst hu; rfl) (by simp; omega) (by decide) (by have := HDc.size; omega) ?_
      intro v4 w4 hown4 hb4 ha4
      have HSd := HSc.apps hb4.size ha4
      refine hK.out _ _ trivial (fun _ _ => HSd) ?_
      clear hK K
      try simp only [Act.put, List.setIfInBounds_toArray, List.set_cons_zero, List.set_cons_succ]
      iterate 1 (refine ordV_takeR (v := ?_) rfl rfl ?_ ?_; rotate_left 1; (focus (intro W hW; (go_simp <;> (try with_reducible rfl)))); try simp only [Act.put, List.setIfInBounds_toArray, List.set_cons_zero, List.set_cons_succ])
      refine ordV_nil ?_
      have hown5 : Hid (w4.ownsRow b1 3 1 v4 (j + 1) (((cl.take (j + 1)).map (wdAt x.es g)).map (Value.int .i64))) := by show w4.ownsRow _ _ _ _ _ _; rw [HWS.out, List.map_append]; exact hown4
      have HB5 := Lib.hid ((HBR.out.trans (HDc.mono hbs)).trans hb4)
      clear hown4 hb4 ha4 HD HDc HS0 HSc HSd l0 g0 q0 ll dC g3 f2
      go_wp2_with fail
      go_roundw
      case rel => exact ⟨j + 1, v4, rfl, by go_num, by omega, hown5, HB5.out⟩
      case measure => simp [intOf]; omega
    · obtain ⟨l0, g0, q0, ll⟩ := HCE.out _ HBR.out
      obtain rfl : j = cl.length := by omega
      obtain ⟨AV, cV, hV, hcV, hcmV, hsV⟩ := own_ints (xs := cl.map (wdAt x.es g)) (by have := HOV.out; rwa [List.take_length] at this) (by simp)
      subst hV
      have HE := Lib.hid (And.intro hcV hcmV)
      have HSV := Lib.hid hsV
      clear hcV hcmV hsV
      go_wp2_with fail
      go_ret
      exact ⟨AV, cV, by simp, HSV.out, by simpa using HE.out, HBW.out.trans (HBR.out.mono (by have := HBE.out; have := HBW.out.size; omega))⟩
end Go.Proofs.Ytcimnkijpifkjaa
