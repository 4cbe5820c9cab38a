/-
  CxPl, CxBe, CxWalkG, joined. No conditions.
-/
import Derived.Test.YtfjkmgjjifhdkaaZ42
import Derived.Test.YtfjkmgjjifhdkaaZ44
import Derived.Test.YtfjkmgjjifhdkaaZ43
import Derived.Test.YtfjkmgjjifhdkaaZ27
import Derived.Test.YtfjkmgjjifhdkaaZ39
import Derived.Test.YtfjkmgjjifhdkaaZ34
/-
  The plain law of layer 20: costs of ways without pairs, after learning; the reference's way. No program in sight; no conditions.
-/
namespace Go.Proofs.Ytfjkmgjjifhdkaa
open Go Go.RowKit

theorem full_frI {x : La} (h : ∀ p, 0 ≤ p → p < x.n → ∃ e ∈ x.es, e.fr = p) : ∀ p, 0 ≤ p → p < x.n → frI x.es p x.es.length ≠ [] := fun p h0 h1 hn => by
  obtain ⟨e, he, hp⟩ := h p h0 h1
  obtain ⟨k, hk, hke⟩ := List.getElem_of_mem he
  have : k ∈ frTo x.es p x.es.length := (frTo_mem _ (Nat.le_refl _) k).2 ⟨hk, e, by rw [List.getElem?_eq_getElem hk, hke], hp⟩
  unfold frI at hn
  rw [List.map_eq_nil_iff] at hn
  rw [hn] at this
  cases this
/-- The reference's way, its numbers a literal row. -/
theorem way20_any {la : La} {g : Nat} {A9 : Option Addr} {c9 : Nat} {W : World} (hX : LB la g A9 c9 W) (hok : LaOK la) (h13 : la.es.length ≤ 13) (hfull : ∀ p, 0 ≤ p → p < la.n → ∃ e ∈ la.es, e.fr = p) {a b c : Int} (ha : 0 ≤ a ∧ a ≤ 255) (hb : 0 ≤ b ∧ b ≤ 255) (hc : 0 ≤ c ∧ c ≤ 255) :
    Calls Try.prog 10 #[.agg #[.int .i64 la.n, .slice A9 la.es.length c9], .slice (some ⟨W.heap.size, 0, none⟩) 3 3] (W.alloc (.cells #[.int .u8 a, .int .u8 b, .int .u8 c] 5)) (IsWayR la W) := by
  have hbw : Below W.heap.size W (W.alloc (.cells #[.int .u8 a, .int .u8 b, .int .u8 c] 5)) := nw _ (Below.refl _ _)
  have hs := slr_of_blk (s := 1) (R := RU8) (enc := fun x => [Value.int .u8 x]) (xs := [a, b, c]) (Blk.new W 5 #[.int .u8 a, .int .u8 b, .int .u8 c]) (fun _ => rfl) (fun _ => rfl) (by simp)
  refine (way_any la A9 c9 (some ⟨W.heap.size, 0, none⟩) [a, b, c] 3 _ (hX.below hbw).s hok (by omega) (full_frI hfull) hs (by simp) (by simp; omega)).mono ?_
  rintro e w' ⟨B, d, o, h1, h2, h3, h4, h5, h6, h7⟩
  exact ⟨B, d, o, h1, h2, h3, h4, h5, h6, bthen hbw h7⟩
end Go.Proofs.Ytfjkmgjjifhdkaa

/-
  Layer 20: the first candidates and a way that is chosen by numbers. No program in sight; no conditions.
-/
namespace Go.Proofs.Ytfjkmgjjifhdkaa
open Go Go.RowKit

/-- Whether a way is among the candidates. -/
def amongB (x : La) (m : Mo) (prev : Int) (LS : List Can) (o : List Int) : Bool := LS.any fun c => decide (labL (grL x m prev) c.links = o)
theorem among_succ {x : La} {m : Mo} {prev : Int} {LS : List Can} {o : List Int} {j : Nat} {c : Can} (h : LS[j]? = some c) : amongB x m prev (LS.take (j + 1)) o = (amongB x m prev (LS.take j) o || decide (labL (grL x m prev) c.links = o)) := by
  unfold amongB
  rw [take_snoc_of h, List.any_append]
  simp
theorem best20 {x : La} {m : Mo} {prev : Int} (hg : GrOK (grL x m prev)) (hf : LaOK x) {k : Nat} (hk : 1 ≤ k) {LS : List Can} (hL : IsList (grL x m prev) k LS) {o : List Int} (ho : WayTo x 0 o x.n) :
    LS ≠ [] ∧ (∀ c0, LS[0]? = some c0 → c0.cost ≤ wsum x m prev o) ∧ (amongB x m prev LS o = false → LS.length = k ∧ ∀ c1 ∈ LS, c1.cost ≤ wsum x m prev o) := by
  obtain ⟨w, hw, hl⟩ := lab_ex (m := m) (prev := prev) hf o 0 (0, prev) (node_first x prev) ho
  have hd : IsCan (grL x m prev) ⟨w, sumC (grL x m prev) w⟩ := ⟨hw, rfl⟩
  have hs := (way_lab hg hf w 0 (0, prev) (node_first x prev) hw).2
  rw [hl] at hs
  have hs' : sumC (grL x m prev) w = wsum x m prev o := hs
  have hlt : ∀ c1, canLt c1 ⟨w, sumC (grL x m prev) w⟩ = true → c1.cost ≤ wsum x m prev o := fun c1 h => by
    rw [canLt_iff] at h
    rw [← hs']
    simp only at h
    omega
  by_cases hm : (⟨w, sumC (grL x m prev) w⟩ : Can) ∈ LS
  · refine ⟨List.ne_nil_of_mem hm, fun c0 h0 => ?_, fun hn => ?_⟩
    · obtain ⟨j, hj, hje⟩ := List.getElem_of_mem hm
      obtain ⟨l0, e0⟩ := List.getElem?_eq_some_iff.1 h0
      rcases Nat.eq_zero_or_pos j with rfl | hj0
      · rw [e0] at hje
        rw [hje]
        exact Int.le_of_eq hs'
      · have := List.pairwise_iff_getElem.1 hL.sorted 0 j l0 hj hj0
        rw [e0, hje] at this
        exact hlt _ this
    · exfalso
      unfold amongB at hn
      rw [List.any_eq_false] at hn
      have := hn _ hm
      exact this (decide_eq_true hl)
  · obtain ⟨h1, h2⟩ := hL.rest _ hd hm
    refine ⟨fun e => ?_, fun c0 h0 => hlt _ (h2 _ (List.mem_of_getElem? h0)), fun _ => ⟨h1, fun c1 hc => hlt _ (h2 _ hc)⟩⟩
    rw [e] at h1
    simp at h1
    omega
end Go.Proofs.Ytfjkmgjjifhdkaa

/-
  The walks of layer 20: Cost of the program.
-/
namespace Go.Proofs.Ytfjkmgjjifhdkaa
open Go Go.RowKit

set_option maxRecDepth 100000 in
set_option maxHeartbeats 16000000 in
theorem ccost_any (x : La) (A : Option Addr) (c : Nat) (m : Mo) (A1 A2 A3 : Option Addr) (c1 c2 c3 : Nat) (prev : Int) (B : Option Addr) (l : List Int) (cB : Nat) (w : World) (hx : SlR 4 REd w A x.es) (hlx : x.es.length ≤ maxLen) (hm : MoR w m A1 A2 A3) (hc3 : m.ps.length ≤ c3) (hm3 : c3 ≤ maxLen) (hb : SlR 1 RInt w B l) (hl : l.length ≤ 1000) :
    Calls Try.prog 11 #[.agg #[.int .i64 x.n, .slice A x.es.length c], .agg #[.slice A1 m.ws.length c1, .slice A2 m.cs.length c2, .slice A3 m.ps.length c3, .int .i64 m.back], .int .i64 prev, .slice B l.length cB] w fun e w' => e = .returned (.tuple #[.int .i64 (cx_costM x m prev l).1, .bool (cx_costM x m prev l).2]) ∧ Below w.heap.size w w' := by
  obtain ⟨w2, hw2⟩ : ∃ w2, (w.alloc (.cells #[.int .i64 x.n, .slice A x.es.length c] 38)).alloc (.cells #[.slice A1 m.ws.length c1, .slice A2 m.cs.length c2, .slice A3 m.ps.length c3, .int .i64 m.back] 34) = w2 := ⟨_, rfl⟩
  have hb2 : Below w.heap.size w w2 := by rw [← hw2]; exact nw _ (nw _ (Below.refl _ _))
  have hLB : Blk w2 w.heap.size 38 #[.int .i64 x.n, .slice A x.es.length c] := by rw [← hw2]; exact (Blk.new _ _ _).alloc _
  have hMB : Blk w2 (w.heap.size + 1) 34 #[.slice A1 m.ws.length c1, .slice A2 m.cs.length c2, .slice A3 m.ps.length c3, .int .i64 m.back] := by rw [← hw2]; exact Blk.new_ (by simp)
  have HW2 := Lib.hid hw2
  have HBX : Hid (∀ W, Below w2.heap.size w2 W → (W.cell? ⟨w.heap.size, 0, none⟩ = some (.int .i64 x.n) ∧ W.cell? ⟨w.heap.size, 1, none⟩ = some (.slice A x.es.length c)) ∧ (W.cell? ⟨w.heap.size + 1, 0, none⟩ = some (.slice A1 m.ws.length c1) ∧ W.cell? ⟨w.heap.size + 1, 1, none⟩ = some (.slice A2 m.cs.length c2) ∧ W.cell? ⟨w.heap.size + 1, 2, none⟩ = some (.slice A3 m.ps.length c3) ∧ W.cell? ⟨w.heap.size + 1, 3, none⟩ = some (.int .i64 m.back)) ∧ w.heap.size < W.heap.size ∧ w.heap.size + 1 < W.heap.size) := fun W hW => by
    have e1 := hLB.below hW hLB.lt
    have e2 := hMB.below hW hMB.lt
    exact ⟨⟨by rw [e1.cell]; rfl, by rw [e1.cell]; rfl⟩, ⟨by rw [e2.cell]; rfl, by rw [e2.cell]; rfl, by rw [e2.cell]; rfl, by rw [e2.cell]; rfl⟩, e1.lt, e2.lt⟩
  have HB2 := Lib.hid hb2
  clear hw2 hLB hMB hb2
  have hl1 := hm.l1
  have HCV : Hid (∀ W, Below w2.heap.size w2 W → Calls Try.prog 31 #[.agg #[.slice A1 m.ws.length c1, .slice A2 m.cs.length c2, .slice A3 m.ps.length c3, .int .i64 m.back]] W fun e w' => e = .returned (.bool (decide (MoOK m))) ∧ Below W.heap.size W w') := fun W hW => co_valid_any m A1 A2 A3 c1 c2 c3 W (hm.below (bthen HB2.out hW))
  have HFT : Hid (∀ W, Below w2.heap.size w2 W → Calls Try.prog 32 #[.agg #[.int .i64 x.n, .slice A x.es.length c], .agg #[.slice A1 m.ws.length c1, .slice A2 m.cs.length c2, .slice A3 m.ps.length c3, .int .i64 m.back], .int .i64 prev] W fun e w' => e = .returned (.bool (decide ((-1 ≤ prev ∧ prev < (m.ws.length : Int)) ∧ FitsL x m.ws.length))) ∧ Below W.heap.size W w') := fun W hW => fits_any x A c m A1 A2 A3 c1 c2 c3 prev W (hx.below keeps_ed (bthen HB2.out hW)) hlx hl1
  have HX2 : Hid (∀ W, Below w2.heap.size w2 W → SlR 4 REd W A x.es) := fun W hW => hx.below keeps_ed (bthen HB2.out hW)
  have HBL : Hid (∀ W, Below w2.heap.size w2 W → SlR 1 RInt W B l) := fun W hW => hb.below keeps_int (bthen HB2.out hW)
  have h22 := Below.refl w2.heap.size w2
  unfold maxLen at hlx
  by_cases hmo : ¬ MoOK m
  · have HR : Hid (cx_costM x m prev l = (0, false)) := cx_costM_no fun h => hmo h.1
    rw [decide_eq_false hmo] at HCV
    obtain ⟨⟨l0, l1⟩, ⟨m0, m1, m2, m3⟩, ll, ml⟩ := HBX.out _ h22
    clear hmo
    go_enter Try.func11, Try.ntmps11
    go_upto_region 1 with fail
    rw [HW2.out]
    go_wp2_with (go_at_call 31; go_loud (refine (HCV.out _ h22).mono ?_; rintro e w3 ⟨rfl, hb3⟩))
    go_ret2
    exact ⟨by rw [HR.out]; rfl, bthen HB2.out hb3⟩
  have hmo := Decidable.not_not.1 hmo
  rw [decide_eq_true hmo] at HCV
  by_cases hft : ¬ ((-1 ≤ prev ∧ prev < (m.ws.length : Int)) ∧ FitsL x m.ws.length)
  · have HR : Hid (cx_costM x m prev l = (0, false)) := cx_costM_no fun h => hft h.2
    rw [decide_eq_false hft] at HFT
    obtain ⟨⟨l0, l1⟩, ⟨m0, m1, m2, m3⟩, ll, ml⟩ := HBX.out _ h22
    clear hmo hft
    go_enter Try.func11, Try.ntmps11
    go_upto_region 1 with fail
    rw [HW2.out]
    go_wp2_with (first | (go_at_call 31; go_loud (refine (HCV.out _ h22).mono ?_; rintro e w3 ⟨rfl, hb3⟩; clear l0 l1 m0 m1 m2 m3 ll ml; obtain ⟨⟨l0, l1⟩, ⟨m0, m1, m2, m3⟩, ll, ml⟩ := HBX.out _ hb3)) | (go_at_call 32; go_loud (refine (HFT.out _ hb3).mono ?_; rintro e w4 ⟨rfl, hb4⟩)))
    go_ret2
    exact ⟨by rw [HR.out]; rfl, bthen HB2.out (bthen hb3 hb4)⟩
  have hft := Decidable.not_not.1 hft
  rw [decide_eq_true hft] at HFT
  have HALL : Hid (FitsAll x m prev) := ⟨hmo, hft⟩
  have HPRA : Hid (∀ W (a : Int) (k : Nat), Below w2.heap.size w2 W → a < 65536 → k < m.cs.length → Calls Try.prog 33 #[.agg #[.slice A1 m.ws.length c1, .slice A2 m.cs.length c2, .slice A3 m.ps.length c3, .int .i64 m.back], .int .i64 a, .int .i64 (k : Int)] W fun e w' => e = .returned (.int .i64 (pcost m a k)) ∧ Below W.heap.size W w') := fun W a k hW ha hk => pair_any m A1 A2 A3 c1 c2 c3 a k W (hm.below (bthen HB2.out hW)) hmo hk ha hc3 hm3
  obtain ⟨⟨l0, l1⟩, ⟨m0, m1, m2, m3⟩, ll, ml⟩ := HBX.out _ h22
  have hnw : m.ws.length ≤ 200 := hmo.1.1.1.1.2
  clear hmo hft hm hx hb
  go_enter Try.func11, Try.ntmps11
  go_upto_region 1 with fail
  rw [HW2.out]
  go_wp2_with (first | (go_at_call 31; go_loud (refine (HCV.out _ h22).mono ?_; rintro e w3 ⟨rfl, hb3⟩; clear l0 l1 m0 m1 m2 m3 ll ml; obtain ⟨⟨l0, l1⟩, ⟨m0, m1, m2, m3⟩, ll, ml⟩ := HBX.out _ hb3)) | (go_at_call 32; go_loud (refine (HFT.out _ hb3).mono ?_; rintro e w4 ⟨rfl, hb4⟩)))
  have hb24 := bthen hb3 hb4
  clear l0 l1 m0 m1 m2 m3 ll ml
  go_loopw [2, 10, 11, 27] (fun p a s i wr => ∃ (j : Nat) (st : CSt), j ≤ l.length ∧ p = .int .i64 st.pv ∧ a = .int .i64 st.pl ∧ s = .int .i64 st.sum ∧ i = .int .i64 j ∧ Hid (costTo x m prev l j = some st) ∧ Below w2.heap.size w2 wr) (fun _ _ _ i _ => l.length - (intOf i).toNat)
  case atStart => exact ⟨0, ⟨0, prev, 0⟩, by omega, rfl, rfl, rfl, rfl, rfl, hb24⟩
  case round =>
    obtain ⟨j, st, hj, rfl, rfl, rfl, rfl, HS, hbr⟩ := hrel
    obtain ⟨⟨hp0, hp1⟩, ⟨hv0, hv1⟩, hs0, hs1⟩ := costTo_bd HALL.out j st HS.out
    obtain ⟨⟨l0, l1⟩, ⟨m0, m1, m2, m3⟩, ll, ml⟩ := HBX.out _ hbr
    by_cases hlt : j < l.length
    · obtain ⟨bB, oB, k, rfl, hbB, hkk, dB⟩ := (HBL.out _ hbr).int hlt
      have HNX := Lib.hid (costTo_succ hkk HS.out)
      have hjl := hlt
      have HBr := Lib.hid hbr
      clear hkk
      by_cases hk0 : k < 0
      · have HR : Hid (cx_costM x m prev l = (0, false)) := cx_costM_none hjl (by rw [HNX.out]; exact stepC_neg hk0)
        go_wp2_with fail
        go_ret2
        exact ⟨by rw [HR.out]; rfl, bthen HB2.out HBr.out⟩
      by_cases hk1 : (x.es.length : Int) ≤ k
      · have HR : Hid (cx_costM x m prev l = (0, false)) := cx_costM_none hjl (by rw [HNX.out]; exact stepC_big hk1)
        go_wp2_with fail
        go_ret2
        exact ⟨by rw [HR.out]; rfl, bthen HB2.out HBr.out⟩
      obtain ⟨kk, hkn⟩ : ∃ kk : Nat, k = (kk : Int) := ⟨k.toNat, by omega⟩
      subst hkn
      have hkl : kk < x.es.length := by omega
      obtain ⟨b, off, e, rfl, hbb, hee, d0, d1, d2, d3⟩ := (HX2.out _ hbr).ed hkl
      rw [stepC_at hee] at HNX
      have hem := List.mem_of_getElem? hee
      have hok := HALL.out.2.2.1.2.2.1 e hem
      have hwd := HALL.out.2.2.2 e hem
      have hk2 : (kk : Int) < (x.es.length : Int) := by omega
      have hk3 : (0 : Int) ≤ (kk : Int) := by omega
      clear hk0 hk1 hee hem
      by_cases hfn : ¬ e.fr = st.pl
      · have hfr := hfn
        have z1 : (e.fr != st.pl) = true := by simpa using hfr
        have HR : Hid (cx_costM x m prev l = (0, false)) := cx_costM_none hjl (by rw [HNX.out]; exact if_neg hfr)
        clear hfr hfn
        go_wp2_with fail
        go_ret2
        exact ⟨by rw [HR.out]; rfl, bthen HB2.out HBr.out⟩
      have hfr := Decidable.not_not.1 hfn
      clear hfn
      have z1 : (e.fr != st.pl) = false := by simpa using hfr
      rw [if_pos hfr] at HNX
      obtain ⟨wn, hwn⟩ : ∃ wn : Nat, e.wd = (wn : Int) := ⟨e.wd.toNat, by have := hok.2.1; omega⟩
      have hwnl : wn < m.cs.length := by have hcs : m.cs.length = m.ws.length := HALL.out.1.1.1.2.1; omega
      have hpc := pcost_in HALL.out.1 st.pv hwnl
      have HPR : Hid (∀ W, Below w2.heap.size w2 W → Calls Try.prog 33 #[.agg #[.slice A1 m.ws.length c1, .slice A2 m.cs.length c2, .slice A3 m.ps.length c3, .int .i64 m.back], .int .i64 st.pv, .int .i64 (wn : Int)] W fun e w' => e = .returned (.int .i64 (pcost m st.pv wn)) ∧ Below W.heap.size W w') := fun W hW => HPRA.out W st.pv wn hW (by omega) hwnl
      have hco := hok.2.2
      obtain ⟨ef, et, ew, ec⟩ := e
      simp only at hwn d0 d1 d2 d3 hco HNX z1 hfr
      subst hwn
      subst hfr
      rw [show ((wn : Int)).toNat = wn from Int.toNat_natCast wn] at HNX
      generalize pcost m st.pv wn = pc at *
      have hw1 : IntKind.i64.wrap (ec + pc) = ec + pc := IntWalk.i64_in _ (by omega)
      have hw2 : IntKind.i64.wrap (st.sum + (ec + pc)) = st.sum + (ec + pc) := IntWalk.i64_in _ (by omega)
      clear hok hwd hbr
      go_upto_region 10 with fail
      obtain ⟨W5, hW5⟩ : ∃ W, wr.alloc (.cells #[.int .i64 st.pl, .int .i64 et, .int .i64 (wn : Int), .int .i64 ec] 64) = W := ⟨_, rfl⟩
      have hbE : Below wr.heap.size wr W5 := by rw [← hW5]; exact nw _ (Below.refl _ _)
      have hEb : Blk W5 wr.heap.size 64 #[.int .i64 st.pl, .int .i64 et, .int .i64 (wn : Int), .int .i64 ec] := by rw [← hW5]; exact Blk.new _ _ _
      rw [hW5]
      have HB5 := Lib.hid (bthen HBr.out hbE)
      have HEB := Lib.hid hEb
      clear l0 l1 m0 m1 m2 m3 ll ml
      obtain ⟨⟨l0, l1⟩, ⟨m0, m1, m2, m3⟩, ll, ml⟩ := HBX.out _ HB5.out
      have e0 := hEb.cell 0
      have e1 := hEb.cell 1
      have e2 := hEb.cell 2
      have e3 := hEb.cell 3
      have el := hEb.lt
      simp at e0 e1 e2 e3
      obtain ⟨tE, htE⟩ : ∃ b, wr.heap.size = b := ⟨_, rfl⟩
      rw [htE] at HEB hEb e0 e1 e2 e3 el ⊢
      clear hW5 hbE hEb htE d0 d1 d2 d3 hbb dB hbB
      refine ordB_below (.quiet 0 (.quiet 1 (.quiet 2 (.quiet 3 (.quiet 4 (.quiet 5 (.quiet 6 (.only 7 (.quiet 8 (.quiet 9 (.quiet 10 .done))))))))))) (by kernel_rfl) (by kernel_rfl) (by kernel_rfl) (fun _ _ _ _ _ h => h) ?_
      intro V0 hV0
      iterate 7 (first
        | (refine ordB_skip rfl rfl ?_; simp only [Act.put, List.setIfInBounds_toArray, List.set_cons_zero, List.set_cons_succ])
        | (refine ordB_take (v := ?_) rfl rfl ?_ ?_
           rotate_left 1
           focus (intro W hW; obtain ⟨hcW, hfW⟩ := bcell hW; (go_simp <;> with_reducible rfl))
           simp only [Act.put, List.setIfInBounds_toArray, List.set_cons_zero, List.set_cons_succ]))
      refine ordB_only (opB_call rfl rfl (fun K hK => ?_))
      go_simp
      go_at_call 33
      refine (HPR.out V0 (HB5.out.trans (hV0.mono HB5.out.size))).mono ?_
      rintro e V0_1 ⟨rfl, hx9⟩
      refine hK.out _ _ (hV0.trans (hx9.mono hV0.size)) (fun hV0_1 => ?_)
      iterate 3 (first
        | (refine ordB_skip rfl rfl ?_; simp only [Act.put, List.setIfInBounds_toArray, List.set_cons_zero, List.set_cons_succ])
        | (refine ordB_take (v := ?_) rfl rfl ?_ ?_
           rotate_left 1
           focus (intro W hW; obtain ⟨hcW, hfW⟩ := bcell hW; (go_simp <;> with_reducible rfl))
           simp only [Act.put, List.setIfInBounds_toArray, List.set_cons_zero, List.set_cons_succ]))
      refine ordB_nil ?_
      have HB6 := Lib.hid (HB5.out.trans (hV0_1.mono HB5.out.size))
      have hE6 := HEB.out.below hV0_1 HEB.out.lt
      obtain ⟨W6, hW6⟩ : ∃ V, V0_1 = V := ⟨_, rfl⟩
      rw [hW6] at HB6 hE6 ⊢
      have y1 := hE6.cell 1
      have y2 := hE6.cell 2
      have yl := hE6.lt
      simp at y1 y2
      clear e0 e1 e2 e3 el l0 l1 m0 m1 m2 m3 ll ml
      go_upto_region 11 with fail
      refine ordB_below (.quiet 0 (.quiet 1 (.quiet 2 (.quiet 3 (.quiet 4 (.quiet 5 .done)))))) (by kernel_rfl) (by kernel_rfl) (by kernel_rfl) (fun _ _ _ _ _ h => h) ?_
      intro U0 hU0
      iterate 6 (first
        | (refine ordB_skip rfl rfl ?_; simp only [Act.put, List.setIfInBounds_toArray, List.set_cons_zero, List.set_cons_succ])
        | (refine ordB_take (v := ?_) rfl rfl ?_ ?_
           rotate_left 1
           focus (intro W hW; obtain ⟨hcW, hfW⟩ := bcell hW; (go_simp <;> with_reducible rfl))
           simp only [Act.put, List.setIfInBounds_toArray, List.set_cons_zero, List.set_cons_succ]))
      refine ordB_nil ?_
      have HBE := Lib.hid (HB6.out.trans (hU0.mono HB6.out.size))
      go_wp2_with fail
      go_roundw
      case rel => exact ⟨j + 1, ⟨et, (wn : Int), st.sum + (ec + pc)⟩, by omega, rfl, rfl, rfl, by go_num, HNX.out, HBE.out⟩
      case measure => simp [intOf]; omega
    · obtain rfl : j = l.length := by omega
      have HE := Lib.hid (cx_costM_end HALL.out HS.out)
      have HBr := Lib.hid hbr
      by_cases ha : st.pl = x.n
      · have z1 : (st.pl != x.n) = false := by simpa using ha
        have HR : Hid (cx_costM x m prev l = (st.sum, true)) := HE.out.trans (if_pos ha)
        clear ha
        go_wp2_with fail
        go_ret2
        exact ⟨by rw [HR.out]; rfl, bthen HB2.out HBr.out⟩
      · have z1 : (st.pl != x.n) = true := by simpa using ha
        have HR : Hid (cx_costM x m prev l = (0, false)) := HE.out.trans (if_neg ha)
        clear ha
        go_wp2_with fail
        go_ret2
        exact ⟨by rw [HR.out]; rfl, bthen HB2.out HBr.out⟩
end Go.Proofs.Ytfjkmgjjifhdkaa
