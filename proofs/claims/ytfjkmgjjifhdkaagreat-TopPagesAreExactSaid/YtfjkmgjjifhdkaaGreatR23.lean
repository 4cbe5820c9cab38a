/-
  The walks of layer 16: the first candidate that is not among some.
-/
import Derived.Test.YtfjkmgjjifhdkaaGreatR22
import Derived.Test.YtfjkmgjjifhdkaaGreatR07
import Derived.Test.YtfjkmgjjifhdkaaGreatR06
import Derived.Test.YtfjkmgjjifhdkaaGreatR11
import Derived.Laws.EntriesVeiled
namespace Go.Proofs.YtfjkmgjjifhdkaaGreat
open Go Go.RowKit

/-- Numbers lie still where their block does. -/
theorem slr_blocks {w w' : World} {A : Option Addr} {xs : List Int} (h : SlR 1 RInt w A xs) (hb : ∀ b, b < w.heap.size → w'.heap[b]? = w.heap[b]?) (hs : w.heap.size ≤ w'.heap.size) : SlR 1 RInt w' A xs := fun hne => by
  obtain ⟨b, o, hA, hlt, hc⟩ := h hne
  refine ⟨b, o, hA, Nat.lt_of_lt_of_le hlt hs, fun k x hk => ?_⟩
  obtain ⟨vs, hr, hl, hv⟩ := hc k x hk
  exact ⟨vs, hr, hl, fun j v hj => (World.cell?_of_block (hb b hlt)).trans (hv j v hj)⟩
theorem slr_far {w : World} {A : Option Addr} {xs : List Int} (h : SlR 1 RInt w A xs) {p : Addr} (hp : ∀ b o, A = some ⟨b, o, none⟩ → b ≠ p.block) (u : Value) : SlR 1 RInt (w.setCell p u) A xs := fun hne => by
  obtain ⟨b, o, hA, hlt, hc⟩ := h hne
  refine ⟨b, o, hA, by simpa using hlt, fun k x hk => ?_⟩
  obtain ⟨vs, hr, hl, hv⟩ := hc k x hk
  exact ⟨vs, hr, hl, fun j v hj => (World.cell?_of_block (Below.heap_setCell w p u b (hp b o hA))).trans (hv j v hj)⟩
theorem choose_ {α : Type} {p : Nat → α → Prop} : ∀ (n : Nat), (∀ i, i < n → ∃ x, p i x) → ∃ xs : List α, xs.length = n ∧ ∀ i x, xs[i]? = some x → p i x
  | 0, _ => ⟨[], rfl, fun i x h => by simp at h⟩
  | n + 1, h => by
    obtain ⟨xs, hl, hp⟩ := choose_ n (fun i hi => h i (by omega))
    obtain ⟨x, hx⟩ := h n (by omega)
    refine ⟨xs ++ [x], by simp [hl], fun i y hy => ?_⟩
    rcases Nat.lt_or_ge i n with hi | hi
    · rw [List.getElem?_append_left (by omega)] at hy; exact hp i y hy
    · obtain ⟨hlt, _⟩ := List.getElem?_eq_some_iff.1 hy
      have : i = n := by simp [hl] at hlt; omega
      subst this
      rw [List.getElem?_append_right (by omega), hl] at hy
      simp at hy
      subst hy
      exact hx
/-- The slices of candidates, as they lie in memory. -/
theorem can_slices {w : World} {b o : Nat} {l : List Can} (h : SlR 2 RCan w (some ⟨b, o, none⟩) l) : ∃ L : List SlE, L.length = l.length ∧ L.map (·.xs) = l.map (·.links) ∧
    ∀ (k : Nat) (s : SlE), L[k]? = some s → w.cell? ⟨b, o + k * 2, none⟩ = some (encSl s) ∧ (∃ x, l[k]? = some x ∧ s.xs = x.links ∧ w.cell? ⟨b, o + k * 2 + 1, none⟩ = some (.int .i64 x.cost)) ∧ SlR 1 RInt w s.A s.xs ∧ s.xs.length ≤ s.c ∧ s.c ≤ maxLen := by
  obtain ⟨L, hL, hp⟩ := choose_ (p := fun (k : Nat) (s : SlE) => w.cell? ⟨b, o + k * 2, none⟩ = some (encSl s) ∧ (∃ x, l[k]? = some x ∧ s.xs = x.links ∧ w.cell? ⟨b, o + k * 2 + 1, none⟩ = some (.int .i64 x.cost)) ∧ SlR 1 RInt w s.A s.xs ∧ s.xs.length ≤ s.c ∧ s.c ≤ maxLen) l.length fun k hk => by
    obtain ⟨b', o', x, A', c, hA, _, hx, h0, h1, hs, hc, hm⟩ := h.can hk
    obtain ⟨rfl, rfl⟩ : b = b' ∧ o = o' := by injection hA with hA; injection hA with h1 h2; exact ⟨h1, h2⟩
    exact ⟨⟨A', c, x.links⟩, h0, ⟨x, hx, rfl, h1⟩, hs, hc, hm⟩
  refine ⟨L, hL, ?_, hp⟩
  apply List.ext_getElem?
  intro k
  rw [List.getElem?_map, List.getElem?_map]
  cases hk : L[k]? with
  | none =>
    rw [List.getElem?_eq_none_iff] at hk
    rw [List.getElem?_eq_none (by omega)]
    rfl
  | some s =>
    obtain ⟨_, ⟨x, hx, he, _⟩, _⟩ := hp k s hk
    rw [hx]
    simp [he]
def waysC (L : List SlE) (k : Nat) : List Value := (L.take k).map encSl ++ List.replicate (L.length - k) (.slice none 0 0)
theorem waysC_zero (L : List SlE) : waysC L 0 = List.replicate L.length (.slice none 0 0) := by simp [waysC]
theorem waysC_all (L : List SlE) : waysC L L.length = L.map encSl := by simp [waysC]
theorem waysC_at {L : List SlE} {k : Nat} (hk : k < L.length) : (waysC L k)[k]? = some (.slice none 0 0) := by
  unfold waysC
  rw [List.getElem?_append_right (by rw [List.length_map, List.length_take]; omega), List.getElem?_replicate, List.length_map, List.length_take, if_pos (by omega)]
theorem waysC_step {L : List SlE} {k : Nat} {s : SlE} (hs : L[k]? = some s) : waysC L (k + 1) = (waysC L k).set k (encSl s) := by
  obtain ⟨hk, rfl⟩ := List.getElem?_eq_some_iff.1 hs
  unfold waysC
  rw [List.set_append_right _ _ (by rw [List.length_map, List.length_take]; omega)]
  rw [show k - ((L.take k).map encSl).length = 0 by rw [List.length_map, List.length_take]; omega]
  obtain ⟨m, hm⟩ : ∃ m, L.length - k = m + 1 := ⟨L.length - k - 1, by omega⟩
  rw [hm, List.replicate_succ, List.set_cons_zero, take_succ_of hs, List.map_append, show L.length - (k + 1) = m by omega, List.append_assoc]
  rfl
/-- What is handed back for the other way. -/
def IsOth (o : Oth) (w : World) (e : Ending) (w' : World) : Prop := ∃ A' c', e = .returned (.agg #[.bool o.there, .int .i64 o.cost, .slice A' o.links.length c']) ∧ SlR 1 RInt w' A' o.links ∧ o.links.length ≤ 2000 ∧ Below w.heap.size w w' ∧ ∀ b o, A' = some ⟨b, o, none⟩ → w.heap.size ≤ b
set_option maxRecDepth 100000 in
set_option maxHeartbeats 16000000 in
theorem least_any (A : Option Addr) (c : Nat) (g : Gr) (B : Option Addr) (d : Nat) (C : Option Addr) (l : List Can) (e : Nat) (w : World) (hx : SlR 4 RLk w A g.ls) (hl : g.ls.length ≤ maxLen) (hg : GrOK g) (hh : SlR 1 RInt w B (potL g)) (hy : SlR 2 RCan w C l) (hl2 : l.length ≤ 1000000) (hcan : ∀ x ∈ l, IsCan g x) :
    Calls Tryz.prog 57 #[.agg #[.int .i64 g.n, .slice A g.ls.length c], .slice B (potL g).length d, .slice C l.length e] w (IsOth (leastM g l) w) := by
  obtain ⟨i1, hi1, hy0, hy1, hy2⟩ := info_parts ints_info
  have hl0 := hl
  unfold maxLen at hl
  obtain ⟨hn1, hn2⟩ := hg.n
  obtain ⟨N, hN⟩ : ∃ N : Nat, g.n = (N : Int) := ⟨g.n.toNat, by omega⟩
  have hpl : (potL g).length = N := by unfold potL; rw [potS_len, hN, Int.toNat_natCast]
  rw [hpl, hN]
  have HN := Lib.hid hN
  obtain ⟨w3, hw3⟩ : ∃ w3, ((w.alloc (.cells #[.int .i64 (N : Int), .slice A g.ls.length c] 38)).alloc (.cells #[.slice B N d] 40)).alloc (.cells #[.bool false, .int .i64 0, .slice none 0 0] 131) = w3 := ⟨_, rfl⟩
  have hb3 : Below w.heap.size w w3 := by rw [← hw3]; exact nw _ (nw _ (nw _ (Below.refl _ _)))
  have hG : Blk w3 w.heap.size 38 #[.int .i64 (N : Int), .slice A g.ls.length c] := by rw [← hw3]; exact ((Blk.new _ _ _).alloc _).alloc _
  have hHb : Blk w3 (w.heap.size + 1) 40 #[.slice B N d] := by rw [← hw3]; exact (Blk.new_ (by simp)).alloc _
  have hRb : Blk w3 (w.heap.size + 1 + 1) 131 #[.bool false, .int .i64 0, .slice none 0 0] := by rw [← hw3]; exact Blk.new_ (by simp)
  have HW3 := Lib.hid hw3
  clear hw3
  have h0pos : 0 < N := by omega
  obtain ⟨bh, oh, hx0, rfl, hbh, hhx, hhc⟩ := hh.int (k := 0) (by omega)
  have hhx' : (potL g)[0]? = some (hAt g 0) := hAt_get hg (v := 0) (by omega)
  rw [hhx'] at hhx
  obtain rfl := Option.some.inj hhx
  have hh3 := (hb3.cell (p := ⟨bh, oh + 0, none⟩) hbh).trans hhc
  rw [Nat.add_zero] at hh3
  clear hN
  go_enter Tryz.func57, Tryz.ntmps57
  go_upto_region 1 with fail
  rw [HW3.out]
  obtain ⟨bH, hbHe⟩ : ∃ b, w.heap.size + 1 = b := ⟨_, rfl⟩
  rw [hbHe] at hHb hRb ⊢
  obtain ⟨bR, hbRe⟩ : ∃ b, bH + 1 = b := ⟨_, rfl⟩
  rw [hbRe] at hRb ⊢
  have hltH : w.heap.size < bH := by omega
  have hltR : bH < bR := by omega
  have hRl := hRb.lt
  have hHl := hHb.lt
  have hGl := hG.lt
  have r0 := hRb.cell 0
  have r1 := hRb.cell 1
  have r2 := hRb.cell 2
  have rf0 := hRb.frozen 0
  have rf1 := hRb.frozen 1
  have rf2 := hRb.frozen 2
  have k0 := hHb.cell 0
  simp at r0 r1 r2 k0
  have HHX := Lib.hid hhx'
  clear hbHe hbRe hhx' hhc
  by_cases hle : l = []
  · have HLM : Hid (leastM g l = ⟨decide (0 ≤ hAt g 0), max (hAt g 0) 0, []⟩) := by show _ = _; unfold leastM; rw [if_pos hle]
    have hll : (l.length == 0) = true := by rw [hle]; rfl
    have hnHR : bH ≠ bR := by omega
    have hbhR : bh ≠ bR := by omega
    have hbh3 : bh < w3.heap.size := by omega
    have h0N : (0 : Int) < (N : Int) := by omega
    subst hle
    clear HHX hpl
    generalize hAt g 0 = h0 at *
    by_cases hneg : h0 < 0
    · have HMX : Hid (max h0 0 = 0) := by show _ = _; omega
      have hge0 : decide (0 ≤ h0) = false := decide_eq_false (by omega)
      go_upto_region 2 with fail
      refine ordB_start (ButB bR w3) (.quiet 0 (.quiet 1 (.quiet 2 (.quiet 3 (.quiet 4 (.quiet 5 (.quiet 6 (.quiet 7 (.quiet 8 (.only 9 .done)))))))))) (by kernel_rfl) (by kernel_rfl) (by kernel_rfl) (fun _ _ _ _ _ h => h) (ButB.of_below (Below.refl _ _).drew) ?_
      have hB0 : Below w3.heap.size w3 w3.drew := (Below.refl _ _).drew
      obtain ⟨V0, hV0⟩ : ∃ V, w3.drew = V := ⟨_, rfl⟩
      rw [hV0] at hB0 ⊢
      clear hV0
      have r0 := (hB0.cell (p := ⟨bR, 0, none⟩) hRl).trans r0
      have r1 := (hB0.cell (p := ⟨bR, 1, none⟩) hRl).trans r1
      have r2 := (hB0.cell (p := ⟨bR, 2, none⟩) hRl).trans r2
      have rf0 := (hB0.frozen (p := ⟨bR, 0, none⟩) hRl).trans rf0
      have rf1 := (hB0.frozen (p := ⟨bR, 1, none⟩) hRl).trans rf1
      have rf2 := (hB0.frozen (p := ⟨bR, 2, none⟩) hRl).trans rf2
      iterate 9 (refine ordB_take (v := ?_) rfl rfl ?_ ?_; rotate_left 1; (focus (intro W hW; have hcW := hW.cell; (go_simp <;> with_reducible rfl))); simp only [Act.put, List.setIfInBounds_toArray, List.set_cons_zero, List.set_cons_succ])
      refine ordB_only (opB_call rfl rfl (fun K hK => ?_))
      go_simp
      refine hK.out _ _ ((((ButB.of_below hB0).set_ 0 _).set_ 1 _).set_ 2 _) (fun _ => ?_)
      refine ordB_nil ?_
      go_wp2_with fail
      (try rw [HMX.out])
      refine ret_cell (t := 131) (cs := #[.bool false, .int .i64 0, .slice none 0 0]) (by have := (((hRb.below hB0 hRl).set_ 0 (.bool false)).set_ 1 (.int .i64 0)).set_ 2 (.slice none 0 0); simpa using this) rfl rfl Tryz.underlying131 rfl (by kernel_rfl) rfl ?_
      exact ⟨none, 0, by rw [HLM.out, HMX.out, hge0]; rfl, by rw [HLM.out]; exact SlR.nil, by rw [HLM.out]; exact Nat.zero_le _, (((hb3.trans (hB0.mono hb3.size)).setCell (p := ⟨bR, 0, none⟩) (by show w.heap.size ≤ bR; omega) _).setCell (p := ⟨bR, 1, none⟩) (by show w.heap.size ≤ bR; omega) _).setCell (p := ⟨bR, 2, none⟩) (by show w.heap.size ≤ bR; omega) _, fun b o h => by cases h⟩
    · have HMX : Hid (max h0 0 = h0) := by show _ = _; omega
      have hge0 : decide (0 ≤ h0) = true := decide_eq_true (by omega)
      go_upto_region 2 with fail
      refine ordB_start (ButB bR w3) (.quiet 0 (.quiet 1 (.quiet 2 (.quiet 3 (.quiet 4 (.quiet 5 (.quiet 6 (.quiet 7 (.quiet 8 (.only 9 .done)))))))))) (by kernel_rfl) (by kernel_rfl) (by kernel_rfl) (fun _ _ _ _ _ h => h) (ButB.of_below (Below.refl _ _).drew) ?_
      have hB0 : Below w3.heap.size w3 w3.drew := (Below.refl _ _).drew
      obtain ⟨V0, hV0⟩ : ∃ V, w3.drew = V := ⟨_, rfl⟩
      rw [hV0] at hB0 ⊢
      clear hV0
      have r0 := (hB0.cell (p := ⟨bR, 0, none⟩) hRl).trans r0
      have r1 := (hB0.cell (p := ⟨bR, 1, none⟩) hRl).trans r1
      have r2 := (hB0.cell (p := ⟨bR, 2, none⟩) hRl).trans r2
      have rf0 := (hB0.frozen (p := ⟨bR, 0, none⟩) hRl).trans rf0
      have rf1 := (hB0.frozen (p := ⟨bR, 1, none⟩) hRl).trans rf1
      have rf2 := (hB0.frozen (p := ⟨bR, 2, none⟩) hRl).trans rf2
      iterate 9 (refine ordB_take (v := ?_) rfl rfl ?_ ?_; rotate_left 1; (focus (intro W hW; have hcW := hW.cell; (go_simp <;> with_reducible rfl))); simp only [Act.put, List.setIfInBounds_toArray, List.set_cons_zero, List.set_cons_succ])
      refine ordB_only (opB_call rfl rfl (fun K hK => ?_))
      go_simp
      refine hK.out _ _ ((((ButB.of_below hB0).set_ 0 _).set_ 1 _).set_ 2 _) (fun _ => ?_)
      refine ordB_nil ?_
      go_wp2_with fail
      (try rw [HMX.out])
      refine ret_cell (t := 131) (cs := #[.bool true, .int .i64 h0, .slice none 0 0]) (by have := (((hRb.below hB0 hRl).set_ 0 (.bool true)).set_ 1 (.int .i64 h0)).set_ 2 (.slice none 0 0); simpa using this) rfl rfl Tryz.underlying131 rfl (by kernel_rfl) rfl ?_
      exact ⟨none, 0, by rw [HLM.out, HMX.out, hge0]; rfl, by rw [HLM.out]; exact SlR.nil, by rw [HLM.out]; exact Nat.zero_le _, (((hb3.trans (hB0.mono hb3.size)).setCell (p := ⟨bR, 0, none⟩) (by show w.heap.size ≤ bR; omega) _).setCell (p := ⟨bR, 1, none⟩) (by show w.heap.size ≤ bR; omega) _).setCell (p := ⟨bR, 2, none⟩) (by show w.heap.size ≤ bR; omega) _, fun b o h => by cases h⟩
  · have HLM : Hid (leastM g l = visitM g g.n.toNat ⟨false, 0, []⟩ (sortW (l.map (·.links))) 0 0 0) := by show _ = _; unfold leastM; rw [if_neg hle]
    have hlpos : 0 < l.length := List.length_pos_iff.2 hle
    have hll : (l.length == 0) = false := by simp; omega
    have HHS := Lib.hid hh
    have HCN := Lib.hid hcan
    obtain ⟨bc, oc, hC, hbc, _⟩ := hy hle
    subst hC
    obtain ⟨L, hLl, hLm, hLs⟩ := can_slices hy
    have HLm := Lib.hid hLm
    have HLs := Lib.hid hLs
    clear hLm hLs hh hcan HHX r0 r1 r2 rf0 rf1 rf2 hh3
    have HX := Lib.hid hx
    have HY := Lib.hid hy
    clear hx hy
    go_upto_region 3 with fail
    go_upto_region 4 with (at_make; go_loud (refine wpList_mk _ rfl _ _ 91 rfl 40 i1 (.slice none 0 0) (.slice none 0 0) Tryz.underlying91 hi1 hy0 hy1 (by omega) rfl l.length rfl rfl (by omega) ?_))
    obtain ⟨W4, hW4⟩ : ∃ W, w3.alloc (.cells (Array.replicate l.length (Value.slice none 0 0)) 40) = W := ⟨_, rfl⟩
    have hb4 : Below w3.heap.size w3 W4 := by rw [← hW4]; exact nw _ (Below.refl _ _)
    have hF4 : Blk W4 w3.heap.size 40 (waysC L 0).toArray := by rw [← hW4, waysC_zero, hLl, List.toArray_replicate]; exact Blk.new _ _ _
    rw [hW4]
    clear hW4
    obtain ⟨gw, hgw⟩ : ∃ b, w3.heap.size = b := ⟨_, rfl⟩
    have HG4 := Lib.hid (hG.below hb4 hGl)
    have HH4 := Lib.hid (hHb.below hb4 hHl)
    have HR4 := Lib.hid (hRb.below hb4 hRl)
    have HB4 := Lib.hid (bthen hb3 hb4)
    rw [hgw] at hF4 hGl hHl hRl ⊢
    clear hgw hb4 k0 hG hHb hRb hb3
    go_wp2_with fail
    go_loopw [30] (fun i wr => ∃ k : Nat, k ≤ l.length ∧ i = .int .i64 k ∧ Blk wr gw 40 (waysC L k).toArray ∧ Below gw W4 wr) (fun i _ => l.length - (intOf i).toNat)
    case atStart => exact ⟨0, by omega, rfl, hF4, Below.refl _ _⟩
    case round =>
      obtain ⟨k, hk, rfl, hF, hbr⟩ := hrel
      have hFl := hF.lt
      by_cases hlt : k < l.length
      · obtain ⟨s, hs⟩ : ∃ s, L[k]? = some s := ⟨_, List.getElem?_eq_getElem (by omega)⟩
        obtain ⟨e0, ⟨x, hq1, hq2, e1⟩, hq3, hq4, hq5⟩ := HLs.out k s hs
        clear hq1 hq2 hq3 hq4 hq5
        have hbw : Below w.heap.size w wr := HB4.out.trans (hbr.mono (by omega))
        have e0 := (hbw.cell (p := ⟨bc, _, none⟩) hbc).trans e0
        have e1 := (hbw.cell (p := ⟨bc, _, none⟩) hbc).trans e1
        unfold encSl at e0
        have HST := Lib.hid (waysC_step hs)
        have f0 : wr.cell? ⟨gw, k, none⟩ = some (.slice none 0 0) := by rw [hF.cell]; have := waysC_at (L := L) (k := k) (by omega); simpa using this
        have ff := hF.frozen k
        have HF := Lib.hid hF
        have HBR := Lib.hid hbr
        clear hs hF hbr
        go_upto_region 7 with fail
        obtain ⟨W5, hW5⟩ : ∃ W, wr.alloc (.cells #[.slice s.A s.xs.length s.c, .int .i64 x.cost] 42) = W := ⟨_, rfl⟩
        have hb5 : Below wr.heap.size wr W5 := by rw [← hW5]; exact nw _ (Below.refl _ _)
        have hC5 : Blk W5 wr.heap.size 42 #[.slice s.A s.xs.length s.c, .int .i64 x.cost] := by rw [← hW5]; exact Blk.new _ _ _
        rw [hW5]
        clear hW5
        have c0 := hC5.cell 0
        simp at c0
        have f0 := (hb5.cell (p := ⟨gw, _, none⟩) hFl).trans f0
        have ff := (hb5.frozen (p := ⟨gw, _, none⟩) hFl).trans ff
        have HF5 := Lib.hid (HF.out.below hb5 hFl)
        have HB5 := Lib.hid (HBR.out.trans (hb5.mono (Nat.le_of_lt hFl)))
        have hklt : (k : Int) < (l.length : Int) := by omega
        obtain ⟨t8, ht8⟩ : ∃ b, wr.heap.size = b := ⟨_, rfl⟩
        rw [ht8] at c0 hC5 ⊢
        clear hb5 ht8
        have hl5 := HF5.out.lt
        go_wp2_with fail
        go_roundw
        case rel => exact ⟨k + 1, by omega, by go_num, (by rw [HST.out]; simpa [encSl] using HF5.out.set_ k (.slice s.A s.xs.length s.c)), HB5.out.setCell (Nat.le_refl _) _⟩
        case measure => simp [intOf]; omega
      · obtain rfl : k = l.length := by omega
        rw [← hLl, waysC_all] at hF
        have hbw : Below w.heap.size w wr := HB4.out.trans (hbr.mono (by omega))
        have HSO : Hid (Calls Tryz.prog 91 #[.slice (some ⟨gw, 0, none⟩) l.length l.length, .func (.func 73) #[] #[]] wr fun e w' =>
            e = .returned (.tuple #[]) ∧ SlR 1 RSl w' (some ⟨gw, 0, none⟩) (sortW (l.map (·.links))) ∧ ButB gw wr w' ∧ ∀ base, base ≤ gw → Go.RowKit.Below base wr w') := by
          have h := sortWays_any gw l.length L wr hF (fun s hs => by
            obtain ⟨k, hk⟩ := List.getElem?_of_mem hs
            obtain ⟨_, _, h1, h2, h3⟩ := HLs.out k s hk
            exact ⟨h2, h3, fun W hW => slr_blocks h1 (fun b hb => (hW.block b (by have := hbw.size; omega) (by omega)).trans (hbw.block b hb)) (Nat.le_trans hbw.size hW.size)⟩) (by omega)
          rw [hLl, HLm.out] at h
          exact h
        have HSZ : Hid (w.heap.size < gw) := by show _ < _; omega
        have HBR := Lib.hid hbr
        clear hF hbr
        go_upto_region 10 with (go_at_call 91; go_loud (refine HSO.out.mono ?_; rintro e W6 ⟨rfl, hs6, hbut6, hbel6⟩))
        have hb46 : Below gw W4 W6 := HBR.out.trans (hbel6 gw (Nat.le_refl _))
        have hbw6 : Below w.heap.size w W6 := HB4.out.trans (hb46.mono (Nat.le_of_lt HSZ.out))
        have hG6 := HG4.out.below hb46 hGl
        have hH6 := HH4.out.below hb46 hHl
        have hR6 := HR4.out.below hb46 hRl
        have k0 := hG6.cell 0
        have k1 := hG6.cell 1
        simp at k0 k1
        have HLV := Lib.hid (leaving_any A c g N W6 (HX.out.below keeps_lk hbw6) hl0 hg HN.out)
        have HS6 := Lib.hid hs6
        clear hs6 hbut6 hbel6 hb46
        go_upto_region 11 with (go_at_call 87; go_loud (refine HLV.out.mono ?_; rintro e W7 ⟨gf, rfl, hfr, hb7⟩))
        obtain ⟨w0, hw0⟩ : ∃ W, W7.alloc (.cells #[.slice (some ⟨gf, 0, none⟩) N N] 91) = W := ⟨_, rfl⟩
        have hb70 : Below W7.heap.size W7 w0 := by rw [← hw0]; exact nw _ (Below.refl _ _)
        have hF0 : Blk w0 W7.heap.size 91 #[.slice (some ⟨gf, 0, none⟩) N N] := by rw [← hw0]; exact Blk.new _ _ _
        rw [hw0]
        clear hw0
        obtain ⟨bF, hbF⟩ : ∃ b, W7.heap.size = b := ⟨_, rfl⟩
        have hb60 : Below W6.heap.size W6 w0 := bthen hb7 hb70
        have hbw0 : Below w.heap.size w w0 := bthen hbw6 hb60
        have HEV : Hid (VEnv w0 g N bH bF w.heap.size (some ⟨bh, oh, none⟩) (some ⟨gf, 0, none⟩) A d N c) := by
          refine ⟨hg, HN.out, hH6.below hb60 hH6.lt, HHS.out.below keeps_int hbw0, by rw [← hbF]; exact hF0, hfr.below keeps_sl hb70, hG6.below hb60 hG6.lt, HX.out.below keeps_lk hbw0⟩
        have HWS := Lib.hid (HS6.out.below keeps_sl hb60)
        have HR0 := Lib.hid (hR6.below hb60 hR6.lt)
        have hwz : W6.heap.size ≤ w0.heap.size := hb60.size
        rw [hbF] at hF0 ⊢
        have HBW0 := Lib.hid hbw0
        clear hb70 hb60 hbw0 hfr hb7 hbF hF0 hG6 hH6 hR6 k0 k1 hbw6
        obtain ⟨W9, hW9⟩ : ∃ W, w0.alloc (.cells #[.bool false, .int .i64 0, .slice none 0 0] 131) = W := ⟨_, rfl⟩
        have hb09 : Below w0.heap.size w0 W9 := by rw [← hW9]; exact nw _ (Below.refl _ _)
        have hL9 : Blk W9 w0.heap.size 131 #[.bool false, .int .i64 0, .slice none 0 0] := by rw [← hW9]; exact Blk.new _ _ _
        have hs9 : W9.heap.size = w0.heap.size + 1 := by rw [← hW9]; simp
        have HW9 := Lib.hid hW9
        have HSZ9 := Lib.hid hs9
        clear hW9 hs9
        go_upto_region 12 with fail
        rw [HW9.out]
        go_upto_region 13 with fail
        obtain ⟨W10, hW10⟩ : ∃ W, W9.alloc (.cells #[.nilFunc] 164) = W := ⟨_, rfl⟩
        have hb10 : Below W9.heap.size W9 W10 := by rw [← hW10]; exact nw _ (Below.refl _ _)
        have hV10 : Blk W10 W9.heap.size 164 #[.nilFunc] := by rw [← hW10]; exact Blk.new _ _ _
        rw [hW10]
        clear hW10
        obtain ⟨bV, hbV⟩ : ∃ b, W9.heap.size = b := ⟨_, rfl⟩
        have hL10 := hL9.below hb10 hL9.lt
        have hb010 : Below w0.heap.size w0 W10 := bthen hb09 hb10
        rw [hbV] at hV10 ⊢
        obtain ⟨bL, hbL⟩ : ∃ b, w0.heap.size = b := ⟨_, rfl⟩
        have HBL := Lib.hid hbL
        have hwbV : w0.heap.size ≤ bV := by have := HSZ9.out; omega
        have hneLV : bL ≠ bV := by have := HSZ9.out; omega
        have hRLt : bR < bL := by have := HR0.out.lt; omega
        rw [hbL] at hL10 ⊢
        have v0 := hV10.cell 0
        have vf := hV10.frozen 0
        simp at v0
        obtain ⟨W11, hW11⟩ : ∃ W, W10.setCell ⟨bV, 0, none⟩ (visV bL bH bF w.heap.size bV) = W := ⟨_, rfl⟩
        have hV11 : Blk W11 bV 164 #[visV bL bH bF w.heap.size bV] := by have := hV10.set_ 0 (visV bL bH bF w.heap.size bV); rw [hW11] at this; simpa using this
        have hL11 : Blk W11 bL 131 #[.bool false, .int .i64 0, .slice none 0 0] := by have := hL10.far (p := ⟨bV, 0, none⟩) hneLV (visV bL bH bF w.heap.size bV); rw [hW11] at this; exact this
        have hb011 : Below w0.heap.size w0 W11 := by rw [← hW11]; exact hb010.setCell (by show w0.heap.size ≤ bV; omega) _
        have HVI : Hid (VInv w0 bL bV (visV bL bH bF w.heap.size bV) W11 ⟨false, 0, []⟩) := ⟨hb011, ⟨none, 0, hL11, SlR.nil, fun b o h => by cases h⟩, Nat.zero_le _, hV11⟩
        have HW11 : Hid (W10.setCell ⟨bV, 0, none⟩ (.func (.func 92) #[] #[ptr bL, ptr bH, ptr bF, ptr w.heap.size, ptr bV]) = W11) := hW11
        have HSL : Hid ((sortW (l.map (·.links))).length = l.length) := by show _ = _; rw [(sortW_perm _).length_eq, List.length_map]
        have HVC : Hid (Calls Tryz.prog 92 #[.slice (some ⟨gw, 0, none⟩) l.length l.length, .int .i64 0, .int .i64 0, .int .i64 0, ptr bL, ptr bH, ptr bF, ptr w.heap.size, ptr bV] W11 fun e w' => e = .returned (.tuple #[]) ∧
            VInv w0 bL bV (visV bL bH bF w.heap.size bV) w' (leastM g l) ∧ ButB bL W11 w') := by
          have h := visit_any HEV.out bL bV (by omega) hneLV N W11 ⟨false, 0, []⟩ (sortW (l.map (·.links))) (some ⟨gw, 0, none⟩) l.length 0 0 0 HVI.out HWS.out (by intro e; have := HSL.out; rw [e] at this; simp at this; omega) (by rw [HSL.out]; exact Nat.le_refl _) (by unfold maxLen; omega)
            (fun w hw => by
              have hw2 := (sortW_perm _).mem_iff.1 hw
              obtain ⟨x, hx, rfl⟩ := List.mem_map.1 hw2
              exact ⟨[], x.links, rfl, rfl, (HCN.out x hx).1⟩) h0pos (Nat.le_refl _) (Int.le_refl _) (by omega) (by omega)
          rw [HSL.out] at h
          rw [HLM.out, show g.n.toNat = N by rw [HN.out, Int.toNat_natCast]]
          exact h
        have vv := hV11.cell 0
        simp [visV] at vv
        clear hV10 hL10 hb010 hL9 hb09 hb10 hW11 hV11 hL11 hb011 hbV hbL
        go_upto_region 14 with fail
        rw [HW11.out]
        go_upto_region 15 with (go_at_call 92; go_loud (refine HVC.out.mono ?_; rintro e W12 ⟨rfl, hvi, hbt⟩))
        obtain ⟨AL, cL, hL12, hs12, hAL⟩ := hvi.least
        have l0 := hL12.cell 0
        have l1 := hL12.cell 1
        have l2 := hL12.cell 2
        simp at l0 l1 l2
        have hR12 := HR0.out.below hvi.below HR0.out.lt
        have r0 := hR12.cell 0
        have r1 := hR12.cell 1
        have r2 := hR12.cell 2
        have rf0 := hR12.frozen 0
        have rf1 := hR12.frozen 1
        have rf2 := hR12.frozen 2
        have rl := hR12.lt
        simp at r0 r1 r2
        have HLN := Lib.hid hvi.len
        have HBE := Lib.hid (HBW0.out.trans (hvi.below.mono HBW0.out.size))
        have HS12 := Lib.hid hs12
        have HAL := Lib.hid hAL
        clear hvi hbt hs12 hL12 hAL HLM HVC
        generalize leastM g l = om at *
        go_wp2_with fail
        refine ret_cell (t := 131) (cs := #[.bool om.there, .int .i64 om.cost, .slice AL om.links.length cL]) (by have := ((hR12.set_ 0 (.bool om.there)).set_ 1 (.int .i64 om.cost)).set_ 2 (.slice AL om.links.length cL); simpa using this) rfl rfl Tryz.underlying131 rfl (by kernel_rfl) rfl ?_
        have hfar : ∀ b o, AL = some ⟨b, o, none⟩ → b ≠ bR := fun b o h => by have := HAL.out b o h; have := HBL.out; omega
        have hwR : w.heap.size ≤ bR := by omega
        exact ⟨AL, cL, rfl, slr_far (slr_far (slr_far HS12.out (p := ⟨bR, 0, none⟩) hfar _) (p := ⟨bR, 1, none⟩) hfar _) (p := ⟨bR, 2, none⟩) hfar _, HLN.out, ((HBE.out.setCell (p := ⟨bR, 0, none⟩) hwR _).setCell (p := ⟨bR, 1, none⟩) hwR _).setCell (p := ⟨bR, 2, none⟩) hwR _, fun b o h => by have := HAL.out b o h; have := HBW0.out.size; omega⟩
end Go.Proofs.YtfjkmgjjifhdkaaGreat
