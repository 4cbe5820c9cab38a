/-
  Open2, TpWalkC, TpWalkD, TpLaw, CxGr, CxLb, CxCnt, CxWy, TpShort: what the further laws want besides. No conditions.
-/
import Derived.Test.YtfjkmgjjifhdkaaGreatP01
import Derived.Test.YtfjkmgjjifhdkaaGreatP02
import Derived.Test.YtfjkmgjjifhdkaaGreatP03
import Derived.Test.YtfjkmgjjifhdkaaGreatP04
import Derived.Test.YtfjkmgjjifhdkaaGreatP05
import Derived.Test.YtfjkmgjjifhdkaaGreatP06
import Derived.Test.YtfjkmgjjifhdkaaGreatP07
import Derived.Test.YtfjkmgjjifhdkaaGreatP08
import Derived.Test.YtfjkmgjjifhdkaaGreatP09
import Derived.Test.YtfjkmgjjifhdkaaGreatP10
import Derived.Test.YtfjkmgjjifhdkaaGreatP11
import Derived.Test.YtfjkmgjjifhdkaaGreatP12
import Derived.Test.YtfjkmgjjifhdkaaGreatP13
import Derived.Test.YtfjkmgjjifhdkaaGreatP14
import Derived.Test.YtfjkmgjjifhdkaaGreatP15
import Derived.Test.YtfjkmgjjifhdkaaGreatP16
import Derived.Test.YtfjkmgjjifhdkaaGreatP17
import Derived.Test.YtfjkmgjjifhdkaaGreatP18
import Derived.Test.YtfjkmgjjifhdkaaGreatP19
import Derived.Test.YtfjkmgjjifhdkaaGreatP20
import Derived.Test.YtfjkmgjjifhdkaaGreatP21
import Derived.Test.YtfjkmgjjifhdkaaGreatP22
import Derived.Test.YtfjkmgjjifhdkaaGreatP23
import Derived.Test.YtfjkmgjjifhdkaaGreatP24
import Derived.Test.YtfjkmgjjifhdkaaGreatP25
import Derived.Test.YtfjkmgjjifhdkaaGreatP26
import Derived.Test.YtfjkmgjjifhdkaaGreatP27
import Derived.Test.YtfjkmgjjifhdkaaGreatP28
import Derived.Test.YtfjkmgjjifhdkaaGreatP29
import Derived.Test.YtfjkmgjjifhdkaaGreatP30
import Derived.Test.YtfjkmgjjifhdkaaGreatP31
import Derived.Test.YtfjkmgjjifhdkaaGreatP32
import Derived.Test.YtfjkmgjjifhdkaaGreatP33
import Derived.Test.YtfjkmgjjifhdkaaGreatP34
import Derived.Test.YtfjkmgjjifhdkaaGreatP35
import Derived.Test.YtfjkmgjjifhdkaaGreatP36
import Derived.Test.YtfjkmgjjifhdkaaGreatP37
import Derived.Test.YtfjkmgjjifhdkaaGreatP38
import Derived.Test.YtfjkmgjjifhdkaaGreatP39
import Derived.Test.YtfjkmgjjifhdkaaGreatP40
import Derived.Test.YtfjkmgjjifhdkaaGreatP41
import Derived.Test.YtfjkmgjjifhdkaaGreatP42
import Derived.Test.YtfjkmgjjifhdkaaGreatP43
import Derived.Test.YtfjkmgjjifhdkaaGreatP44
import Derived.Test.YtfjkmgjjifhdkaaGreatP45
import Derived.Test.YtfjkmgjjifhdkaaGreatP46
import Derived.Test.YtfjkmgjjifhdkaaGreatP47
import Derived.Test.YtfjkmgjjifhdkaaGreatQ01
import Derived.Test.YtfjkmgjjifhdkaaGreatQ02
/-
  Arguments opened: arrays by their numbers.
-/
namespace Go.Proofs.YtfjkmgjjifhdkaaGreat
open Go Go.RowKit Go.ChangeShapes Go.WideShapes

theorem list3 {α : Type} : ∀ (l : List α), l.length = 3 → ∃ a b c, l = [a, b, c]
  | [a, b, c], _ => ⟨a, b, c, rfl⟩
section
variable {H : Type} {enc : TypeId × Value → H} {P : Program} {w : World} {base : Nat} {spare : Nat → Bool} {held : Bool}
theorem open_arr3 {r : Reach} {b0 : Nat} {k : IntKind} {t e : TypeId} {v : Value} {d : DataW H} {p : List MemPlace} (ht : P.underlying t = some (.array 3 e)) (he : P.underlying e = some (.int k)) (hc : P.cellsOf e = 1) (hct : P.cellsOf t = 3)
    (hv : Value.okWide P w r b0 t v) (h : DataW.Trod enc P w base spare held t v d p) : ∃ a b c, v = .agg #[.int k a, .int k b, .int k c] ∧ (Lit.int k a).wf = true ∧ (Lit.int k b).wf = true ∧ (Lit.int k c).wf = true := by
  obtain ⟨ns, hl, rfl, hw⟩ := open_arr ht he hc hct hv h
  obtain ⟨a, b, c, rfl⟩ := list3 ns hl
  exact ⟨a, b, c, rfl, hw a (by simp), hw b (by simp), hw c (by simp)⟩
end
end Go.Proofs.YtfjkmgjjifhdkaaGreat

/-
  The walks of package page, for graphs with many links: More.
-/
namespace Go.Proofs.YtfjkmgjjifhdkaaGreat
open Go Go.RowKit

/-- What More answers: the list, whole, the error. -/
def moreM (g : Gr) (l : List Can) (wh : Bool) (k b : Int) : List Can × Bool × Int := if pgErr g k b = 0 then (if (checkM g l wh).2 = 0 then ((allG g).take (min (l.length + wantN g k b) 50), pgWh g (min (l.length + wantN g k b) 50), 0) else ([], false, 160)) else ([], false, pgErr g k b)
set_option maxRecDepth 100000 in
set_option maxHeartbeats 8000000 in
theorem more_any (A : Option Addr) (c : Nat) (g : Gr) (C : Option Addr) (l : List Can) (e : Nat) (wh : Bool) (k b : Int) (w : World) (hx : SlR 4 RLk w A g.ls) (h14 : g.ls.length ≤ 20000 ∧ nW g 0 ≤ 1000000) (hy : SlR 2 RCan w C l) (hl2 : l.length ≤ 1000000) (hle : l.length ≤ e) (hbu : b ≤ 1000000) :
    Calls Tryz.prog 19 #[.agg #[.int .i64 g.n, .slice A g.ls.length c], .agg #[.slice C l.length e, .bool wh], .int .i64 k, .int .i64 b] w (IsMr (moreM g l wh k b) w) := by
  have hl : g.ls.length ≤ maxLen := by unfold maxLen; omega
  obtain ⟨w2, hw2⟩ : ∃ w2, ((w.alloc (.cells #[.int .i64 g.n, .slice A g.ls.length c] 38)).alloc (.cells #[.slice C l.length e, .bool wh] 61)).alloc (.cells #[.slice none 0 0, .bool false] 61) = w2 := ⟨_, rfl⟩
  have hb2 : Below w.heap.size w w2 := by rw [← hw2]; exact nw _ (nw _ (nw _ (Below.refl _ _)))
  have hG : Blk w2 w.heap.size 38 #[.int .i64 g.n, .slice A g.ls.length c] := by rw [← hw2]; exact ((Blk.new _ _ _).alloc _).alloc _
  have hQ : Blk w2 (w.heap.size + 1) 61 #[.slice C l.length e, .bool wh] := by rw [← hw2]; exact (Blk.new_ (by simp)).alloc _
  have hP : Blk w2 (w.heap.size + 2) 61 #[.slice none 0 0, .bool false] := by rw [← hw2]; exact Blk.new_ (by simp)
  have HW2 := Lib.hid hw2
  obtain ⟨bQ, hbQ⟩ : ∃ b, w.heap.size + 1 = b := ⟨_, rfl⟩
  obtain ⟨bP, hbP⟩ : ∃ b, bQ + 1 = b := ⟨_, rfl⟩
  rw [hbQ] at hQ
  rw [show w.heap.size + 2 = bP by omega] at hP
  have HBQ := Lib.hid hbQ
  have HBP := Lib.hid hbP
  have hwP : w.heap.size ≤ bP := by omega
  have hGP : w.heap.size ≠ bP := by omega
  have g0 := hG.cell 0
  have g1 := hG.cell 1
  have gl := hG.lt
  have q0 := hQ.cell 0
  have q1 := hQ.cell 1
  have ql := hQ.lt
  simp at g0 g1 q0 q1
  have HX : Hid (∀ W', Below w2.heap.size w2 W' → SlR 4 RLk W' A g.ls) := fun W' hW' => (hx.below keeps_lk hb2).below keeps_lk hW'
  have HY : Hid (∀ W', Below w2.heap.size w2 W' → SlR 2 RCan W' C l) := fun W' hW' => (hy.below keeps_can hb2).below keeps_can hW'
  have HC : Hid (Calls Tryz.prog 50 #[.agg #[.int .i64 g.n, .slice A g.ls.length c], .int .i64 k, .int .i64 b] w2 fun e w' => e = .returned (.int .i64 (pgErr g k b)) ∧ Below w2.heap.size w2 w') := pcheck_any A c g k b w2 (hx.below keeps_lk hb2) hl
  clear hw2 hbP hbQ hx hy
  go_enter Tryz.func19, Tryz.ntmps19
  go_upto_region 1 with fail
  rw [HW2.out, HBQ.out, HBP.out]
  by_cases h0 : pgErr g k b = 0
  · obtain ⟨hgr, hk, hb0⟩ := pgErr_ok h0
    have hb : 0 ≤ b ∧ b ≤ 1000000 := ⟨hb0, hbu⟩
    have hgn : 1 ≤ g.n ∧ g.n ≤ 2000 := hgr.n
    obtain ⟨n, hn⟩ : ∃ n, wantN g k b = n := ⟨_, rfl⟩
    have hq := Int.ediv_nonneg hb.1 (show 0 ≤ g.n by omega)
    have hwn : min (b / g.n) k = (n : Int) := by rw [← hn]; unfold wantN; omega
    have hn50 : n ≤ 50 := by omega
    obtain ⟨m, hm⟩ : ∃ m, min (l.length + n) 50 = m := ⟨_, rfl⟩
    have hm50 : m ≤ 50 := by omega
    have HLE : Hid (∀ W kb, Blk W kb 3 #[.int .i64 k] → Calls Tryz.prog 53 #[.int .i64 g.n, .func (.func 54) #[.int .i64 b] #[], .slice (some ⟨kb, 0, none⟩) 1 1] W fun e w' => e = .returned (.int .i64 (n : Int)) ∧ W = w') := fun W kb hkb => by
      have h := pleast_any g.n b k (some ⟨kb, 0, none⟩) 1 W hb hgn hk (slr_blk (enc := fun s => [.int .i64 s]) (xs := [k]) hkb (fun _ => rfl) (fun _ => rfl))
      rw [hwn] at h
      exact h
    have HFI : Hid (∀ W W', Below w2.heap.size w2 W → Below W.heap.size W W' → Calls Tryz.prog 52 #[.agg #[.int .i64 g.n, .slice A g.ls.length c], .int .i64 (m : Int)] W' (IsPg ((allG g).take m) (pgWh g m) W')) := fun W W' hW hW' => pfirst_any A c g m W' (HX.out _ (bthen hW hW')) hl hgr h14 hm50
    have HPT : Hid (∀ W', Below w2.heap.size w2 W' → Calls Tryz.prog 51 #[.agg #[.int .i64 g.n, .slice A g.ls.length c]] W' fun e w' => ∃ A' c', e = .returned (.tuple #[.slice A' (potL g).length c', .int .i64 0]) ∧ SlR 1 RInt w' A' (potL g) ∧ Below W'.heap.size W' w' ∧ (potL g).length ≤ c' ∧ c' ≤ maxLen) := fun W' hW' => by
      have h := pot_any A c g W' (HX.out _ hW') hl
      rw [show potsOf g = (potL g, 0) by unfold potsOf; rw [grB_iff.2 hgr]; rfl] at h
      exact h
    have HCH : Hid (∀ W' A' c', Below w2.heap.size w2 W' → SlR 1 RInt W' A' (potL g) → (potL g).length ≤ maxLen → Calls Tryz.prog 15 #[.agg #[.int .i64 g.n, .slice A g.ls.length c], .slice A' (potL g).length c', .agg #[.slice C l.length e, .bool wh]] W' fun r w' => r = .returned (.tuple #[.int .i64 (checkM g l wh).1, .int .i64 (checkM g l wh).2]) ∧ Below W'.heap.size W' w') := fun W' A' c' hW' hs hpl => by
      have h := check_any A c g A' (potL g) c' C l e wh W' (HX.out _ hW') hl hs hpl (HY.out _ hW') hl2 hle
      rw [show checkAll g (potL g) l wh = checkM g l wh by unfold checkAll; rw [if_neg (by rw [grB_iff.2 hgr]; simp), if_neg (by simp)]] at h
      exact h
    have HMK : Hid (moreM g l wh k b = if (checkM g l wh).2 = 0 then ((allG g).take m, pgWh g m, 0) else ([], false, 160)) := by show _ = _; unfold moreM; rw [if_pos h0, hn, hm]
    obtain ⟨ce, hce⟩ : ∃ ce, (checkM g l wh).2 = ce := ⟨_, rfl⟩
    rw [hce] at HMK HCH
    generalize (checkM g l wh).1 = cn at *
    rw [h0] at HC
    generalize (allG g).take m = Lc at *
    generalize pgWh g m = wb at *
    generalize potL g = ps at *
    have hwa : IntKind.i64.wrap ((l.length : Int) + (n : Int)) = (l.length : Int) + (n : Int) := IntWalk.i64_in _ (by omega)
    have hmm : min ((l.length : Int) + (n : Int)) 50 = (m : Int) := by omega
    clear h0 hq hn hgr hb0 hbu h14 hm hce hwn
    go_upto_region 4 with (go_at_call 50; go_loud (refine HC.out.mono ?_; rintro e w3 ⟨rfl, hb3⟩))
    have g0 := ((bcell hb3).1 _ _ gl).trans g0
    have g1 := ((bcell hb3).1 _ _ gl).trans g1
    have gl := Nat.lt_of_lt_of_le gl hb3.size
    have q0 := ((bcell hb3).1 _ _ ql).trans q0
    have q1 := ((bcell hb3).1 _ _ ql).trans q1
    have ql := Nat.lt_of_lt_of_le ql hb3.size
    go_upto_region 5 with (go_at_call 51; go_loud (refine (HPT.out _ hb3).mono ?_; rintro e w4 ⟨A4, c4, rfl, hps, hb4, hc4, hcm4⟩))
    have g0 := ((bcell hb4).1 _ _ gl).trans g0
    have g1 := ((bcell hb4).1 _ _ gl).trans g1
    have gl := Nat.lt_of_lt_of_le gl hb4.size
    have q0 := ((bcell hb4).1 _ _ ql).trans q0
    have q1 := ((bcell hb4).1 _ _ ql).trans q1
    have ql := Nat.lt_of_lt_of_le ql hb4.size
    have HC4 := Lib.hid (HCH.out w4 A4 c4 (bthen hb3 hb4) hps (by omega))
    have HB4 := Lib.hid (bthen hb3 hb4)
    have hP4 := hP.below (bthen hb3 hb4) hP.lt
    clear hb3 hb4 hps HCH HC HPT hP
    go_upto_region 8 with (go_at_call 15; go_loud (refine HC4.out.mono ?_; rintro e W6 ⟨rfl, hb6⟩))
    have g0 := ((bcell hb6).1 _ _ gl).trans g0
    have g1 := ((bcell hb6).1 _ _ gl).trans g1
    have gl := Nat.lt_of_lt_of_le gl hb6.size
    have q0 := ((bcell hb6).1 _ _ ql).trans q0
    have q1 := ((bcell hb6).1 _ _ ql).trans q1
    have ql := Nat.lt_of_lt_of_le ql hb6.size
    have hP6 := hP4.below hb6 hP4.lt
    have HB26 := Lib.hid (bthen HB4.out hb6)
    have HB6 := Lib.hid (bthen hb2 HB26.out)
    have HFI := Lib.hid (fun W' hW' => HFI.out W6 W' HB26.out hW')
    clear hb6 hP4 HX HY hG hQ HC4
    by_cases hce : ce = 0
    · subst hce
      rw [if_pos rfl] at HMK
      have HP := Lib.hid hP6
      clear hP6
      go_upto_region 10 with fail
      refine ordB_below (.quiet 0 (.quiet 1 (.quiet 2 (.quiet 3 (.quiet 4 (.quiet 5 (.quiet 7 (.fork 6 8 (.only 8 (.only 9 (.quiet 10 (.quiet 11 .done)))) (.only 6 (.only 9 (.quiet 10 (.quiet 11 .done)))))))))))) (by kernel_rfl) (by kernel_rfl) (by kernel_rfl) (fun _ _ _ _ _ h => h) ?_
      intro Wf hWf
      iterate 7 (first
        | (refine ordB_skip rfl rfl ?_; simp only [Act.put, List.setIfInBounds_toArray, List.set_cons_zero, List.set_cons_succ])
        | (refine ordB_take (v := ?_) rfl rfl ?_ ?_
           rotate_left 1
           focus (intro W hW; obtain ⟨hcW, hfW⟩ := bcell hW; (go_simp <;> with_reducible rfl))
           simp only [Act.put, List.setIfInBounds_toArray, List.set_cons_zero, List.set_cons_succ]))
      refine ordB_fork (opB_call rfl rfl (fun K hK => ?_)) (opB_call rfl rfl (fun K hK => ?_))
      · go_simp
        refine hK.out _ _ hWf (fun hWf_1 => ?_)
        clear hK K
        obtain ⟨Wf_1, rfl⟩ : ∃ V, V = Wf := ⟨_, rfl⟩
        refine ordB_only (opB_call rfl rfl (fun K hK => ?_))
        go_simp
        refine hK.out _ _ (hWf_1.alloc hWf_1.size _) (fun hWf_1_2 => ?_)
        have kb := Blk.new Wf_1 3 #[.int .i64 k]
        have kbb := nw (.cells #[.int .i64 k] 3) (Below.refl Wf_1.heap.size Wf_1)
        have kbg := hWf_1.size
        obtain ⟨Wf_1_2, qqWf_1_2⟩ : ∃ W', Wf_1.alloc (.cells #[.int .i64 k] 3) = W' := ⟨_, rfl⟩
        rw [qqWf_1_2] at hWf_1_2 kb kbb ⊢
        clear qqWf_1_2 kbb
        refine ordB_only (opB_call rfl rfl (fun K hK => ?_))
        go_simp
        go_at_call 53
        refine (HLE.out Wf_1_2 _ kb).mono ?_
        rintro e w' ⟨rfl, rfl⟩
        refine hK.out _ _ hWf_1_2 (fun hWf_1_2_3 => ?_)
        iterate 2 (first
          | (refine ordB_skip rfl rfl ?_; simp only [Act.put, List.setIfInBounds_toArray, List.set_cons_zero, List.set_cons_succ])
          | (refine ordB_take (v := ?_) rfl rfl ?_ ?_
             rotate_left 1
             focus (intro W hW; obtain ⟨hcW, hfW⟩ := bcell hW; (go_simp <;> with_reducible rfl))
             simp only [Act.put, List.setIfInBounds_toArray, List.set_cons_zero, List.set_cons_succ]))
        refine ordB_nil ?_
        have hb58 := hWf_1_2_3
        clear hWf_1_2_3
        generalize Wf_1_2 = W8 at *
        have g0 := ((bcell hb58).1 _ _ gl).trans g0
        have g1 := ((bcell hb58).1 _ _ gl).trans g1
        have gl := Nat.lt_of_lt_of_le gl hb58.size
        have hP8 := HP.out.below hb58 HP.out.lt
        have HB8 := Lib.hid (bthen HB6.out hb58)
        have HF8 := Lib.hid (HFI.out W8 hb58)
        have HPP := Lib.hid hP8
        have p0 := hP8.cell 0
        have p1 := hP8.cell 1
        have pf0 := hP8.frozen 0
        have pf1 := hP8.frozen 1
        have pl := hP8.lt
        simp at p0 p1
        clear hP8 hb58 HFI
        go_wp2_with (go_at_call 52; go_loud (refine HF8.out.mono ?_; rintro e W9 ⟨A5, c5, ms, base, rfl, _, hms, HMX, hml, hmc, hown, hb9⟩; have p0 := ((bcell hb9).1 _ _ pl).trans p0; have p1 := ((bcell hb9).1 _ _ pl).trans p1; have pf0 := ((bcell hb9).2 _ _ pl).trans pf0; have pf1 := ((bcell hb9).2 _ _ pl).trans pf1; have pl := Nat.lt_of_lt_of_le pl hb9.size))
        have hP9 := HPP.out.below hb9 HPP.out.lt
        have hne := own_blk_ne hown hP9 (by decide)
        refine ret_cell_tmp (t := 61) (cs := #[.slice A5 Lc.length c5, .bool wb]) (by have := (hP9.set_ 0 (.slice A5 Lc.length c5)).set_ 1 (.bool wb); simpa using this) rfl rfl Tryz.underlying61 rfl (by kernel_rfl) rfl ?_
        have hO5 := own_set (own_set hown (a := ⟨bP, 0, none⟩) hne (.slice A5 Lc.length c5)) (a := ⟨bP, 1, none⟩) hne (.bool wb)
        have hM5 := (hms.set_ (p := ⟨bP, 0, none⟩) hP9 (by decide) (.slice A5 Lc.length c5)).set_ (p := ⟨bP, 1, none⟩) (hP9.set_ 0 (.slice A5 Lc.length c5)) (by decide) (.bool wb)
        obtain ⟨A8, c8, he8, _, _, hs8⟩ := own_slr (R := RMc) hO5 (fun _ => rfl) (fun _ => rfl) rfl
        obtain ⟨rfl, rfl⟩ : A5 = A8 ∧ c5 = c8 := by injection he8 with h1 h2 h3; exact ⟨h1, h3⟩
        exact ⟨A5, c5, ms, base, by rw [HMK.out]; rfl, hs8, hM5, by rw [HMK.out]; exact HMX.out, by rw [HMK.out]; exact hml, hmc, hO5, ((bthen HB8.out hb9).setCell (p := ⟨bP, 0, none⟩) hwP _).setCell (p := ⟨bP, 1, none⟩) hwP _⟩
      · go_simp
        refine hK.out _ _ (hWf.alloc hWf.size _) (fun hWf_1 => ?_)
        have kb := Blk.new Wf 3 #[.int .i64 k]
        have kbb := nw (.cells #[.int .i64 k] 3) (Below.refl Wf.heap.size Wf)
        have kbg := hWf.size
        obtain ⟨Wf_1, qqWf_1⟩ : ∃ W', Wf.alloc (.cells #[.int .i64 k] 3) = W' := ⟨_, rfl⟩
        rw [qqWf_1] at hWf_1 kb kbb ⊢
        clear qqWf_1 kbb
        refine ordB_only (opB_call rfl rfl (fun K hK => ?_))
        go_simp
        refine hK.out _ _ hWf_1 (fun hWf_1_2 => ?_)
        clear hK K
        obtain ⟨Wf_1_2, rfl⟩ : ∃ V, V = Wf_1 := ⟨_, rfl⟩
        refine ordB_only (opB_call rfl rfl (fun K hK => ?_))
        go_simp
        go_at_call 53
        refine (HLE.out Wf_1_2 _ kb).mono ?_
        rintro e w' ⟨rfl, rfl⟩
        refine hK.out _ _ hWf_1_2 (fun hWf_1_2_3 => ?_)
        iterate 2 (first
          | (refine ordB_skip rfl rfl ?_; simp only [Act.put, List.setIfInBounds_toArray, List.set_cons_zero, List.set_cons_succ])
          | (refine ordB_take (v := ?_) rfl rfl ?_ ?_
             rotate_left 1
             focus (intro W hW; obtain ⟨hcW, hfW⟩ := bcell hW; (go_simp <;> with_reducible rfl))
             simp only [Act.put, List.setIfInBounds_toArray, List.set_cons_zero, List.set_cons_succ]))
        refine ordB_nil ?_
        have hb58 := hWf_1_2_3
        clear hWf_1_2_3
        generalize Wf_1_2 = W8 at *
        have g0 := ((bcell hb58).1 _ _ gl).trans g0
        have g1 := ((bcell hb58).1 _ _ gl).trans g1
        have gl := Nat.lt_of_lt_of_le gl hb58.size
        have hP8 := HP.out.below hb58 HP.out.lt
        have HB8 := Lib.hid (bthen HB6.out hb58)
        have HF8 := Lib.hid (HFI.out W8 hb58)
        have HPP := Lib.hid hP8
        have p0 := hP8.cell 0
        have p1 := hP8.cell 1
        have pf0 := hP8.frozen 0
        have pf1 := hP8.frozen 1
        have pl := hP8.lt
        simp at p0 p1
        clear hP8 hb58 HFI
        go_wp2_with (go_at_call 52; go_loud (refine HF8.out.mono ?_; rintro e W9 ⟨A5, c5, ms, base, rfl, _, hms, HMX, hml, hmc, hown, hb9⟩; have p0 := ((bcell hb9).1 _ _ pl).trans p0; have p1 := ((bcell hb9).1 _ _ pl).trans p1; have pf0 := ((bcell hb9).2 _ _ pl).trans pf0; have pf1 := ((bcell hb9).2 _ _ pl).trans pf1; have pl := Nat.lt_of_lt_of_le pl hb9.size))
        have hP9 := HPP.out.below hb9 HPP.out.lt
        have hne := own_blk_ne hown hP9 (by decide)
        refine ret_cell_tmp (t := 61) (cs := #[.slice A5 Lc.length c5, .bool wb]) (by have := (hP9.set_ 0 (.slice A5 Lc.length c5)).set_ 1 (.bool wb); simpa using this) rfl rfl Tryz.underlying61 rfl (by kernel_rfl) rfl ?_
        have hO5 := own_set (own_set hown (a := ⟨bP, 0, none⟩) hne (.slice A5 Lc.length c5)) (a := ⟨bP, 1, none⟩) hne (.bool wb)
        have hM5 := (hms.set_ (p := ⟨bP, 0, none⟩) hP9 (by decide) (.slice A5 Lc.length c5)).set_ (p := ⟨bP, 1, none⟩) (hP9.set_ 0 (.slice A5 Lc.length c5)) (by decide) (.bool wb)
        obtain ⟨A8, c8, he8, _, _, hs8⟩ := own_slr (R := RMc) hO5 (fun _ => rfl) (fun _ => rfl) rfl
        obtain ⟨rfl, rfl⟩ : A5 = A8 ∧ c5 = c8 := by injection he8 with h1 h2 h3; exact ⟨h1, h3⟩
        exact ⟨A5, c5, ms, base, by rw [HMK.out]; rfl, hs8, hM5, by rw [HMK.out]; exact HMX.out, by rw [HMK.out]; exact hml, hmc, hO5, ((bthen HB8.out hb9).setCell (p := ⟨bP, 0, none⟩) hwP _).setCell (p := ⟨bP, 1, none⟩) hwP _⟩
    · rw [if_neg hce] at HMK
      have hceb : (ce == 0) = false := by simp [hce]
      have p0 := hP6.cell 0
      have p1 := hP6.cell 1
      have pf0 := hP6.frozen 0
      have pf1 := hP6.frozen 1
      have pl := hP6.lt
      simp at p0 p1
      have HP := Lib.hid hP6
      clear hP6 hce
      go_wp2_with fail
      refine ret_cell_tmp (t := 61) (cs := #[.slice none 0 0, .bool false]) (by have := (HP.out.set_ 0 (.slice none 0 0)).set_ 1 (.bool false); simpa using this) rfl rfl Tryz.underlying61 rfl (by kernel_rfl) rfl ?_
      exact ⟨none, 0, [], 0, by rw [HMK.out]; rfl, SlR.nil, MsOK.nil, by rw [HMK.out]; rfl, by rw [HMK.out]; exact Nat.le_refl _, Nat.zero_le _, own_nil _ _ _ _, ((HB6.out).setCell (p := ⟨bP, 0, none⟩) hwP _).setCell (p := ⟨bP, 1, none⟩) hwP _⟩
  · have HMK : Hid (moreM g l wh k b = ([], false, pgErr g k b)) := by show _ = _; unfold moreM; rw [if_neg h0]
    have hv := pgErr_val g k b
    generalize pgErr g k b = er at *
    have h1 : er = 1 ∨ er = 150 := hv.resolve_left h0
    clear hv h0
    have p0 := hP.cell 0
    have p1 := hP.cell 1
    have pf0 := hP.frozen 0
    have pf1 := hP.frozen 1
    have pl := hP.lt
    simp at p0 p1
    have HPP := Lib.hid hP
    clear hP hG hQ
    rcases h1 with rfl | rfl
    all_goals
      go_wp2_with (go_at_call 50; go_loud (refine HC.out.mono ?_; rintro e w3 ⟨rfl, hb3⟩; have p0 := ((bcell hb3).1 _ _ pl).trans p0; have p1 := ((bcell hb3).1 _ _ pl).trans p1; have pf0 := ((bcell hb3).2 _ _ pl).trans pf0; have pf1 := ((bcell hb3).2 _ _ pl).trans pf1; have pl := Nat.lt_of_lt_of_le pl hb3.size))
      have hP3 := HPP.out.below hb3 HPP.out.lt
      refine ret_cell_tmp (t := 61) (cs := #[.slice none 0 0, .bool false]) (by have := (hP3.set_ 0 (.slice none 0 0)).set_ 1 (.bool false); simpa using this) rfl rfl Tryz.underlying61 rfl (by kernel_rfl) rfl ?_
      exact ⟨none, 0, [], 0, by rw [HMK.out]; rfl, SlR.nil, MsOK.nil, by rw [HMK.out]; rfl, by rw [HMK.out]; exact Nat.le_refl _, Nat.zero_le _, own_nil _ _ _ _, ((bthen hb2 hb3).setCell (p := ⟨bP, 0, none⟩) hwP _).setCell (p := ⟨bP, 1, none⟩) hwP _⟩
end Go.Proofs.YtfjkmgjjifhdkaaGreat

/-
  The walks of package page, for graphs with many links: Prefix and Same of pages, the law's made.
-/
namespace Go.Proofs.YtfjkmgjjifhdkaaGreat
open Go Go.RowKit

set_option maxRecDepth 100000 in
set_option maxHeartbeats 4000000 in
theorem pequal_any (a b : Can) (A B : Option Addr) (c d : Nat) (w : World) (hx : SlR 1 RInt w A a.links) (hy : SlR 1 RInt w B b.links) (hl : a.links.length ≤ maxLen) (hl2 : b.links.length ≤ maxLen) :
    Calls Tryz.prog 61 #[.agg #[.slice A a.links.length c, .int .i64 a.cost], .agg #[.slice B b.links.length d, .int .i64 b.cost]] w fun e w' => e = .returned (.bool (decide (a = b))) ∧ Below w.heap.size w w' := by
  obtain ⟨xs, x⟩ := a
  obtain ⟨ys, y⟩ := b
  simp only at hx hy hl hl2 ⊢
  obtain ⟨w2, hw2⟩ : ∃ w2, (w.alloc (.cells #[.slice A xs.length c, .int .i64 x] 42)).alloc (.cells #[.slice B ys.length d, .int .i64 y] 42) = w2 := ⟨_, rfl⟩
  have hb2 : Below w.heap.size w w2 := by rw [← hw2]; exact nw _ (nw _ (Below.refl _ _))
  have hP : Blk w2 w.heap.size 42 #[.slice A xs.length c, .int .i64 x] := by rw [← hw2]; exact (Blk.new _ _ _).alloc _
  have hQ : Blk w2 (w.heap.size + 1) 42 #[.slice B ys.length d, .int .i64 y] := by rw [← hw2]; exact Blk.new_ (by simp)
  have HW2 := Lib.hid hw2
  have HEQ : Hid (Calls Tryz.prog 88 #[.slice A xs.length c, .slice B ys.length d] w2 fun e w' => e = .returned (.bool (decide (xs = ys))) ∧ Below w2.heap.size w2 w') := equal_any A B xs ys c d w2 (hx.below keeps_int hb2) (hy.below keeps_int hb2) hl hl2
  have p0 := hP.cell 0
  have p1 := hP.cell 1
  have pl := hP.lt
  have q0 := hQ.cell 0
  have q1 := hQ.cell 1
  have ql := hQ.lt
  simp at p0 p1 q0 q1
  have HD : Hid (decide ((⟨xs, x⟩ : Can) = ⟨ys, y⟩) = ((x == y) && decide (xs = ys))) := by
    show _ = _
    rw [Bool.eq_iff_iff]
    simp
    exact And.comm
  generalize decide (xs = ys) = v at *
  clear hw2 hP hQ hx hy hl hl2
  go_enter Tryz.func61, Tryz.ntmps61
  go_upto_region 1 with fail
  rw [HW2.out]
  by_cases hxy : x = y
  · have hz : (x == y) = true := by simp [hxy]
    rw [hz, Bool.true_and] at HD
    clear hxy
    go_wp2_with (go_at_call 88; go_loud (refine HEQ.out.mono ?_; rintro e w3 ⟨rfl, hb3⟩))
    go_ret
    exact ⟨by rw [HD.out]; rfl, bthen hb2 hb3⟩
  · have hz : (x == y) = false := by simp [hxy]
    rw [hz, Bool.false_and] at HD
    clear hxy
    go_wp2_with fail
    go_ret
    exact ⟨by rw [HD.out]; rfl, hb2⟩
set_option maxRecDepth 100000 in
set_option maxHeartbeats 8000000 in
theorem eqfunc_any (A B : Option Addr) (xs ys : List Can) (c d : Nat) (w : World) (hx : SlR 2 RCan w A xs) (hy : SlR 2 RCan w B ys) (hl : xs.length ≤ maxLen) (hlen : xs.length = ys.length) :
    Calls Tryz.prog 93 #[.slice A xs.length c, .slice B xs.length d, .func (.func 61) #[] #[]] w fun e w' => e = .returned (.bool (decide (xs = ys))) ∧ Below w.heap.size w w' := by
  have HL := Lib.hid hlen
  unfold maxLen at hl
  clear hlen
  go_enter Tryz.func93, Tryz.ntmps93
  go_wp2_with fail
  go_loopw [17] (fun iv wr => ∃ k : Nat, k ≤ xs.length ∧ iv = .int .i64 (k : Int) ∧ Hid (xs.take k = ys.take k) ∧ Below w.heap.size w wr) (fun iv _ => xs.length - (intOf iv).toNat)
  case atStart => exact ⟨0, by omega, rfl, by show _ = _; simp, Below.refl _ _⟩
  case round =>
    obtain ⟨k, hk, rfl, HT, hbr⟩ := hrel
    by_cases hlt : k < xs.length
    · obtain ⟨b1, o1, x, A1, c1, rfl, hb1, hxx, x0, x1, hxs, hxl, hxm⟩ := (hx.below keeps_can hbr).can hlt
      obtain ⟨b2, o2, y, A2, c2, rfl, hb2, hyy, y0, y1, hys, hyl, hym⟩ := (hy.below keeps_can hbr).can (k := k) (by have := HL.out; omega)
      have hxx2 := take_succ_of hxx
      have hyy2 := take_succ_of hyy
      have hkI : (k : Int) < (xs.length : Int) := by omega
      have hk0 : (0 : Int) ≤ (k : Int) := by omega
      obtain ⟨wb, hwb⟩ : ∃ V, (wr.alloc (.cells #[.slice A1 x.links.length c1, .int .i64 x.cost] 42)).alloc (.cells #[.slice A2 y.links.length c2, .int .i64 y.cost] 42) = V := ⟨_, rfl⟩
      have hbb : Below wr.heap.size wr wb := by rw [← hwb]; exact nw _ (nw _ (Below.refl _ _))
      have HE := Lib.hid (pequal_any x y A1 A2 c1 c2 wb (hxs.below keeps_int hbb) (hys.below keeps_int hbb) (by omega) (by omega))
      have HWB := Lib.hid hwb
      have HBB := Lib.hid (bthen hbr hbb)
      have HX2 := Lib.hid hxx2
      have HY2 := Lib.hid hyy2
      have HXX := Lib.hid hxx
      have HYY := Lib.hid hyy
      by_cases hxy : x = y
      · rw [decide_eq_true hxy] at HE
        have HT2 : Hid (xs.take (k + 1) = ys.take (k + 1)) := by show _ = _; rw [HX2.out, HY2.out, HT.out, hxy]
        clear hxy hwb hbb hxx2 hyy2 hxx hyy hxs hys hbr
        go_wp2_with (go_at_call 61; go_loud (rw [HWB.out]; refine HE.out.mono ?_; rintro e w5 ⟨rfl, hb5⟩))
        go_roundw
        case rel => exact ⟨k + 1, by omega, by go_num, HT2.out, bthen HBB.out hb5⟩
        case measure => simp [intOf]; omega
      · rw [decide_eq_false hxy] at HE
        have HNE : Hid (¬ xs = ys) := fun h => by
          have h1 := HXX.out
          rw [h, HYY.out] at h1
          exact hxy (Option.some.inj h1).symm
        clear hxy hwb hbb hxx2 hyy2 hxx hyy hxs hys hbr
        go_wp2_with (go_at_call 61; go_loud (rw [HWB.out]; refine HE.out.mono ?_; rintro e w5 ⟨rfl, hb5⟩))
        go_ret
        exact ⟨by rw [decide_eq_false HNE.out]; rfl, bthen HBB.out hb5⟩
    · obtain rfl : k = xs.length := by omega
      have HE : Hid (xs = ys) := by
        have h := HT.out
        rw [List.take_length, HL.out, List.take_length] at h
        exact h
      go_wp2_with fail
      go_ret
      exact ⟨by rw [decide_eq_true HE.out]; rfl, hbr⟩
/-- The first list is a beginning of the second one. -/
def preB (l m : List Can) : Bool := decide (m.take l.length = l)
theorem preB_len {l m : List Can} (h : m.length < l.length) : preB l m = false := by
  unfold preB
  rw [decide_eq_false_iff_not, List.take_of_length_le (by omega)]
  rintro rfl
  exact absurd h (Nat.lt_irrefl _)
set_option maxRecDepth 100000 in
set_option maxHeartbeats 4000000 in
theorem begins_any (A B : Option Addr) (xs ys : List Can) (c d : Nat) (w : World) (hx : SlR 2 RCan w A xs) (hy : SlR 2 RCan w B ys) (hl : xs.length ≤ maxLen) (hl2 : ys.length ≤ d) (hl3 : d ≤ maxLen) :
    Calls Tryz.prog 60 #[.slice A xs.length c, .slice B ys.length d, .func (.func 61) #[] #[]] w fun e w' => e = .returned (.bool (preB xs ys)) ∧ Below w.heap.size w w' := by
  by_cases hle : xs.length ≤ ys.length
  · have htl : (ys.take xs.length).length = xs.length := by rw [List.length_take]; omega
    have h := eqfunc_any A B xs (ys.take xs.length) c d w hx (slr_preS hy xs.length) hl htl.symm
    have HE : Hid (Calls Tryz.prog 93 #[.slice A xs.length c, .slice B xs.length d, .func (.func 61) #[] #[]] w fun e w' => e = .returned (.bool (preB xs ys)) ∧ Below w.heap.size w w') := by
      rw [show decide (xs = ys.take xs.length) = preB xs ys by unfold preB; rw [Bool.eq_iff_iff]; simp [eq_comm]] at h
      exact h
    have hleI : (xs.length : Int) ≤ (ys.length : Int) := by omega
    have hld : xs.length ≤ d := by omega
    unfold maxLen at hl hl3
    clear h htl hx hy
    generalize preB xs ys = v at *
    go_enter Tryz.func60, Tryz.ntmps60
    go_wp2_with (go_at_call 93; go_loud (refine HE.out.mono ?_; rintro e w5 ⟨rfl, hb5⟩))
    go_ret
    exact ⟨rfl, hb5⟩
  · have HP : Hid (preB xs ys = false) := preB_len (by omega)
    have hleI : ¬ (xs.length : Int) ≤ (ys.length : Int) := by omega
    unfold maxLen at hl hl3
    go_enter Tryz.func60, Tryz.ntmps60
    go_wp2_with fail
    go_ret
    exact ⟨by rw [HP.out]; rfl, Below.refl _ _⟩
/-- What Prefix answers. -/
def prefB (l : List Can) (wh : Bool) (m : List Can) (wm : Bool) : Bool := preB l m && (if l.length = m.length then wh == wm else !wh)
set_option maxRecDepth 100000 in
set_option maxHeartbeats 4000000 in
theorem prefix_any (C D : Option Addr) (l m : List Can) (e f : Nat) (wh wm : Bool) (w : World) (hx : SlR 2 RCan w C l) (hy : SlR 2 RCan w D m) (hl : l.length ≤ e) (hl1 : e ≤ maxLen) (hl2 : m.length ≤ f) (hl3 : f ≤ maxLen) :
    Calls Tryz.prog 21 #[.agg #[.slice C l.length e, .bool wh], .agg #[.slice D m.length f, .bool wm]] w fun r w' => r = .returned (.bool (prefB l wh m wm)) ∧ Below w.heap.size w w' := by
  obtain ⟨w2, hw2⟩ : ∃ w2, (w.alloc (.cells #[.slice C l.length e, .bool wh] 61)).alloc (.cells #[.slice D m.length f, .bool wm] 61) = w2 := ⟨_, rfl⟩
  have hb2 : Below w.heap.size w w2 := by rw [← hw2]; exact nw _ (nw _ (Below.refl _ _))
  have hP : Blk w2 w.heap.size 61 #[.slice C l.length e, .bool wh] := by rw [← hw2]; exact (Blk.new _ _ _).alloc _
  have hQ : Blk w2 (w.heap.size + 1) 61 #[.slice D m.length f, .bool wm] := by rw [← hw2]; exact Blk.new_ (by simp)
  have HW2 := Lib.hid hw2
  obtain ⟨bQ, hbQ⟩ : ∃ b, w.heap.size + 1 = b := ⟨_, rfl⟩
  rw [hbQ] at hQ
  have HBQ := Lib.hid hbQ
  have p0 := hP.cell 0
  have p1 := hP.cell 1
  have pl := hP.lt
  have q0 := hQ.cell 0
  have q1 := hQ.cell 1
  have ql := hQ.lt
  simp at p0 p1 q0 q1
  clear hw2 hbQ
  have HB : Hid (Calls Tryz.prog 60 #[.slice C l.length e, .slice D m.length f, .func (.func 61) #[] #[]] w2 fun e w' => e = .returned (.bool (preB l m)) ∧ Below w2.heap.size w2 w') := begins_any C D l m e f w2 (hx.below keeps_can hb2) (hy.below keeps_can hb2) (by omega) hl2 hl3
  have HR : Hid (prefB l wh m wm = (preB l m && (if l.length = m.length then wh == wm else !wh))) := rfl
  have HLN : Hid (preB l m = true → l.length ≤ m.length) := fun h => Nat.not_lt.1 fun h2 => by rw [preB_len h2] at h; cases h
  generalize preB l m = v at *
  clear hx hy hP hQ
  go_enter Tryz.func21, Tryz.ntmps21
  go_upto_region 1 with fail
  rw [HW2.out, HBQ.out]
  cases v with
  | false =>
    go_wp2_with (go_at_call 60; go_loud (refine HB.out.mono ?_; rintro r w3 ⟨rfl, hb3⟩))
    go_ret
    exact ⟨by rw [HR.out]; rfl, bthen hb2 hb3⟩
  | true =>
    by_cases heq : l.length = m.length
    · have hz : ((l.length : Int) == (m.length : Int)) = true := by simp [heq]
      rw [if_pos heq] at HR
      clear heq
      go_wp2_with (go_at_call 60; go_loud (refine HB.out.mono ?_; rintro r w3 ⟨rfl, hb3⟩; have p0 := ((bcell hb3).1 _ _ pl).trans p0; have p1 := ((bcell hb3).1 _ _ pl).trans p1; have q0 := ((bcell hb3).1 _ _ ql).trans q0; have q1 := ((bcell hb3).1 _ _ ql).trans q1))
      go_ret
      exact ⟨by rw [HR.out]; simp, bthen hb2 hb3⟩
    · have hz : ((l.length : Int) == (m.length : Int)) = false := by simp; omega
      rw [if_neg heq] at HR
      clear heq
      go_wp2_with (go_at_call 60; go_loud (refine HB.out.mono ?_; rintro r w3 ⟨rfl, hb3⟩; have p0 := ((bcell hb3).1 _ _ pl).trans p0; have p1 := ((bcell hb3).1 _ _ pl).trans p1; have q0 := ((bcell hb3).1 _ _ ql).trans q0; have q1 := ((bcell hb3).1 _ _ ql).trans q1))
      go_ret
      exact ⟨by rw [HR.out]; simp, bthen hb2 hb3⟩
set_option maxRecDepth 100000 in
set_option maxHeartbeats 4000000 in
theorem psame_any (C D : Option Addr) (l m : List Can) (e f : Nat) (wh wm : Bool) (w : World) (hx : SlR 2 RCan w C l) (hy : SlR 2 RCan w D m) (hl : l.length ≤ maxLen) (hl2 : m.length ≤ maxLen) :
    Calls Tryz.prog 22 #[.agg #[.slice C l.length e, .bool wh], .agg #[.slice D m.length f, .bool wm]] w fun r w' => r = .returned (.bool (decide (l = m) && (wh == wm))) ∧ Below w.heap.size w w' := by
  obtain ⟨w2, hw2⟩ : ∃ w2, (w.alloc (.cells #[.slice C l.length e, .bool wh] 61)).alloc (.cells #[.slice D m.length f, .bool wm] 61) = w2 := ⟨_, rfl⟩
  have hb2 : Below w.heap.size w w2 := by rw [← hw2]; exact nw _ (nw _ (Below.refl _ _))
  have hP : Blk w2 w.heap.size 61 #[.slice C l.length e, .bool wh] := by rw [← hw2]; exact (Blk.new _ _ _).alloc _
  have hQ : Blk w2 (w.heap.size + 1) 61 #[.slice D m.length f, .bool wm] := by rw [← hw2]; exact Blk.new_ (by simp)
  have HW2 := Lib.hid hw2
  obtain ⟨bQ, hbQ⟩ : ∃ b, w.heap.size + 1 = b := ⟨_, rfl⟩
  rw [hbQ] at hQ
  have HBQ := Lib.hid hbQ
  have p0 := hP.cell 0
  have p1 := hP.cell 1
  have pl := hP.lt
  have q0 := hQ.cell 0
  have q1 := hQ.cell 1
  have ql := hQ.lt
  simp at p0 p1 q0 q1
  clear hw2 hbQ
  have HB : Hid (Calls Tryz.prog 23 #[.slice C l.length e, .slice D m.length f] w2 fun e w' => e = .returned (.bool (decide (l = m))) ∧ Below w2.heap.size w2 w') := same_any C D l m e f w2 (hx.below keeps_can hb2) (hy.below keeps_can hb2) hl hl2
  generalize decide (l = m) = v at *
  clear hx hy hP hQ
  go_enter Tryz.func22, Tryz.ntmps22
  go_upto_region 1 with fail
  rw [HW2.out, HBQ.out]
  cases v with
  | false =>
    go_wp2_with (go_at_call 23; go_loud (refine HB.out.mono ?_; rintro r w3 ⟨rfl, hb3⟩))
    go_ret
    exact ⟨rfl, bthen hb2 hb3⟩
  | true =>
    go_wp2_with (go_at_call 23; go_loud (refine HB.out.mono ?_; rintro r w3 ⟨rfl, hb3⟩; have p0 := ((bcell hb3).1 _ _ pl).trans p0; have p1 := ((bcell hb3).1 _ _ pl).trans p1; have q0 := ((bcell hb3).1 _ _ ql).trans q0; have q1 := ((bcell hb3).1 _ _ ql).trans q1))
    go_ret
    exact ⟨by simp, bthen hb2 hb3⟩
end Go.Proofs.YtfjkmgjjifhdkaaGreat

/-
  The plain laws of pages, and what Make, More and Check answer at valid graphs with many links.
-/
namespace Go.Proofs.YtfjkmgjjifhdkaaGreat
open Go Go.RowKit

theorem pg_same {g : Gr} {n m : Nat} (h : min n (allG g).length = min m (allG g).length) : pgL g n = pgL g m ∧ pgWh g n = pgWh g m := by
  refine ⟨?_, by rw [pgWh_eq, pgWh_eq, h]⟩
  unfold pgL
  rw [List.take_eq_take_iff]
  exact h
theorem pg_pre {g : Gr} {n m : Nat} (h : n ≤ m) : prefB (pgL g n) (pgWh g n) (pgL g m) (pgWh g m) = true := by
  have h1 : preB (pgL g n) (pgL g m) = true := by
    unfold preB
    rw [decide_eq_true_iff, pgL_len]
    unfold pgL
    rw [List.take_take]
    rw [List.take_eq_take_iff]
    omega
  unfold prefB
  rw [h1, Bool.true_and, pgL_len, pgL_len]
  split
  · rename_i h2
    rw [(pg_same h2).2]
    simp
  · rename_i h2
    rw [pgWh_eq, decide_eq_false (by omega)]
    rfl
theorem lmore_any (A : Option Addr) (c : Nat) (g : Gr) (C : Option Addr) (e m : Nat) (k b : Int) (n : Nat) (w : World) (hx : SlR 4 RLk w A g.ls) (hg : GrOK g) (h14 : g.ls.length ≤ 20000 ∧ nW g 0 ≤ 1000000) (hk : 0 ≤ k ∧ k ≤ 50) (hb : 0 ≤ b ∧ b ≤ 1000000) (hp : PgIn w C e (pgL g m)) (hn : wantN g k b = n) (q : Nat)
    (hq : min (min (min m (allG g).length + n) 50) (allG g).length = min q (allG g).length) :
    Calls Tryz.prog 19 #[.agg #[.int .i64 g.n, .slice A g.ls.length c], .agg #[.slice C (pgL g m).length e, .bool (pgWh g m)], .int .i64 k, .int .i64 b] w fun e w' => ∃ A c, e = .returned (.tuple #[.agg #[.slice A (pgL g q).length c, .bool (pgWh g q)], .int .i64 0]) ∧ PgIn w' A c (pgL g q) ∧ Below w.heap.size w w' := by
  have hl : (pgL g m).length ≤ 1000000 := by rw [pgL_len]; have := allG_len g; have := h14.2; omega
  have h := (more_any A c g C (pgL g m) e (pgWh g m) k b w hx h14 hp.s hl hp.l hb.2).mono fun _ _ h => h.in_
  obtain ⟨h1, h2⟩ := pg_same hq
  rw [show moreM g (pgL g m) (pgWh g m) k b = (pgL g q, pgWh g q, 0) by
    unfold moreM
    rw [if_pos (pgErr_zero hg hk hb.1), pg_check hg h14, if_pos rfl, hn, pgL_len]
    unfold pgL at h1
    rw [h1, h2]
    rfl] at h
  exact h
end Go.Proofs.YtfjkmgjjifhdkaaGreat

/-
  The plain law of layer 20: the ways through a lattice's graph are the ways through the lattice, with their costs. No program in sight; no conditions.
-/
namespace Go.Proofs.YtfjkmgjjifhdkaaGreat
open List

theorem grL_ok {x : La} {m : Mo} {prev : Int} (hm : MoOK m) (hf : FitsL x m.ws.length) (hco : ∀ e ∈ x.es, e.co ≤ 1000) (hl : x.es.length ≤ 100) : GrOK (grL x m prev) := by
  have h1 := nodesL_len x prev
  refine ⟨?_, ?_, fun l h => ?_⟩
  · show 1 ≤ ((nodesL x prev).length : Int) ∧ ((nodesL x prev).length : Int) ≤ 2000; omega
  · show (lksTo x m prev (nodesL x prev).length).length ≤ 20000
    have h2 := lksTo_len x m prev (nodesL x prev).length
    have h3 : (nodesL x prev).length * x.es.length ≤ 102 * 100 := Nat.mul_le_mul (by omega) hl
    omega
  · obtain ⟨i, k, p, e, h2, h3, h4, rfl⟩ := lksL_mem.1 h
    exact (cx_mkLk_ok hm hf hco h2 h3 h4).1
theorem lksTo_fr {x : La} {m : Mo} {prev : Int} {v : Nat} {p : Int × Int} (hv : (nodesL x prev)[v]? = some p) : ∀ j, j ≤ (nodesL x prev).length → (lksTo x m prev j).filter (fun l => decide (l.fr = (v : Int))) = if v < j then (frE x p.1).map (cx_mkLk x m prev v p.2) else []
  | 0, _ => by simp [lksTo]
  | j + 1, hj => by
    have hl : (nodesL x prev)[j]? = some (nodesL x prev)[j] := List.getElem?_eq_getElem (by omega)
    rw [lksTo_succ hl, filter_append, lksTo_fr hv j (by omega)]
    have hfr : ∀ l ∈ (frE x (nodesL x prev)[j].1).map (cx_mkLk x m prev j (nodesL x prev)[j].2), l.fr = (j : Int) := fun l h => by
      obtain ⟨k, hk, rfl⟩ := mem_map.1 h
      obtain ⟨e, he, _⟩ := frE_mem.1 hk
      rw [cx_mkLk_at he]
    by_cases h1 : v < j
    · rw [if_pos h1, if_pos (by omega), filter_eq_nil_iff.2 (fun l h => by rw [hfr l h]; simp; omega), append_nil]
    · by_cases h2 : v = j
      · subst h2
        rw [hv] at hl
        obtain rfl := Option.some.inj hl
        rw [if_neg h1, if_pos (by omega), nil_append, filter_eq_self.2 (fun l h => by rw [hfr l h]; simp)]
      · rw [if_neg h1, if_neg (by omega), nil_append, filter_eq_nil_iff.2 (fun l h => by rw [hfr l h]; simp; omega)]
theorem lvTo_map (ls : List Lk) (v : Int) : ∀ k, k ≤ ls.length → (lvTo ls v k).map (fun i : Int => ls.getD i.toNat default) = (ls.take k).filter (fun l => decide (l.fr = v))
  | 0, _ => by simp [lvTo]
  | k + 1, hk => by
    have hl : ls[k]? = some ls[k] := List.getElem?_eq_getElem (by omega)
    rw [lvTo_succ hl, take_snoc_of hl, filter_append, ← lvTo_map ls v k (by omega)]
    have hd : ls[k]?.getD default = ls[k] := by rw [hl]; rfl
    split
    · rename_i h
      rw [map_append]
      simp [h]
      exact hd
    · rename_i h
      simp [h]
theorem lvs_map (g : Gr) (v : Int) : (lvs g v).map (lkAt g) = g.ls.filter (fun l => decide (l.fr = v)) := by
  have := lvTo_map g.ls v g.ls.length (Nat.le_refl _)
  rw [take_length] at this
  exact this
theorem lvs_node {x : La} {m : Mo} {prev : Int} {v : Nat} {p : Int × Int} (hv : (nodesL x prev)[v]? = some p) : (lvs (grL x m prev) (v : Int)).map (lkAt (grL x m prev)) = (frE x p.1).map (cx_mkLk x m prev v p.2) := by
  rw [lvs_map]
  show (lksTo x m prev (nodesL x prev).length).filter _ = _
  rw [lksTo_fr hv _ (Nat.le_refl _), if_pos (List.getElem?_eq_some_iff.1 hv).1]
theorem node_place {x : La} (hf : LaOK x) {prev : Int} {v : Nat} {p : Int × Int} (hv : (nodesL x prev)[v]? = some p) : p.1 = x.n ↔ (v : Int) = ((nodesL x prev).length : Int) - 1 := by
  obtain ⟨hlt, _⟩ := List.getElem?_eq_some_iff.1 hv
  by_cases hn : x.n = 0
  · have e : nodesL x prev = [(0, prev)] := by unfold nodesL tailL; rw [if_pos hn]
    rw [e] at hv hlt ⊢
    simp at hlt
    subst hlt
    simp at hv
    subst hv
    simp [hn]
  · have h0 := hf.1.1
    have hl := node_last hf prev (by omega)
    constructor
    · intro hp
      rcases Nat.lt_or_ge v ((nodesL x prev).length - 1) with h1 | h1
      · have hpm : p ∈ nodesL x prev := mem_of_getElem? hv
        exfalso
        have h2 : p = (x.n, -1) := by
          unfold nodesL tailL at hpm
          rw [if_neg hn] at hpm
          rcases mem_cons.1 hpm with rfl | h3
          · exact absurd hp.symm hn
          · rw [sortU_mem, arr_mem hf] at h3
            rcases h3 with h3 | h3
            · exact h3
            · have := h3.1; omega
        rw [h2] at hv
        have := ix_at (nodesL_nodup hf prev) hv
        have := ix_at (nodesL_nodup hf prev) hl
        omega
      · omega
    · intro hp
      rw [show v = (nodesL x prev).length - 1 by omega, hl] at hv
      rw [← Option.some.inj hv]
theorem arr_node {x : La} (hf : LaOK x) (prev : Int) {e : Ed} (he : e ∈ x.es) : ∃ q, (nodesL x prev)[ixL (nodesL x prev) (arrL x.n e)]? = some q ∧ q.1 = e.to ∧ (q.1 ≠ x.n → q.2 = e.wd) := by
  refine ⟨_, ix_get (arr_in hf prev he), ?_, ?_⟩
  · unfold arrL; split
    · rename_i h; exact h.symm
    · rfl
  · unfold arrL; split
    · intro h; exact absurd rfl h
    · intro _; rfl
end Go.Proofs.YtfjkmgjjifhdkaaGreat

/-
  Layer 20: what the laws' build answers for lattices that fit. No conditions.
-/
namespace Go.Proofs.YtfjkmgjjifhdkaaGreat
open Go Go.RowKit

theorem buM_ok {x : La} {m : Mo} {prev : Int} (hm : MoOK m) (hf : FitsL x m.ws.length) (hp : -1 ≤ prev ∧ prev < (m.ws.length : Int)) : buM x m prev = ⟨grL x m prev, lastL x prev, 0⟩ := by
  unfold buM
  rw [if_pos hm, if_pos ⟨hp, hf⟩]
end Go.Proofs.YtfjkmgjjifhdkaaGreat

/-
  The plain law of layer 20: how many ways there are through a lattice. No program in sight; no conditions.
-/
namespace Go.Proofs.YtfjkmgjjifhdkaaGreat
open List

/-- The number of ways from the place v to the place n by edges of the list. -/
def waysE (n : Int) : List Ed → Int → Int
  | [], v => if v = n then 1 else 0
  | e :: es, v => waysE n es v + if e.fr = v then waysE n es e.to else 0
theorem waysE_none {n u : Int} {e : Ed} {es : List Ed} (h : e.fr ≠ u) : waysE n (e :: es) u = waysE n es u := by
  show waysE n es u + (if e.fr = u then waysE n es e.to else 0) = _
  rw [if_neg h]; omega
def SortF (es : List Ed) : Prop := es.Pairwise (fun a b => a.fr ≤ b.fr) ∧ ∀ e ∈ es, e.fr < e.to
theorem waysE_step {n : Int} : ∀ {es : List Ed}, SortF es → ∀ v, waysE n es v = (if v = n then 1 else 0) + ((es.filter (fun e => decide (e.fr = v))).map (fun e => waysE n es e.to)).sum
  | [], _, v => by simp [waysE]
  | e :: es, h, v => by
    have hs : SortF es := ⟨(pairwise_cons.1 h.1).2, fun a ha => h.2 a (mem_cons_of_mem _ ha)⟩
    have ih := waysE_step (n := n) hs v
    have hm : ∀ a ∈ e :: es, waysE n (e :: es) a.to = waysE n es a.to := fun a ha => waysE_none (by
      have h1 := h.2 a ha
      rcases mem_cons.1 ha with rfl | ha
      · omega
      · have := (pairwise_cons.1 h.1).1 a ha; omega)
    have e1 : (((e :: es).filter (fun e => decide (e.fr = v))).map (fun a => waysE n (e :: es) a.to)) = (((e :: es).filter (fun e => decide (e.fr = v))).map (fun a => waysE n es a.to)) := map_congr_left fun a ha => hm a (mem_filter.1 ha).1
    rw [e1]
    show waysE n es v + (if e.fr = v then waysE n es e.to else 0) = _
    rw [ih, filter_cons]
    by_cases hv : e.fr = v
    · simp [hv]; omega
    · simp [hv]
theorem incE_sort : ∀ {es : List Ed}, incE es = true → es.Pairwise (fun a b => a.fr ≤ b.fr)
  | [], _ => Pairwise.nil
  | a :: l, h => by
    obtain ⟨h1, h2⟩ := incE_cons.1 h
    have ih := incE_sort h2
    refine pairwise_cons.2 ⟨fun b hb => ?_, ih⟩
    cases l with
    | nil => cases hb
    | cons y l =>
      have h3 := lessE_iff.1 (h1 y rfl)
      rcases mem_cons.1 hb with rfl | hb
      · omega
      · have := (pairwise_cons.1 ih).1 b hb; omega
theorem la_sort {x : La} (h : LaOK x) : SortF x.es := ⟨incE_sort h.2.2.2, fun e he => (h.2.2.1 e he).1.2.1⟩
theorem frTo_map (es : List Ed) (v : Int) : ∀ k, k ≤ es.length → (frTo es v k).map (fun i : Nat => es.getD i ⟨0, 0, 0, 0⟩) = (es.take k).filter (fun e => decide (e.fr = v))
  | 0, _ => by simp [frTo]
  | k + 1, hk => by
    have hl : es[k]? = some es[k] := List.getElem?_eq_getElem (by omega)
    rw [frTo_succ hl, take_snoc_of hl, filter_append, ← frTo_map es v k (by omega)]
    have hd : es[k]?.getD ⟨0, 0, 0, 0⟩ = es[k] := by rw [hl]; rfl
    split
    · rename_i h
      rw [map_append]
      simp [h]
      exact hd
    · rename_i h
      simp [h]
theorem sum_cast (L : List Nat) : ((L.sum : Nat) : Int) = (L.map (fun i : Nat => (i : Int))).sum := by
  induction L with
  | nil => rfl
  | cons a L ih => simp [ih]
/-- As many ways from a node as from its place. -/
theorem nW_ways {x : La} {m : Mo} {prev : Int} (hg : GrOK (grL x m prev)) (hf : LaOK x) : ∀ (d v : Nat) (p : Int × Int), v + d = (nodesL x prev).length → (nodesL x prev)[v]? = some p → (nW (grL x m prev) (v : Int) : Int) = waysE x.n x.es p.1 := by
  intro d
  induction d using Nat.strongRecOn with
  | _ d ih =>
    intro v p hd hv
    obtain ⟨hlt, _⟩ := List.getElem?_eq_some_iff.1 hv
    have hgn : (grL x m prev).n = ((nodesL x prev).length : Int) := rfl
    by_cases hlast : p.1 = x.n
    · have hvl := (node_place hf hv).1 hlast
      rw [← hgn] at hvl
      rw [hvl, nW_last hg, hlast, waysE_step (la_sort hf), if_pos rfl]
      have : x.es.filter (fun e => decide (e.fr = x.n)) = [] := filter_eq_nil_iff.2 fun e he => by
        have := (hf.2.2.1 e he).1
        simp; omega
      rw [this]; rfl
    · have hne : (v : Int) < (grL x m prev).n - 1 := by
        have : ¬ (v : Int) = ((nodesL x prev).length : Int) - 1 := fun h => hlast ((node_place hf hv).2 h)
        rw [hgn]; omega
      rw [nW_step hg (by omega) hne, waysE_step (la_sort hf), if_neg hlast, Int.zero_add, sum_cast, map_map]
      have e1 : (lvs (grL x m prev) (v : Int)).map ((fun i : Nat => (i : Int)) ∘ fun i => nW (grL x m prev) (lkAt (grL x m prev) i).to) = ((lvs (grL x m prev) (v : Int)).map (lkAt (grL x m prev))).map (fun l => (nW (grL x m prev) l.to : Int)) := by
        rw [map_map]; rfl
      rw [e1, lvs_node hv, map_map]
      have e2 : x.es.filter (fun e => decide (e.fr = p.1)) = (frE x p.1).map (fun i : Nat => x.es.getD i ⟨0, 0, 0, 0⟩) := by
        have := frTo_map x.es p.1 x.es.length (Nat.le_refl _)
        rw [take_length] at this
        exact this.symm
      rw [e2, map_map]
      congr 1
      refine map_congr_left fun k hk => ?_
      obtain ⟨e, he, hfr⟩ := frE_mem.1 hk
      obtain ⟨q, hq, hq1, _⟩ := arr_node hf prev (mem_of_getElem? he)
      show (nW (grL x m prev) (cx_mkLk x m prev v p.2 k).to : Int) = waysE x.n x.es (x.es.getD k ⟨0, 0, 0, 0⟩).to
      rw [cx_mkLk_at he, getD_eq_getElem?_getD, he]
      show (nW (grL x m prev) (ixL (nodesL x prev) (arrL x.n e) : Int) : Int) = waysE x.n x.es e.to
      rw [← hq1]
      have hgt := node_lt hf hv hq (by rw [hq1, ← hfr]; exact (hf.2.2.1 e (mem_of_getElem? he)).1.2.1)
      obtain ⟨hql, _⟩ := List.getElem?_eq_some_iff.1 hq
      exact ih ((nodesL x prev).length - ixL (nodesL x prev) (arrL x.n e)) (by omega) _ q (by omega) hq
theorem nW_first {x : La} {m : Mo} {prev : Int} (hg : GrOK (grL x m prev)) (hf : LaOK x) : (nW (grL x m prev) 0 : Int) = waysE x.n x.es 0 :=
  nW_ways hg hf (nodesL x prev).length 0 (0, prev) (by omega) (node_first x prev)

/-! How the reference counts. -/
def cntStep (L : List Int) (e : Ed) : List Int := L.set e.to.toNat (L.getD e.to.toNat 0 + L.getD e.fr.toNat 0)
def cntL (x : La) (k : Nat) : List Int := (x.es.take k).foldl cntStep ((List.replicate (x.n.toNat + 1) 0).set 0 1)
def cntM (x : La) : Int := (cntL x x.es.length).getD x.n.toNat 0
theorem cntStep_len (L : List Int) (e : Ed) : (cntStep L e).length = L.length := length_set
theorem cntL_succ {x : La} {k : Nat} {e : Ed} (h : x.es[k]? = some e) : cntL x (k + 1) = cntStep (cntL x k) e := by
  unfold cntL
  rw [take_snoc_of h, foldl_append]
  rfl
theorem getD_set (L : List Int) (i j : Nat) (a : Int) : (L.set i a).getD j 0 = if i = j ∧ j < L.length then a else L.getD j 0 := by
  rw [getD_eq_getElem?_getD, getD_eq_getElem?_getD, getElem?_set]
  by_cases h : i = j
  · subst h
    by_cases h2 : i < L.length
    · simp [h2]
    · simp [h2]
  · simp [h]
theorem cntL_bd (x : La) : ∀ (k : Nat), k ≤ x.es.length → ∀ j, 0 ≤ (cntL x k).getD j 0 ∧ (cntL x k).getD j 0 ≤ 2 ^ k
  | 0, _, j => by
    show 0 ≤ ((List.replicate (x.n.toNat + 1) 0).set 0 1).getD j 0 ∧ _
    rw [show cntL x 0 = (List.replicate (x.n.toNat + 1) 0).set 0 1 from rfl, getD_set]
    have : (List.replicate (x.n.toNat + 1) (0 : Int)).getD j 0 = 0 := by
      rw [getD_eq_getElem?_getD, getElem?_replicate]; split <;> rfl
    rw [this]
    split <;> simp
  | k + 1, hk, j => by
    have hl : x.es[k]? = some x.es[k] := List.getElem?_eq_getElem (by omega)
    have ih := cntL_bd x k (by omega)
    rw [cntL_succ hl]
    unfold cntStep
    rw [getD_set]
    have h1 := ih j
    have h2 := ih x.es[k].to.toNat
    have h3 := ih x.es[k].fr.toNat
    have h4 : (2 : Int) ^ (k + 1) = 2 * 2 ^ k := by rw [Int.pow_succ]; omega
    rw [h4]
    split
    · omega
    · omega
/-- The sum of the products. -/
def dotL : List Int → (Nat → Int) → Int
  | [], _ => 0
  | a :: A, f => a * f 0 + dotL A fun i => f (i + 1)
theorem dotL_add : ∀ (A : List Int) (f g : Nat → Int), dotL A (fun i => f i + g i) = dotL A f + dotL A g
  | [], _, _ => rfl
  | a :: A, f, g => by
    show a * (f 0 + g 0) + dotL A (fun i => f (i + 1) + g (i + 1)) = _
    rw [dotL_add A, Int.mul_add]
    show _ = a * f 0 + dotL A (fun i => f (i + 1)) + (a * g 0 + dotL A fun i => g (i + 1))
    omega
theorem dotL_zero : ∀ (A : List Int), dotL A (fun _ => 0) = 0
  | [] => rfl
  | a :: A => by show a * 0 + dotL A (fun _ => 0) = 0; rw [dotL_zero A]; omega
theorem dotL_one : ∀ (A : List Int) (j : Nat) (c : Int), dotL A (fun i => if i = j then c else 0) = A.getD j 0 * c
  | [], _, _ => by simp [dotL]
  | a :: A, 0, c => by
    show a * c + dotL A (fun i => if i + 1 = 0 then c else 0) = _
    have : (fun i : Nat => if i + 1 = 0 then c else 0) = fun _ => 0 := by funext i; rw [if_neg (by omega)]
    rw [this, dotL_zero]; simp
  | a :: A, j + 1, c => by
    show a * (if 0 = j + 1 then c else 0) + dotL A (fun i => if i + 1 = j + 1 then c else 0) = _
    rw [if_neg (by omega)]
    have : (fun i : Nat => if i + 1 = j + 1 then c else 0) = fun i => if i = j then c else 0 := by funext i; simp
    rw [this, dotL_one A j c]; simp
theorem dotL_set : ∀ (A : List Int) (j : Nat) (c : Int) (f : Nat → Int), j < A.length → dotL (A.set j (A.getD j 0 + c)) f = dotL A f + c * f j
  | [], _, _, _, h => by simp at h
  | a :: A, 0, c, f, _ => by
    show (a + c) * f 0 + dotL A (fun i => f (i + 1)) = a * f 0 + dotL A (fun i => f (i + 1)) + c * f 0
    rw [Int.add_mul]; omega
  | a :: A, j + 1, c, f, h => by
    have := dotL_set A j c (fun i => f (i + 1)) (by simp at h; omega)
    show a * f 0 + dotL (A.set j ((a :: A).getD (j + 1) 0 + c)) (fun i => f (i + 1)) = a * f 0 + dotL A (fun i => f (i + 1)) + c * f (j + 1)
    rw [show (a :: A).getD (j + 1) 0 = A.getD j 0 by simp, this]; omega
theorem cnt_fold {N : Nat} : ∀ (es : List Ed) (A : List Int), A.length = N + 1 → (∀ e ∈ es, 0 ≤ e.fr ∧ e.fr < e.to ∧ e.to ≤ (N : Int)) → (es.foldl cntStep A).getD N 0 = dotL A (fun v => waysE (N : Int) es (v : Int))
  | [], A, hA, _ => by
    have : (fun v : Nat => waysE (N : Int) [] (v : Int)) = fun v => if v = N then 1 else 0 := by
      funext v
      show (if (v : Int) = (N : Int) then (1 : Int) else 0) = _
      by_cases h : v = N
      · subst h; simp
      · rw [if_neg (by omega), if_neg h]
    rw [this, dotL_one]; simp
  | e :: es, A, hA, h => by
    have he := h e mem_cons_self
    rw [foldl_cons, cnt_fold es (cntStep A e) (by rw [cntStep_len, hA]) (fun a ha => h a (mem_cons_of_mem _ ha))]
    unfold cntStep
    rw [dotL_set _ _ _ _ (by omega)]
    have e1 : (fun v : Nat => waysE (N : Int) (e :: es) (v : Int)) = fun v : Nat => waysE (N : Int) es (v : Int) + (if v = e.fr.toNat then waysE (N : Int) es e.to else 0) := by
      funext v
      show waysE (N : Int) es (v : Int) + (if e.fr = (v : Int) then waysE (N : Int) es e.to else 0) = _
      by_cases h2 : v = e.fr.toNat
      · rw [if_pos (by omega), if_pos h2]
      · rw [if_neg (by omega), if_neg h2]
    rw [e1, dotL_add, dotL_one]
    show _ + A.getD e.fr.toNat 0 * waysE (N : Int) es (e.to.toNat : Int) = _
    rw [Int.toNat_of_nonneg (by omega)]
theorem cntM_ways {x : La} (h : LaOK x) : cntM x = waysE x.n x.es 0 := by
  obtain ⟨N, hN⟩ : ∃ N : Nat, x.n = (N : Int) := ⟨x.n.toNat, by have := h.1.1; omega⟩
  unfold cntM cntL
  rw [take_length, hN, Int.toNat_natCast, cnt_fold x.es _ (by simp) (fun e he => by have := (h.2.2.1 e he).1; omega)]
  have : (List.replicate (N + 1) (0 : Int)).set 0 1 = 1 :: List.replicate N 0 := by simp [List.replicate_succ]
  rw [this]
  show 1 * waysE (N : Int) x.es ((0 : Nat) : Int) + dotL (List.replicate N 0) _ = _
  have hz : ∀ (n : Nat) (f : Nat → Int), dotL (List.replicate n 0) f = 0 := fun n => by
    induction n with
    | zero => intro f; rfl
    | succ n ih => intro f; rw [List.replicate_succ]; show 0 * f 0 + dotL (List.replicate n 0) _ = 0; rw [ih]; omega
  rw [hz]
  simp
end Go.Proofs.YtfjkmgjjifhdkaaGreat

/-
  Layer 20: the first candidates of a lattice's graph, their edges, words and number. No conditions.
-/
namespace Go.Proofs.YtfjkmgjjifhdkaaGreat
open Go Go.RowKit

theorem grL_n (x : La) (m : Mo) (prev : Int) : (grL x m prev).n = ((nodesL x prev).length : Int) := rfl
theorem cnt_small {x : La} (h : LaOK x) (h13 : x.es.length ≤ 13) : 0 ≤ cntM x ∧ cntM x ≤ 8192 := by
  have h1 := cntL_bd x x.es.length (Nat.le_refl _) x.n.toNat
  have h2 : (2 : Int) ^ x.es.length ≤ 2 ^ 13 := by have h : (2 : Nat) ^ x.es.length ≤ 2 ^ 13 := Nat.pow_le_pow_right (by decide) h13; exact_mod_cast h
  unfold cntM
  omega
theorem nW_cnt {x : La} {m : Mo} {prev : Int} (hg : GrOK (grL x m prev)) (hf : LaOK x) : (nW (grL x m prev) 0 : Int) = cntM x := by rw [nW_first hg hf, cntM_ways hf]
end Go.Proofs.YtfjkmgjjifhdkaaGreat

/-
  Pages of a lattice's graph in context: what Build, Make, Check, More, Number, Prefix and Same answer. No conditions.
-/
namespace Go.Proofs.YtfjkmgjjifhdkaaGreat
open Go Go.RowKit

theorem buildL_any (x : La) (A : Option Addr) (c : Nat) (m : Mo) (A1 A2 A3 : Option Addr) (c1 c2 c3 : Nat) (prev : Int) (w : World) (hx : SlR 4 REd w A x.es) (hes : x.es.length ≤ 13) (hm : MoR w m A1 A2 A3) (hc3 : m.ps.length ≤ c3) (hm3 : c3 ≤ maxLen)
    (hok : MoOK m) (hf : FitsL x m.ws.length) (hp : -1 ≤ prev ∧ prev < (m.ws.length : Int)) {nl : Int} (hnl : (grL x m prev).n = nl) {GL : Nat} (hGL : (grL x m prev).ls.length = GL) :
    Calls Tryz.prog 13 #[.agg #[.int .i64 x.n, .slice A x.es.length c], .agg #[.slice A1 m.ws.length c1, .slice A2 m.cs.length c2, .slice A3 m.ps.length c3, .int .i64 m.back], .int .i64 prev] w fun e w' => ∃ (LA LB : Option Addr) (cA lB cB : Nat), e = .returned (.tuple #[.agg #[.int .i64 nl, .slice LA GL cA], .slice LB lB cB, .int .i64 0]) ∧ SlR 4 RLk w' LA (grL x m prev).ls ∧ Below w.heap.size w w' := by
  subst hnl hGL
  have := build_any x A c m A1 A2 A3 c1 c2 c3 prev w hx (by omega) hm hc3 hm3
  rw [buM_ok hok hf hp] at this
  refine this.mono ?_
  rintro e w' ⟨LA, LB, cA, cB, he, h1, _, _, h4, _, _⟩
  exact ⟨LA, LB, cA, _, cB, he, h1, h4⟩
theorem grL_small {x : La} {m : Mo} {prev : Int} (hg : GrOK (grL x m prev)) (hf : LaOK x) (h13 : x.es.length ≤ 13) : (grL x m prev).ls.length ≤ 20000 ∧ nW (grL x m prev) 0 ≤ 1000000 := by
  have h1 := nW_cnt hg hf
  have h2 := cnt_small hf h13
  exact ⟨hg.len, by omega⟩
theorem want_all {g : Gr} (hn : 1 ≤ g.n ∧ g.n ≤ 15) {k : Int} (hk : 0 ≤ k ∧ k ≤ 50) : wantN g k 100000 = k.toNat := by
  unfold wantN
  have h1 : 50 ≤ 100000 / g.n := by rw [Int.le_ediv_iff_mul_le (by omega)]; omega
  congr 1
  omega
theorem want_le20 {g : Gr} (b : Int) : wantN g 20 b ≤ 20 := by unfold wantN; omega
theorem grL_nodes (x : La) (m : Mo) (prev : Int) (h13 : x.es.length ≤ 13) : 1 ≤ (grL x m prev).n ∧ (grL x m prev).n ≤ 15 := by
  have := nodesL_len x prev
  rw [grL_n]
  omega
section
variable {g : Gr} (hg : GrOK g) (h14 : g.ls.length ≤ 20000 ∧ nW g 0 ≤ 1000000) {gn : Int} (hgn : g.n = gn) {GL : Nat} (hGL : g.ls.length = GL) {lp : Nat} (hlp : (potL g).length = lp)
include hg h14 hgn hGL
include hlp in
theorem mkS_any {n : Nat} {L : List Can} (hL : pgL g n = L) {l : Nat} (hl : L.length = l) {wb : Bool} (hwb : pgWh g n = wb) {k b : Int} (hk : 0 ≤ k ∧ k ≤ 50) (hb : 0 ≤ b ∧ b ≤ 1000000) (hn : wantN g k b = n) (A : Option Addr) (c : Nat) (w : World) (hx : SlR 4 RLk w A g.ls) :
    Calls Tryz.prog 14 #[.agg #[.int .i64 gn, .slice A GL c], .int .i64 k, .int .i64 b] w fun e w' => ∃ A c B d, e = .returned (.tuple #[.agg #[.slice A l c, .bool wb], .slice B lp d, .int .i64 0]) ∧ PgIn w' A c L ∧ SlR 1 RInt w' B (potL g) ∧ Below w.heap.size w w' := by
  subst hgn hGL hlp hL hl hwb
  exact lmake_any A c g k b n w hx hg h14 hk hb hn
include hlp in
theorem ckS_any {n : Nat} {L : List Can} (hL : pgL g n = L) {l : Nat} (hl : L.length = l) {wb : Bool} (hwb : pgWh g n = wb) (A : Option Addr) (c : Nat) (B : Option Addr) (d : Nat) (C : Option Addr) (e : Nat) (w : World) (hx : SlR 4 RLk w A g.ls) (hh : SlR 1 RInt w B (potL g)) (hp : PgIn w C e L) :
    Calls Tryz.prog 15 #[.agg #[.int .i64 gn, .slice A GL c], .slice B lp d, .agg #[.slice C l e, .bool wb]] w fun r w' => r = .returned (.tuple #[.int .i64 (l : Int), .int .i64 0]) ∧ Below w.heap.size w w' := by
  subst hgn hGL hlp hL hl hwb
  have h := lcheck_any A c g B d C e n w hx hg h14 hh hp
  rw [← pgL_len] at h
  exact h
theorem mrS_any {n : Nat} {L : List Can} (hL : pgL g n = L) {l : Nat} (hl : L.length = l) {wb : Bool} (hwb : pgWh g n = wb) {L2 : List Can} (hL2 : pgL g 20 = L2) {l2 : Nat} (hl2 : L2.length = l2) {wb2 : Bool} (hwb2 : pgWh g 20 = wb2) (hn15 : 1 ≤ g.n ∧ g.n ≤ 15) (hn20 : n ≤ 20) {k : Int} (hk : 20 - (l : Int) = k) (A : Option Addr) (c : Nat) (C : Option Addr) (e : Nat) (w : World) (hx : SlR 4 RLk w A g.ls) (hp : PgIn w C e L) :
    Calls Tryz.prog 19 #[.agg #[.int .i64 gn, .slice A GL c], .agg #[.slice C l e, .bool wb], .int .i64 k, .int .i64 100000] w fun e w' => ∃ A c, e = .returned (.tuple #[.agg #[.slice A l2 c, .bool wb2], .int .i64 0]) ∧ PgIn w' A c L2 ∧ Below w.heap.size w w' := by
  subst hgn hGL hL hl hwb hL2 hl2 hwb2 hk
  have hlen := pgL_len g n
  have hk2 : (0 : Int) ≤ 20 - ((pgL g n).length : Int) ∧ 20 - ((pgL g n).length : Int) ≤ 50 := by omega
  exact lmore_any A c g C e n _ 100000 _ w hx hg h14 hk2 (by omega) hp (want_all hn15 hk2) 20 (by rw [hlen]; omega)
theorem nuS_any {K : Int} (hK : ((allG g).length : Int) = K) (A : Option Addr) (c : Nat) (w : World) (hx : SlR 4 RLk w A g.ls) :
    Calls Tryz.prog 20 #[.agg #[.int .i64 gn, .slice A GL c]] w fun e w' => e = .returned (.int .i64 K) ∧ Below w.heap.size w w' := by
  subst hgn hGL hK
  have h := number_any A c g w hx (by unfold maxLen; have := h14.1; omega)
  rw [num_allG hg h14.2] at h
  exact h
end
theorem wh_eq (g : Gr) (n : Nat) : (((allG g).length : Int) == ((pgL g n).length : Int)) = pgWh g n := by
  rw [pgWh_eq, pgL_len]
  by_cases h : min n (allG g).length = (allG g).length
  · rw [decide_eq_true h, h]; simp
  · rw [decide_eq_false h]
    simp only [beq_eq_false_iff_ne, ne_eq]
    omega
theorem pgL_take (g : Gr) {n k : Nat} (h : n ≤ k) : (pgL g k).take (pgL g n).length = pgL g n := by
  rw [pgL_len]
  unfold pgL
  rw [List.take_take, List.take_eq_take_iff]
  omega
end Go.Proofs.YtfjkmgjjifhdkaaGreat
