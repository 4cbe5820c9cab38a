/-
  The law ProofChanges: for all inputs it returns true.
-/
import Derived.Test.YtaohbicjdmogkaaGrWalkN
import Derived.Test.YtaohbicjdmogkaaGrFirst
import Derived.Test.YtaohbicjdmogkaaGrWalkD
namespace Go.Proofs.Ytaohbicjdmogkaa
open Go Go.RowKit

set_option maxRecDepth 100000 in
set_option maxHeartbeats 16000000 in
theorem proofChanges_any (A : Option Addr) (l : List T3) (c : Nat) (x a d : Int) (w : World) (hs : SlR 3 RT3 w A l) (hl : l.length ≤ maxLen) (hok : ∀ p ∈ l, T3OK p) (hx : 0 ≤ x ∧ x ≤ 255) (ha : 0 ≤ a ∧ a ≤ 255) (hd : -128 ≤ d ∧ d ≤ 127) :
    Calls Try.prog 4 #[.agg #[.int .u8 x, .slice A l.length c], .int .u8 a, .int .i8 d] w fun e w' => e = .returned (.bool true) ∧ Below w.heap.size w w' := by
  obtain ⟨i1, hi1, hy0, hy1, hy2⟩ := info_parts int_inf
  obtain ⟨w1, hw1⟩ : ∃ w1, (w.alloc (.cells #[.int .u8 x, .slice A l.length c] 24)) = w1 := ⟨_, rfl⟩
  have hb1 : Below w.heap.size w w1 := by rw [← hw1]; exact nw _ (Below.refl _ _)
  have hX0 : Blk w1 (w.heap.size) 24 #[.int .u8 x, .slice A l.length c] := by rw [← hw1]; exact Blk.new _ _ _
  have HW1 := Lib.hid hw1
  have HMD : Hid (∀ W, Below w.heap.size w W → Calls Try.prog 9 #[.agg #[.int .u8 x, .slice A l.length c]] W fun e w' => ∃ A' c', e = .returned (.agg #[.int .i64 (madeG x l).n, .slice A' (madeG x l).ls.length c']) ∧ (madeG x l).ls.length ≤ c' ∧ c' ≤ maxLen ∧ SlR 4 RLk w' A' (madeG x l).ls ∧ Below W.heap.size W w') :=
    fun W hW => made_any A l c x W (hs.below keeps_t3 hW) hl hx hok
  have hg : GrOK (madeG x l) := madeG_ok hok
  have h14 : (madeG x l).ls.length ≤ 14 := madeG_len x l
  have hn7 : 1 ≤ (madeG x l).n ∧ (madeG x l).n ≤ 7 := madeG_n x l
  generalize madeG x l = g at *
  obtain ⟨N, hN⟩ : ∃ N : Nat, g.n = (N : Int) := ⟨g.n.toNat, by omega⟩
  rw [hN] at HMD
  have HN := Lib.hid hN
  have HG := Lib.hid hg
  have hN1 : 1 ≤ N := by omega
  have hN7 : N ≤ 7 := by omega
  have hlt1 := hX0.lt
  clear hw1 hs hok hN hg hn7
  have hbx0 := hX0.cell 0
  have hbx1 := hX0.cell 1
  simp at hbx0 hbx1
  go_enter Try.func4, Try.ntmps4
  go_upto_region 1 with fail
  rw [HW1.out]
  go_upto_region 2 with (go_at_call 8; go_loud (refine (sanity_any _).mono ?_; rintro e w2 ⟨rfl, hb2⟩))
  have hX0 := hX0.below hb2 hX0.lt
  have hbx0 := hX0.cell 0
  have hbx1 := hX0.cell 1
  simp at hbx0 hbx1
  have hbw2 := bthen hb1 hb2
  go_upto_region 3 with (go_at_call 9; go_loud (refine (HMD.out _ hbw2).mono ?_; rintro e w3 ⟨A3, c3, rfl, hc3, hcm3, hs3, hb3⟩))
  obtain ⟨W, hW⟩ : ∃ W, w3.alloc (.cells #[.int .i64 (N : Int), .slice A3 g.ls.length c3] 31) = W := ⟨_, rfl⟩
  have hb4 : Below w3.heap.size w3 W := by rw [← hW]; exact nw _ (Below.refl _ _)
  have hGB : Blk W w3.heap.size 31 #[.int .i64 (N : Int), .slice A3 g.ls.length c3] := by rw [← hW]; exact Blk.new _ _ _
  rw [hW]
  obtain ⟨bG, hbG⟩ : ∃ b, w3.heap.size = b := ⟨_, rfl⟩
  have hb34 := bthen hb3 hb4
  have hX0 := hX0.below hb34 hX0.lt
  have hbw := bthen hbw2 hb34
  have hls := hs3.below keeps_lk hb4
  have hwG : w.heap.size ≤ bG := by have := hbw2.size; have := hb3.size; omega
  rw [hbG] at hGB ⊢
  have hlm : g.ls.length ≤ maxLen := by unfold maxLen; omega
  clear hbx0 hbx1 hW hbG hb4 hb34 hbw2 hb2 hb3 hs3 hb1 HMD HW1

  have hpln := potL_len HG.out
  have hpl : (potL g).length = N := by have := HN.out; omega
  have hpb := potL_bd HG.out
  have hgn : g.n = (N : Int) := HN.out
  have HPO : Hid (∀ W', Below W.heap.size W W' → Calls Try.prog 11 #[.agg #[.int .i64 (N : Int), .slice A3 g.ls.length c3]] W' fun e w' => ∃ A' c', e = .returned (.tuple #[.slice A' N c', .int .i64 0]) ∧ SlR 1 RInt w' A' (potL g) ∧ Below W'.heap.size W' w' ∧ N ≤ c' ∧ c' ≤ maxLen) := fun W' hW' => by
    have h := refpot_any A3 c3 g W' (hls.below keeps_lk hW') hlm
    rw [show potsOf g = (potL g, 0) by unfold potsOf; rw [grB_iff.2 HG.out]; rfl, hgn] at h
    dsimp only at h
    rw [hpl] at h
    exact h
  have HFI : Hid (∀ W', Below W.heap.size W W' → Calls Try.prog 15 #[.agg #[.int .i64 (N : Int), .slice A3 g.ls.length c3], .int .i64 3] W' (IsPage ((allC g).take (min 3 (allC g).length)) (decide (min 3 (allC g).length = (allC g).length)) W')) := fun W' hW' => first_any A3 c3 g N 3 W' (hls.below keeps_lk hW') HG.out HN.out (by decide)
  have HCH : Hid (∀ (W' : World) (H : Option Addr) (hh : List Int) (ch : Nat) (P : Option Addr) (L : List Can) (cp : Nat) (b : Bool), Below W.heap.size W W' → SlR 1 RInt W' H hh → hh.length ≤ 8 → SlR 2 RCan W' P L → L.length ≤ 2000 → L.length ≤ cp →
      Calls Try.prog 16 #[.agg #[.int .i64 (N : Int), .slice A3 g.ls.length c3], .slice H hh.length ch, .agg #[.slice P L.length cp, .bool b]] W' fun r w' => r = .returned (.tuple #[.int .i64 (checkAll g hh L b).1, .int .i64 (checkAll g hh L b).2]) ∧ Below W'.heap.size W' w') :=
    fun W' H hh ch P L cp b hW' h1 h2 h3 h4 h5 => by
      have h := check_any A3 c3 g H hh ch P L cp b W' (hls.below keeps_lk hW') hlm h1 (by unfold maxLen; omega) h3 (by omega) h5
      rw [hgn] at h
      exact h
  have HRI : Hid (∀ (W' : World) (H : Option Addr) (hh : List Int) (ch : Nat), Below W.heap.size W W' → SlR 1 RInt W' H hh → hh.length ≤ 8 →
      Calls Try.prog 13 #[.agg #[.int .i64 (N : Int), .slice A3 g.ls.length c3], .slice H hh.length ch] W' fun e w' => e = .returned (.bool (decide (hh = potL g))) ∧ Below W'.heap.size W' w') := fun W' H hh ch hW' h1 h2 => by
    have h := right_any A3 c3 g H hh ch W' (hls.below keeps_lk hW') hlm h1 (by unfold maxLen; omega)
    rw [hgn, grB_iff.2 HG.out, Bool.true_and] at h
    exact h
  have hGl := hGB.lt
  have g0 := hGB.cell 0
  have g1 := hGB.cell 1
  simp at g0 g1
  have HPB := Lib.hid hpb
  have HPL := Lib.hid hpl
  clear hpln hpb hpl hgn hlm
  go_upto_region 4 with (go_at_call 11; go_loud (refine (HPO.out _ (Below.refl _ _)).mono ?_; rintro e w5 ⟨Ah, ch, rfl, hh5, hb5, hch, hchm⟩))
  have hG5 := hGB.below hb5 hGl
  have g0 := hG5.cell 0
  have g1 := hG5.cell 1
  simp at g0 g1
  have hlen := allC_len g
  have hkk : min 3 (allC g).length ≤ (allC g).length := Nat.min_le_right _ _
  have HFC : Hid (∀ b, checkM g ((allC g).take (min 3 (allC g).length)) b = if b = decide (min 3 (allC g).length = (allC g).length) then (((min 3 (allC g).length : Nat) : Int), 0) else (((min 3 (allC g).length : Nat) : Int), 160)) := fun b => first_check HG.out h14 hkk b
  have htk : ((allC g).take (min 3 (allC g).length)).length ≤ 2000 := by rw [List.length_take]; omega
  generalize decide (min 3 (allC g).length = (allC g).length) = wh at *
  generalize (allC g).take (min 3 (allC g).length) = L at *
  generalize min 3 (allC g).length = k3 at *
  clear hkk hlen
  go_upto_region 5 with (go_at_call 15; go_loud (refine (HFI.out _ hb5).mono ?_; rintro e w6 ⟨Ap, cp, ms, rfl, hsp, hmsp, HMX, hcp, hcpm, hb6⟩))
  obtain ⟨w7, hw7⟩ : ∃ W, w6.alloc (.cells #[.slice Ap L.length cp, .bool wh] 44) = W := ⟨_, rfl⟩
  have hb7 : Below w6.heap.size w6 w7 := by rw [← hw7]; exact nw _ (Below.refl _ _)
  have hP7 : Blk w7 w6.heap.size 44 #[.slice Ap L.length cp, .bool wh] := by rw [← hw7]; exact Blk.new _ _ _
  rw [hw7]
  obtain ⟨bP, hbP⟩ : ∃ b, w6.heap.size = b := ⟨_, rfl⟩
  rw [hbP] at hP7 ⊢
  have hb57 := bthen hb6 hb7
  have hG7 := hG5.below hb57 hG5.lt
  have hh7 := hh5.below keeps_int hb57
  have hbW7 := bthen hb5 hb57
  have hc7 : SlR 2 RCan w7 Ap L := by rw [← HMX.out]; exact (mc_can hsp hmsp).below keeps_can hb7
  clear hw7 hbP hb57 hb7 hb6 hb5 hsp hmsp hG5 hh5 hGB
  obtain ⟨i, hi⟩ : ∃ i : Nat, a % (N : Int) = (i : Int) := ⟨(a % (N : Int)).toNat, by have := Int.emod_nonneg a (show (N : Int) ≠ 0 by omega); omega⟩
  have hiN : i < N := by have := Int.emod_lt_of_pos a (show (0 : Int) < (N : Int) by omega); omega
  have ht : a.tmod (N : Int) = (i : Int) := by rw [Int.tmod_eq_emod_of_nonneg ha.1]; exact hi
  have hNz : ¬ (N : Int) = 0 := by omega
  have hwa : IntKind.i64.wrap a = a := IntWalk.i64_in _ (by omega)
  have hwd : IntKind.i64.wrap d = d := IntWalk.i64_in _ (by omega)
  have HPc := Lib.hid hP7
  have HGc := Lib.hid hG7
  have g0 := hG7.cell 0
  have g1 := hG7.cell 1
  simp at g0 g1
  clear hi
  go_upto_region 6 with fail
  -- the changed potentials
  obtain ⟨W8, hW8⟩ : ∃ W, w7.alloc (.cells #[] 3) = W := ⟨_, rfl⟩
  have hb8 : Below w7.heap.size w7 W8 := by rw [← hW8]; exact nw _ (Below.refl _ _)
  have ho8 : W8.ownsRow w7.heap.size 3 1 (.slice (some ⟨w7.heap.size, 0, none⟩) 0 0) 0 [] := by rw [← hW8]; exact own_empty w7 _ 1 _ (Nat.le_refl _)
  have hh8 := hh7.below keeps_int hb8
  have hs8 := hb8.size
  have HB8 := Lib.hid hb8
  have HH7 := Lib.hid hh7
  have hN1m : N ≤ 1000000 := by omega
  clear hb8
  go_upto_region 7 with (at_builtin; go_loud (refine wpList_appS (enc := fun x => [.int .i64 x]) (R := RInt) rfl _ _ 25 rfl w7.heap.size 3 i1 _ 1 8 Try.underlying25 hi1 hy0 hy1 hy2 rfl (by decide) (.slice (some ⟨w7.heap.size, 0, none⟩) 0 0) 0 [] rfl ho8 Ah ch (potL g) (by rw [HPL.out]; rfl) hh8 (fun _ _ _ h => h) (fun _ => rfl) (by intro u hu; obtain ⟨y, _, hy⟩ := List.mem_flatMap.1 hu; obtain rfl := List.mem_singleton.1 hy; rfl) (by rw [HPL.out]; omega) (by decide) hs8 ?_; intro v9 w9 h91 h92 h93))
  have h91' : w9.ownsRow w7.heap.size 3 1 v9 (potL g).length ((potL g).flatMap fun x => [.int .i64 x]) := by simpa using h91
  obtain ⟨gc, cc, rfl, hgc, _, _, _⟩ := own_some (enc := fun x => [Value.int .i64 x]) h91' (fun _ => rfl) (by intro e; have := HPL.out; rw [e] at this; simp at this; omega)
  obtain ⟨hv, hhv⟩ : ∃ v, (potL g)[i]? = some v := ⟨_, List.getElem?_eq_getElem (by have := HPL.out; omega)⟩
  have hvb := HPB.out hv (List.mem_of_getElem? hhv)
  rw [flatMap_one] at h91'
  have hcell : w9.cell? ⟨gc, i, none⟩ = some (.int .i64 hv) := by
    rw [h91'.cellAt i (by have := HPL.out; omega), List.getElem?_map, hhv]; rfl
  have hfz := h91'.frozenAt i
  have hst := (h91'.stored i (.int .i64 (hv + d))).1
  rw [← List.map_set] at hst
  have hwv : IntKind.i64.wrap (hv + d) = hv + d := IntWalk.i64_in _ (by omega)
  have hgcl : gc < w9.heap.size := by
    rcases Nat.lt_or_ge gc w9.heap.size with h | h
    · exact h
    · exact absurd rfl (own_lt h91' h)
  obtain ⟨w10, hw10⟩ : ∃ W, w9.setCell ⟨gc, i, none⟩ (.int .i64 (hv + d)) = W := ⟨_, rfl⟩
  have hb10 : Below w7.heap.size w7 w10 := by rw [← hw10]; exact (HB8.out.trans h92).setCell (p := ⟨gc, i, none⟩) hgc _
  have hc10 : SlR 1 RInt w10 (some ⟨gc, 0, none⟩) ((potL g).set i (hv + d)) := by
    rw [hw10] at hst
    obtain ⟨A8, c8, he8, _, _, hs8'⟩ := own_ints hst (by simp)
    injection he8 with h1 h2 h3
    subst h1
    exact hs8'
  have HW10 := Lib.hid hw10
  rw [HPL.out]
  have HHV := Lib.hid hhv
  clear h91 h91' h92 h93 hst hhv hw10 ho8 hh8 hs8
  go_upto_region 8 with fail
  rw [HW10.out]
  -- one more
  have hh10 := HH7.out.below keeps_int hb10
  have HB10 := Lib.hid hb10
  obtain ⟨W8, hW8⟩ : ∃ W, w10.alloc (.cells #[] 3) = W := ⟨_, rfl⟩
  have hb8 : Below w10.heap.size w10 W8 := by rw [← hW8]; exact nw _ (Below.refl _ _)
  have ho8 : W8.ownsRow w10.heap.size 3 1 (.slice (some ⟨w10.heap.size, 0, none⟩) 0 0) 0 [] := by rw [← hW8]; exact own_empty w10 _ 1 _ (Nat.le_refl _)
  have hh8 := hh10.below keeps_int hb8
  have hs8 := hb8.size
  have HB8 := Lib.hid hb8
  clear hb8 hb10
  go_upto_region 9 with (at_builtin; go_loud (refine wpList_appS (enc := fun x => [.int .i64 x]) (R := RInt) rfl _ _ 25 rfl w10.heap.size 3 i1 _ 1 8 Try.underlying25 hi1 hy0 hy1 hy2 rfl (by decide) (.slice (some ⟨w10.heap.size, 0, none⟩) 0 0) 0 [] rfl ho8 Ah ch (potL g) (by rw [HPL.out]; rfl) hh8 (fun _ _ _ h => h) (fun _ => rfl) (by intro u hu; obtain ⟨y, _, hy⟩ := List.mem_flatMap.1 hu; obtain rfl := List.mem_singleton.1 hy; rfl) (by rw [HPL.out]; omega) (by decide) hs8 ?_; intro v11 w11 h91 h92 h93))
  have h91' : w11.ownsRow w10.heap.size 3 1 v11 N ((potL g).flatMap fun x => [.int .i64 x]) := by rw [← HPL.out]; simpa using h91
  have h11a := h91'.alloc (.cells #[.int .i64 0] 3)
  have hb11 : Below w10.heap.size w10 w11 := HB8.out.trans h92
  have HB11 := Lib.hid hb11
  have hs11 : w10.heap.size ≤ (w11.alloc (.cells #[.int .i64 0] 3)).heap.size := by have := hb11.size; simp; omega
  clear h91 h91' h92 h93 ho8 hh8 hs8 hb11
  go_upto_region 10 with (at_builtin; go_loud (refine wpList_appS (enc := fun x => [.int .i64 x]) (R := RInt) rfl _ _ 25 rfl w10.heap.size 3 i1 _ 1 8 Try.underlying25 hi1 hy0 hy1 hy2 rfl (by decide) v11 N _ rfl h11a (some ⟨w11.heap.size, 0, none⟩) 1 [0] rfl (Row.new w11 [0]).slr (fun _ _ _ h => h) (fun _ => rfl) (by intro u hu; obtain ⟨y, _, hy⟩ := List.mem_flatMap.1 hu; obtain rfl := List.mem_singleton.1 hy; rfl) (by simp; omega) (by decide) hs11 ?_; intro v12 w12 h91 h92 h93))
  have h91' : w12.ownsRow w10.heap.size 3 1 v12 (N + 1) ((potL g ++ [0]).map (Value.int .i64)) := by rw [flatMap_one, flatMap_one, ← List.map_append] at h91; exact h91
  obtain ⟨Al, cl, rfl, _, _, hl12⟩ := own_ints h91' (by rw [List.length_append, HPL.out]; rfl)
  have hb12 : Below w10.heap.size w10 w12 := (HB11.out.trans ((Below.refl w11.heap.size w11).alloc (Nat.le_refl _) (.cells #[.int .i64 0] 3) |>.mono HB11.out.size)).trans h92
  have hbW12 : Below W.heap.size W w12 := hbW7.trans ((HB10.out.trans (hb12.mono HB10.out.size)).mono hbW7.size)
  have hb712 : Below w7.heap.size w7 w12 := HB10.out.trans (hb12.mono HB10.out.size)
  have hG12 := HGc.out.below hb712 HGc.out.lt
  have hP12 := HPc.out.below hb712 HPc.out.lt
  have hh12 := HH7.out.below keeps_int hb712
  have hc12 := hc10.below keeps_int hb12
  have hp12 := hc7.below keeps_can hb712
  have HCL : Hid (((potL g).set i (hv + d)).length = N) := by show _ = _; rw [List.length_set, HPL.out]
  have HLL : Hid ((potL g ++ [0]).length = N + 1) := by show _ = _; rw [List.length_append, HPL.out]; rfl
  have HA10 : Hid (checkAll g (potL g) L wh = ((k3 : Int), 0)) := by show _ = _; rw [checkAll_pot HG.out, HFC.out, if_pos rfl]
  have HA12 : Hid (checkAll g (potL g ++ [0]) L wh = (-1, 160)) := checkAll_bad HG.out (by intro e; have := congrArg List.length e; simp at this) L wh
  have HA11 : Hid (checkAll g ((potL g).set i (hv + d)) L wh = if d = 0 then ((k3 : Int), 0) else (-1, 160)) := by
    show _ = _
    by_cases h0 : d = 0
    · rw [if_pos h0, (set_eq_iff HHV.out).2 (by omega), HA10.out]
    · rw [if_neg h0]
      exact checkAll_bad HG.out (fun e => h0 (by have := (set_eq_iff HHV.out).1 e; omega)) L wh
  have HR11 : Hid (decide ((potL g).set i (hv + d) = potL g) = decide (d = 0)) := by
    show _ = _
    rw [Bool.eq_iff_iff, decide_eq_true_iff, decide_eq_true_iff, set_eq_iff HHV.out]
    omega
  have HR12 : Hid (decide (potL g ++ [0] = potL g) = false) := decide_eq_false (by intro e; have := congrArg List.length e; simp at this)
  have HR13 : Hid (decide ((potL g).take (N - 1) = potL g) = false) := decide_eq_false (by intro e; have := congrArg List.length e; rw [List.length_take, HPL.out] at this; omega)
  have HTL : Hid (((potL g).take (N - 1)).length = N - 1) := by show _ = _; rw [List.length_take, HPL.out]; omega
  generalize (potL g).set i (hv + d) = cg at *
  generalize potL g ++ [0] = lg at *
  clear h91 h91' h92 h93 h11a hs11 hb12 hh10 hc10 hcell hfz
  have HC10 : Hid (∀ W', Below w12.heap.size w12 W' → Calls Try.prog 16 #[.agg #[.int .i64 (N : Int), .slice A3 g.ls.length c3], .slice Ah N ch, .agg #[.slice Ap L.length cp, .bool wh]] W' fun r w' => r = .returned (.tuple #[.int .i64 (k3 : Int), .int .i64 0]) ∧ Below W'.heap.size W' w') := fun W' hW' => by
    have h := HCH.out W' Ah (potL g) ch Ap L cp wh (bthen hbW12 hW') (hh12.below keeps_int hW') (by rw [HPL.out]; omega) (hp12.below keeps_can hW') htk hcp
    rw [HPL.out, HA10.out] at h
    exact h
  have HC11 : Hid (∀ W', Below w12.heap.size w12 W' → Calls Try.prog 16 #[.agg #[.int .i64 (N : Int), .slice A3 g.ls.length c3], .slice (some ⟨gc, 0, none⟩) N cc, .agg #[.slice Ap L.length cp, .bool wh]] W' fun r w' => r = .returned (.tuple #[.int .i64 (if d = 0 then ((k3 : Int), (0 : Int)) else (-1, 160)).1, .int .i64 (if d = 0 then ((k3 : Int), (0 : Int)) else (-1, 160)).2]) ∧ Below W'.heap.size W' w') := fun W' hW' => by
    have h := HCH.out W' (some ⟨gc, 0, none⟩) cg cc Ap L cp wh (bthen hbW12 hW') (hc12.below keeps_int hW') (by rw [HCL.out]; omega) (hp12.below keeps_can hW') htk hcp
    rw [HCL.out, HA11.out] at h
    exact h
  have HC12 : Hid (∀ W', Below w12.heap.size w12 W' → Calls Try.prog 16 #[.agg #[.int .i64 (N : Int), .slice A3 g.ls.length c3], .slice Al (N + 1) cl, .agg #[.slice Ap L.length cp, .bool wh]] W' fun r w' => r = .returned (.tuple #[.int .i64 (-1), .int .i64 160]) ∧ Below W'.heap.size W' w') := fun W' hW' => by
    have h := HCH.out W' Al lg cl Ap L cp wh (bthen hbW12 hW') (hl12.below keeps_int hW') (by rw [HLL.out]; omega) (hp12.below keeps_can hW') htk hcp
    rw [HLL.out, HA12.out] at h
    exact h
  have HRl : Hid (∀ W', Below w12.heap.size w12 W' → Calls Try.prog 13 #[.agg #[.int .i64 (N : Int), .slice A3 g.ls.length c3], .slice Al (N + 1) cl] W' fun e w' => e = .returned (.bool false) ∧ Below W'.heap.size W' w') := fun W' hW' => by
    have h := HRI.out W' Al lg cl (bthen hbW12 hW') (hl12.below keeps_int hW') (by rw [HLL.out]; omega)
    rw [HLL.out, HR12.out] at h
    exact h
  have HRs : Hid (∀ W', Below w12.heap.size w12 W' → Calls Try.prog 13 #[.agg #[.int .i64 (N : Int), .slice A3 g.ls.length c3], .slice Ah (N - 1) ch] W' fun e w' => e = .returned (.bool false) ∧ Below W'.heap.size W' w') := fun W' hW' => by
    have h := HRI.out W' Ah ((potL g).take (N - 1)) ch (bthen hbW12 hW') (slr_take (hh12.below keeps_int hW') (N - 1)) (by rw [HTL.out]; omega)
    rw [HTL.out, HR13.out] at h
    exact h
  have HRc : Hid (∀ W', Below w12.heap.size w12 W' → Calls Try.prog 13 #[.agg #[.int .i64 (N : Int), .slice A3 g.ls.length c3], .slice (some ⟨gc, 0, none⟩) N cc] W' fun e w' => e = .returned (.bool (decide (d = 0))) ∧ Below W'.heap.size W' w') := fun W' hW' => by
    have h := HRI.out W' (some ⟨gc, 0, none⟩) cg cc (bthen hbW12 hW') (hc12.below keeps_int hW') (by rw [HCL.out]; omega)
    rw [HCL.out, HR11.out] at h
    exact h
  have HKEEP : Hid (∀ W', Below w12.heap.size w12 W' → W'.cell? ⟨bG, 0, none⟩ = some (.int .i64 (N : Int)) ∧ W'.cell? ⟨bG, 1, none⟩ = some (.slice A3 g.ls.length c3) ∧ W'.cell? ⟨bP, 0, none⟩ = some (.slice Ap L.length cp) ∧ W'.cell? ⟨bP, 1, none⟩ = some (.bool wh) ∧ bG < W'.heap.size ∧ bP < W'.heap.size) := fun W' hW' => by
    have h1 := hG12.below hW' hG12.lt
    have h2 := hP12.below hW' hP12.lt
    have e0 := h1.cell 0
    have e1 := h1.cell 1
    have e2 := h2.cell 0
    have e3 := h2.cell 1
    simp at e0 e1 e2 e3
    exact ⟨e0, e1, e2, e3, h1.lt, h2.lt⟩
  have HBE : Hid (Below w.heap.size w w12) := hbw.trans (hbW12.mono hbw.size)
  clear hG12 hP12 hh12 hc12 hp12 hl12 hbW12 hb712 HCH HRI HPO HFI HA10 HA11 HA12 HFC
  obtain ⟨M, hM⟩ : ∃ M, N - 1 = M := ⟨_, rfl⟩
  rw [hM] at HRs
  have hwN : IntKind.i64.wrap ((N : Int) - 1) = (M : Int) := by rw [show (N : Int) - 1 = (M : Int) by omega]; exact IntWalk.i64_in _ (by omega)
  have hMc : M ≤ ch := by omega
  have hMc' : (M : Int) ≤ (ch : Int) := by omega
  have hM0 : (0 : Int) ≤ (M : Int) := by omega
  clear hM
  have hfin : ∀ (B : Bool) (q1 q2 : Int), Hid (B = decide (d = 0)) → Hid (if d = 0 then True else (q1 = -1 ∧ q2 = 160)) → True := fun _ _ _ _ _ => trivial
  clear hfin
  by_cases hd0 : d = 0
  · rw [if_pos hd0] at HC11
    rw [decide_eq_true hd0] at HRc
    have zd : (d == 0) = true := by simp [hd0]
    clear hd0
    obtain ⟨g0, g1, p0, p1, gl, pl⟩ := HKEEP.out w12 (Below.refl _ _)
    go_upto_region 11 with (go_at_call 16; go_loud (refine (HC10.out _ (Below.refl _ _)).mono ?_; rintro e w13 ⟨rfl, hb13⟩))
    obtain ⟨g0, g1, p0, p1, gl, pl⟩ := HKEEP.out w13 hb13
    go_upto_region 12 with (go_at_call 16; go_loud (refine (HC11.out _ hb13).mono ?_; rintro e w14 ⟨rfl, hb14⟩))
    have hb14 := bthen hb13 hb14
    obtain ⟨g0, g1, p0, p1, gl, pl⟩ := HKEEP.out w14 hb14
    go_upto_region 13 with (go_at_call 16; go_loud (refine (HC12.out _ hb14).mono ?_; rintro e w15 ⟨rfl, hb15⟩))
    have hb15 := bthen hb14 hb15
    obtain ⟨g0, g1, p0, p1, gl, pl⟩ := HKEEP.out w15 hb15
    refine ordB_below (.quiet 0 (.quiet 1 (.quiet 2 (.quiet 3 (.quiet 4 (.only 5 (.quiet 6 (.quiet 7 (.quiet 8 (.quiet 9 (.quiet 10 (.quiet 11 (.quiet 12 (.quiet 13 (.only 14 (.quiet 15 (.quiet 16 (.quiet 17 (.quiet 18 (.quiet 19 (.quiet 20 (.quiet 21 (.quiet 22 (.quiet 23 .done)))))))))))))))))))))))) (by kernel_rfl) (by kernel_rfl) (by kernel_rfl) (fun _ _ _ _ _ h => h) ?_
    intro V0 hV0
    iterate 5 (first
      | (refine ordB_skip rfl rfl ?_; simp only [Act.put, List.setIfInBounds_toArray, List.set_cons_zero, List.set_cons_succ])
      | (refine ordB_take (v := ?_) rfl rfl ?_ ?_
         rotate_left 1
         focus (intro W hW; obtain ⟨hcW, hfW⟩ := bcell hW; (go_simp <;> with_reducible rfl))
         simp only [Act.put, List.setIfInBounds_toArray, List.set_cons_zero, List.set_cons_succ]))
    refine ordB_only (opB_call rfl rfl (fun K hK => ?_))
    go_simp
    go_at_call 13
    refine (HRl.out V0 (bthen hb15 hV0)).mono ?_
    rintro e V0_1 ⟨rfl, hbr1⟩
    refine hK.out _ _ (hV0.trans (hbr1.mono hV0.size)) (fun hV0_1 => ?_)
    iterate 8 (first
      | (refine ordB_skip rfl rfl ?_; simp only [Act.put, List.setIfInBounds_toArray, List.set_cons_zero, List.set_cons_succ])
      | (refine ordB_take (v := ?_) rfl rfl ?_ ?_
         rotate_left 1
         focus (intro W hW; obtain ⟨hcW, hfW⟩ := bcell hW; (go_simp <;> with_reducible rfl))
         simp only [Act.put, List.setIfInBounds_toArray, List.set_cons_zero, List.set_cons_succ]))
    refine ordB_only (opB_call rfl rfl (fun K hK => ?_))
    go_simp
    go_at_call 13
    refine (HRs.out V0_1 (bthen hb15 hV0_1)).mono ?_
    rintro e V0_1_2 ⟨rfl, hbr2⟩
    refine hK.out _ _ (hV0_1.trans (hbr2.mono hV0_1.size)) (fun hV0_1_2 => ?_)
    iterate 9 (first
      | (refine ordB_skip rfl rfl ?_; simp only [Act.put, List.setIfInBounds_toArray, List.set_cons_zero, List.set_cons_succ])
      | (refine ordB_take (v := ?_) rfl rfl ?_ ?_
         rotate_left 1
         focus (intro W hW; obtain ⟨hcW, hfW⟩ := bcell hW; (go_simp <;> with_reducible rfl))
         simp only [Act.put, List.setIfInBounds_toArray, List.set_cons_zero, List.set_cons_succ]))
    refine ordB_nil ?_
    have hbV := bthen hb15 hV0_1_2
    obtain ⟨g0, g1, p0, p1, gl, pl⟩ := HKEEP.out V0_1_2 hbV
    go_wp2_with (go_at_call 13; go_loud (refine (HRc.out _ hbV).mono ?_; rintro e w17 ⟨rfl, hb17⟩))
    go_ret
    exact ⟨rfl, HBE.out.trans ((bthen hbV hb17).mono HBE.out.size)⟩
  · rw [if_neg hd0] at HC11
    rw [decide_eq_false hd0] at HRc
    have zd : (d == 0) = false := by simp [hd0]
    clear hd0
    obtain ⟨g0, g1, p0, p1, gl, pl⟩ := HKEEP.out w12 (Below.refl _ _)
    go_upto_region 11 with (go_at_call 16; go_loud (refine (HC10.out _ (Below.refl _ _)).mono ?_; rintro e w13 ⟨rfl, hb13⟩))
    obtain ⟨g0, g1, p0, p1, gl, pl⟩ := HKEEP.out w13 hb13
    go_upto_region 12 with (go_at_call 16; go_loud (refine (HC11.out _ hb13).mono ?_; rintro e w14 ⟨rfl, hb14⟩))
    have hb14 := bthen hb13 hb14
    obtain ⟨g0, g1, p0, p1, gl, pl⟩ := HKEEP.out w14 hb14
    go_upto_region 13 with (go_at_call 16; go_loud (refine (HC12.out _ hb14).mono ?_; rintro e w15 ⟨rfl, hb15⟩))
    have hb15 := bthen hb14 hb15
    obtain ⟨g0, g1, p0, p1, gl, pl⟩ := HKEEP.out w15 hb15
    refine ordB_below (.quiet 0 (.quiet 1 (.quiet 2 (.quiet 3 (.quiet 4 (.only 5 (.quiet 6 (.quiet 7 (.quiet 8 (.quiet 9 (.quiet 10 (.quiet 11 (.quiet 12 (.quiet 13 (.only 14 (.quiet 15 (.quiet 16 (.quiet 17 (.quiet 18 (.quiet 19 (.quiet 20 (.quiet 21 (.quiet 22 (.quiet 23 .done)))))))))))))))))))))))) (by kernel_rfl) (by kernel_rfl) (by kernel_rfl) (fun _ _ _ _ _ h => h) ?_
    intro V0 hV0
    iterate 5 (first
      | (refine ordB_skip rfl rfl ?_; simp only [Act.put, List.setIfInBounds_toArray, List.set_cons_zero, List.set_cons_succ])
      | (refine ordB_take (v := ?_) rfl rfl ?_ ?_
         rotate_left 1
         focus (intro W hW; obtain ⟨hcW, hfW⟩ := bcell hW; (go_simp <;> with_reducible rfl))
         simp only [Act.put, List.setIfInBounds_toArray, List.set_cons_zero, List.set_cons_succ]))
    refine ordB_only (opB_call rfl rfl (fun K hK => ?_))
    go_simp
    go_at_call 13
    refine (HRl.out V0 (bthen hb15 hV0)).mono ?_
    rintro e V0_1 ⟨rfl, hbr1⟩
    refine hK.out _ _ (hV0.trans (hbr1.mono hV0.size)) (fun hV0_1 => ?_)
    iterate 8 (first
      | (refine ordB_skip rfl rfl ?_; simp only [Act.put, List.setIfInBounds_toArray, List.set_cons_zero, List.set_cons_succ])
      | (refine ordB_take (v := ?_) rfl rfl ?_ ?_
         rotate_left 1
         focus (intro W hW; obtain ⟨hcW, hfW⟩ := bcell hW; (go_simp <;> with_reducible rfl))
         simp only [Act.put, List.setIfInBounds_toArray, List.set_cons_zero, List.set_cons_succ]))
    refine ordB_only (opB_call rfl rfl (fun K hK => ?_))
    go_simp
    go_at_call 13
    refine (HRs.out V0_1 (bthen hb15 hV0_1)).mono ?_
    rintro e V0_1_2 ⟨rfl, hbr2⟩
    refine hK.out _ _ (hV0_1.trans (hbr2.mono hV0_1.size)) (fun hV0_1_2 => ?_)
    iterate 9 (first
      | (refine ordB_skip rfl rfl ?_; simp only [Act.put, List.setIfInBounds_toArray, List.set_cons_zero, List.set_cons_succ])
      | (refine ordB_take (v := ?_) rfl rfl ?_ ?_
         rotate_left 1
         focus (intro W hW; obtain ⟨hcW, hfW⟩ := bcell hW; (go_simp <;> with_reducible rfl))
         simp only [Act.put, List.setIfInBounds_toArray, List.set_cons_zero, List.set_cons_succ]))
    refine ordB_nil ?_
    have hbV := bthen hb15 hV0_1_2
    obtain ⟨g0, g1, p0, p1, gl, pl⟩ := HKEEP.out V0_1_2 hbV
    go_wp2_with (go_at_call 13; go_loud (refine (HRc.out _ hbV).mono ?_; rintro e w17 ⟨rfl, hb17⟩))
    go_ret
    exact ⟨rfl, HBE.out.trans ((bthen hbV hb17).mono HBE.out.size)⟩
end Go.Proofs.Ytaohbicjdmogkaa
