/-
  The walks of layer 19: check, least, first.
-/
import Derived.Test.YtpajajffkbkeaaaBsLaw
import Derived.Test.YtpajajffkbkeaaaBsNumLaw
import Derived.Test.YtpajajffkbkeaaaBeRest
import Derived.Test.YtpajajffkbkeaaaGrWalkM
import Derived.Test.YtpajajffkbkeaaaGrWalkR
import Derived.Deep.DeepCutAuto
namespace Go.Proofs.Ytpajajffkbkeaaa
open Go Go.RowKit

section
variable {P : Program} {fn : Func} {p u v : Tmp} {ty : TypeId} {R : Ending → World → Prop} {a : Act} {w : World} {g : Nat} {t : TypeId} {cs : Array Value} {d : TypeDesc}
theorem results_cell_tmp2 (h : fn.results = #[.cell p ty, .tmp u, .tmp v]) (tmps : Array Value) (P : Program) (w : World) :
    (results fn tmps).run P w = ((asAddr (tmps.getD p undef)).run P w).andThen fun a w₁ => ((loadVar ty a).run P w₁).andThen fun x w₂ => .ok (.tuple #[x, tmps.getD u undef, tmps.getD v undef]) w₂ := by
  simp only [results, h]
  simp [Sem.run_bind, Result.andThen]
theorem ret_cell_tmp2 (hB : Blk w g t cs) (h : fn.results = #[.cell p ty, .tmp u, .tmp v]) (hp : a.tmps.getD p undef = .pointer (some ⟨g, 0, none⟩))
    (hu : P.underlying ty = some d) (hd : (match d with | .struct _ | .array _ _ => true | _ => false) = true) (hi : (P.info? ty).map (·.size) = some cs.size) (hdf : a.defers = [])
    (hR : R (.returned (.tuple #[.agg cs, a.tmps.getD u undef, a.tmps.getD v undef])) w) : bodyPost P fn R .ret a w := by
  refine bodyPost_ret ?_ hdf hR
  rw [results_cell_tmp2 h]
  have h1 : (loadVar ty ⟨g, 0, none⟩).run P w = .ok (.agg cs) w := run_loadVar_row w g t ty cs (0, 0) d hB hu hd hi
  rw [hp]
  show (((asAddr (.pointer (some ⟨g, 0, none⟩))).run P w).andThen _) = _
  simp only [asAddr, Sem.run_pure, Result.andThen_ok, h1]
end
/-- What check of package page answers. -/
def pgErr (g : Gr) (k b : Int) : Int := if grB g = false then 150 else if k < 0 ∨ 50 < k ∨ b < 0 then 1 else 0
set_option maxRecDepth 100000 in
set_option maxHeartbeats 4000000 in
theorem pcheck_any (A : Option Addr) (c : Nat) (g : Gr) (k b : Int) (w : World) (hx : SlR 4 RLk w A g.ls) (hl : g.ls.length ≤ maxLen) :
    Calls Try.prog 30 #[.agg #[.int .i64 g.n, .slice A g.ls.length c], .int .i64 k, .int .i64 b] w fun e w' => e = .returned (.int .i64 (pgErr g k b)) ∧ Below w.heap.size w w' := by
  obtain ⟨w1, hw1⟩ : ∃ w1, w.alloc (.cells #[.int .i64 g.n, .slice A g.ls.length c] 29) = w1 := ⟨_, rfl⟩
  have hb1 : Below w.heap.size w w1 := by rw [← hw1]; exact nw _ (Below.refl _ _)
  have hB1 : Blk w1 w.heap.size 29 #[.int .i64 g.n, .slice A g.ls.length c] := by rw [← hw1]; exact Blk.new _ _ _
  have HW1 := Lib.hid hw1
  have c0 := hB1.cell 0
  have c1 := hB1.cell 1
  have lb := hB1.lt
  simp at c0 c1
  obtain ⟨v, hv⟩ : ∃ v, grB g = v := ⟨_, rfl⟩
  have HV : Hid (Calls Try.prog 24 #[.agg #[.int .i64 g.n, .slice A g.ls.length c]] w1 fun e w' => e = .returned (.bool v) ∧ Below w1.heap.size w1 w') := by have h := valid_any A c g w1 (hx.below keeps_lk hb1) hl; rw [hv] at h; exact h
  have HP : Hid (pgErr g k b = if v = false then 150 else if k < 0 ∨ 50 < k ∨ b < 0 then 1 else 0) := by show _ = _; unfold pgErr; rw [hv]
  clear hw1 hx hl hv
  go_enter Try.func30, Try.ntmps30
  go_upto_region 1 with fail
  rw [HW1.out]
  cases v with
  | false =>
    go_wp2_with (go_at_call 24; go_loud (refine HV.out.mono ?_; rintro e w2 ⟨rfl, hb2⟩))
    go_ret
    exact ⟨by rw [HP.out]; rfl, bthen hb1 hb2⟩
  | true =>
    by_cases h1 : k < 0
    · have z1 : decide (k < 0) = true := decide_eq_true h1
      go_wp2_with (go_at_call 24; go_loud (refine HV.out.mono ?_; rintro e w2 ⟨rfl, hb2⟩))
      go_ret
      exact ⟨by rw [HP.out, if_neg (by decide), if_pos (.inl h1)]; rfl, bthen hb1 hb2⟩
    · have z1 : decide (k < 0) = false := decide_eq_false h1
      by_cases h2 : 50 < k
      · have z2 : decide (50 < k) = true := decide_eq_true h2
        go_wp2_with (go_at_call 24; go_loud (refine HV.out.mono ?_; rintro e w2 ⟨rfl, hb2⟩))
        go_ret
        exact ⟨by rw [HP.out, if_neg (by decide), if_pos (.inr (.inl h2))]; rfl, bthen hb1 hb2⟩
      · have z2 : decide (50 < k) = false := decide_eq_false h2
        by_cases h3 : b < 0
        · have z3 : decide (b < 0) = true := decide_eq_true h3
          go_wp2_with (go_at_call 24; go_loud (refine HV.out.mono ?_; rintro e w2 ⟨rfl, hb2⟩))
          go_ret
          exact ⟨by rw [HP.out, if_neg (by decide), if_pos (.inr (.inr h3))]; rfl, bthen hb1 hb2⟩
        · have z3 : decide (b < 0) = false := decide_eq_false h3
          go_wp2_with (go_at_call 24; go_loud (refine HV.out.mono ?_; rintro e w2 ⟨rfl, hb2⟩))
          go_ret
          exact ⟨by rw [HP.out, if_neg (by decide), if_neg (by omega)]; rfl, bthen hb1 hb2⟩
theorem cand_any (n b : Int) (w : World) (hb : 0 ≤ b ∧ b ≤ 1000000) (hn : 1 ≤ n ∧ n ≤ 2000) :
    Calls Try.prog 32 #[.int .i64 b, .int .i64 n] w fun e w' => e = .returned (.int .i64 (b / n)) ∧ w = w' := by
  have h1 : b.tdiv n = b / n := Int.tdiv_eq_ediv_of_nonneg hb.1
  have h2 : 0 ≤ b / n := Int.ediv_nonneg hb.1 (by omega)
  have h3 : b / n ≤ b := Int.ediv_le_self _ hb.1
  have h4 : ¬ n = 0 := by omega
  obtain ⟨q, hq⟩ : ∃ q, b / n = q := ⟨_, rfl⟩
  rw [hq] at h1 h2 h3 ⊢
  have h5 : IntKind.i64.wrap q = q := IntWalk.i64_in _ (by omega)
  clear hq
  go_enter Try.func32, Try.ntmps32
  go_wp2_with fail
  go_ret
  exact ⟨rfl, rfl⟩
set_option maxRecDepth 100000 in
set_option maxHeartbeats 4000000 in
theorem pleast_any (n b k : Int) (A : Option Addr) (c : Nat) (w : World) (hb : 0 ≤ b ∧ b ≤ 1000000) (hn : 1 ≤ n ∧ n ≤ 2000) (hk : 0 ≤ k ∧ k ≤ 50) (hs : SlR 1 RInt w A [k]) :
    Calls Try.prog 31 #[.int .i64 n, .func (.func 32) #[.int .i64 b] #[], .slice A 1 c] w fun e w' => e = .returned (.int .i64 (min (b / n) k)) ∧ w = w' := by
  have HC : Hid (∀ W, Calls Try.prog 32 #[.int .i64 b, .int .i64 n] W fun e w' => e = .returned (.int .i64 (b / n)) ∧ W = w') := fun W => cand_any n b W hb hn
  have h2 : 0 ≤ b / n := Int.ediv_nonneg hb.1 (by omega)
  obtain ⟨bb, ob, x, rfl, hbb, hxx, hc0⟩ := hs.int (k := 0) (by simp)
  obtain rfl : k = x := by simpa using hxx
  rw [Nat.add_zero] at hc0
  generalize b / n = q at *
  clear hs hxx
  go_enter Try.func31, Try.ntmps31
  go_wp2_with (go_at_call 32; go_loud (refine (HC.out _).mono ?_; rintro e w' ⟨rfl, rfl⟩))
  go_loop [7, 15] (fun nv iv => ∃ (i : Nat) (m : Int), i ≤ 1 ∧ iv = .int .i64 (i : Int) ∧ nv = .int .i64 m ∧ Hid (m = if i = 0 then q else min q k)) (fun _ iv => 1 - (intOf iv).toNat)
  case atStart => exact ⟨0, q, by omega, rfl, rfl, rfl⟩
  case round =>
    obtain ⟨i, m, hi, rfl, rfl, HM⟩ := hrel
    by_cases h0 : i = 0
    · subst h0
      have hm : m = q := HM.out
      subst hm
      go_wp2_with fail
      go_round
      case rel => exact ⟨1, min m k, by omega, by go_num, by first | rfl | (simp; omega), rfl⟩
      case measure => simp [intOf]
    · obtain rfl : i = 1 := by omega
      have hm : m = min q k := HM.out
      subst hm
      go_wp2_with fail
      go_ret
      exact ⟨rfl, rfl⟩
/-- A page that a call has made: its row known as the call's own. -/
def IsPg (L : List Can) (b : Bool) (w : World) (e : Ending) (w' : World) : Prop := ∃ A c ms base, e = .returned (.agg #[.slice A L.length c, .bool b]) ∧ SlR 2 RMc w' A ms ∧ MsOK w' ms ∧ Hid (ms.map (·.x) = L) ∧ L.length ≤ c ∧ c ≤ maxLen ∧ w'.ownsRow base 61 2 (.slice A ms.length c) ms.length (ms.flatMap encMc) ∧ Below w.heap.size w w'
def pgWh (g : Gr) (n : Nat) : Bool := decide (((allR g).take n).length = (allR g).length)
set_option maxRecDepth 100000 in
set_option maxHeartbeats 4000000 in
theorem pfirst_any (A : Option Addr) (c : Nat) (g : Gr) (n : Nat) (w : World) (hx : SlR 4 RLk w A g.ls) (hl : g.ls.length ≤ maxLen) (hg : GrOK g) (h14 : g.ls.length ≤ 14) (hn : n ≤ 50) :
    Calls Try.prog 33 #[.agg #[.int .i64 g.n, .slice A g.ls.length c], .int .i64 (n : Int)] w (IsPg ((allR g).take n) (pgWh g n) w) := by
  obtain ⟨w2, hw2⟩ : ∃ w2, (w.alloc (.cells #[.int .i64 g.n, .slice A g.ls.length c] 29)).alloc (.cells #[.slice none 0 0, .bool false] 33) = w2 := ⟨_, rfl⟩
  have hb2 : Below w.heap.size w w2 := by rw [← hw2]; exact nw _ (nw _ (Below.refl _ _))
  have hG : Blk w2 w.heap.size 29 #[.int .i64 g.n, .slice A g.ls.length c] := by rw [← hw2]; exact (Blk.new _ _ _).alloc _
  have hP : Blk w2 (w.heap.size + 1) 33 #[.slice none 0 0, .bool false] := by rw [← hw2]; exact Blk.new_ (by simp)
  have HW2 := Lib.hid hw2
  have HL : Hid (Calls Try.prog 46 #[.agg #[.int .i64 g.n, .slice A g.ls.length c], .int .i64 (n : Int)] w2 (IsBestT g (n : Int) w2)) := list_anyT A c g (n : Int) w2 (hx.below keeps_lk hb2) hl
  obtain ⟨hKn, hK168⟩ := allR_nW hg h14
  have HNU : Hid (∀ W', Below w2.heap.size w2 W' → Calls Try.prog 12 #[.agg #[.int .i64 g.n, .slice A g.ls.length c]] W' fun e w' => e = .returned (.int .i64 ((allR g).length : Int)) ∧ Below W'.heap.size W' w') := fun W' hW' => by
    have h := number_any A c g W' ((hx.below keeps_lk hb2).below keeps_lk hW') hl
    rw [num_small hg h14, ← hKn] at h
    exact h
  have HTK : Hid (∀ L, IsList g n L → L = (allR g).take n) := fun L h => isList_allR hg h14 h
  have HBE : Hid (bestErr g (n : Int) = 0) := bestErr_ok hg hn
  have HWH : Hid (pgWh g n = decide (((allR g).take n).length = (allR g).length)) := rfl
  obtain ⟨bP, hbP⟩ : ∃ b, w.heap.size + 1 = b := ⟨_, rfl⟩
  rw [hbP] at hP
  have HBP := Lib.hid hbP
  have hwP : w.heap.size ≤ bP := by omega
  have g0 := hG.cell 0
  have g1 := hG.cell 1
  have gl := hG.lt
  simp at g0 g1
  generalize allR g = AL at *
  generalize pgWh g n = wb at *
  obtain ⟨K, hK⟩ : ∃ K, AL.length = K := ⟨_, rfl⟩
  rw [hK] at HNU HWH
  clear hx hg hw2 hbP hKn hK168 hK
  go_enter Try.func33, Try.ntmps33
  go_upto_region 1 with fail
  rw [HW2.out, HBP.out]
  go_upto_region 2 with (go_at_call 46; go_loud (refine HL.out.mono ?_; rintro e w3 ⟨ms, A3, c3, rfl, _, hms, hml, hcm, hil, _, hb3, base, hown⟩))
  have hmt := HTK.out _ (by have := hil HBE.out; rwa [Int.toNat_natCast] at this)
  have HMT := Lib.hid hmt
  have hlen : (AL.take n).length = ms.length := by rw [← hmt, List.length_map]
  rw [hlen] at HWH
  have HLEN := Lib.hid hlen
  have hP3 := hP.below hb3 hP.lt
  have hG3 := hG.below hb3 hG.lt
  have g0 := hG3.cell 0
  have g1 := hG3.cell 1
  have gl := hG3.lt
  simp at g0 g1
  have HB23 := Lib.hid (bthen hb2 hb3)
  have HB3w := Lib.hid hb3
  have HO := Lib.hid hown
  have HMS := Lib.hid hms
  have HP3 := Lib.hid hP3
  have p0 := hP3.cell 0
  have p1 := hP3.cell 1
  have pf0 := hP3.frozen 0
  have pf1 := hP3.frozen 1
  have pl := hP3.lt
  simp at p0 p1
  have hz : ((ms.length : Int) == (K : Int)) = wb := by
    rw [HWH.out, Bool.eq_iff_iff]
    simp
    omega
  rw [HBE.out]
  clear hil hb3 hown hms hP3 hG3 hP hG hmt hlen HL HTK
  go_wp2_with (go_at_call 12; go_loud (refine (HNU.out _ HB3w.out).mono ?_; rintro e w4 ⟨rfl, hb4⟩; have p0 := ((bcell hb4).1 _ _ pl).trans p0; have p1 := ((bcell hb4).1 _ _ pl).trans p1; have pf0 := ((bcell hb4).2 _ _ pl).trans pf0; have pf1 := ((bcell hb4).2 _ _ pl).trans pf1; have pl := Nat.lt_of_lt_of_le pl hb4.size))
  have hP4 := HP3.out.below hb4 HP3.out.lt
  have hO4 := own_below HO.out hb4
  have hM4 := HMS.out.below hb4
  have hne := own_blk_ne hO4 hP4 (by decide)
  refine ret_cell (t := 33) (cs := #[.slice A3 ms.length c3, .bool wb]) (by have := (hP4.set_ 0 (.slice A3 ms.length c3)).set_ 1 (.bool wb); simpa using this) rfl rfl Try.underlying33 rfl (by kernel_rfl) rfl ?_
  have hO5 := own_set (own_set hO4 (a := ⟨bP, 0, none⟩) hne (.slice A3 ms.length c3)) (a := ⟨bP, 1, none⟩) hne (.bool wb)
  have hM5 := (hM4.set_ (p := ⟨bP, 0, none⟩) hP4 (by decide) (.slice A3 ms.length c3)).set_ (p := ⟨bP, 1, none⟩) (hP4.set_ 0 (.slice A3 ms.length c3)) (by decide) (.bool wb)
  obtain ⟨A8, c8, he8, _, _, hs8⟩ := own_slr (R := RMc) hO5 (fun _ => rfl) (fun _ => rfl) rfl
  obtain ⟨rfl, rfl⟩ : A3 = A8 ∧ c3 = c8 := by injection he8 with h1 h2 h3; exact ⟨h1, h3⟩
  exact ⟨A3, c3, ms, base, by rw [HLEN.out], hs8, hM5, HMT.out, by rw [HLEN.out]; exact hml, hcm, hO5, ((bthen HB23.out hb4).setCell (p := ⟨bP, 0, none⟩) hwP _).setCell (p := ⟨bP, 1, none⟩) hwP _⟩
end Go.Proofs.Ytpajajffkbkeaaa
