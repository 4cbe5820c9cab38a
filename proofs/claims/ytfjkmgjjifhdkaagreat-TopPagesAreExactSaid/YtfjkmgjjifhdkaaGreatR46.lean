/-
  CxFrame, TpAll, GrWalkR, TpWalkA, TpWalkB, TpWalkC, TpWalkD, TpLaw, TpPin, joined. No conditions.
-/
import Derived.Test.YtfjkmgjjifhdkaaGreatR42
import Derived.Test.YtfjkmgjjifhdkaaGreatR45
import Derived.Test.YtfjkmgjjifhdkaaGreatR20
import Derived.Test.YtfjkmgjjifhdkaaGreatR09
import Derived.Test.YtfjkmgjjifhdkaaGreatR11
import Derived.Test.YtfjkmgjjifhdkaaGreatR19
import Derived.Test.YtfjkmgjjifhdkaaGreatR40
import Derived.Test.YtfjkmgjjifhdkaaGreatR24
import Derived.Deep.DeepCutAuto
import Derived.Test.YtfjkmgjjifhdkaaGreatR25
/-
  The statements of layer 20: their arguments opened.
-/
namespace Go.Proofs.YtfjkmgjjifhdkaaGreat
open Go Go.RowKit Go.ChangeShapes Go.WideShapes

theorem cx_slr_map {α β : Type} {s : Nat} {R : World → α → List Value → Prop} {w : World} {A : Option Addr} {f : β → α} {xs : List β} (h : SlR s (fun w x vs => R w (f x) vs) w A xs) : SlR s R w A (xs.map f) := fun hne => by
  obtain ⟨b, off, hA, hb, hc⟩ := h (by rintro rfl; simp at hne)
  refine ⟨b, off, hA, hb, fun k x hx => ?_⟩
  rw [List.getElem?_map] at hx
  cases hk : xs[k]? with
  | none => rw [hk] at hx; cases hx
  | some y =>
    rw [hk] at hx
    obtain ⟨vs, h1, h2, h3⟩ := hc k y hk
    exact ⟨vs, by rw [show x = f y from (Option.some.inj hx).symm]; exact h1, h2, h3⟩
section
variable {H : Type} {enc : TypeId × Value → H} {P : Program} {w : World} {base : Nat} {spare : Nat → Bool} {held : Bool}
end
section
variable {H : Type} {enc : TypeId × Value → H} {w : World} {base : Nat} {spare : Nat → Bool} {held : Bool}
set_option maxRecDepth 100000 in
/-- The descriptions of edges. -/
theorem open_edges {r : Reach} {b0 : Nat} {v : Value} {d : DataW H} {p : List MemPlace} (hv : Value.okWide Tryz.prog w r b0 22 v) (h : DataW.Trod enc Tryz.prog w base spare held 22 v d p) :
    ∃ (A : Option Addr) (l : List R4) (c : Nat), v = .slice A l.length c ∧ l.length ≤ maxLen ∧ SlR 4 RR4 w A l ∧ ∀ x ∈ l, R4OK x := by
  obtain ⟨A0, len0, cap0, rfl⟩ := okWide_slice (P := Tryz.prog) (w := w) (r := r) (base := b0) Tryz.underlying22 hv
  obtain ⟨fuel, hf⟩ := h
  obtain ⟨A, len, cap, xs, he, rfl, hlc, hcm, hs⟩ := open_slr (α := {x : R4 // R4OK x}) (R := fun w x vs => RR4 w x.1 vs) Tryz.underlying22 (s := 4) (by kernel_rfl) (by decide) (fun n cs y hh _ => by
    obtain ⟨ns, hl, rfl, hw⟩ := open_arr_ints (k := .u8) Tryz.underlying79 Tryz.underlying5 (by kernel_rfl) (by kernel_rfl) hh
    match ns, hl with
    | [a, b, c, e], _ => exact ⟨⟨⟨a, b, c, e⟩, wf_u8 (hw a (by simp)), wf_u8 (hw b (by simp)), wf_u8 (hw c (by simp)), wf_u8 (hw e (by simp))⟩, rfl⟩) hf
  have he' : Value.slice A0 len0 cap0 = Value.slice A xs.length cap := by simpa [Value.cells] using he
  refine ⟨A, xs.map (·.1), cap, by rw [List.length_map]; exact he', by rw [List.length_map]; omega, cx_slr_map hs, fun q hq => ?_⟩
  obtain ⟨y, _, rfl⟩ := List.mem_map.1 hq
  exact y.2
end
end Go.Proofs.YtfjkmgjjifhdkaaGreat

/-
  All ways of a valid graph, however many links it has, in order. No program in sight; no conditions.
-/
namespace Go.Proofs.YtfjkmgjjifhdkaaGreat
open Go Go.RowKit

/-- All candidates of a graph. -/
def allG (g : Gr) : List Can := orderedM (waysF g g.n.toNat 0)
theorem allG_is {g : Gr} (hg : GrOK g) : IsAll g (allG g) := by
  have hn := hg.n
  obtain ⟨h1, h2⟩ := ordered_spec (waysF_nodup g g.n.toNat 0)
  exact ⟨h1, fun c => by unfold allG; rw [h2]; exact waysF_mem hg _ 0 (by omega) (by omega) (by omega) c⟩
theorem allG_len (g : Gr) : (allG g).length = nW g 0 := by
  obtain ⟨h1, h2⟩ := ordered_spec (waysF_nodup g g.n.toNat 0)
  exact ((List.perm_ext_iff_of_nodup h1.nodup (waysF_nodup g g.n.toNat 0)).2 h2).length_eq
theorem isList_allG {g : Gr} (hg : GrOK g) {k : Nat} {L : List Can} (h : IsList g k L) : L = (allG g).take k := isList_unique h (isList_take (allG_is hg) k)
theorem num_allG {g : Gr} (hg : GrOK g) (hw : nW g 0 ≤ 1000000) : numOf g = ((allG g).length : Int) := by
  unfold numOf
  rw [if_pos (grB_iff.2 hg), numM_eq hg, allG_len]
  unfold capN
  omega
end Go.Proofs.YtfjkmgjjifhdkaaGreat

/-
  The walks of layer 16: the reference's right page.
-/
namespace Go.Proofs.YtfjkmgjjifhdkaaGreat
open Go Go.RowKit

end Go.Proofs.YtfjkmgjjifhdkaaGreat

/-
  The walks of package page, for graphs with many links: check, least, first.
-/
namespace Go.Proofs.YtfjkmgjjifhdkaaGreat
open Go Go.RowKit

theorem tp_bestErr {g : Gr} (hg : GrOK g) {k : Nat} (hk : k ≤ 50) : bestErr g (k : Int) = 0 := by
  unfold bestErr
  rw [if_neg (by rw [grB_iff.2 hg]; simp), if_neg (by omega)]
/-- What check of package page answers. -/
def pgErr (g : Gr) (k b : Int) : Int := if grB g = false then 150 else if k < 0 ∨ 50 < k ∨ b < 0 then 1 else 0
set_option maxRecDepth 100000 in
set_option maxHeartbeats 4000000 in
theorem pcheck_any (A : Option Addr) (c : Nat) (g : Gr) (k b : Int) (w : World) (hx : SlR 4 RLk w A g.ls) (hl : g.ls.length ≤ maxLen) :
    Calls Tryz.prog 50 #[.agg #[.int .i64 g.n, .slice A g.ls.length c], .int .i64 k, .int .i64 b] w fun e w' => e = .returned (.int .i64 (pgErr g k b)) ∧ Below w.heap.size w w' := by
  obtain ⟨w1, hw1⟩ : ∃ w1, w.alloc (.cells #[.int .i64 g.n, .slice A g.ls.length c] 38) = w1 := ⟨_, rfl⟩
  have hb1 : Below w.heap.size w w1 := by rw [← hw1]; exact nw _ (Below.refl _ _)
  have hB1 : Blk w1 w.heap.size 38 #[.int .i64 g.n, .slice A g.ls.length c] := by rw [← hw1]; exact Blk.new _ _ _
  have HW1 := Lib.hid hw1
  have c0 := hB1.cell 0
  have c1 := hB1.cell 1
  have lb := hB1.lt
  simp at c0 c1
  obtain ⟨v, hv⟩ : ∃ v, grB g = v := ⟨_, rfl⟩
  have HV : Hid (Calls Tryz.prog 33 #[.agg #[.int .i64 g.n, .slice A g.ls.length c]] w1 fun e w' => e = .returned (.bool v) ∧ Below w1.heap.size w1 w') := by have h := valid_any A c g w1 (hx.below keeps_lk hb1) hl; rw [hv] at h; exact h
  have HP : Hid (pgErr g k b = if v = false then 150 else if k < 0 ∨ 50 < k ∨ b < 0 then 1 else 0) := by show _ = _; unfold pgErr; rw [hv]
  clear hw1 hx hl hv
  go_enter Tryz.func50, Tryz.ntmps50
  go_upto_region 1 with fail
  rw [HW1.out]
  cases v with
  | false =>
    go_wp2_with (go_at_call 33; go_loud (refine HV.out.mono ?_; rintro e w2 ⟨rfl, hb2⟩))
    go_ret
    exact ⟨by rw [HP.out]; rfl, bthen hb1 hb2⟩
  | true =>
    by_cases h1 : k < 0
    · have z1 : decide (k < 0) = true := decide_eq_true h1
      go_wp2_with (go_at_call 33; go_loud (refine HV.out.mono ?_; rintro e w2 ⟨rfl, hb2⟩))
      go_ret
      exact ⟨by rw [HP.out, if_neg (by decide), if_pos (.inl h1)]; rfl, bthen hb1 hb2⟩
    · have z1 : decide (k < 0) = false := decide_eq_false h1
      by_cases h2 : 50 < k
      · have z2 : decide (50 < k) = true := decide_eq_true h2
        go_wp2_with (go_at_call 33; go_loud (refine HV.out.mono ?_; rintro e w2 ⟨rfl, hb2⟩))
        go_ret
        exact ⟨by rw [HP.out, if_neg (by decide), if_pos (.inr (.inl h2))]; rfl, bthen hb1 hb2⟩
      · have z2 : decide (50 < k) = false := decide_eq_false h2
        by_cases h3 : b < 0
        · have z3 : decide (b < 0) = true := decide_eq_true h3
          go_wp2_with (go_at_call 33; go_loud (refine HV.out.mono ?_; rintro e w2 ⟨rfl, hb2⟩))
          go_ret
          exact ⟨by rw [HP.out, if_neg (by decide), if_pos (.inr (.inr h3))]; rfl, bthen hb1 hb2⟩
        · have z3 : decide (b < 0) = false := decide_eq_false h3
          go_wp2_with (go_at_call 33; go_loud (refine HV.out.mono ?_; rintro e w2 ⟨rfl, hb2⟩))
          go_ret
          exact ⟨by rw [HP.out, if_neg (by decide), if_neg (by omega)]; rfl, bthen hb1 hb2⟩
theorem cand_any (n b : Int) (w : World) (hb : 0 ≤ b ∧ b ≤ 1000000) (hn : 1 ≤ n ∧ n ≤ 2000) :
    Calls Tryz.prog 54 #[.int .i64 b, .int .i64 n] w fun e w' => e = .returned (.int .i64 (b / n)) ∧ w = w' := by
  have h1 : b.tdiv n = b / n := Int.tdiv_eq_ediv_of_nonneg hb.1
  have h2 : 0 ≤ b / n := Int.ediv_nonneg hb.1 (by omega)
  have h3 : b / n ≤ b := Int.ediv_le_self _ hb.1
  have h4 : ¬ n = 0 := by omega
  obtain ⟨q, hq⟩ : ∃ q, b / n = q := ⟨_, rfl⟩
  rw [hq] at h1 h2 h3 ⊢
  have h5 : IntKind.i64.wrap q = q := IntWalk.i64_in _ (by omega)
  clear hq
  go_enter Tryz.func54, Tryz.ntmps54
  go_wp2_with fail
  go_ret
  exact ⟨rfl, rfl⟩
set_option maxRecDepth 100000 in
set_option maxHeartbeats 4000000 in
theorem pleast_any (n b k : Int) (A : Option Addr) (c : Nat) (w : World) (hb : 0 ≤ b ∧ b ≤ 1000000) (hn : 1 ≤ n ∧ n ≤ 2000) (_hk : 0 ≤ k ∧ k ≤ 50) (hs : SlR 1 RInt w A [k]) :
    Calls Tryz.prog 53 #[.int .i64 n, .func (.func 54) #[.int .i64 b] #[], .slice A 1 c] w fun e w' => e = .returned (.int .i64 (min (b / n) k)) ∧ w = w' := by
  have HC : Hid (∀ W, Calls Tryz.prog 54 #[.int .i64 b, .int .i64 n] W fun e w' => e = .returned (.int .i64 (b / n)) ∧ W = w') := fun W => cand_any n b W hb hn
  have h2 : 0 ≤ b / n := Int.ediv_nonneg hb.1 (by omega)
  obtain ⟨bb, ob, x, rfl, hbb, hxx, hc0⟩ := hs.int (k := 0) (by simp)
  obtain rfl : k = x := by simpa using hxx
  rw [Nat.add_zero] at hc0
  generalize b / n = q at *
  clear hs hxx
  go_enter Tryz.func53, Tryz.ntmps53
  go_wp2_with (go_at_call 54; go_loud (refine (HC.out _).mono ?_; rintro e w' ⟨rfl, rfl⟩))
  go_loop [7, 15] (fun nv iv => ∃ (i : Nat) (m : Int), i ≤ 1 ∧ iv = .int .i64 (i : Int) ∧ nv = .int .i64 m ∧ Hid (m = if i = 0 then q else min q k)) (fun _ iv => 1 - (intOf iv).toNat)
  case atStart => exact ⟨0, q, by omega, rfl, rfl, rfl⟩
  case round =>
    obtain ⟨i, m, hi, rfl, rfl, HM⟩ := hrel
    by_cases h0 : i = 0
    · subst h0
      have hm : m = q := HM.out
      subst hm
      go_wp2_with fail
      go_round
      case rel => exact ⟨1, min m k, by omega, by go_num, by first | rfl | (simp; omega), rfl⟩
      case measure => simp [intOf]
    · obtain rfl : i = 1 := by omega
      have hm : m = min q k := HM.out
      subst hm
      go_wp2_with fail
      go_ret
      exact ⟨rfl, rfl⟩
/-- A page that a call has made: its row known as the call's own. -/
def IsPg (L : List Can) (b : Bool) (w : World) (e : Ending) (w' : World) : Prop := ∃ A c ms base, e = .returned (.agg #[.slice A L.length c, .bool b]) ∧ SlR 2 RMc w' A ms ∧ MsOK w' ms ∧ Hid (ms.map (·.x) = L) ∧ L.length ≤ c ∧ c ≤ maxLen ∧ w'.ownsRow base 42 2 (.slice A ms.length c) ms.length (ms.flatMap encMc) ∧ Below w.heap.size w w'
def pgWh (g : Gr) (n : Nat) : Bool := decide (((allG g).take n).length = (allG g).length)
set_option maxRecDepth 100000 in
set_option maxHeartbeats 4000000 in
theorem pfirst_any (A : Option Addr) (c : Nat) (g : Gr) (n : Nat) (w : World) (hx : SlR 4 RLk w A g.ls) (hl : g.ls.length ≤ maxLen) (hg : GrOK g) (h14 : g.ls.length ≤ 20000 ∧ nW g 0 ≤ 1000000) (hn : n ≤ 50) :
    Calls Tryz.prog 52 #[.agg #[.int .i64 g.n, .slice A g.ls.length c], .int .i64 (n : Int)] w (IsPg ((allG g).take n) (pgWh g n) w) := by
  obtain ⟨w2, hw2⟩ : ∃ w2, (w.alloc (.cells #[.int .i64 g.n, .slice A g.ls.length c] 38)).alloc (.cells #[.slice none 0 0, .bool false] 61) = w2 := ⟨_, rfl⟩
  have hb2 : Below w.heap.size w w2 := by rw [← hw2]; exact nw _ (nw _ (Below.refl _ _))
  have hG : Blk w2 w.heap.size 38 #[.int .i64 g.n, .slice A g.ls.length c] := by rw [← hw2]; exact (Blk.new _ _ _).alloc _
  have hP : Blk w2 (w.heap.size + 1) 61 #[.slice none 0 0, .bool false] := by rw [← hw2]; exact Blk.new_ (by simp)
  have HW2 := Lib.hid hw2
  have HL : Hid (Calls Tryz.prog 10 #[.agg #[.int .i64 g.n, .slice A g.ls.length c], .int .i64 (n : Int)] w2 (IsBestT g (n : Int) w2)) := list_anyT A c g (n : Int) w2 (hx.below keeps_lk hb2) hl
  have hKn := allG_len g
  have HNU : Hid (∀ W', Below w2.heap.size w2 W' → Calls Tryz.prog 20 #[.agg #[.int .i64 g.n, .slice A g.ls.length c]] W' fun e w' => e = .returned (.int .i64 ((allG g).length : Int)) ∧ Below W'.heap.size W' w') := fun W' hW' => by
    have h := number_any A c g W' ((hx.below keeps_lk hb2).below keeps_lk hW') hl
    rw [num_allG hg h14.2] at h
    exact h
  have HTK : Hid (∀ L, IsList g n L → L = (allG g).take n) := fun L h => isList_allG hg h
  have HBE : Hid (bestErr g (n : Int) = 0) := tp_bestErr hg hn
  have HWH : Hid (pgWh g n = decide (((allG g).take n).length = (allG g).length)) := rfl
  obtain ⟨bP, hbP⟩ : ∃ b, w.heap.size + 1 = b := ⟨_, rfl⟩
  rw [hbP] at hP
  have HBP := Lib.hid hbP
  have hwP : w.heap.size ≤ bP := by omega
  have g0 := hG.cell 0
  have g1 := hG.cell 1
  have gl := hG.lt
  simp at g0 g1
  generalize allG g = AL at *
  generalize pgWh g n = wb at *
  obtain ⟨K, hK⟩ : ∃ K, AL.length = K := ⟨_, rfl⟩
  rw [hK] at HNU HWH
  clear hx hg hw2 hbP hKn hK
  go_enter Tryz.func52, Tryz.ntmps52
  go_upto_region 1 with fail
  rw [HW2.out, HBP.out]
  go_upto_region 2 with (go_at_call 10; go_loud (refine HL.out.mono ?_; rintro e w3 ⟨ms, A3, c3, rfl, _, hms, hml, hcm, hil, _, hb3, base, hown⟩))
  have hmt := HTK.out _ (by have := hil HBE.out; rwa [Int.toNat_natCast] at this)
  have HMT := Lib.hid hmt
  have hlen : (AL.take n).length = ms.length := by rw [← hmt, List.length_map]
  rw [hlen] at HWH
  have HLEN := Lib.hid hlen
  have hP3 := hP.below hb3 hP.lt
  have hG3 := hG.below hb3 hG.lt
  have g0 := hG3.cell 0
  have g1 := hG3.cell 1
  have gl := hG3.lt
  simp at g0 g1
  have HB23 := Lib.hid (bthen hb2 hb3)
  have HB3w := Lib.hid hb3
  have HO := Lib.hid hown
  have HMS := Lib.hid hms
  have HP3 := Lib.hid hP3
  have p0 := hP3.cell 0
  have p1 := hP3.cell 1
  have pf0 := hP3.frozen 0
  have pf1 := hP3.frozen 1
  have pl := hP3.lt
  simp at p0 p1
  have hz : ((ms.length : Int) == (K : Int)) = wb := by
    rw [HWH.out, Bool.eq_iff_iff]
    simp
    omega
  rw [HBE.out]
  clear hil hb3 hown hms hP3 hG3 hP hG hmt hlen HL HTK
  go_wp2_with (go_at_call 20; go_loud (refine (HNU.out _ HB3w.out).mono ?_; rintro e w4 ⟨rfl, hb4⟩; have p0 := ((bcell hb4).1 _ _ pl).trans p0; have p1 := ((bcell hb4).1 _ _ pl).trans p1; have pf0 := ((bcell hb4).2 _ _ pl).trans pf0; have pf1 := ((bcell hb4).2 _ _ pl).trans pf1; have pl := Nat.lt_of_lt_of_le pl hb4.size))
  have hP4 := HP3.out.below hb4 HP3.out.lt
  have hO4 := own_below HO.out hb4
  have hM4 := HMS.out.below hb4
  have hne := own_blk_ne hO4 hP4 (by decide)
  refine ret_cell (t := 61) (cs := #[.slice A3 ms.length c3, .bool wb]) (by have := (hP4.set_ 0 (.slice A3 ms.length c3)).set_ 1 (.bool wb); simpa using this) rfl rfl Tryz.underlying61 rfl (by kernel_rfl) rfl ?_
  have hO5 := own_set (own_set hO4 (a := ⟨bP, 0, none⟩) hne (.slice A3 ms.length c3)) (a := ⟨bP, 1, none⟩) hne (.bool wb)
  have hM5 := (hM4.set_ (p := ⟨bP, 0, none⟩) hP4 (by decide) (.slice A3 ms.length c3)).set_ (p := ⟨bP, 1, none⟩) (hP4.set_ 0 (.slice A3 ms.length c3)) (by decide) (.bool wb)
  obtain ⟨A8, c8, he8, _, _, hs8⟩ := own_slr (R := RMc) hO5 (fun _ => rfl) (fun _ => rfl) rfl
  obtain ⟨rfl, rfl⟩ : A3 = A8 ∧ c3 = c8 := by injection he8 with h1 h2 h3; exact ⟨h1, h3⟩
  exact ⟨A3, c3, ms, base, by rw [HLEN.out], hs8, hM5, HMT.out, by rw [HLEN.out]; exact hml, hcm, hO5, ((bthen HB23.out hb4).setCell (p := ⟨bP, 0, none⟩) hwP _).setCell (p := ⟨bP, 1, none⟩) hwP _⟩
end Go.Proofs.YtfjkmgjjifhdkaaGreat

/-
  The walks of package page, for graphs with many links: Make.
-/
namespace Go.Proofs.YtfjkmgjjifhdkaaGreat
open Go Go.RowKit

/-- For how many candidates the budget is enough. -/
def wantN (g : Gr) (k b : Int) : Nat := (min (b / g.n) k).toNat
/-- What Make answers: the list, whole, the potentials, the error. -/
def makeM (g : Gr) (k b : Int) : List Can × Bool × List Int × Int := if pgErr g k b = 0 then ((allG g).take (wantN g k b), pgWh g (wantN g k b), potL g, 0) else ([], false, [], pgErr g k b)
def IsMk (M : List Can × Bool × List Int × Int) (w : World) (e : Ending) (w' : World) : Prop := ∃ A c ms base B d, e = .returned (.tuple #[.agg #[.slice A M.1.length c, .bool M.2.1], .slice B M.2.2.1.length d, .int .i64 M.2.2.2]) ∧ SlR 2 RMc w' A ms ∧ MsOK w' ms ∧ Hid (ms.map (·.x) = M.1) ∧ M.1.length ≤ c ∧ c ≤ maxLen ∧
  w'.ownsRow base 42 2 (.slice A ms.length c) ms.length (ms.flatMap encMc) ∧ SlT w' B M.2.2.1 ∧ M.2.2.1.length ≤ d ∧ d ≤ maxLen ∧ Below w.heap.size w w'
theorem pgErr_ok {g : Gr} {k b : Int} (h : pgErr g k b = 0) : GrOK g ∧ (0 ≤ k ∧ k ≤ 50) ∧ 0 ≤ b := by
  unfold pgErr at h
  split at h
  · cases h
  · split at h
    · cases h
    · rename_i h1 h2
      exact ⟨grB_iff.1 (by simpa using h1), by omega, by omega⟩
theorem pgErr_val (g : Gr) (k b : Int) : pgErr g k b = 0 ∨ pgErr g k b = 1 ∨ pgErr g k b = 150 := by
  unfold pgErr
  split
  · exact .inr (.inr rfl)
  · split
    · exact .inr (.inl rfl)
    · exact .inl rfl
set_option maxRecDepth 100000 in
set_option maxHeartbeats 8000000 in
theorem make_any (A : Option Addr) (c : Nat) (g : Gr) (k b : Int) (w : World) (hx : SlR 4 RLk w A g.ls) (h14 : g.ls.length ≤ 20000 ∧ nW g 0 ≤ 1000000) (hbu : b ≤ 1000000) :
    Calls Tryz.prog 14 #[.agg #[.int .i64 g.n, .slice A g.ls.length c], .int .i64 k, .int .i64 b] w (IsMk (makeM g k b) w) := by
  have hl : g.ls.length ≤ maxLen := by unfold maxLen; omega
  obtain ⟨w2, hw2⟩ : ∃ w2, (w.alloc (.cells #[.int .i64 g.n, .slice A g.ls.length c] 38)).alloc (.cells #[.slice none 0 0, .bool false] 61) = w2 := ⟨_, rfl⟩
  have hb2 : Below w.heap.size w w2 := by rw [← hw2]; exact nw _ (nw _ (Below.refl _ _))
  have hG : Blk w2 w.heap.size 38 #[.int .i64 g.n, .slice A g.ls.length c] := by rw [← hw2]; exact (Blk.new _ _ _).alloc _
  have hP : Blk w2 (w.heap.size + 1) 61 #[.slice none 0 0, .bool false] := by rw [← hw2]; exact Blk.new_ (by simp)
  have HW2 := Lib.hid hw2
  obtain ⟨bP, hbP⟩ : ∃ b, w.heap.size + 1 = b := ⟨_, rfl⟩
  rw [hbP] at hP
  have HBP := Lib.hid hbP
  have hwP : w.heap.size ≤ bP := by omega
  have hGP : w.heap.size ≠ bP := by omega
  have g0 := hG.cell 0
  have g1 := hG.cell 1
  have gl := hG.lt
  simp at g0 g1
  have HX : Hid (∀ W', Below w2.heap.size w2 W' → SlR 4 RLk W' A g.ls) := fun W' hW' => (hx.below keeps_lk hb2).below keeps_lk hW'
  have HC : Hid (Calls Tryz.prog 50 #[.agg #[.int .i64 g.n, .slice A g.ls.length c], .int .i64 k, .int .i64 b] w2 fun e w' => e = .returned (.int .i64 (pgErr g k b)) ∧ Below w2.heap.size w2 w') := pcheck_any A c g k b w2 (hx.below keeps_lk hb2) hl
  clear hw2 hbP hx
  go_enter Tryz.func14, Tryz.ntmps14
  go_upto_region 1 with fail
  rw [HW2.out, HBP.out]
  by_cases h0 : pgErr g k b = 0
  · obtain ⟨hgr, hk, hb0⟩ := pgErr_ok h0
    have hb : 0 ≤ b ∧ b ≤ 1000000 := ⟨hb0, hbu⟩
    have hgn : 1 ≤ g.n ∧ g.n ≤ 2000 := hgr.n
    obtain ⟨n, hn⟩ : ∃ n, wantN g k b = n := ⟨_, rfl⟩
    have hq := Int.ediv_nonneg hb.1 (show 0 ≤ g.n by omega)
    have hwn : min (b / g.n) k = (n : Int) := by rw [← hn]; unfold wantN; omega
    have hn50 : n ≤ 50 := by omega
    have HMK : Hid (makeM g k b = ((allG g).take n, pgWh g n, potL g, 0)) := by show _ = _; unfold makeM; rw [if_pos h0, hn]
    have HFI : Hid (∀ W W', Below w2.heap.size w2 W → Below W.heap.size W W' → Calls Tryz.prog 52 #[.agg #[.int .i64 g.n, .slice A g.ls.length c], .int .i64 (n : Int)] W' (IsPg ((allG g).take n) (pgWh g n) W')) := fun W W' hW hW' => pfirst_any A c g n W' (HX.out _ (bthen hW hW')) hl hgr h14 hn50
    have HPT : Hid (∀ W', Below w2.heap.size w2 W' → Calls Tryz.prog 51 #[.agg #[.int .i64 g.n, .slice A g.ls.length c]] W' fun e w' => ∃ A' c', e = .returned (.tuple #[.slice A' (potL g).length c', .int .i64 0]) ∧ SlT w' A' (potL g) ∧ Below W'.heap.size W' w' ∧ (potL g).length ≤ c' ∧ c' ≤ maxLen) := fun W' hW' => by
      have h := pot_anyT A c g W' (HX.out _ hW') hl
      rw [show potsOf g = (potL g, 0) by unfold potsOf; rw [grB_iff.2 hgr]; rfl] at h
      exact h.mono fun e w' ⟨A', c', h1, h2, h3, h4, h5, h6⟩ => ⟨A', c', h1, h6, h3, h4, h5⟩
    rw [h0] at HC
    generalize (allG g).take n = Lc at *
    generalize pgWh g n = wb at *
    generalize potL g = ps at *
    clear h0 hq hn hgr hb0 hbu hl h14
    go_upto_region 4 with (go_at_call 50; go_loud (refine HC.out.mono ?_; rintro e w3 ⟨rfl, hb3⟩))
    have g0 := ((bcell hb3).1 _ _ gl).trans g0
    have g1 := ((bcell hb3).1 _ _ gl).trans g1
    have gl := Nat.lt_of_lt_of_le gl hb3.size
    go_upto_region 5 with (go_at_call 51; go_loud (refine (HPT.out _ hb3).mono ?_; rintro e W6 ⟨A4, c4, rfl, hQ, hb4, hc4, hcm4⟩))
    have g0 := ((bcell hb4).1 _ _ gl).trans g0
    have g1 := ((bcell hb4).1 _ _ gl).trans g1
    have gl := Nat.lt_of_lt_of_le gl hb4.size
    have hb26 := bthen hb3 hb4
    have HP : Hid (Blk W6 bP 61 #[.slice none 0 0, .bool false]) := hP.below hb26 hP.lt
    have HQ := Lib.hid hQ
    have HB6 := Lib.hid (bthen hb2 hb26)
    have HFI := Lib.hid (fun W' hW' => HFI.out W6 W' hb26 hW')
    clear hb26 hb3 hb4 hP hG hQ HC HPT HX
    go_upto_region 7 with fail
    refine ordB_start (ButB bP W6) (.quiet 0 (.quiet 1 (.quiet 2 (.quiet 3 (.quiet 5 (.quiet 9 (.fork 4 6 (.only 6 (.only 7 (.only 8 (.only 10 (.quiet 11 (.quiet 12 .done)))))) (.only 4 (.only 7 (.only 8 (.only 10 (.quiet 11 (.quiet 12 .done))))))))))))) (by kernel_rfl) (by kernel_rfl) (by kernel_rfl) (fun _ _ _ _ _ h => h) (ButB.of_below (Below.refl _ _).drew) ?_
    have hS : ButB bP W6 W6.drew := ButB.of_below (Below.refl _ _).drew
    have hT : Below W6.heap.size W6 W6.drew := (Below.refl _ _).drew
    obtain ⟨Wd, qq⟩ : ∃ W', W6.drew = W' := ⟨_, rfl⟩
    rw [qq] at hS hT ⊢
    clear qq
    iterate 6 (first
      | (refine ordB_skip rfl rfl ?_; simp only [Act.put, List.setIfInBounds_toArray, List.set_cons_zero, List.set_cons_succ])
      | (refine ordB_take (v := ?_) rfl rfl ?_ ?_
         rotate_left 1
         focus (intro W hW; have hcW := hW.cell; (go_simp <;> with_reducible rfl))
         simp only [Act.put, List.setIfInBounds_toArray, List.set_cons_zero, List.set_cons_succ]))
    refine ordB_fork (opB_call rfl rfl (fun K hK => ?_)) (opB_call rfl rfl (fun K hK => ?_))
    · go_simp
      refine hK.out _ _ hS (fun hS1 => ?_)
      clear hK K
      have hT1 := hT
      try simp only [Act.put, List.setIfInBounds_toArray, List.set_cons_zero, List.set_cons_succ]
      refine ordB_only (opB_call rfl rfl (fun K hK => ?_))
      go_simp
      refine hK.out _ _ (hS1.trans (ButB.of_below (nw (.cells #[.int .i64 k] 3) (Below.refl _ Wd)))) (fun hS2 => ?_)
      clear hK K
      have hT2 := hT1.alloc hT1.size (.cells #[.int .i64 k] 3)
      have hkb : SlR 1 RInt (Wd.alloc (.cells #[.int .i64 k] 3)) (some ⟨Wd.heap.size, 0, none⟩) [k] := slr_blk (enc := fun s => [.int .i64 s]) (Blk.new_ rfl) (fun _ => rfl) (fun _ => rfl)
      obtain ⟨Wd2, qq⟩ : ∃ W', Wd.alloc (.cells #[.int .i64 k] 3) = W' := ⟨_, rfl⟩
      rw [qq] at hS2 hT2 hkb ⊢
      clear qq
      try simp only [Act.put, List.setIfInBounds_toArray, List.set_cons_zero, List.set_cons_succ]
      refine ordB_only (opB_call rfl rfl (fun K hK => ?_))
      go_simp
      go_at_call 53
      refine (pleast_any g.n b k _ _ _ hb hgn hk hkb).mono ?_
      rintro e w' ⟨rfl, rfl⟩
      rw [hwn]
      refine hK.out _ _ hS2 (fun hS3 => ?_)
      clear hK K hkb
      have hT3 := hT2
      try simp only [Act.put, List.setIfInBounds_toArray, List.set_cons_zero, List.set_cons_succ]
      refine ordB_only (opB_call rfl rfl (fun K hK => ?_))
      go_simp
      go_at_call 52
      refine (HFI.out Wd2 hT3).mono ?_
      rintro e Wd4 ⟨A5, c5, ms, base, rfl, _, hms, HMX, hml, hmc, hown, hx8⟩
      refine hK.out _ _ (hS3.trans (ButB.of_below hx8)) (fun hS4 => ?_)
      clear hK K
      have hT4 := hT3.trans (hx8.mono hT3.size)
      try simp only [Act.put, List.setIfInBounds_toArray, List.set_cons_zero, List.set_cons_succ]
      refine ordB_only (opB_call rfl rfl (fun K hK => ?_))
      have hP := HP.out.below hT4 HP.out.lt
      have p0 := hP.cell 0
      have p1 := hP.cell 1
      have pf0 := hP.frozen 0
      have pf1 := hP.frozen 1
      have pl := hP.lt
      simp at p0 p1
      go_simp
      refine hK.out _ _ ((hS4.set_ 0 (.slice A5 Lc.length c5)).set_ 1 (.bool wb)) (fun hS5 => ?_)
      clear hK K
      have hne := own_blk_ne hown hP (by decide)
      have hO5 := own_set (own_set hown (a := ⟨bP, 0, none⟩) hne (.slice A5 Lc.length c5)) (a := ⟨bP, 1, none⟩) hne (.bool wb)
      have hM5 := (hms.set_ (p := ⟨bP, 0, none⟩) hP (by decide) (.slice A5 Lc.length c5)).set_ (p := ⟨bP, 1, none⟩) (hP.set_ 0 (.slice A5 Lc.length c5)) (by decide) (.bool wb)
      have hQ5 := (HQ.out.below hT4).set_ (p := ⟨bP, 0, none⟩) hP (by decide) (.slice A5 Lc.length c5)
      have hQ5 := hQ5.set_ (p := ⟨bP, 1, none⟩) (hP.set_ 0 (.slice A5 Lc.length c5)) (by decide) (.bool wb)
      have hP5 := (hP.set_ 0 (.slice A5 Lc.length c5)).set_ 1 (.bool wb)
      have hE5 := (((HB6.out.trans (hT4.mono HB6.out.size)).setCell (p := ⟨bP, 0, none⟩) hwP (.slice A5 Lc.length c5)).setCell (p := ⟨bP, 1, none⟩) hwP (.bool wb))
      obtain ⟨Wd5, qq⟩ : ∃ W', (Wd4.setCell ⟨bP, 0, none⟩ (.slice A5 Lc.length c5)).setCell ⟨bP, 1, none⟩ (.bool wb) = W' := ⟨_, rfl⟩
      rw [qq] at hS5 hO5 hM5 hQ5 hP5 hE5 ⊢
      clear qq p0 p1 pf0 pf1 pl
      try simp only [Act.put, List.setIfInBounds_toArray, List.set_cons_zero, List.set_cons_succ]
      iterate 2 (first
        | (refine ordB_skip rfl rfl ?_; simp only [Act.put, List.setIfInBounds_toArray, List.set_cons_zero, List.set_cons_succ])
        | (refine ordB_take (v := ?_) rfl rfl ?_ ?_
           rotate_left 1
           focus (intro W hW; have hcW := hW.cell; (go_simp <;> with_reducible rfl))
           simp only [Act.put, List.setIfInBounds_toArray, List.set_cons_zero, List.set_cons_succ]))
      refine ordB_nil ?_
      go_wp2_with fail
      refine ret_cell_tmp2 (t := 61) (cs := #[.slice A5 Lc.length c5, .bool wb]) (by simpa using hP5) rfl rfl Tryz.underlying61 rfl (by kernel_rfl) rfl ?_
      obtain ⟨A8, c8, he8, _, _, hs8⟩ := own_slr (R := RMc) hO5 (fun _ => rfl) (fun _ => rfl) rfl
      obtain ⟨rfl, rfl⟩ : A5 = A8 ∧ c5 = c8 := by injection he8 with h1 h2 h3; exact ⟨h1, h3⟩
      exact ⟨A5, c5, ms, base, A4, c4, by rw [HMK.out]; rfl, hs8, hM5, by rw [HMK.out]; exact HMX.out, by rw [HMK.out]; exact hml, hmc, hO5, by rw [HMK.out]; exact hQ5, by rw [HMK.out]; exact hc4, hcm4, hE5⟩
    · go_simp
      refine hK.out _ _ (hS.trans (ButB.of_below (nw (.cells #[.int .i64 k] 3) (Below.refl _ Wd)))) (fun hS6 => ?_)
      clear hK K
      have hT6 := hT.alloc hT.size (.cells #[.int .i64 k] 3)
      have hkb : SlR 1 RInt (Wd.alloc (.cells #[.int .i64 k] 3)) (some ⟨Wd.heap.size, 0, none⟩) [k] := slr_blk (enc := fun s => [.int .i64 s]) (Blk.new_ rfl) (fun _ => rfl) (fun _ => rfl)
      obtain ⟨Wd6, qq⟩ : ∃ W', Wd.alloc (.cells #[.int .i64 k] 3) = W' := ⟨_, rfl⟩
      rw [qq] at hS6 hT6 hkb ⊢
      clear qq
      try simp only [Act.put, List.setIfInBounds_toArray, List.set_cons_zero, List.set_cons_succ]
      refine ordB_only (opB_call rfl rfl (fun K hK => ?_))
      go_simp
      refine hK.out _ _ hS6 (fun hS7 => ?_)
      clear hK K
      have hT7 := hT6
      try simp only [Act.put, List.setIfInBounds_toArray, List.set_cons_zero, List.set_cons_succ]
      refine ordB_only (opB_call rfl rfl (fun K hK => ?_))
      go_simp
      go_at_call 53
      refine (pleast_any g.n b k _ _ _ hb hgn hk hkb).mono ?_
      rintro e w' ⟨rfl, rfl⟩
      rw [hwn]
      refine hK.out _ _ hS7 (fun hS8 => ?_)
      clear hK K hkb
      have hT8 := hT7
      try simp only [Act.put, List.setIfInBounds_toArray, List.set_cons_zero, List.set_cons_succ]
      refine ordB_only (opB_call rfl rfl (fun K hK => ?_))
      go_simp
      go_at_call 52
      refine (HFI.out Wd6 hT8).mono ?_
      rintro e Wd9 ⟨A5, c5, ms, base, rfl, _, hms, HMX, hml, hmc, hown, hx8⟩
      refine hK.out _ _ (hS8.trans (ButB.of_below hx8)) (fun hS9 => ?_)
      clear hK K
      have hT9 := hT8.trans (hx8.mono hT8.size)
      try simp only [Act.put, List.setIfInBounds_toArray, List.set_cons_zero, List.set_cons_succ]
      refine ordB_only (opB_call rfl rfl (fun K hK => ?_))
      have hP := HP.out.below hT9 HP.out.lt
      have p0 := hP.cell 0
      have p1 := hP.cell 1
      have pf0 := hP.frozen 0
      have pf1 := hP.frozen 1
      have pl := hP.lt
      simp at p0 p1
      go_simp
      refine hK.out _ _ ((hS9.set_ 0 (.slice A5 Lc.length c5)).set_ 1 (.bool wb)) (fun hS10 => ?_)
      clear hK K
      have hne := own_blk_ne hown hP (by decide)
      have hO5 := own_set (own_set hown (a := ⟨bP, 0, none⟩) hne (.slice A5 Lc.length c5)) (a := ⟨bP, 1, none⟩) hne (.bool wb)
      have hM5 := (hms.set_ (p := ⟨bP, 0, none⟩) hP (by decide) (.slice A5 Lc.length c5)).set_ (p := ⟨bP, 1, none⟩) (hP.set_ 0 (.slice A5 Lc.length c5)) (by decide) (.bool wb)
      have hQ5 := (HQ.out.below hT9).set_ (p := ⟨bP, 0, none⟩) hP (by decide) (.slice A5 Lc.length c5)
      have hQ5 := hQ5.set_ (p := ⟨bP, 1, none⟩) (hP.set_ 0 (.slice A5 Lc.length c5)) (by decide) (.bool wb)
      have hP5 := (hP.set_ 0 (.slice A5 Lc.length c5)).set_ 1 (.bool wb)
      have hE5 := (((HB6.out.trans (hT9.mono HB6.out.size)).setCell (p := ⟨bP, 0, none⟩) hwP (.slice A5 Lc.length c5)).setCell (p := ⟨bP, 1, none⟩) hwP (.bool wb))
      obtain ⟨Wd10, qq⟩ : ∃ W', (Wd9.setCell ⟨bP, 0, none⟩ (.slice A5 Lc.length c5)).setCell ⟨bP, 1, none⟩ (.bool wb) = W' := ⟨_, rfl⟩
      rw [qq] at hS10 hO5 hM5 hQ5 hP5 hE5 ⊢
      clear qq p0 p1 pf0 pf1 pl
      try simp only [Act.put, List.setIfInBounds_toArray, List.set_cons_zero, List.set_cons_succ]
      iterate 2 (first
        | (refine ordB_skip rfl rfl ?_; simp only [Act.put, List.setIfInBounds_toArray, List.set_cons_zero, List.set_cons_succ])
        | (refine ordB_take (v := ?_) rfl rfl ?_ ?_
           rotate_left 1
           focus (intro W hW; have hcW := hW.cell; (go_simp <;> with_reducible rfl))
           simp only [Act.put, List.setIfInBounds_toArray, List.set_cons_zero, List.set_cons_succ]))
      refine ordB_nil ?_
      go_wp2_with fail
      refine ret_cell_tmp2 (t := 61) (cs := #[.slice A5 Lc.length c5, .bool wb]) (by simpa using hP5) rfl rfl Tryz.underlying61 rfl (by kernel_rfl) rfl ?_
      obtain ⟨A8, c8, he8, _, _, hs8⟩ := own_slr (R := RMc) hO5 (fun _ => rfl) (fun _ => rfl) rfl
      obtain ⟨rfl, rfl⟩ : A5 = A8 ∧ c5 = c8 := by injection he8 with h1 h2 h3; exact ⟨h1, h3⟩
      exact ⟨A5, c5, ms, base, A4, c4, by rw [HMK.out]; rfl, hs8, hM5, by rw [HMK.out]; exact HMX.out, by rw [HMK.out]; exact hml, hmc, hO5, by rw [HMK.out]; exact hQ5, by rw [HMK.out]; exact hc4, hcm4, hE5⟩
  · have HMK : Hid (makeM g k b = ([], false, [], pgErr g k b)) := by show _ = _; unfold makeM; rw [if_neg h0]
    have hv := pgErr_val g k b
    generalize pgErr g k b = er at *
    have h1 : er = 1 ∨ er = 150 := hv.resolve_left h0
    clear hv h0
    have p0 := hP.cell 0
    have p1 := hP.cell 1
    have pf0 := hP.frozen 0
    have pf1 := hP.frozen 1
    have pl := hP.lt
    simp at p0 p1
    have HPP := Lib.hid hP
    clear hP hG
    rcases h1 with rfl | rfl
    all_goals
      go_wp2_with (go_at_call 50; go_loud (refine HC.out.mono ?_; rintro e w3 ⟨rfl, hb3⟩; have p0 := ((bcell hb3).1 _ _ pl).trans p0; have p1 := ((bcell hb3).1 _ _ pl).trans p1; have pf0 := ((bcell hb3).2 _ _ pl).trans pf0; have pf1 := ((bcell hb3).2 _ _ pl).trans pf1; have pl := Nat.lt_of_lt_of_le pl hb3.size))
      have hP3 := HPP.out.below hb3 HPP.out.lt
      refine ret_cell_tmp2 (t := 61) (cs := #[.slice none 0 0, .bool false]) (by have := (hP3.set_ 0 (.slice none 0 0)).set_ 1 (.bool false); simpa using this) rfl rfl Tryz.underlying61 rfl (by kernel_rfl) rfl ?_
      exact ⟨none, 0, [], 0, none, 0, by rw [HMK.out]; rfl, SlR.nil, MsOK.nil, by rw [HMK.out]; rfl, by rw [HMK.out]; exact Nat.le_refl _, Nat.zero_le _, own_nil _ _ _ _, by rw [HMK.out]; exact SlT.nil, by rw [HMK.out]; exact Nat.le_refl _, Nat.zero_le _, ((bthen hb2 hb3).setCell (p := ⟨bP, 0, none⟩) hwP _).setCell (p := ⟨bP, 1, none⟩) hwP _⟩
end Go.Proofs.YtfjkmgjjifhdkaaGreat

/-
  The walks of package page, for graphs with many links: More.
-/
namespace Go.Proofs.YtfjkmgjjifhdkaaGreat
open Go Go.RowKit

def IsMr (M : List Can × Bool × Int) (w : World) (e : Ending) (w' : World) : Prop := ∃ A c ms base, e = .returned (.tuple #[.agg #[.slice A M.1.length c, .bool M.2.1], .int .i64 M.2.2]) ∧ SlR 2 RMc w' A ms ∧ MsOK w' ms ∧ Hid (ms.map (·.x) = M.1) ∧ M.1.length ≤ c ∧ c ≤ maxLen ∧
  w'.ownsRow base 42 2 (.slice A ms.length c) ms.length (ms.flatMap encMc) ∧ Below w.heap.size w w'
end Go.Proofs.YtfjkmgjjifhdkaaGreat

/-
  The walks of package page, for graphs with many links: Prefix and Same of pages, the law's made.
-/
namespace Go.Proofs.YtfjkmgjjifhdkaaGreat
open Go Go.RowKit

end Go.Proofs.YtfjkmgjjifhdkaaGreat

/-
  The plain laws of pages, and what Make, More and Check answer at valid graphs with many links.
-/
namespace Go.Proofs.YtfjkmgjjifhdkaaGreat
open Go Go.RowKit

/-- A page in memory. -/
structure PgIn (W : World) (A : Option Addr) (c : Nat) (L : List Can) : Prop where
  s : SlR 2 RCan W A L
  l : L.length ≤ c
  m : c ≤ maxLen
theorem PgIn.mono {W W' : World} {A : Option Addr} {c : Nat} {L : List Can} (h : PgIn W A c L) (hb : Below W.heap.size W W') : PgIn W' A c L := ⟨h.s.below keeps_can hb, h.l, h.m⟩
theorem IsMk.in_ {M : List Can × Bool × List Int × Int} {w : World} {e : Ending} {w' : World} : IsMk M w e w' → ∃ A c B d, e = .returned (.tuple #[.agg #[.slice A M.1.length c, .bool M.2.1], .slice B M.2.2.1.length d, .int .i64 M.2.2.2]) ∧ PgIn w' A c M.1 ∧ SlR 1 RInt w' B M.2.2.1 ∧ Below w.heap.size w w' :=
  fun ⟨A, c, ms, _, B, d, h1, h2, h3, h4, h5, h6, _, h8, _, _, h11⟩ => ⟨A, c, B, d, h1, ⟨by have := mc_can h2 h3; rwa [h4.out] at this, h5, h6⟩, h8.slr, h11⟩
theorem IsMr.in_ {M : List Can × Bool × Int} {w : World} {e : Ending} {w' : World} : IsMr M w e w' → ∃ A c, e = .returned (.tuple #[.agg #[.slice A M.1.length c, .bool M.2.1], .int .i64 M.2.2]) ∧ PgIn w' A c M.1 ∧ Below w.heap.size w w' :=
  fun ⟨A, c, ms, _, h1, h2, h3, h4, h5, h6, _, h8⟩ => ⟨A, c, h1, ⟨by have := mc_can h2 h3; rwa [h4.out] at this, h5, h6⟩, h8⟩
/-- The first n candidates. -/
def pgL (g : Gr) (n : Nat) : List Can := (allG g).take n
theorem pgL_len (g : Gr) (n : Nat) : (pgL g n).length = min n (allG g).length := by unfold pgL; rw [List.length_take]
theorem pgWh_eq (g : Gr) (n : Nat) : pgWh g n = decide (min n (allG g).length = (allG g).length) := by unfold pgWh; rw [List.length_take]
theorem pg_check {g : Gr} (hg : GrOK g) (_h14 : g.ls.length ≤ 20000 ∧ nW g 0 ≤ 1000000) (n : Nat) : checkM g (pgL g n) (pgWh g n) = (((min n (allG g).length : Nat) : Int), 0) := by
  rw [check_eq hg (allG_is hg)]
  unfold refCheckM
  have h := diffAt_pre (pgL g n) [] ((allG g).drop n) 0
  have e : pgL g n ++ (allG g).drop n = allG g := List.take_append_drop _ _
  rw [List.append_nil, e] at h
  rw [h, pgL_len]
  show (if pgWh g n ≠ decide (min n (allG g).length = (allG g).length) then _ else _) = _
  rw [if_neg (by rw [pgWh_eq]; simp)]
theorem pgErr_zero {g : Gr} (hg : GrOK g) {k b : Int} (hk : 0 ≤ k ∧ k ≤ 50) (hb : 0 ≤ b) : pgErr g k b = 0 := by
  unfold pgErr
  rw [if_neg (by rw [grB_iff.2 hg]; simp), if_neg (by omega)]
theorem lmake_any (A : Option Addr) (c : Nat) (g : Gr) (k b : Int) (n : Nat) (w : World) (hx : SlR 4 RLk w A g.ls) (hg : GrOK g) (h14 : g.ls.length ≤ 20000 ∧ nW g 0 ≤ 1000000) (hk : 0 ≤ k ∧ k ≤ 50) (hb : 0 ≤ b ∧ b ≤ 1000000) (hn : wantN g k b = n) :
    Calls Tryz.prog 14 #[.agg #[.int .i64 g.n, .slice A g.ls.length c], .int .i64 k, .int .i64 b] w fun e w' => ∃ A c B d, e = .returned (.tuple #[.agg #[.slice A (pgL g n).length c, .bool (pgWh g n)], .slice B (potL g).length d, .int .i64 0]) ∧ PgIn w' A c (pgL g n) ∧ SlR 1 RInt w' B (potL g) ∧ Below w.heap.size w w' := by
  have h := (make_any A c g k b w hx h14 hb.2).mono fun _ _ h => h.in_
  rw [show makeM g k b = (pgL g n, pgWh g n, potL g, 0) by unfold makeM; rw [if_pos (pgErr_zero hg hk hb.1), hn]; rfl] at h
  exact h
theorem lcheck_any (A : Option Addr) (c : Nat) (g : Gr) (B : Option Addr) (d : Nat) (C : Option Addr) (e m : Nat) (w : World) (hx : SlR 4 RLk w A g.ls) (hg : GrOK g) (h14 : g.ls.length ≤ 20000 ∧ nW g 0 ≤ 1000000) (hh : SlR 1 RInt w B (potL g)) (hp : PgIn w C e (pgL g m)) :
    Calls Tryz.prog 15 #[.agg #[.int .i64 g.n, .slice A g.ls.length c], .slice B (potL g).length d, .agg #[.slice C (pgL g m).length e, .bool (pgWh g m)]] w fun r w' => r = .returned (.tuple #[.int .i64 ((min m (allG g).length : Nat) : Int), .int .i64 0]) ∧ Below w.heap.size w w' := by
  have hl : (pgL g m).length ≤ 1000000 := by rw [pgL_len]; have := allG_len g; have := h14.2; omega
  have h := check_any A c g B (potL g) d C (pgL g m) e (pgWh g m) w hx (by unfold maxLen; omega) hh (by have h5 : (potL g).length = g.n.toNat := potS_len g g.n.toNat; have := hg.n; unfold maxLen; omega) hp.s hl hp.l
  rw [show checkAll g (potL g) (pgL g m) (pgWh g m) = (((min m (allG g).length : Nat) : Int), 0) by unfold checkAll; rw [if_neg (by rw [grB_iff.2 hg]; simp), if_neg (by simp), pg_check hg h14]] at h
  exact h
end Go.Proofs.YtfjkmgjjifhdkaaGreat

/-
  The plain law of pins: the candidates of a lattice that keeps those edges alone that are against no pin are, in order, those candidates of the whole lattice that have the pins' segments. No program in sight; no conditions.
-/
namespace Go.Proofs.YtfjkmgjjifhdkaaGreat
open List

structure Pn where
  fr : Int
  en : Int
  wd : Int
deriving DecidableEq
/-- Whether an edge is against a pin. -/
def agB (e : Ed) (p : Pn) : Bool := if (e.fr == p.fr && e.to == p.en) = true then !(p.wd == -1) && !(p.wd == e.wd) else decide (e.fr < p.en) && decide (p.fr < e.to)
def freeB (ps : List Pn) (e : Ed) : Bool := !ps.any (agB e)
def pinL (x : La) (ps : List Pn) : La := ⟨x.n, x.es.filter (freeB ps)⟩
def edAt (x : La) (i : Int) : Ed := x.es.getD i.toNat ⟨0, 0, 0, 0⟩
def edsL (x : La) (l : List Int) : List Ed := l.map (edAt x)
theorem all_cons {α : Type} {P : α → Prop} {a : α} {l : List α} (h : P a) (hl : ∀ b ∈ l, P b) : ∀ b ∈ a :: l, P b := fun b hb => by
  rcases mem_cons.1 hb with rfl | hb
  · exact h
  · exact hl b hb
def pathE (n : Int) : Int → List Ed → Prop
  | v, [] => v = n
  | v, e :: r => e.fr = v ∧ pathE n e.to r
theorem edAt_mem {x : La} {i : Int} (h : 0 ≤ i ∧ i < (x.es.length : Int)) : x.es[i.toNat]? = some (edAt x i) := by
  unfold edAt
  rw [getD_eq_getElem?_getD, getElem?_eq_getElem (by omega)]
  rfl
theorem eds_ex {x : La} : ∀ (E : List Ed), (∀ e ∈ E, e ∈ x.es) → ∃ w : List Int, (∀ i ∈ w, 0 ≤ i ∧ i < (x.es.length : Int)) ∧ edsL x w = E
  | [], _ => ⟨[], fun i hi => (not_mem_nil hi).elim, rfl⟩
  | e :: E, h => by
    obtain ⟨w, h1, h2⟩ := eds_ex E fun f hf => h f (by simp [hf])
    obtain ⟨k, hk, hke⟩ := getElem_of_mem (h e (by simp))
    refine ⟨(k : Int) :: w, fun i hi => ?_, ?_⟩
    · rcases mem_cons.1 hi with rfl | hi
      · omega
      · exact h1 i hi
    · show edAt x (k : Int) :: edsL x w = _
      rw [h2]
      have := edAt_mem (x := x) (i := (k : Int)) (by omega)
      rw [Int.toNat_natCast, getElem?_eq_getElem hk, hke] at this
      rw [← Option.some.inj this]
theorem tp_lessE_iff {a b : Ed} : lessE a b = true ↔ a.fr < b.fr ∨ a.fr = b.fr ∧ (a.to < b.to ∨ a.to = b.to ∧ a.wd < b.wd) := by unfold lessE; simp
theorem tp_lessE_trans {a b c : Ed} (h1 : lessE a b = true) (h2 : lessE b c = true) : lessE a c = true := by rw [tp_lessE_iff] at *; omega
theorem lessE_asym {a b : Ed} (h1 : lessE a b = true) (h2 : lessE b a = true) : False := by rw [tp_lessE_iff] at *; omega
theorem incE_pair : ∀ {l : List Ed}, incE l = true → l.Pairwise (fun a b => lessE a b = true)
  | [], _ => Pairwise.nil
  | [a], _ => pairwise_singleton _ _
  | a :: b :: l, h => by
    have h' : (lessE a b && incE (b :: l)) = true := h
    rw [Bool.and_eq_true] at h'
    have ih := incE_pair h'.2
    refine pairwise_cons.2 ⟨fun c hc => ?_, ih⟩
    rcases mem_cons.1 hc with rfl | hc
    · exact h'.1
    · exact tp_lessE_trans h'.1 ((pairwise_cons.1 ih).1 c hc)
theorem ed_less {x : La} (hx : LaOK x) {i j : Int} (hi : 0 ≤ i ∧ i < (x.es.length : Int)) (hj : 0 ≤ j ∧ j < (x.es.length : Int)) (h : i < j) : lessE (edAt x i) (edAt x j) = true := by
  have h1 := edAt_mem hi
  have h2 := edAt_mem hj
  obtain ⟨l1, e1⟩ := List.getElem?_eq_some_iff.1 h1
  obtain ⟨l2, e2⟩ := List.getElem?_eq_some_iff.1 h2
  rw [← e1, ← e2]
  exact pairwise_iff_getElem.1 (incE_pair hx.2.2.2) _ _ l1 l2 (by omega)
end Go.Proofs.YtfjkmgjjifhdkaaGreat
