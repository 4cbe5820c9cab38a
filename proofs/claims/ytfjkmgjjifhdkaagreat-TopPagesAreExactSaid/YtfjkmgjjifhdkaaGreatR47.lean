/-
  TpWalkE, TpWalkF, TpWalkG, CxWalkI, CxWalkJ, CxWalkP, CxMb, CxGr, CxLb, joined. No conditions.
-/
import Derived.Test.YtfjkmgjjifhdkaaGreatR46
import Derived.Test.YtfjkmgjjifhdkaaGreatR26
import Derived.Test.YtfjkmgjjifhdkaaGreatR01
import Derived.Test.YtfjkmgjjifhdkaaGreatR40
import Derived.Test.YtfjkmgjjifhdkaaGreatR11
import Derived.Test.YtfjkmgjjifhdkaaGreatR35
import Derived.Test.YtfjkmgjjifhdkaaGreatR41
import Derived.Test.YtfjkmgjjifhdkaaGreatR43
import Derived.Test.YtfjkmgjjifhdkaaGreatR45
/-
  The walks of package pin: whether an edge is against a pin, and against one of a list.
-/
namespace Go.Proofs.YtfjkmgjjifhdkaaGreat
open Go Go.RowKit

def encPn (p : Pn) : List Value := [.int .i64 p.fr, .int .i64 p.en, .int .i64 p.wd]
abbrev vPn (p : Pn) : Value := .agg #[.int .i64 p.fr, .int .i64 p.en, .int .i64 p.wd]
def RPn (_ : World) (p : Pn) (vs : List Value) : Prop := vs = [.int .i64 p.fr, .int .i64 p.en, .int .i64 p.wd]
theorem keeps_pn : Keeps RPn := fun _ _ _ _ _ h => h
theorem SlR.pn {w : World} {A : Option Addr} {k : Nat} {xs : List Pn} (h : SlR 3 RPn w A xs) (hk : k < xs.length) : ∃ b off x, A = some ⟨b, off, none⟩ ∧ b < w.heap.size ∧ xs[k]? = some x ∧
    w.cell? ⟨b, off + k * 3, none⟩ = some (.int .i64 x.fr) ∧ w.cell? ⟨b, off + k * 3 + 1, none⟩ = some (.int .i64 x.en) ∧ w.cell? ⟨b, off + k * 3 + 2, none⟩ = some (.int .i64 x.wd) := by
  obtain ⟨b, off, x, vs, hA, hlt, hx, hr, _, hv⟩ := h.at_ hk
  exact ⟨b, off, x, hA, hlt, hx, hv 0 _ (by rw [hr]; rfl), hv 1 _ (by rw [hr]; rfl), hv 2 _ (by rw [hr]; rfl)⟩
set_option maxRecDepth 100000 in
set_option maxHeartbeats 4000000 in
theorem against_any (e : Ed) (p : Pn) (w : World) : Calls Tryz.prog 32 #[vEd e, vPn p] w fun r w' => r = .returned (.bool (agB e p)) ∧ Below w.heap.size w w' := by
  obtain ⟨w2, hw2⟩ : ∃ w2, (w.alloc (.cells #[.int .i64 e.fr, .int .i64 e.to, .int .i64 e.wd, .int .i64 e.co] 44)).alloc (.cells #[.int .i64 p.fr, .int .i64 p.en, .int .i64 p.wd] 46) = w2 := ⟨_, rfl⟩
  have hb2 : Below w.heap.size w w2 := by rw [← hw2]; exact nw _ (nw _ (Below.refl _ _))
  have hE : Blk w2 w.heap.size 44 #[.int .i64 e.fr, .int .i64 e.to, .int .i64 e.wd, .int .i64 e.co] := by rw [← hw2]; exact (Blk.new _ _ _).alloc _
  have hP : Blk w2 (w.heap.size + 1) 46 #[.int .i64 p.fr, .int .i64 p.en, .int .i64 p.wd] := by rw [← hw2]; exact Blk.new_ (by simp)
  have HW2 := Lib.hid hw2
  have e0 := hE.cell 0
  have e1 := hE.cell 1
  have e2 := hE.cell 2
  have el := hE.lt
  have p0 := hP.cell 0
  have p1 := hP.cell 1
  have p2 := hP.cell 2
  have pl := hP.lt
  simp at e0 e1 e2 p0 p1 p2
  have HAG : Hid (agB e p = if (e.fr == p.fr && e.to == p.en) = true then !(p.wd == -1) && !(p.wd == e.wd) else decide (e.fr < p.en) && decide (p.fr < e.to)) := rfl
  obtain ⟨v, hv⟩ : ∃ v, agB e p = v := ⟨_, rfl⟩
  rw [hv] at HAG ⊢
  clear hw2 hE hP hv
  cases z1 : (e.fr == p.fr) with
  | false =>
    rw [z1] at HAG
    cases z5 : decide (e.fr < p.en) <;> cases z6 : decide (p.fr < e.to) <;>
    (rw [z5, z6] at HAG
     go_enter Tryz.func32, Tryz.ntmps32
     go_upto_region 1 with fail
     rw [HW2.out]
     go_wp2_with fail
     go_ret
     exact ⟨by rw [HAG.out]; rfl, hb2⟩)
  | true =>
    rw [z1] at HAG
    cases z2 : (e.to == p.en) with
    | false =>
      rw [z2] at HAG
      cases z5 : decide (e.fr < p.en) <;> cases z6 : decide (p.fr < e.to) <;>
      (rw [z5, z6] at HAG
       go_enter Tryz.func32, Tryz.ntmps32
       go_upto_region 1 with fail
       rw [HW2.out]
       go_wp2_with fail
       go_ret
       exact ⟨by rw [HAG.out]; rfl, hb2⟩)
    | true =>
      rw [z2] at HAG
      cases z3 : (p.wd == -1) with
      | true =>
        rw [z3] at HAG
        have y3 : (p.wd != -1) = false := by rw [bne, z3]; rfl
        clear z3
        go_enter Tryz.func32, Tryz.ntmps32
        go_upto_region 1 with fail
        rw [HW2.out]
        go_wp2_with fail
        go_ret
        exact ⟨by rw [HAG.out]; rfl, hb2⟩
      | false =>
        rw [z3] at HAG
        have y3 : (p.wd != -1) = true := by rw [bne, z3]; rfl
        clear z3
        cases z4 : (p.wd == e.wd) with
        | true =>
          rw [z4] at HAG
          have y4 : (p.wd != e.wd) = false := by rw [bne, z4]; rfl
          clear z4
          go_enter Tryz.func32, Tryz.ntmps32
          go_upto_region 1 with fail
          rw [HW2.out]
          go_wp2_with fail
          go_ret
          exact ⟨by rw [HAG.out]; rfl, hb2⟩
        | false =>
          rw [z4] at HAG
          have y4 : (p.wd != e.wd) = true := by rw [bne, z4]; rfl
          clear z4
          go_enter Tryz.func32, Tryz.ntmps32
          go_upto_region 1 with fail
          rw [HW2.out]
          go_wp2_with fail
          go_ret
          exact ⟨by rw [HAG.out]; rfl, hb2⟩
/-- The first pin that an edge is against, or -1. -/
def ixP (e : Ed) (ps : List Pn) : Int := if ps.any (agB e) = true then (ps.findIdx (agB e) : Int) else -1
theorem ixP_neg {e : Ed} {ps : List Pn} (h : ps.any (agB e) = false) : ixP e ps = -1 := if_neg (by rw [h]; decide)
theorem ixP_at {e : Ed} {ps : List Pn} {k : Nat} {p : Pn} (h : (ps.take k).any (agB e) = false) (hp : ps[k]? = some p) (ha : agB e p = true) : ixP e ps = (k : Int) := by
  obtain ⟨hk, rfl⟩ := List.getElem?_eq_some_iff.1 hp
  unfold ixP
  rw [if_pos (List.any_eq_true.2 ⟨_, List.getElem_mem hk, ha⟩)]
  congr 1
  rw [List.findIdx_eq hk]
  refine ⟨ha, fun j hj => ?_⟩
  rw [List.any_eq_false] at h
  have := h ps[j] (List.mem_take_iff_getElem.2 ⟨j, by omega, rfl⟩)
  simpa using this
theorem ixP_iff {e : Ed} {ps : List Pn} : 0 ≤ ixP e ps ↔ ps.any (agB e) = true := by
  unfold ixP
  split
  · rename_i h; simp [h]
  · rename_i h; constructor
    · intro h2; omega
    · intro h2; exact absurd h2 h
set_option maxRecDepth 100000 in
set_option maxHeartbeats 4000000 in
theorem pclo_any (e : Ed) (p : Pn) (bE : Nat) (w : World) (hE : Blk w bE 44 #[.int .i64 e.fr, .int .i64 e.to, .int .i64 e.wd, .int .i64 e.co]) :
    Calls Tryz.prog 31 #[vPn p, .pointer (some ⟨bE, 0, none⟩)] w fun r w' => r = .returned (.bool (agB e p)) ∧ Below w.heap.size w w' := by
  obtain ⟨w1, hw1⟩ : ∃ w1, w.alloc (.cells #[.int .i64 p.fr, .int .i64 p.en, .int .i64 p.wd] 46) = w1 := ⟨_, rfl⟩
  have hb1 : Below w.heap.size w w1 := by rw [← hw1]; exact nw _ (Below.refl _ _)
  have hP : Blk w1 w.heap.size 46 #[.int .i64 p.fr, .int .i64 p.en, .int .i64 p.wd] := by rw [← hw1]; exact Blk.new _ _ _
  have hE1 := hE.below hb1 hE.lt
  have HW1 := Lib.hid hw1
  have e0 := hE1.cell 0
  have e1 := hE1.cell 1
  have e2 := hE1.cell 2
  have e3 := hE1.cell 3
  have el := hE1.lt
  have p0 := hP.cell 0
  have p1 := hP.cell 1
  have p2 := hP.cell 2
  have pl := hP.lt
  simp at e0 e1 e2 e3 p0 p1 p2
  have HC : Hid (Calls Tryz.prog 32 #[vEd e, vPn p] w1 fun r w' => r = .returned (.bool (agB e p)) ∧ Below w1.heap.size w1 w') := against_any e p w1
  generalize agB e p = v at *
  clear hw1 hE1 hP hE
  go_enter Tryz.func31, Tryz.ntmps31
  go_upto_region 1 with fail
  rw [HW1.out]
  go_wp2_with (go_at_call 32; go_loud (refine HC.out.mono ?_; rintro r w' ⟨rfl, hb2⟩))
  go_ret
  exact ⟨rfl, bthen hb1 hb2⟩
set_option maxRecDepth 100000 in
set_option maxHeartbeats 4000000 in
theorem indexP_any (A : Option Addr) (ps : List Pn) (c bE : Nat) (e : Ed) (w : World) (hx : SlR 3 RPn w A ps) (hl : ps.length ≤ maxLen) (hE : Blk w bE 44 #[.int .i64 e.fr, .int .i64 e.to, .int .i64 e.wd, .int .i64 e.co]) :
    Calls Tryz.prog 67 #[.slice A ps.length c, .func (.func 31) #[] #[.pointer (some ⟨bE, 0, none⟩)]] w fun r w' => r = .returned (.int .i64 (ixP e ps)) ∧ Below w.heap.size w w' := by
  unfold maxLen at hl
  have HC : Hid (∀ (W : World) (p : Pn), Below w.heap.size w W → Calls Tryz.prog 31 #[vPn p, .pointer (some ⟨bE, 0, none⟩)] W fun r w' => r = .returned (.bool (agB e p)) ∧ Below W.heap.size W w') :=
    fun W p hW => pclo_any e p bE W (hE.below hW hE.lt)
  clear hE
  go_enter Tryz.func67, Tryz.ntmps67
  go_wp2_with fail
  go_loopw [8] (fun i wr => ∃ k : Nat, k ≤ ps.length ∧ Hid ((ps.take k).any (agB e) = false) ∧ i = .int .i64 k ∧ Below w.heap.size w wr) (fun i _ => ps.length - (intOf i).toNat)
  case atStart => exact ⟨0, by omega, (by show (ps.take 0).any _ = _; simp), rfl, Below.refl _ _⟩
  case round =>
    obtain ⟨k, hk, HS, rfl, hbr⟩ := hrel
    by_cases hlt : k < ps.length
    · obtain ⟨b, off, p, rfl, hbb, hee, d0, d1, d2⟩ := (hx.below keeps_pn hbr).pn hlt
      have HL := Lib.hid hee
      have HC2 := Lib.hid (HC.out wr p hbr)
      obtain ⟨v, hv⟩ : ∃ v, agB e p = v := ⟨_, rfl⟩
      rw [hv] at HC2
      have HV := Lib.hid hv
      have HBr := Lib.hid hbr
      clear hee hv hbr
      cases v with
      | true =>
        have HR : Hid (ixP e ps = (k : Int)) := ixP_at HS.out HL.out HV.out
        go_wp2_with (go_at_call 31; go_loud (refine HC2.out.mono ?_; rintro e' w3 ⟨rfl, hb3⟩))
        go_ret
        exact ⟨by rw [HR.out]; rfl, bthen HBr.out hb3⟩
      | false =>
        have HES : Hid ((ps.take (k + 1)).any (agB e) = false) := by
          show _ = _
          rw [take_snoc_of HL.out, List.any_append, HS.out]
          simp [HV.out]
        go_wp2_with (go_at_call 31; go_loud (refine HC2.out.mono ?_; rintro e' w3 ⟨rfl, hb3⟩))
        go_roundw
        case rel => exact ⟨k + 1, by omega, HES.out, by go_num, bthen HBr.out hb3⟩
        case measure => simp [intOf]; omega
    · have HR : Hid (ixP e ps = -1) := by
        show _ = _
        have := HS.out
        rw [List.take_of_length_le (by omega)] at this
        exact ixP_neg this
      go_wp2_with fail
      go_ret
      exact ⟨by rw [HR.out]; rfl, hbr⟩
set_option maxRecDepth 100000 in
set_option maxHeartbeats 4000000 in
theorem containsP_any (A : Option Addr) (ps : List Pn) (c bE : Nat) (e : Ed) (w : World) (hx : SlR 3 RPn w A ps) (hl : ps.length ≤ maxLen) (hE : Blk w bE 44 #[.int .i64 e.fr, .int .i64 e.to, .int .i64 e.wd, .int .i64 e.co]) :
    Calls Tryz.prog 30 #[.slice A ps.length c, .func (.func 31) #[] #[.pointer (some ⟨bE, 0, none⟩)]] w fun r w' => r = .returned (.bool (ps.any (agB e))) ∧ Below w.heap.size w w' := by
  have HC := Lib.hid (indexP_any A ps c bE e w hx hl hE)
  have hi := ixP_iff (e := e) (ps := ps)
  obtain ⟨v, hv⟩ : ∃ v, ps.any (agB e) = v := ⟨_, rfl⟩
  rw [hv] at hi ⊢
  generalize ixP e ps = q at *
  clear hx hE hv
  by_cases hq : 0 ≤ q
  · have hv : v = true := hi.1 hq
    subst hv
    clear hi
    have z1 : decide (0 ≤ q) = true := decide_eq_true hq
    go_enter Tryz.func30, Tryz.ntmps30
    go_wp2_with (go_at_call 67; go_loud (refine HC.out.mono ?_; rintro e' w3 ⟨rfl, hb3⟩))
    go_ret
    exact ⟨by first | rfl | simp [z1], hb3⟩
  · have hv : v = false := by cases v with | false => rfl | true => exact absurd (hi.2 rfl) hq
    subst hv
    clear hi
    have z1 : decide (0 ≤ q) = false := decide_eq_false hq
    go_enter Tryz.func30, Tryz.ntmps30
    go_wp2_with (go_at_call 67; go_loud (refine HC.out.mono ?_; rintro e' w3 ⟨rfl, hb3⟩))
    go_ret
    exact ⟨by first | rfl | simp [z1], hb3⟩
end Go.Proofs.YtfjkmgjjifhdkaaGreat

/-
  The walk of package pin: the lattice without the edges that are against a pin.
-/
namespace Go.Proofs.YtfjkmgjjifhdkaaGreat
open Go Go.RowKit

theorem edge_inf : (Tryz.prog.info? 44).map (fun i => (i.zero, i.size, i.bytes)) = some (some (.agg #[.int .i64 0, .int .i64 0, .int .i64 0, .int .i64 0]), 4, 32) := by kernel_rfl
/-- A lattice that a call gives back. -/
def GivesLat (x : La) (w : World) (r : Ending) (w' : World) : Prop := ∃ (B : Option Addr) (c : Nat), r = .returned (.agg #[.int .i64 x.n, .slice B x.es.length c]) ∧ SlR 4 REd w' B x.es ∧ (x.es.length ≤ c ∧ c ≤ maxLen) ∧ Below w.heap.size w w'
theorem tp_snocE (L : List Ed) (p : Ed) : (L ++ [p]).flatMap encEd = L.flatMap encEd ++ [.int .i64 p.fr, .int .i64 p.to, .int .i64 p.wd, .int .i64 p.co] := by simp [encEd]
theorem filt_snoc {ps : List Pn} {l : List Ed} {k : Nat} {e : Ed} (h : l[k]? = some e) : (l.take (k + 1)).filter (freeB ps) = if freeB ps e = true then (l.take k).filter (freeB ps) ++ [e] else (l.take k).filter (freeB ps) := by
  rw [take_snoc_of h, List.filter_append]
  by_cases hf : freeB ps e = true
  · rw [if_pos hf]; simp [hf]
  · rw [if_neg hf]; simp [hf]
set_option maxRecDepth 100000 in
set_option maxHeartbeats 8000000 in
theorem restrict_any (x : La) (A : Option Addr) (c : Nat) (ps : List Pn) (B : Option Addr) (d : Nat) (w : World) (hx : SlR 4 REd w A x.es) (hl : x.es.length ≤ 1000) (hp : SlR 3 RPn w B ps) (hpl : ps.length ≤ maxLen) :
    Calls Tryz.prog 9 #[.agg #[.int .i64 x.n, .slice A x.es.length c], .slice B ps.length d] w (GivesLat (pinL x ps) w) := by
  obtain ⟨i0, hi, hz0, hz1, hz2⟩ := info_parts edge_inf
  obtain ⟨w3, hw3⟩ : ∃ w3, ((w.alloc (.cells #[.int .i64 x.n, .slice A x.es.length c] 27)).alloc (.cells #[.int .i64 0, .slice none 0 0] 27)).alloc (.cells #[.int .i64 x.n, .slice none 0 0] 27) = w3 := ⟨_, rfl⟩
  have hb3 : Below w.heap.size w w3 := by rw [← hw3]; exact nw _ (nw _ (nw _ (Below.refl _ _)))
  have hB0 : Blk w3 w.heap.size 27 #[.int .i64 x.n, .slice A x.es.length c] := by rw [← hw3]; exact ((Blk.new _ _ _).alloc _).alloc _
  have hB1 : Blk w3 (w.heap.size + 1) 27 #[.int .i64 0, .slice none 0 0] := by rw [← hw3]; exact (Blk.new_ (by simp)).alloc _
  have hB2 : Blk w3 (w.heap.size + 1 + 1) 27 #[.int .i64 x.n, .slice none 0 0] := by rw [← hw3]; exact Blk.new_ (by simp)
  have hsz : w3.heap.size = w.heap.size + 1 + 1 + 1 := by rw [← hw3]; simp
  have HW3 := Lib.hid hw3
  obtain ⟨b1, hb1e⟩ : ∃ b, w.heap.size + 1 = b := ⟨_, rfl⟩
  rw [hb1e] at hB1 hB2 hsz
  obtain ⟨b2, hb2e⟩ : ∃ b, b1 + 1 = b := ⟨_, rfl⟩
  rw [hb2e] at hB2 hsz
  have HE1 := Lib.hid hb1e
  have HE2 := Lib.hid hb2e
  have hlt1 : w.heap.size < b1 := by omega
  have hlt2 : b1 < b2 := by omega
  have hle3 : b2 + 1 ≤ w3.heap.size := by omega
  have hn02 : w.heap.size ≠ b2 := by omega
  have hn12 : b1 ≠ b2 := by omega
  clear hw3 hb1e hb2e hsz
  have HX : Hid (∀ W, Below b2 w3 W → SlR 4 REd W A x.es) := fun W hW => hx.below keeps_ed (hb3.trans (hW.mono (by omega)))
  have HP : Hid (∀ W, Below b2 w3 W → SlR 3 RPn W B ps) := fun W hW => hp.below keeps_pn (hb3.trans (hW.mono (by omega)))
  have HAb : Hid (∀ b off, A = some ⟨b, off, none⟩ → x.es ≠ [] → b < w.heap.size) := fun b off hA hne => by
    obtain ⟨b', off', hA', hb', _⟩ := hx hne
    rw [hA] at hA'
    obtain ⟨rfl, _⟩ : b = b' ∧ off = off' := by simpa using hA'
    exact hb'
  have q0 := hB0.cell 0
  have q1 := hB0.cell 1
  have ql := hB0.lt
  simp at q0 q1
  have HB0 := Lib.hid hB0
  have HB1 := Lib.hid hB1
  have HBW := Lib.hid hb3
  clear hB0 hB1 hb3 hx hp
  go_enter Tryz.func9, Tryz.ntmps9
  go_upto_region 2 with fail
  rw [HW3.out, HE1.out, HE2.out]
  go_wp2_with fail
  go_loopw [14] (fun i wr => ∃ (k : Nat) (v : Value) (O : List Ed), k ≤ x.es.length ∧ Hid (O = (x.es.take k).filter (freeB ps)) ∧ O.length ≤ k ∧ i = .int .i64 k ∧ wr.ownsRow (b2 + 1) 44 4 v O.length (O.flatMap encEd) ∧ Blk wr b2 27 #[.int .i64 x.n, v] ∧ Below b2 w3 wr) (fun i _ => x.es.length - (intOf i).toNat)
  case atStart => exact ⟨0, .slice none 0 0, [], by omega, (by show [] = (x.es.take 0).filter _; simp), by simp, rfl, own_nil _ _ _ _, hB2, Below.refl _ _⟩
  case round =>
    obtain ⟨k, v, O, hk, HS, hol, rfl, hown, hB, hbr⟩ := hrel
    have hsr := hbr.size
    by_cases hlt : k < x.es.length
    · obtain ⟨b, off, e, hA, hbb, hee, d0, d1, d2, d3⟩ := (HX.out _ hbr).ed hlt
      have hbw := HAb.out b off hA (by intro h; rw [h] at hlt; simp at hlt)
      subst hA
      have HFS := Lib.hid (filt_snoc (ps := ps) hee)
      have hvne : v.ownBlock ≠ some b2 := fun e => by have := own_block_le hown _ e; omega
      clear hee
      go_upto_region 5 with fail
      obtain ⟨W4, hW4⟩ : ∃ V, wr.alloc (.cells #[.int .i64 e.fr, .int .i64 e.to, .int .i64 e.wd, .int .i64 e.co] 44) = V := ⟨_, rfl⟩
      have hb4 : Below wr.heap.size wr W4 := by rw [← hW4]; exact nw _ (Below.refl _ _)
      have hE4 : Blk W4 wr.heap.size 44 #[.int .i64 e.fr, .int .i64 e.to, .int .i64 e.wd, .int .i64 e.co] := by rw [← hW4]; exact Blk.new _ _ _
      have hbr4 := hbr.trans (hb4.mono (by omega))
      have hB4 := hB.below hb4 hB.lt
      have hown4 := own_below hown hb4
      have HC := Lib.hid (containsP_any B ps d wr.heap.size e W4 (HP.out _ hbr4) hpl hE4)
      have hs4 := hb4.size
      rw [hW4]
      obtain ⟨bE, hbE⟩ : ∃ b, wr.heap.size = b := ⟨_, rfl⟩
      rw [hbE] at hE4 HC hsr hs4 ⊢
      obtain ⟨u, hu⟩ : ∃ u, ps.any (agB e) = u := ⟨_, rfl⟩
      have hfr : freeB ps e = !u := by rw [← hu]; rfl
      rw [hu] at HC
      rw [hfr] at HFS
      clear hW4 hbE hu hfr hb4 hbr hB hown d0 d1 d2 d3 hbb
      have hEl := hE4.lt
      cases u with
      | true =>
        have HN : Hid ((x.es.take (k + 1)).filter (freeB ps) = O) := by show _ = _; rw [HFS.out, HS.out]; rfl
        have HO4 := Lib.hid hown4
        have HB4 := Lib.hid hB4
        have HR4 := Lib.hid hbr4
        clear hown4 hB4 hbr4 hE4
        go_wp2_with (go_at_call 30; go_loud (refine HC.out.mono ?_; rintro r w5 ⟨rfl, hb5⟩))
        go_roundw
        case rel => exact ⟨k + 1, v, O, by omega, HN.out.symm, by omega, by go_num, own_below HO4.out hb5, HB4.out.below hb5 HB4.out.lt, HR4.out.trans (hb5.mono (by omega))⟩
        case measure => simp [intOf]; omega
      | false =>
        have HN : Hid ((x.es.take (k + 1)).filter (freeB ps) = O ++ [e]) := by show _ = _; rw [HFS.out, HS.out]; rfl
        have hn1 : O.length ≤ 1000000 := by omega
        have HO4 := Lib.hid hown4
        have HB4 := Lib.hid hB4
        have HR4 := Lib.hid hbr4
        have HE4 := Lib.hid hE4
        clear hown4 hB4 hbr4 hE4
        go_upto_region 6 with (go_at_call 30; go_loud (refine HC.out.mono ?_; rintro r w5 ⟨rfl, hb5⟩))
        have hB5 := HB4.out.below hb5 HB4.out.lt
        have hE5 := HE4.out.below hb5 HE4.out.lt
        have HO5 := Lib.hid (own_below HO4.out hb5)
        have HR5 := Lib.hid (HR4.out.trans (hb5.mono (by omega)))
        have hs5 := hb5.size
        have s1 := hB5.cell 1
        have sl := hB5.lt
        have e0 := hE5.cell 0
        have e1 := hE5.cell 1
        have e2 := hE5.cell 2
        have e3 := hE5.cell 3
        have el := hE5.lt
        simp at s1 e0 e1 e2 e3
        have HB5 := Lib.hid hB5
        clear hB5 hE5 hb5
        go_wp2_with (first | (at_builtin; refine wpList_app1 rfl _ _ 25 rfl (b2 + 1) 44 i0 _ 4 32 Tryz.underlying25 hi hz0 hz1 hz2 rfl (by decide) v _ _ rfl w5 [.int .i64 e.fr, .int .i64 e.to, .int .i64 e.wd, .int .i64 e.co] rfl HO5.out _ rfl (by simp) rfl (by simp [Value.oneCell']) hn1 (by decide) (by omega) ?_; intro v6 w6 hown6 hb6 ha6; obtain ⟨A6, c6, rfl, hc6, hcm6, _⟩ := own_slr (R := REd) (xs := O ++ [e]) (enc := encEd) (by rw [tp_snocE]; exact hown6) (fun _ => rfl) (fun _ => rfl) (by simp); have hB6 := HB5.out.apps ha6 hvne; have t1 := hB6.frozen 1; have u1 := hB6.cell 1; have tl := hB6.lt; have HB6 := Lib.hid hB6; have HO6 := Lib.hid hown6; have HR6 := Lib.hid (HR5.out.trans (hb6.mono (by omega))); simp at u1; clear hB6 hown6 ha6 hb6))
        go_roundw
        case rel => exact ⟨k + 1, .slice A6 (O.length + 1) c6, O ++ [e], by omega, HN.out.symm, by simp; omega, by go_num, by rw [List.length_append, tp_snocE]; exact own_set HO6.out (fun e => by have := own_block_le HO6.out _ e; simp at this; omega) _, (by have := HB6.out.set_ 1 (.slice A6 (O.length + 1) c6); simpa using this), HR6.out.setCell (by show _ ≤ b2; omega) _⟩
        case measure => simp [intOf]; omega
    · obtain rfl : k = x.es.length := by omega
      have hF : O = (pinL x ps).es := by
        have := HS.out
        rw [List.take_length] at this
        exact this
      subst hF
      have hbase1 : ∀ q, v.ownBlock = some q → b1 < q := fun q e => by have := own_block_le hown _ e; omega
      obtain ⟨A3, cap, rfl, hcap, hcm, hslr⟩ := own_slr (R := REd) (enc := encEd) hown (fun _ => rfl) (fun _ => rfl) rfl
      have hB1 := HB1.out.below hbr hlt2
      have s0 := hB.cell 0
      have s1 := hB.cell 1
      have sl := hB.lt
      have r0 := hB1.cell 0
      have r1 := hB1.cell 1
      have f0 := hB1.frozen 0
      have f1 := hB1.frozen 1
      have rl := hB1.lt
      simp at s0 s1 r0 r1
      have HBr := Lib.hid hbr
      have HB := Lib.hid hB
      have HB1 := Lib.hid hB1
      have HO := Lib.hid hown
      clear hbr hB hB1 hslr hown HS
      go_wp2_with fail
      refine ret_cell (t := 27) (cs := #[.int .i64 x.n, .slice A3 (pinL x ps).es.length cap]) (by have := (HB1.out.set_ 0 (.int .i64 x.n)).set_ 1 (.slice A3 (pinL x ps).es.length cap); simpa using this) rfl rfl Tryz.underlying27 rfl (by kernel_rfl) rfl ?_
      refine ⟨A3, cap, rfl, ?_, ⟨hcap, hcm⟩, (HBW.out.trans (HBr.out.mono (by omega))).setCell (p := ⟨b1, 0, none⟩) (by show _ ≤ b1; omega) _ |>.setCell (p := ⟨b1, 1, none⟩) (by show _ ≤ b1; omega) _⟩
      obtain ⟨A4, cap4, hv, _, _, hs⟩ := own_slr (R := REd) (enc := encEd) (own_set (own_set HO.out (a := ⟨b1, 0, none⟩) (fun e => by have := hbase1 _ e; simp at this) (.int .i64 x.n)) (a := ⟨b1, 1, none⟩) (fun e => by have := hbase1 _ e; simp at this) (.slice A3 (pinL x ps).es.length cap)) (fun _ => rfl) (fun _ => rfl) rfl
      injection hv with e1 e2 e3
      subst e1
      exact hs
end Go.Proofs.YtfjkmgjjifhdkaaGreat

/-
  The walk of package lattice: the graph of a lattice.
-/
namespace Go.Proofs.YtfjkmgjjifhdkaaGreat
open Go Go.RowKit

end Go.Proofs.YtfjkmgjjifhdkaaGreat

/-
  The walks of layer 20: the nodes of a lattice's graph for the reference, and its search among them.
-/
namespace Go.Proofs.YtfjkmgjjifhdkaaGreat
open Go Go.RowKit

end Go.Proofs.YtfjkmgjjifhdkaaGreat

/-
  The walks of layer 20: Build of the reference.
-/
namespace Go.Proofs.YtfjkmgjjifhdkaaGreat
open Go Go.RowKit

end Go.Proofs.YtfjkmgjjifhdkaaGreat

/-
  The walks of layer 20: graphs that are built for the laws, and compared.
-/
namespace Go.Proofs.YtfjkmgjjifhdkaaGreat
open Go Go.RowKit

end Go.Proofs.YtfjkmgjjifhdkaaGreat

/-
  Layer 20: boxes of lattices and of what Build answers; rows that calls gave back. No conditions.
-/
namespace Go.Proofs.YtfjkmgjjifhdkaaGreat
open Go Go.RowKit

/-- A box with a lattice. -/
structure LB (x : La) (g : Nat) (A : Option Addr) (c : Nat) (W : World) : Prop where
  b : Blk W g 27 #[.int .i64 x.n, .slice A x.es.length c]
  s : SlR 4 REd W A x.es
  k : x.es.length ≤ c ∧ c ≤ maxLen
theorem LB.below {x : La} {g : Nat} {A : Option Addr} {c : Nat} {W W' : World} (h : LB x g A c W) (hb : Below W.heap.size W W') : LB x g A c W' := ⟨h.b.below hb h.b.lt, h.s.below keeps_ed hb, h.k⟩
theorem lb_new {x : La} {A : Option Addr} {c : Nat} {w : World} (h : SlR 4 REd w A x.es) (hk : x.es.length ≤ c ∧ c ≤ maxLen) : LB x w.heap.size A c (w.alloc (.cells #[.int .i64 x.n, .slice A x.es.length c] 27)) :=
  ⟨Blk.new _ _ _, h.below keeps_ed (nw _ (Below.refl _ _)), hk⟩
end Go.Proofs.YtfjkmgjjifhdkaaGreat

/-
  The plain law of layer 20: the ways through a lattice's graph are the ways through the lattice, with their costs. No program in sight; no conditions.
-/
namespace Go.Proofs.YtfjkmgjjifhdkaaGreat
open List

theorem grL_ok {x : La} {m : Mo} {prev : Int} (hm : MoOK m) (hf : FitsL x m.ws.length) (hco : ∀ e ∈ x.es, e.co ≤ 1000) (hl : x.es.length ≤ 100) : GrOK (grL x m prev) := by
  have h1 := nodesL_len x prev
  refine ⟨?_, ?_, fun l h => ?_⟩
  · show 1 ≤ ((nodesL x prev).length : Int) ∧ ((nodesL x prev).length : Int) ≤ 2000; omega
  · show (lksTo x m prev (nodesL x prev).length).length ≤ 20000
    have h2 := lksTo_len x m prev (nodesL x prev).length
    have h3 : (nodesL x prev).length * x.es.length ≤ 102 * 100 := Nat.mul_le_mul (by omega) hl
    omega
  · obtain ⟨i, k, p, e, h2, h3, h4, rfl⟩ := lksL_mem.1 h
    exact (cx_mkLk_ok hm hf hco h2 h3 h4).1
theorem lksTo_fr {x : La} {m : Mo} {prev : Int} {v : Nat} {p : Int × Int} (hv : (nodesL x prev)[v]? = some p) : ∀ j, j ≤ (nodesL x prev).length → (lksTo x m prev j).filter (fun l => decide (l.fr = (v : Int))) = if v < j then (frE x p.1).map (cx_mkLk x m prev v p.2) else []
  | 0, _ => by simp [lksTo]
  | j + 1, hj => by
    have hl : (nodesL x prev)[j]? = some (nodesL x prev)[j] := List.getElem?_eq_getElem (by omega)
    rw [lksTo_succ hl, filter_append, lksTo_fr hv j (by omega)]
    have hfr : ∀ l ∈ (frE x (nodesL x prev)[j].1).map (cx_mkLk x m prev j (nodesL x prev)[j].2), l.fr = (j : Int) := fun l h => by
      obtain ⟨k, hk, rfl⟩ := mem_map.1 h
      obtain ⟨e, he, _⟩ := frE_mem.1 hk
      rw [cx_mkLk_at he]
    by_cases h1 : v < j
    · rw [if_pos h1, if_pos (by omega), filter_eq_nil_iff.2 (fun l h => by rw [hfr l h]; simp; omega), append_nil]
    · by_cases h2 : v = j
      · subst h2
        rw [hv] at hl
        obtain rfl := Option.some.inj hl
        rw [if_neg h1, if_pos (by omega), nil_append, filter_eq_self.2 (fun l h => by rw [hfr l h]; simp)]
      · rw [if_neg h1, if_neg (by omega), nil_append, filter_eq_nil_iff.2 (fun l h => by rw [hfr l h]; simp; omega)]
theorem lvTo_map (ls : List Lk) (v : Int) : ∀ k, k ≤ ls.length → (lvTo ls v k).map (fun i : Int => ls.getD i.toNat default) = (ls.take k).filter (fun l => decide (l.fr = v))
  | 0, _ => by simp [lvTo]
  | k + 1, hk => by
    have hl : ls[k]? = some ls[k] := List.getElem?_eq_getElem (by omega)
    rw [lvTo_succ hl, take_snoc_of hl, filter_append, ← lvTo_map ls v k (by omega)]
    have hd : ls[k]?.getD default = ls[k] := by rw [hl]; rfl
    split
    · rename_i h
      rw [map_append]
      simp [h]
      exact hd
    · rename_i h
      simp [h]
theorem lvs_map (g : Gr) (v : Int) : (lvs g v).map (lkAt g) = g.ls.filter (fun l => decide (l.fr = v)) := by
  have := lvTo_map g.ls v g.ls.length (Nat.le_refl _)
  rw [take_length] at this
  exact this
theorem lvs_node {x : La} {m : Mo} {prev : Int} {v : Nat} {p : Int × Int} (hv : (nodesL x prev)[v]? = some p) : (lvs (grL x m prev) (v : Int)).map (lkAt (grL x m prev)) = (frE x p.1).map (cx_mkLk x m prev v p.2) := by
  rw [lvs_map]
  show (lksTo x m prev (nodesL x prev).length).filter _ = _
  rw [lksTo_fr hv _ (Nat.le_refl _), if_pos (List.getElem?_eq_some_iff.1 hv).1]
/-- The links are in order. -/
theorem lksTo_sorted {x : La} {m : Mo} {prev : Int} : ∀ j, j ≤ (nodesL x prev).length → (lksTo x m prev j).Pairwise (fun a b => a.fr < b.fr ∨ a.fr = b.fr ∧ a.lb < b.lb)
  | 0, _ => Pairwise.nil
  | j + 1, hj => by
    have hl : (nodesL x prev)[j]? = some (nodesL x prev)[j] := List.getElem?_eq_getElem (by omega)
    rw [lksTo_succ hl]
    refine pairwise_append.2 ⟨lksTo_sorted j (by omega), ?_, fun a ha b hb => .inl ?_⟩
    · rw [pairwise_map]
      refine (frTo_inc (v := (nodesL x prev)[j].1) x.es.length (Nat.le_refl _)).imp_of_mem fun {a b} ha hb hab => .inr ?_
      obtain ⟨e, he, _⟩ := frE_mem.1 ha
      obtain ⟨f, hf, _⟩ := frE_mem.1 hb
      rw [cx_mkLk_at he, cx_mkLk_at hf]
      exact ⟨rfl, by show (a : Int) < (b : Int); omega⟩
    · obtain ⟨i, k, p, e, h1, _, h3, _, rfl⟩ := (lksTo_mem j (by omega)).1 ha
      obtain ⟨k2, hk2, rfl⟩ := mem_map.1 hb
      obtain ⟨f, hf, _⟩ := frE_mem.1 hk2
      rw [cx_mkLk_at h3, cx_mkLk_at hf]
      show (i : Int) < (j : Int)
      omega
theorem lksL_sorted (x : La) (m : Mo) (prev : Int) : (lksL x m prev).Pairwise (fun a b => a.fr < b.fr ∨ a.fr = b.fr ∧ a.lb < b.lb) := lksTo_sorted _ (Nat.le_refl _)
/-- The edges of the links of a way. -/
def labL (g : Gr) (w : List Int) : List Int := w.map fun i => (lkAt g i).lb
theorem lks_one {x : La} {m : Mo} {prev a b : Int} (ha : 0 ≤ a ∧ a < (grL x m prev).ls.length) (hb : 0 ≤ b ∧ b < (grL x m prev).ls.length) (h1 : (lkAt (grL x m prev) a).fr = (lkAt (grL x m prev) b).fr) (h2 : (lkAt (grL x m prev) a).lb = (lkAt (grL x m prev) b).lb) : a = b := by
  have h3 := lkAt_mem ha
  have h4 := lkAt_mem hb
  obtain ⟨l1, e1⟩ := List.getElem?_eq_some_iff.1 h3
  obtain ⟨l2, e2⟩ := List.getElem?_eq_some_iff.1 h4
  have hs := pairwise_iff_getElem.1 (lksL_sorted x m prev)
  rcases Nat.lt_trichotomy a.toNat b.toNat with h | h | h
  · have := hs _ _ l1 l2 h
    have e3 : (lksL x m prev)[a.toNat] = lkAt (grL x m prev) a := e1
    have e4 : (lksL x m prev)[b.toNat] = lkAt (grL x m prev) b := e2
    rw [e3, e4] at this
    omega
  · omega
  · have := hs _ _ l2 l1 h
    have e3 : (lksL x m prev)[a.toNat] = lkAt (grL x m prev) a := e1
    have e4 : (lksL x m prev)[b.toNat] = lkAt (grL x m prev) b := e2
    rw [e3, e4] at this
    omega
/-- What a link at a node is. -/
theorem lk_node {x : La} {m : Mo} {prev : Int} {v : Nat} {p : Int × Int} (hv : (nodesL x prev)[v]? = some p) {i : Int} (hi : i ∈ lvs (grL x m prev) (v : Int)) : ∃ (k : Nat) (e : Ed), x.es[k]? = some e ∧ e.fr = p.1 ∧ lkAt (grL x m prev) i = ⟨v, ixL (nodesL x prev) (arrL x.n e), k, e.co + pcost m p.2 e.wd.toNat⟩ := by
  have h1 : lkAt (grL x m prev) i ∈ (lvs (grL x m prev) (v : Int)).map (lkAt (grL x m prev)) := mem_map.2 ⟨i, hi, rfl⟩
  rw [lvs_node hv] at h1
  obtain ⟨k, hk, h2⟩ := mem_map.1 h1
  obtain ⟨e, he, hf⟩ := frE_mem.1 hk
  exact ⟨k, e, he, hf, by rw [← h2, cx_mkLk_at he]⟩
theorem node_place {x : La} (hf : LaOK x) {prev : Int} {v : Nat} {p : Int × Int} (hv : (nodesL x prev)[v]? = some p) : p.1 = x.n ↔ (v : Int) = ((nodesL x prev).length : Int) - 1 := by
  obtain ⟨hlt, _⟩ := List.getElem?_eq_some_iff.1 hv
  by_cases hn : x.n = 0
  · have e : nodesL x prev = [(0, prev)] := by unfold nodesL tailL; rw [if_pos hn]
    rw [e] at hv hlt ⊢
    simp at hlt
    subst hlt
    simp at hv
    subst hv
    simp [hn]
  · have h0 := hf.1.1
    have hl := node_last hf prev (by omega)
    constructor
    · intro hp
      rcases Nat.lt_or_ge v ((nodesL x prev).length - 1) with h1 | h1
      · have hpm : p ∈ nodesL x prev := mem_of_getElem? hv
        exfalso
        have h2 : p = (x.n, -1) := by
          unfold nodesL tailL at hpm
          rw [if_neg hn] at hpm
          rcases mem_cons.1 hpm with rfl | h3
          · exact absurd hp.symm hn
          · rw [sortU_mem, arr_mem hf] at h3
            rcases h3 with h3 | h3
            · exact h3
            · have := h3.1; omega
        rw [h2] at hv
        have := ix_at (nodesL_nodup hf prev) hv
        have := ix_at (nodesL_nodup hf prev) hl
        omega
      · omega
    · intro hp
      rw [show v = (nodesL x prev).length - 1 by omega, hl] at hv
      rw [← Option.some.inj hv]
theorem arr_node {x : La} (hf : LaOK x) (prev : Int) {e : Ed} (he : e ∈ x.es) : ∃ q, (nodesL x prev)[ixL (nodesL x prev) (arrL x.n e)]? = some q ∧ q.1 = e.to ∧ (q.1 ≠ x.n → q.2 = e.wd) := by
  refine ⟨_, ix_get (arr_in hf prev he), ?_, ?_⟩
  · unfold arrL; split
    · rename_i h; exact h.symm
    · rfl
  · unfold arrL; split
    · intro h; exact absurd rfl h
    · intro _; rfl
/-- A way through the graph is a way through the lattice, and costs as much. -/
theorem way_lab {x : La} {m : Mo} {prev : Int} (hg : GrOK (grL x m prev)) (hf : LaOK x) : ∀ (w : List Int) (v : Nat) (p : Int × Int), (nodesL x prev)[v]? = some p → wayB (grL x m prev) (v : Int) w = true →
    WayTo x p.1 (labL (grL x m prev) w) x.n ∧ sumC (grL x m prev) w = wsum x m p.2 (labL (grL x m prev) w)
  | [], v, p, hv, hw => by
    have h1 : (v : Int) = ((nodesL x prev).length : Int) - 1 := of_decide_eq_true hw
    exact ⟨(node_place hf hv).2 h1, rfl⟩
  | i :: w, v, p, hv, hw => by
    obtain ⟨h1, h2⟩ := way_cons.1 hw
    obtain ⟨k, e, he, hfr, hl⟩ := lk_node hv h1
    obtain ⟨q, hq, hq1, hq2⟩ := arr_node hf prev (mem_of_getElem? he)
    rw [hl] at h2
    obtain ⟨h3, h4⟩ := way_lab hg hf w _ q hq h2
    have he' : x.es[(k : Int).toNat]? = some e := by rw [Int.toNat_natCast]; exact he
    have hlab : labL (grL x m prev) (i :: w) = (k : Int) :: labL (grL x m prev) w := by
      show (lkAt (grL x m prev) i).lb :: _ = _
      rw [hl]
      rfl
    rw [hlab]
    refine ⟨⟨e, by omega, he', hfr, hq1 ▸ h3⟩, ?_⟩
    show (lkAt (grL x m prev) i).cost + sumC (grL x m prev) w = _
    rw [hl, wsum_cons he', h4]
    show e.co + pcost m p.2 e.wd.toNat + _ = _
    by_cases hqn : q.1 = x.n
    · have hlast := (node_place hf hq).1 hqn
      cases w with
      | nil => rfl
      | cons j w =>
        obtain ⟨h5, _⟩ := way_cons.1 h2
        obtain ⟨a, b, c⟩ := lvs_iff.1 h5
        have c' : (lkAt (grL x m prev) j).fr = (ixL (nodesL x prev) (arrL x.n e) : Int) := c
        have := lkAt_ok hg ⟨a, b⟩
        have h6 := this.lt
        have h7 := this.to
        have hgn : (grL x m prev).n = ((nodesL x prev).length : Int) := rfl
        rw [hgn] at h7
        omega
    · rw [hq2 hqn]
theorem lab_inj {x : La} {m : Mo} {prev : Int} : ∀ (w w' : List Int) (v : Int), wayB (grL x m prev) v w = true → wayB (grL x m prev) v w' = true → labL (grL x m prev) w = labL (grL x m prev) w' → w = w'
  | [], [], _, _, _, _ => rfl
  | [], _ :: _, _, _, _, h => by simp [labL] at h
  | _ :: _, [], _, _, _, h => by simp [labL] at h
  | i :: w, j :: w', v, h1, h2, h => by
    obtain ⟨a1, a2⟩ := way_cons.1 h1
    obtain ⟨b1, b2⟩ := way_cons.1 h2
    simp only [labL, map_cons, cons.injEq] at h
    obtain ⟨a3, a4, a5⟩ := lvs_iff.1 a1
    obtain ⟨b3, b4, b5⟩ := lvs_iff.1 b1
    obtain rfl := lks_one ⟨a3, a4⟩ ⟨b3, b4⟩ (a5.trans b5.symm) h.1
    rw [lab_inj w w' _ a2 b2 h.2]
theorem lab_ex {x : La} {m : Mo} {prev : Int} (hf : LaOK x) : ∀ (l : List Int) (v : Nat) (p : Int × Int), (nodesL x prev)[v]? = some p → WayTo x p.1 l x.n → ∃ w, wayB (grL x m prev) (v : Int) w = true ∧ labL (grL x m prev) w = l
  | [], v, p, hv, hw => ⟨[], decide_eq_true ((node_place hf hv).1 hw), rfl⟩
  | k :: l, v, p, hv, ⟨e, h0, h1, h2, h3⟩ => by
    obtain ⟨q, hq, hq1, _⟩ := arr_node hf prev (mem_of_getElem? h1)
    obtain ⟨w, hw, hl⟩ := lab_ex hf l _ q hq (hq1 ▸ h3)
    have hm : cx_mkLk x m prev v p.2 k.toNat ∈ (lvs (grL x m prev) (v : Int)).map (lkAt (grL x m prev)) := by
      rw [lvs_node hv]
      exact mem_map.2 ⟨_, frE_mem.2 ⟨e, h1, h2⟩, rfl⟩
    obtain ⟨i, hi, hli⟩ := mem_map.1 hm
    rw [cx_mkLk_at h1] at hli
    refine ⟨i :: w, way_cons.2 ⟨hi, by rw [hli]; exact hw⟩, ?_⟩
    show (lkAt (grL x m prev) i).lb :: labL (grL x m prev) w = _
    rw [hli, hl]
    show (k.toNat : Int) :: l = _
    rw [Int.toNat_of_nonneg h0]
theorem lab_len (g : Gr) (w : List Int) : (labL g w).length = w.length := length_map _
end Go.Proofs.YtfjkmgjjifhdkaaGreat

/-
  Layer 20: what the laws' build answers for lattices that fit. No conditions.
-/
namespace Go.Proofs.YtfjkmgjjifhdkaaGreat
open Go Go.RowKit

theorem buM_ok {x : La} {m : Mo} {prev : Int} (hm : MoOK m) (hf : FitsL x m.ws.length) (hp : -1 ≤ prev ∧ prev < (m.ws.length : Int)) : buM x m prev = ⟨grL x m prev, lastL x prev, 0⟩ := by
  unfold buM
  rw [if_pos hm, if_pos ⟨hp, hf⟩]
end Go.Proofs.YtfjkmgjjifhdkaaGreat
