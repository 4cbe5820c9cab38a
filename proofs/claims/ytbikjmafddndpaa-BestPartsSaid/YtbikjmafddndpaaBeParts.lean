/-
  The law BestParts: for all inputs it returns true.
-/
import Derived.Test.YtbikjmafddndpaaBePart
import Derived.Test.YtbikjmafddndpaaBeCost
import Derived.Test.YtbikjmafddndpaaGrWalkK
import Derived.Deep.DeepCutAuto
namespace Go.Proofs.Ytbikjmafddndpaa
open Go Go.RowKit

/-- A link of the graph behind t. -/
def moveL (t : Int) (l : Lk) : Lk := ⟨l.fr - t, l.to - t, l.lb, l.cost⟩
theorem move_turns (n t : Int) : Turns (moveL t) n t := ⟨fun _ => rfl, fun _ => rfl, fun _ h => h.lb, fun _ h => h.cost⟩
theorem move_keeps (t : Int) : Keeping (moveL t) := ⟨fun _ => rfl⟩
/-- What the law asks of the graph behind the node. -/
theorem parts_law {g : Gr} {t : Int} (hg : GrOK g) (h14 : g.ls.length ≤ 14) (h0 : 0 ≤ t) (h1 : t < g.n) {E : List Int} (hE : IsFirst g t E) :
    ∃ y2 : Can, (allR (restG (moveL t) g t)).take 1 = [y2] ∧ y2.links.length = E.length ∧ ∀ (i : Nat) (a : Int), y2.links[i]? = some a → 0 ≤ a ∧ a < ((numsTo t g.ls g.ls.length).length : Int) ∧ (numsTo t g.ls g.ls.length)[a.toNat]? = E[i]? := by
  have hF := move_turns g.n t
  have hR := rest_ok hg h0 h1 hF
  have hR14 : (restG (moveL t) g t).ls.length ≤ 14 := Nat.le_trans (restTo_len _ _ _ _) h14
  obtain ⟨w', hw', _⟩ := way_rest hg hF E t (Int.le_refl _) hE.fway
  rw [Int.sub_self] at hw'
  have hm := ((allR_is hR hR14).2 ⟨w', sumC _ w'⟩).2 ⟨hw', rfl⟩
  rcases first_one (restG (moveL t) g t) with h | ⟨y2, h⟩
  · cases hc : allR (restG (moveL t) g t) with
    | nil => rw [hc] at hm; cases hm
    | cons a r => rw [hc] at h; cases h
  · obtain ⟨hy, _⟩ := first_of hR hR14 h
    have he := rest_first hg hF (move_keeps t) hy hE
    obtain ⟨_, hr⟩ := rest_way hF y2.links 0 hy.fway
    refine ⟨y2, h, by rw [← he, List.length_map], fun i a ha => ?_⟩
    obtain ⟨a0, a1⟩ := hr a (List.mem_of_getElem? ha)
    refine ⟨a0, by rw [rest_len] at a1; exact a1, ?_⟩
    rw [← he, List.getElem?_map, ha, numAt_get (F := moveL t) a0 a1]
    rfl
set_option maxRecDepth 100000 in
set_option maxHeartbeats 16000000 in
theorem bestParts_any (A : Option Addr) (l : List T3) (c : Nat) (x pn : Int) (w : World) (hs : SlR 3 RT3 w A l) (hl : l.length ≤ maxLen) (hok : ∀ p ∈ l, T3OK p) (hx : 0 ≤ x ∧ x ≤ 255) (hpn : 0 ≤ pn ∧ pn ≤ 255) :
    Calls Try.prog 9 #[.agg #[.int .u8 x, .slice A l.length c], .int .u8 pn] w fun e w' => e = .returned (.bool true) ∧ Below w.heap.size w w' := by
  obtain ⟨w1, hw1⟩ : ∃ w1, (w.alloc (.cells #[.int .u8 x, .slice A l.length c] 24)) = w1 := ⟨_, rfl⟩
  have hb1 : Below w.heap.size w w1 := by rw [← hw1]; exact nw _ (Below.refl _ _)
  have hX0 : Blk w1 (w.heap.size) 24 #[.int .u8 x, .slice A l.length c] := by rw [← hw1]; exact Blk.new _ _ _
  have HW1 := Lib.hid hw1
  have HMD : Hid (∀ W, Below w.heap.size w W → Calls Try.prog 15 #[.agg #[.int .u8 x, .slice A l.length c]] W fun e w' => ∃ A' c', e = .returned (.agg #[.int .i64 (madeG x l).n, .slice A' (madeG x l).ls.length c']) ∧ (madeG x l).ls.length ≤ c' ∧ c' ≤ maxLen ∧ SlR 4 RLk w' A' (madeG x l).ls ∧ Below W.heap.size W w') :=
    fun W hW => made_any A l c x W (hs.below keeps_t3 hW) hl hx hok
  have hg : GrOK (madeG x l) := madeG_ok hok
  have h14 : (madeG x l).ls.length ≤ 14 := madeG_len x l
  have hn7 : 1 ≤ (madeG x l).n ∧ (madeG x l).n ≤ 7 := madeG_n x l
  generalize madeG x l = g at *
  obtain ⟨N, hN⟩ : ∃ N : Nat, g.n = (N : Int) := ⟨g.n.toNat, by omega⟩
  rw [hN] at HMD
  have HN := Lib.hid hN
  have HG := Lib.hid hg
  have hN1 : 1 ≤ N := by omega
  have hN7 : N ≤ 7 := by omega
  have hlt1 := hX0.lt
  clear hw1 hs hok hN hg hn7
  have hbx0 := hX0.cell 0
  have hbx1 := hX0.cell 1
  simp at hbx0 hbx1
  go_enter Try.func9, Try.ntmps9
  go_upto_region 1 with fail
  rw [HW1.out]
  go_upto_region 2 with (go_at_call 14; go_loud (refine (sanity15_any _).mono ?_; rintro e w2 ⟨rfl, hb2⟩))
  have hX0 := hX0.below hb2 hX0.lt
  have hbx0 := hX0.cell 0
  have hbx1 := hX0.cell 1
  simp at hbx0 hbx1
  have hbw2 := bthen hb1 hb2
  go_upto_region 3 with (go_at_call 15; go_loud (refine (HMD.out _ hbw2).mono ?_; rintro e w3 ⟨A3, c3, rfl, hc3, hcm3, hs3, hb3⟩))
  obtain ⟨W, hW⟩ : ∃ W, w3.alloc (.cells #[.int .i64 (N : Int), .slice A3 g.ls.length c3] 30) = W := ⟨_, rfl⟩
  have hb4 : Below w3.heap.size w3 W := by rw [← hW]; exact nw _ (Below.refl _ _)
  have hGB : Blk W w3.heap.size 30 #[.int .i64 (N : Int), .slice A3 g.ls.length c3] := by rw [← hW]; exact Blk.new _ _ _
  rw [hW]
  obtain ⟨bG, hbG⟩ : ∃ b, w3.heap.size = b := ⟨_, rfl⟩
  have hb34 := bthen hb3 hb4
  have hX0 := hX0.below hb34 hX0.lt
  have hbw := bthen hbw2 hb34
  have hls := hs3.below keeps_lk hb4
  have hwG : w.heap.size ≤ bG := by have := hbw2.size; have := hb3.size; omega
  rw [hbG] at hGB ⊢
  have hlm : g.ls.length ≤ maxLen := by unfold maxLen; omega
  clear hbx0 hbx1 hW hbG hb4 hb34 hbw2 hb2 hb3 hs3 hb1 HMD HW1

  obtain ⟨i0, hi, hz0, hz1, hz2⟩ := info_parts link_info
  obtain ⟨j0, hj1, hy0, hy1, hy2⟩ := info_parts bint_inf
  have HG4 : Hid (∀ W', Below W.heap.size W W' → W'.cell? ⟨bG, 0, none⟩ = some (.int .i64 (N : Int)) ∧ W'.cell? ⟨bG, 1, none⟩ = some (.slice A3 g.ls.length c3) ∧ bG < W'.heap.size) := fun W' hW' => by
    have h1 := hGB.below hW' hGB.lt
    have e0 := h1.cell 0
    have e1 := h1.cell 1
    simp at e0 e1
    exact ⟨e0, e1, h1.lt⟩
  have HLI : Hid (∀ W' L, (allR g).take 1 = L → Below W.heap.size W W' → Calls Try.prog 16 #[(.agg #[.int .i64 (N : Int), .slice A3 g.ls.length c3]), .int .i64 1] W' (IsL L W')) := fun W' L hL hW' => by
    have h := listR_any A3 c3 g 1 W' (hls.below keeps_lk hW') hlm HG.out h14 (by omega)
    rw [HN.out, hL] at h
    exact h
  have HLS : Hid (∀ W', Below W.heap.size W W' → SlR 4 RLk W' A3 g.ls) := fun W' hW' => hls.below keeps_lk hW'
  have HM14 : Hid (g.ls.length ≤ 14) := h14
  obtain ⟨g0, g1, gl⟩ := HG4.out _ (Below.refl _ _)
  have HBW := Lib.hid hbw
  clear hlm hbw hX0 hGB hls
  rcases first_one g with hL | ⟨y, hL⟩
  · go_upto_region 4 with (go_at_call 16; go_loud (refine (HLI.out _ _ hL (Below.refl _ _)).mono ?_; rintro e W2 ⟨Aa, ca, rfl, hsa, hla, hma, hb2⟩))
    clear hL hsa
    go_wp2_with fail
    go_ret
    exact ⟨rfl, bthen HBW.out hb2⟩
  obtain ⟨HF, HYC⟩ := first_of HG.out h14 hL
  have HF := Lib.hid HF
  have hbd := way_bd HG.out HF.out.fway
  rw [HN.out] at hbd
  have hyl10 : y.links.length ≤ 6 := by omega
  go_upto_region 4 with (go_at_call 16; go_loud (refine (HLI.out _ _ hL (Below.refl _ _)).mono ?_; rintro e W2 ⟨Aa, ca, rfl, hsa, hla, hma, hb2⟩))
  obtain ⟨ba, oa, z, A1, d1, rfl, hba, hzz, y0, y1, hys, hyl, hym⟩ := hsa.can (k := 0) (by simp)
  obtain rfl : y = z := by simpa using hzz
  rw [Nat.zero_mul, Nat.add_zero] at y0 y1
  have HB2 := Lib.hid hb2
  obtain ⟨g0, g1, gl⟩ := HG4.out _ hb2
  have hyl10I : (y.links.length : Int) ≤ 6 := by omega
  have hz10 : decide (10 < y.links.length) = false := decide_eq_false (by omega)
  clear hL hsa hzz hb2 HYC y1 hbd hla
  by_cases hyz : y.links.length = 0
  · have hyzI : ((y.links.length : Int) == 0) = true := by simp [hyz]
    go_wp2_with fail
    go_ret
    exact ⟨rfl, bthen HBW.out HB2.out⟩
  have hyzI : ((y.links.length : Int) == 0) = false := by simp; exact fun e => hyz (by rw [e]; rfl)
  have hyzn : ¬ y.links = [] := fun e => hyz (by rw [e]; rfl)
  obtain ⟨k, hk⟩ : ∃ k : Nat, pn % (y.links.length : Int) = (k : Int) := ⟨(pn % (y.links.length : Int)).toNat, by have := Int.emod_nonneg pn (show (y.links.length : Int) ≠ 0 by omega); omega⟩
  have hkl : k < y.links.length := by have := Int.emod_lt_of_pos pn (show (0 : Int) < (y.links.length : Int) by omega); omega
  have htp : pn.tmod (y.links.length : Int) = (k : Int) := by rw [Int.tmod_eq_emod_of_nonneg hpn.1]; exact hk
  have hwk : IntKind.i64.wrap (k : Int) = (k : Int) := IntWalk.i64_in _ (by omega)
  have hwn : IntKind.i64.wrap pn = pn := IntWalk.i64_in _ (by omega)
  have hgl0 : ¬ (y.links.length : Int) = 0 := by omega
  have hkI : (k : Int) ≤ (y.links.length : Int) := by omega
  have hkd : (k : Int) ≤ (d1 : Int) := by omega
  have hkd2 : k ≤ d1 := by omega
  have hkle : k ≤ y.links.length := by omega
  obtain ⟨by_, oy, rfl⟩ : ∃ b o, A1 = some ⟨b, o, none⟩ := by obtain ⟨b, o, h, _⟩ := hys hyzn; exact ⟨b, o, h⟩
  have HYS := Lib.hid hys
  clear hk hyz hys
  go_upto_region 10 with fail
  obtain ⟨en, hen⟩ : ∃ n, y.links.length - k = n := ⟨_, rfl⟩
  obtain ⟨ec, hec⟩ : ∃ n, d1 - k = n := ⟨_, rfl⟩
  rw [hen, hec]
  obtain ⟨E, hE⟩ : ∃ E, y.links.drop k = E := ⟨_, rfl⟩
  have hEl : E.length = en := by rw [← hE, List.length_drop, hen]
  have hes := slr_drop HYS.out k
  rw [hE] at hes
  have HFE : Hid (IsFirst g (endP g 0 (y.links.take k)) E) := first_end (by rw [← hE, List.take_append_drop]; exact HF.out)
  have hen0 : 0 < en := by omega
  have hen6 : en ≤ 6 := by omega
  obtain ⟨x0, hx0⟩ : ∃ x0, E[0]? = some x0 := ⟨_, List.getElem?_eq_getElem (by omega)⟩
  have hxl : 0 ≤ x0 ∧ x0 < g.ls.length ∧ (lkAt g x0).fr = endP g 0 (y.links.take k) := by
    have h := HFE.out.fway
    cases hEE : E with
    | nil => rw [hEE] at hx0; simp at hx0
    | cons a r =>
      rw [hEE] at hx0 h
      obtain rfl : a = x0 := by simpa using hx0
      rw [wayB_cons, Bool.and_eq_true, decide_eq_true_iff] at h
      exact h.1
  have hxok := lkAt_ok HG.out ⟨hxl.1, hxl.2.1⟩
  obtain ⟨tt, htt⟩ : ∃ tt : Nat, (lkAt g x0).fr = (tt : Int) := ⟨(lkAt g x0).fr.toNat, by have := hxok.fr; omega⟩
  have HFE : Hid (IsFirst g (tt : Int) E) := by rw [← htt, hxl.2.2]; exact HFE.out
  have htN : tt < N := by have h1 := hxok.lt; have h2 := hxok.to; rw [HN.out] at h2; omega
  obtain ⟨xn, hxn⟩ : ∃ xn : Nat, x0 = (xn : Int) := ⟨x0.toNat, by omega⟩
  subst hxn
  obtain ⟨bx, ox, z, hbxe, hbx, hzz, hc0⟩ := hes.int (k := 0) (by omega)
  obtain ⟨rfl, rfl⟩ : by_ = bx ∧ oy + k = ox := by simpa using hbxe
  rw [hx0] at hzz
  obtain rfl := Option.some.inj hzz
  rw [Nat.add_zero] at hc0
  have hxnl : xn < g.ls.length := by omega
  have hxnI : (xn : Int) < (g.ls.length : Int) := by omega
  obtain ⟨bl, ol, lk, hA3, hbl, hll, l0, _, _, _⟩ := (HLS.out _ HB2.out).lk hxnl
  have hlk : lk = lkAt g (xn : Int) := (lkAt_nat hll).symm
  rw [hlk, htt] at l0
  subst hA3
  have HES := Lib.hid hes
  have HEL := Lib.hid hEl
  obtain ⟨rN, hrN⟩ : ∃ r, N - tt = r := ⟨_, rfl⟩
  have hwr : IntKind.i64.wrap ((N : Int) - (tt : Int)) = (rN : Int) := by rw [IntWalk.i64_in _ (by omega)]; omega
  have HRN := Lib.hid hrN
  have hxn0 : (0 : Int) ≤ (xn : Int) := by omega
  have hen0I : (0 : Int) < (en : Int) := by omega
  have hz84 : decide (g.ls.length ≤ xn) = false := decide_eq_false (by omega)
  have hz85 : decide ((xn : Int) < 0) = false := decide_eq_false (by omega)
  clear hen hec hE hEl hes hx0 hxl hxok htt hbxe hzz hll hlk hrN hkI hkd hkd2 hkle htp hwk hwn hgl0 hyzI hyzn hkl y0 hz10
  refine ordB_below (.quiet 0 (.quiet 1 (.quiet 2 (.quiet 3 (.quiet 4 (.quiet 5 (.quiet 6 (.quiet 7 (.quiet 8 (.quiet 9 (.quiet 10 (.quiet 11 (.quiet 12 .done))))))))))))) (by kernel_rfl) (by kernel_rfl) (by kernel_rfl) (fun _ _ _ _ _ h => h) ?_
  intro Wz hWz
  iterate 13 (first
    | (refine ordB_skip rfl rfl ?_; simp only [Act.put, List.setIfInBounds_toArray, List.set_cons_zero, List.set_cons_succ])
    | (refine ordB_take (v := ?_) rfl rfl ?_ ?_
       rotate_left 1
       focus (intro W hW; obtain ⟨hcW, hfW⟩ := bcell hW; (go_simp <;> with_reducible rfl))
       simp only [Act.put, List.setIfInBounds_toArray, List.set_cons_zero, List.set_cons_succ]))
  refine ordB_nil ?_
  have hVa := hWz
  have l0 := ((bcell hWz).1 bl _ hbl).trans l0
  have g0 := ((bcell hWz).1 bG _ gl).trans g0
  have g1 := ((bcell hWz).1 bG _ gl).trans g1
  have hc0 := ((bcell hWz).1 by_ _ hbx).trans hc0
  have hbl := Nat.lt_of_lt_of_le hbl hWz.size
  have gl := Nat.lt_of_lt_of_le gl hWz.size
  have hbx := Nat.lt_of_lt_of_le hbx hWz.size
  clear hWz
  generalize Wz = Wa at *
  go_upto_region 12 with fail
  refine ordB_below (.quiet 0 (.quiet 1 (.quiet 2 (.quiet 3 (.quiet 4 (.quiet 5 (.quiet 6 (.quiet 7 (.quiet 8 .done))))))))) (by kernel_rfl) (by kernel_rfl) (by kernel_rfl) (fun _ _ _ _ _ h => h) ?_
  intro Wb hWb
  iterate 9 (first
    | (refine ordB_skip rfl rfl ?_; simp only [Act.put, List.setIfInBounds_toArray, List.set_cons_zero, List.set_cons_succ])
    | (refine ordB_take (v := ?_) rfl rfl ?_ ?_
       rotate_left 1
       focus (intro W hW; obtain ⟨hcW, hfW⟩ := bcell hW; (go_simp <;> with_reducible rfl))
       simp only [Act.put, List.setIfInBounds_toArray, List.set_cons_zero, List.set_cons_succ]))
  refine ordB_nil ?_
  have g0 := ((bcell hWb).1 bG _ gl).trans g0
  have g1 := ((bcell hWb).1 bG _ gl).trans g1
  have gl := Nat.lt_of_lt_of_le gl hWb.size
  have hbl := Nat.lt_of_lt_of_le hbl hWb.size
  have HB3 := Lib.hid (bthen HB2.out (bthen hVa hWb))
  have hb23 := bthen hVa hWb
  clear hWb hVa
  generalize Wb = W3 at *
  have HC0 := Lib.hid hc0
  obtain ⟨D, hD⟩ : ∃ D, W3.heap.size = D := ⟨_, rfl⟩
  obtain ⟨bR, hbR⟩ : ∃ b, D + 1 = b := ⟨_, rfl⟩
  obtain ⟨W4, hW4⟩ : ∃ V, (W3.alloc (.cells #[] 3)).alloc (.cells #[.int .i64 (rN : Int), .slice none 0 0] 30) = V := ⟨_, rfl⟩
  have hb34 : Below D W3 W4 := by rw [← hW4, ← hD]; exact nw _ (nw _ (Below.refl _ _))
  have hN0 : W4.ownsRow D 3 1 (.slice (some ⟨D, 0, none⟩) 0 0) 0 [] := by rw [← hW4]; subst hD; exact (own_empty W3 _ 1 _ (Nat.le_refl _)).alloc _
  have hR0 : Blk W4 bR 30 #[.int .i64 (rN : Int), .slice none 0 0] := by rw [← hW4]; exact Blk.new_ (by simp; omega)
  have HW4 := Lib.hid hW4
  have hbRD : D < bR := by omega
  have HBD := HB3
  have hDW : W.heap.size ≤ D := by have := HB3.out.size; omega
  have hD2 : W2.heap.size ≤ D := by have := hb23.size; omega
  have HB23 := Lib.hid hb23
  clear hb23
  have hgD : bG < D := by omega
  have hblD : bl < D := by omega
  rw [← hD] at hb34
  have HB34 := Lib.hid hb34
  rw [hD] at hb34
  clear hW4 l0 hc0 hxnl hxnI hxn0 hen0I hyl10I
  go_wp2_with fail
  try rw [hD]
  try rw [hbR]
  rw [HW4.out]
  go_loopw [13, 14] (fun nv jv wr => ∃ (j : Nat) (v : Value) (ks : List Lk) (ns : List Int), j ≤ g.ls.length ∧ jv = .int .i64 (j : Int) ∧ Hid (ks = restTo (moveL (tt : Int)) (tt : Int) g.ls j) ∧ Hid (ns = numsTo (tt : Int) g.ls j) ∧ ks.length ≤ j ∧ ns.length ≤ j ∧ wr.ownsRow D 54 4 v ks.length (ks.flatMap encLk) ∧ wr.ownsRow D 3 1 nv ns.length (ns.map (Value.int .i64)) ∧ Blk wr bR 30 #[.int .i64 (rN : Int), v] ∧ Below D W3 wr) (fun _ jv _ => g.ls.length - (intOf jv).toNat)
  case atStart => exact ⟨0, .slice none 0 0, [], [], by omega, rfl, rfl, rfl, by simp, by simp, own_nil _ _ _ _, hN0, hR0, hb34⟩
  case round =>
    obtain ⟨wv, rfl⟩ : ∃ V, V = wr := ⟨wr, rfl⟩
    obtain ⟨j, v, ks, ns, hj, rfl, HK, HNs, hkl, hnl, hown, hnum, hB, hbv⟩ := hrel
    have hbW : Below W.heap.size W wv := HB3.out.trans (hbv.mono hDW)
    obtain ⟨g0, g1, gl⟩ := HG4.out _ hbW
    have s0 := hB.cell 0
    have s1' := hB.cell 1
    have bl0 := hB.lt
    simp at s0 s1'
    by_cases hlt : j < g.ls.length
    · obtain ⟨b', off', lj, hbe, hbb1, hlj, e0, e1, e2, e3⟩ := (HLS.out _ hbW).lk hlt
      obtain ⟨rfl, rfl⟩ : bl = b' ∧ ol = off' := by simpa using hbe
      have hok := HG.out.ls lj (List.mem_of_getElem? hlj)
      have hf0 := hok.fr
      have hflt := hok.lt
      have htn2 := hok.to
      rw [HN.out] at htn2
      have hjI : (j : Int) < (g.ls.length : Int) := by omega
      have hj00 : (0 : Int) ≤ (j : Int) := by omega
      have hj14 : j < 14 := by have := HM14.out; omega
      have HLJ := Lib.hid hlj
      obtain ⟨fj, tj, lbj, cj⟩ := lj
      simp only at e0 e1 e2 e3 hf0 hflt htn2
      clear hlj hok hbe
      by_cases hge : (tt : Int) ≤ fj
      · obtain ⟨xa, hxa⟩ : ∃ xa, fj - (tt : Int) = xa := ⟨_, rfl⟩
        obtain ⟨xb, hxb⟩ : ∃ xb, tj - (tt : Int) = xb := ⟨_, rfl⟩
        have hwxa : IntKind.i64.wrap (fj - (tt : Int)) = xa := by rw [hxa]; exact IntWalk.i64_in _ (by omega)
        have hwxb : IntKind.i64.wrap (tj - (tt : Int)) = xb := by rw [hxb]; exact IntWalk.i64_in _ (by omega)
        have HXA := Lib.hid hxa
        have HXB := Lib.hid hxb
        clear hxa hxb
        go_upto_region 19 with fail
        obtain ⟨wO, hwO⟩ : ∃ V, wv.alloc (.cells #[.int .i64 fj, .int .i64 tj, .int .i64 lbj, .int .i64 cj] 54) = V := ⟨_, rfl⟩
        have hbO : Below D W3 wO := by rw [← hwO]; exact hbv.alloc (by omega) _
        have hownO : wO.ownsRow D 54 4 v ks.length (ks.flatMap encLk) := by rw [← hwO]; exact hown.alloc _
        have hnumO : wO.ownsRow D 3 1 u13 ns.length (ns.map (Value.int .i64)) := by rw [← hwO]; exact hnum.alloc _
        have hBO : Blk wO bR 30 #[.int .i64 (rN : Int), v] := by rw [← hwO]; exact hB.alloc _
        have hXO : Blk wO wv.heap.size 54 #[.int .i64 fj, .int .i64 tj, .int .i64 lbj, .int .i64 cj] := by rw [← hwO]; exact Blk.new _ _ _
        rw [hwO]
        obtain ⟨bx, hbx2⟩ : ∃ b, wv.heap.size = b := ⟨_, rfl⟩
        rw [hbx2] at hXO ⊢
        have x0 := hXO.cell 0
        have x1 := hXO.cell 1
        have x2 := hXO.cell 2
        have x3 := hXO.cell 3
        have xl := hXO.lt
        simp at x0 x1 x2 x3
        have s0 := hBO.cell 0
        have s1' := hBO.cell 1
        have bl0 := hBO.lt
        simp at s0 s1'
        have hvne := own_blk_ne hownO hBO (by decide)
        have hsO : D ≤ wO.heap.size := by omega
        have HOO := Lib.hid hownO
        have HNO := Lib.hid hnumO
        have HBO := Lib.hid hBO
        have HbO := Lib.hid hbO
        clear hwO hbO hownO hnumO hBO hXO hbx2 hown hnum hB hbv hbW e0 e1 e2 e3 g0 g1 gl
        go_upto_region 20 with (at_builtin; go_loud (refine wpList_app1 rfl _ _ 28 rfl D 54 i0 _ 4 32 Try.underlying28 hi hz0 hz1 hz2 rfl (by decide) v _ _ rfl _ [.int .i64 xa, .int .i64 xb, .int .i64 lbj, .int .i64 cj] rfl HOO.out _ rfl (by simp) rfl (by simp [Value.oneCell']) (by omega) (by decide) hsO ?_; intro v4 w4 hown4 hb4 ha4; have hown5 : w4.ownsRow D 54 4 v4 (ks ++ [Lk.mk xa xb lbj cj]).length ((ks ++ [Lk.mk xa xb lbj cj]).flatMap encLk) := (by rw [List.length_append, List.flatMap_append]; exact hown4); obtain ⟨A9, c9, rfl, hc9, hcm9, _⟩ := own_slr (R := RLk) hown5 (fun _ => rfl) (fun _ => rfl) rfl; have hB4 := HBO.out.apps ha4 hvne; have s2 := hB4.cell 1; have sf2 := hB4.frozen 1; have sl := hB4.lt; simp at s2; clear hown4))
        have hlen1 : (ks ++ [Lk.mk xa xb lbj cj]).length = ks.length + 1 := by simp
        rw [hlen1] at hown5
        have hne5 := own_blk_ne hown5 hB4 (by decide)
        have hn4 := own_apps HNO.out HOO.out (by decide) ha4
        have hn4ne := own_blk_ne hn4 hB4 (by decide)
        have hown6 := own_set hown5 (a := ⟨bR, 1, none⟩) hne5 (.slice A9 (ks.length + 1) c9)
        have hnum6 := own_set hn4 (a := ⟨bR, 1, none⟩) hn4ne (.slice A9 (ks.length + 1) c9)
        have hB6 := hB4.set_ 1 (.slice A9 (ks.length + 1) c9)
        have hb6 := (HbO.out.trans hb4).setCell (p := ⟨bR, 1, none⟩) (by show D ≤ bR; omega) (.slice A9 (ks.length + 1) c9)
        have HK2 : Hid (ks ++ [Lk.mk xa xb lbj cj] = restTo (moveL (tt : Int)) (tt : Int) g.ls (j + 1)) := by
          show _ = _
          rw [restTo_succ HLJ.out, if_pos hge, HK.out]
          unfold moveL
          rw [HXA.out, HXB.out]
        have HN2 : Hid (ns ++ [(j : Int)] = numsTo (tt : Int) g.ls (j + 1)) := by show _ = _; rw [numsTo_succ HLJ.out, if_pos hge, HNs.out]
        obtain ⟨W5, hW5⟩ : ∃ V, w4.setCell ⟨bR, 1, none⟩ (.slice A9 (ks.length + 1) c9) = V := ⟨_, rfl⟩
        rw [hW5] at hown6 hnum6 hB6 hb6 ⊢
        have hs6 : D ≤ W5.heap.size := by have := hB6.lt; omega
        have HO6 := Lib.hid hown6
        have HN6 := Lib.hid hnum6
        have HB6 := Lib.hid hB6
        have Hb6 := Lib.hid hb6
        clear hW5 hown5 hne5 hn4 hn4ne hown6 hnum6 hB6 hb6 hB4 hb4 ha4 s2 sf2 sl hlen1 x0 x1 x2 x3 xl s0 s1' bl0
        go_wp2_with (at_builtin; go_loud (refine wpList_app1 rfl _ _ 36 rfl D 3 j0 _ 1 8 Try.underlying36 hj1 hy0 hy1 hy2 rfl (by decide) u13 _ _ rfl _ [.int .i64 (j : Int)] rfl HN6.out _ rfl (by simp) rfl (by simp [Value.oneCell']) (by omega) (by decide) hs6 ?_; intro v7 w7 hown7 hb7 ha7))
        go_roundw
        case rel =>
          refine ⟨j + 1, .slice A9 (ks.length + 1) c9, ks ++ [Lk.mk xa xb lbj cj], ns ++ [(j : Int)], by omega, by go_num, HK2.out, HN2.out, by simp; omega, by simp; omega, ?_, ?_, ?_, Hb6.out.trans hb7⟩
          · have h := own_apps HO6.out HN6.out (by decide) ha7
            simpa using h
          · simpa using hown7
          · have h := HB6.out.apps ha7 (own_blk_ne HN6.out HB6.out (by decide))
            simpa using h
        case measure => simp [intOf]; omega
      · have hge2 : fj < (tt : Int) := by omega
        have HK2 : Hid (ks = restTo (moveL (tt : Int)) (tt : Int) g.ls (j + 1)) := by show _ = _; rw [restTo_succ HLJ.out, if_neg hge]; exact HK.out
        have HN2 : Hid (ns = numsTo (tt : Int) g.ls (j + 1)) := by show _ = _; rw [numsTo_succ HLJ.out, if_neg hge]; exact HNs.out
        clear hge
        go_wp2_with fail
        go_roundw
        case rel => exact ⟨j + 1, v, ks, ns, by omega, by go_num, HK2, HN2, by omega, by omega, hown, hnum, hB, hbv⟩
        case measure => simp [intOf]; omega
    · obtain rfl : j = g.ls.length := by omega
      clear hlt
      obtain ⟨A9, c9, rfl, hc9, hcm9, hs9⟩ := own_slr (R := RLk) hown (fun _ => rfl) (fun _ => rfl) rfl
      obtain ⟨An, cn, rfl, hcn, hcmn, hsn⟩ := own_ints hnum rfl
      have htN0 := HN.out
      have hGR : GrOK (restG (moveL (tt : Int)) g (tt : Int)) := rest_ok HG.out (by omega) (by omega) (move_turns g.n _)
      obtain ⟨y2, hy1, hy2, hy3⟩ := parts_law HG.out HM14.out (t := (tt : Int)) (by omega) (by omega) HFE.out
      rw [HEL.out] at hy2
      rw [← HNs.out] at hy3
      have hRl : (restG (moveL (tt : Int)) g (tt : Int)).ls = ks := HK.out.symm
      have hRn : (restG (moveL (tt : Int)) g (tt : Int)).n = (rN : Int) := by show g.n - (tt : Int) = (rN : Int); have := HRN.out; omega
      have hm14 := HM14.out
      have HL2 : Hid (Calls Try.prog 16 #[.agg #[.int .i64 (rN : Int), .slice A9 ks.length c9], .int .i64 1] wv (IsL [y2] wv)) := by
        have h := listR_any A9 c9 (restG (moveL (tt : Int)) g (tt : Int)) 1 wv (by rw [hRl]; exact hs9) (by rw [hRl]; unfold maxLen; omega) hGR (by rw [hRl]; omega) (by omega)
        rw [hy1, hRn, hRl] at h
        exact h
      have HHY := Lib.hid hy3
      have HHL := Lib.hid hy2
      have HSN := Lib.hid hsn
      have HEV : Hid (SlR 1 RInt wv (some ⟨by_, oy + k, none⟩) E) := HES.out.below keeps_int (HB23.out.trans (hbv.mono hD2))
      have HbW := Lib.hid hbW
      clear hown hnum hB hGR hy1 hy2 hy3 hRl hRn hs9 hsn htN0 hm14 hbv hbW
      go_upto_region 22 with (go_at_call 16; go_loud (refine HL2.out.mono ?_; rintro e w9 ⟨Am, cm, rfl, hsm, hlm, hmm, hb9⟩))
      obtain ⟨bm, om, z, Am1, dm, rfl, hbm, hzz, z0, z1, hzs, hzl, hzm⟩ := hsm.can (k := 0) (by simp)
      obtain rfl : y2 = z := by simpa using hzz
      rw [Nat.zero_mul, Nat.add_zero] at z0 z1
      have hy2e := HHL.out
      rw [hy2e] at z0
      obtain ⟨E2, hE2⟩ : ∃ E2, y2.links = E2 := ⟨_, rfl⟩
      rw [hE2] at hzs hy2e
      have HHY2 := HHY.out
      rw [hE2] at HHY2
      have HE2 : Hid (SlR 1 RInt w9 Am1 E2) := hzs
      have HE2L : Hid (E2.length = en) := hy2e
      have HHY2 := Lib.hid HHY2
      have HC0m : Hid (w9.cell? ⟨bm, om, none⟩ = some (.slice Am1 en dm)) := z0
      have HB9 := Lib.hid hb9
      clear hsm hlm hmm hzz hzs hzl hzm z1 hb9 HHY HHL hy2e hE2 HL2 s0 s1' bl0 g0 g1 gl
      go_wp2_with fail
      go_loopw [18] (fun iv wr => ∃ i : Nat, i ≤ en ∧ iv = .int .i64 (i : Int) ∧ Below w9.heap.size w9 wr) (fun iv _ => en - (intOf iv).toNat)
      case atStart => exact ⟨0, by omega, rfl, Below.refl _ _⟩
      case round =>
        obtain ⟨w10, rfl⟩ : ∃ V, V = wr := ⟨wr, rfl⟩
        obtain ⟨i, hi, rfl, hbi⟩ := hrel
        clear z0
        by_cases hlt : i < en
        · have z0 := ((bcell hbi).1 bm _ hbm).trans HC0m.out
          obtain ⟨bz, oz, a, rfl, hbz, hza, za⟩ := (HE2.out.below keeps_int hbi).int (k := i) (by have := HE2L.out; omega)
          obtain ⟨ha0, ha1, ha2⟩ := HHY2.out i a hza
          obtain ⟨an, rfl⟩ : ∃ n : Nat, a = (n : Int) := ⟨a.toNat, by omega⟩
          rw [Int.toNat_natCast] at ha2
          have hanl : an < ns.length := by omega
          have hb49 : Below wv.heap.size wv w10 := bthen HB9.out hbi
          obtain ⟨bn, on, en1, rfl, hbn, hzn, zn⟩ := (HSN.out.below keeps_int hb49).int (k := an) hanl
          have hb29 : Below W.heap.size W w10 := bthen HbW.out hb49
          obtain ⟨be, oe, ev, hbe, hbel, hze, ze⟩ := (HEV.out.below keeps_int hb49).int (k := i) (by have := HEL.out; omega)
          obtain ⟨rfl, rfl⟩ : by_ = be ∧ oy + k = oe := by simpa using hbe
          rw [hzn, hze] at ha2
          obtain rfl := Option.some.inj ha2
          have hbml : bm < w10.heap.size := Nat.lt_of_lt_of_le hbm hbi.size
          have hiI : (i : Int) < (en : Int) := by omega
          have hi0 : (0 : Int) ≤ (i : Int) := by omega
          have han0 : (0 : Int) ≤ (an : Int) := by omega
          have z177 : decide ((an : Int) < 0) = false := decide_eq_false (by omega)
          have z188 : decide (ns.length ≤ an) = false := decide_eq_false (by omega)
          have HBI := Lib.hid hbi
          clear hza ha1 hzn hze hbe hb49 hb29 hbi
          go_upto_region 27 with fail
          refine ordB_below (.quiet 0 (.quiet 1 (.quiet 2 (.quiet 3 (.quiet 4 (.quiet 5 (.quiet 6 (.quiet 7 (.quiet 8 (.quiet 9 (.quiet 10 (.quiet 11 (.quiet 12 (.quiet 13 (.quiet 14 (.quiet 15 (.quiet 16 (.quiet 17 (.quiet 18 (.quiet 19 (.quiet 20 (.quiet 21 (.quiet 22 (.quiet 23 (.quiet 24 (.quiet 25 (.quiet 26 (.quiet 27 (.quiet 28 (.quiet 29 (.quiet 30 (.quiet 31 (.quiet 32 (.quiet 33 (.quiet 34 (.quiet 35 (.quiet 36 .done))))))))))))))))))))))))))))))))))))) (by kernel_rfl) (by kernel_rfl) (by kernel_rfl) (fun _ _ _ _ _ h => h) ?_
          intro Wq hWq
          iterate 37 (first
            | (refine ordB_skip rfl rfl ?_; simp only [Act.put, List.setIfInBounds_toArray, List.set_cons_zero, List.set_cons_succ])
            | (refine ordB_take (v := ?_) rfl rfl ?_ ?_
               rotate_left 1
               focus (intro W hW; obtain ⟨hcW, hfW⟩ := bcell hW; (go_simp <;> with_reducible rfl))
               simp only [Act.put, List.setIfInBounds_toArray, List.set_cons_zero, List.set_cons_succ]))
          refine ordB_nil ?_
          have HBI2 := Lib.hid (bthen HBI.out hWq)
          clear hWq
          generalize Wq = w11 at *
          go_wp2_with fail
          go_roundw
          case rel => exact ⟨i + 1, by omega, by go_num, HBI2.out⟩
          case measure => simp [intOf]; omega
        · obtain rfl : i = en := by omega
          have hbE := bthen HBW.out (bthen HbW.out (bthen HB9.out hbi))
          clear hbi hlt
          go_wp2_with fail
          go_ret
          exact ⟨rfl, hbE⟩
end Go.Proofs.Ytbikjmafddndpaa
