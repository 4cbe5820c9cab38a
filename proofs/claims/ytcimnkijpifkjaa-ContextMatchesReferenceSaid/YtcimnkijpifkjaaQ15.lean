/-
  CxWalkD, GrLeav, GrSl, GrOwnV, GrPot, GrWalkI, joined. No conditions.
-/
import Derived.Test.YtcimnkijpifkjaaQ14
import Derived.Test.YtcimnkijpifkjaaQ04
import Derived.Test.YtcimnkijpifkjaaQ03
import Derived.Test.YtcimnkijpifkjaaQ05
import Derived.Test.YtcimnkijpifkjaaQ01
import Derived.Test.YtcimnkijpifkjaaQ02
/-
  The walks of layer 20: the nodes of a lattice's graph.
-/
namespace Go.Proofs.Ytcimnkijpifkjaa
open Go Go.RowKit

theorem a2_info : (Try.prog.info? 127).map (fun i => (i.zero, i.size, i.bytes)) = some (some (.agg #[.int .i64 0, .int .i64 0]), 2, 16) := by kernel_rfl
set_option maxRecDepth 100000 in
theorem run_eqA2 (a b c d : Int) (W : World) : (Op.equalIn 10000 127 (.agg #[.int .i64 a, .int .i64 b]) (.agg #[.int .i64 c, .int .i64 d])).run Try.prog W = .ok (decide (a = c) && decide (b = d)) W := by
  have hp : Try.prog.plainKey 3 = true := by kernel_rfl
  have hc : Try.prog.cellsOf 3 = 1 := by kernel_rfl
  obtain ⟨j0, hj, _, _, _⟩ := info_parts (show (Try.prog.info? 3).map (fun i => (i.zero, i.size, i.bytes)) = some (some (.int .i64 0), 1, 8) by kernel_rfl)
  rw [run_equalIn_array W 9999 _ _ Try.underlying127 hj, hc]
  have p0 : (part 3 #[.int .i64 a, .int .i64 b] 0).run Try.prog W = .ok (.int .i64 a) W := run_part_plain W hp rfl
  have p1 : (part 3 #[.int .i64 a, .int .i64 b] 1).run Try.prog W = .ok (.int .i64 b) W := run_part_plain W hp rfl
  have p2 : (part 3 #[.int .i64 c, .int .i64 d] 0).run Try.prog W = .ok (.int .i64 c) W := run_part_plain W hp rfl
  have p3 : (part 3 #[.int .i64 c, .int .i64 d] 1).run Try.prog W = .ok (.int .i64 d) W := run_part_plain W hp rfl
  have q0 : (Op.equalIn 9999 3 (.int .i64 a) (.int .i64 c)).run Try.prog W = .ok (a == c) W := run_equalIn_int W 9998 3 .i64 .i64 a c Try.underlying3
  have q1 : (Op.equalIn 9999 3 (.int .i64 b) (.int .i64 d)).run Try.prog W = .ok (b == d) W := run_equalIn_int W 9998 3 .i64 .i64 b d Try.underlying3
  have e1 : (Op.eqItems 9999 3 1 #[.int .i64 a, .int .i64 b] #[.int .i64 c, .int .i64 d] [1]).run Try.prog W = .ok (b == d) W := by
    simp only [Op.eqItems, Sem.run_bind, Nat.one_mul, p1, p3, Result.andThen_ok, q1]
    cases (b == d) <;> simp
  have e0 : (Op.eqItems 9999 3 1 #[.int .i64 a, .int .i64 b] #[.int .i64 c, .int .i64 d] [0, 1]).run Try.prog W = .ok ((a == c) && (b == d)) W := by
    rw [Op.eqItems]
    simp only [Sem.run_bind, Nat.zero_mul, p0, p2, Result.andThen_ok, q0]
    cases (a == c)
    · simp
    · simpa using e1
  have e2 : ((a == c) && (b == d)) = (decide (a = c) && decide (b = d)) := by
    by_cases h1 : a = c <;> by_cases h2 : b = d <;> simp [h1, h2]
  rw [← e2]
  exact e0
theorem slr_block {α : Type} {s : Nat} {R : World → α → List Value → Prop} {w w' : World} {g : Nat} {L : List α} (h : SlR s R w (some ⟨g, 0, none⟩) L) (hR : ∀ x vs, R w x vs → R w' x vs) (hb : w'.heap[g]? = w.heap[g]?) (hlt : g < w'.heap.size) : SlR s R w' (some ⟨g, 0, none⟩) L := fun hn => by
  obtain ⟨b, off, hA, _, hc⟩ := h hn
  obtain ⟨rfl, rfl⟩ : g = b ∧ 0 = off := by simpa using hA
  refine ⟨g, 0, rfl, hlt, fun k x hx => ?_⟩
  obtain ⟨vs, h1, h2, h3⟩ := hc k x hx
  exact ⟨vs, hR _ _ h1, h2, fun j v hj => (World.cell?_of_block hb).trans (h3 j v hj)⟩
theorem arrL_bd {x : La} (h : LaOK x) {e : Ed} (he : e ∈ x.es) : 0 ≤ (arrL x.n e).1 ∧ (arrL x.n e).1 ≤ 40 ∧ -1 ≤ (arrL x.n e).2 ∧ (arrL x.n e).2 < 200 := by
  have h1 := h.2.2.1 e he
  have h2 := h.1
  have := h1.1; have := h1.2.1
  unfold arrL
  split <;> simp <;> omega
theorem flat_snoc {α : Type} {enc : α → List Value} (L : List α) (p : α) : (L ++ [p]).flatMap enc = L.flatMap enc ++ enc p := by simp
theorem ddp_len (acc l : List (Int × Int)) : (ddp acc l).length ≤ acc.length + l.length ∧ acc.length ≤ (ddp acc l).length := by
  induction l generalizing acc with
  | nil => exact ⟨Nat.le_refl _, Nat.le_refl _⟩
  | cons p l ih =>
    unfold ddp
    split
    · have := ih acc; simp; omega
    · have := ih (acc ++ [p]); simp at this ⊢; omega
set_option maxRecDepth 100000 in
set_option maxHeartbeats 8000000 in
theorem nodes_any (x : La) (A : Option Addr) (c : Nat) (prev : Int) (w : World) (hx : SlR 4 REd w A x.es) (hok : LaOK x) :
    Calls Try.prog 56 #[.agg #[.int .i64 x.n, .slice A x.es.length c], .int .i64 prev] w fun e w' => ∃ B c', e = .returned (.slice B (nodesL x prev).length c') ∧ SlR 2 RPt w' B (nodesL x prev) ∧ Below w.heap.size w w' := by
  obtain ⟨i0, hi, hz0, hz1, hz2⟩ := info_parts a2_info
  obtain ⟨w1, hw1⟩ : ∃ w1, w.alloc (.cells #[.int .i64 x.n, .slice A x.es.length c] 38) = w1 := ⟨_, rfl⟩
  have hb1 : Below w.heap.size w w1 := by rw [← hw1]; exact nw _ (Below.refl _ _)
  have hB1 : Blk w1 w.heap.size 38 #[.int .i64 x.n, .slice A x.es.length c] := by rw [← hw1]; exact Blk.new _ _ _
  have HW1 := Lib.hid hw1
  have c0 := hB1.cell 0
  have c1 := hB1.cell 1
  have lb := hB1.lt
  simp at c0 c1
  obtain ⟨W1, hW1⟩ : ∃ W, w1.alloc (.cells #[.int .i64 0, .int .i64 prev] 127) = W := ⟨_, rfl⟩
  have hbW : Below w1.heap.size w1 W1 := by rw [← hW1]; exact nw _ (Below.refl _ _)
  have hO1 : W1.ownsRow w1.heap.size 127 2 (.slice (some ⟨w1.heap.size, 0, none⟩) 1 1) 1 [.int .i64 0, .int .i64 prev] := by rw [← hW1]; exact own_lit w1 #[.int .i64 0, .int .i64 prev] 127 2 1 w1.heap.size w1.heap.size rfl (Nat.le_refl _) rfl (by decide)
  have hsz1 : W1.heap.size = w1.heap.size + 1 := by rw [← hW1]; simp
  have HWW := Lib.hid hW1
  obtain ⟨b1, hb1e⟩ : ∃ b, w1.heap.size = b := ⟨_, rfl⟩
  have hB2 := hB1.below hbW hB1.lt
  rw [hb1e] at hO1 hsz1
  have HBE := Lib.hid hb1e
  have hbWW := bthen hb1 hbW
  have hwb : w.heap.size ≤ b1 := by rw [← hb1e]; exact hb1.size
  have k0 := hB2.cell 0
  have k1 := hB2.cell 1
  have kl := hB2.lt
  simp at k0 k1
  have hlen : x.es.length ≤ 20000 := hok.2.1
  have hn40 := hok.1
  have HOK := Lib.hid hok
  have HX : Hid (∀ W, Below b1 W1 W → SlR 4 REd W A x.es) := fun W hW => hx.below keeps_ed (hbWW.trans (hW.mono hwb))
  have HSZ := Lib.hid hsz1
  clear hw1 hW1 hb1e hbW hx hok hsz1
  by_cases hn : x.n = 0
  · have HR : Hid (nodesL x prev = [(0, prev)]) := by show _ = _; unfold nodesL tailL; rw [if_pos hn]
    have z1 : (x.n == 0) = true := by simpa using hn
    clear hn
    go_enter Try.func56, Try.ntmps56
    go_upto_region 1 with fail
    rw [HW1.out]
    go_upto_region 2 with fail
    rw [HWW.out, HBE.out]
    go_wp2_with fail
    go_ret
    obtain ⟨B, c', he, _, _, hs⟩ := own_slr (α := Pt) (enc := encPt) (R := RPt) (xs := [(0, prev)]) hO1 (fun _ => rfl) (fun _ => rfl) rfl
    rw [HR.out]
    injection he with e1 _ e3
    subst e1 e3
    exact ⟨_, _, rfl, hs, hbWW⟩
  have z1 : (x.n == 0) = false := by simpa using hn
  go_enter Try.func56, Try.ntmps56
  go_upto_region 1 with fail
  rw [HW1.out]
  go_upto_region 2 with fail
  rw [HWW.out, HBE.out]
  go_upto_region 5 with fail
  obtain ⟨W2, hW2⟩ : ∃ W, W1.alloc (.cells #[.int .i64 x.n, .int .i64 (-1)] 127) = W := ⟨_, rfl⟩
  have hb2 : Below W1.heap.size W1 W2 := by rw [← hW2]; exact nw _ (Below.refl _ _)
  have hO2 : W2.ownsRow W1.heap.size 127 2 (.slice (some ⟨W1.heap.size, 0, none⟩) 1 1) 1 [.int .i64 x.n, .int .i64 (-1)] := by rw [← hW2]; exact own_lit W1 #[.int .i64 x.n, .int .i64 (-1)] 127 2 1 W1.heap.size W1.heap.size rfl (Nat.le_refl _) rfl (by decide)
  rw [hW2]
  rw [HSZ.out] at hO2 ⊢
  have hsz1 := HSZ.out
  have hO1 := own_below hO1 hb2
  have hB3 := hB2.below hb2 hB2.lt
  have HX : Hid (∀ W, Below (b1 + 1) W2 W → SlR 4 REd W A x.es) := fun W hW => HX.out W (((hb2.mono (by omega)).trans (hW.mono (by omega))))
  have k0 := hB3.cell 0
  have k1 := hB3.cell 1
  have kl := hB3.lt
  simp at k0 k1
  have hsz2 : W2.heap.size = b1 + 2 := by rw [← hW2]; simp; omega
  have HO2 := Lib.hid hO2
  have HO1 := Lib.hid hO1
  have HBW2 := Lib.hid (hbWW.trans (hb2.mono hbWW.size))
  have hLb : w.heap.size < b1 + 1 := by omega
  have HB12 := Lib.hid hb2
  clear hW2 hB2 hO2 hO1 hb2
  go_wp2_with fail
  go_loopw [6, 25] (fun v i wr => ∃ (k : Nat) (V : Value), k ≤ x.es.length ∧ V = v ∧ i = .int .i64 k ∧ Hid (wr.ownsRow (b1 + 1) 127 2 V (k + 1) (((x.n, -1) :: (x.es.take k).map (arrL x.n)).flatMap encPt)) ∧ Below (b1 + 1) W2 wr) (fun _ i _ => x.es.length - (intOf i).toNat)
  case atStart => exact ⟨0, _, by omega, rfl, rfl, HO2, Below.refl _ _⟩
  case round =>
    obtain ⟨k, V, hk, rfl, rfl, HO, hbr⟩ := hrel
    have hB4 := hB3.below hbr hLb
    have r0 := hB4.cell 0
    have r1 := hB4.cell 1
    have rl := hB4.lt
    simp at r0 r1
    have HBr := Lib.hid hbr
    by_cases hlt : k < x.es.length
    · obtain ⟨b, off, e, rfl, hbb, hee, d0, d1, d2, d3⟩ := (HX.out _ hbr).ed hlt
      have HTS : Hid ((x.n, -1) :: (x.es.take (k + 1)).map (arrL x.n) = ((x.n, -1) :: (x.es.take k).map (arrL x.n)) ++ [arrL x.n e]) := by show _ = _; rw [take_snoc_of hee, List.map_append]; rfl
      have HAR : Hid (∀ W, Calls Try.prog 58 #[.agg #[.int .i64 x.n, .slice (some ⟨b, off, none⟩) x.es.length c], vEd e] W fun r w' => r = .returned (vPt (arrL x.n e)) ∧ Below W.heap.size W w') := fun W => arrival_any x (some ⟨b, off, none⟩) c e W
      obtain ⟨p, hp⟩ : ∃ p, arrL x.n e = p := ⟨_, rfl⟩
      rw [hp] at HAR HTS
      clear hee hp hbr hB4
      have hk2 : k + 1 ≤ 1000000 := by omega
      have hbs : b1 + 1 ≤ wr.heap.size := by have := HBr.out.size; omega
      go_wp2_with (first | (go_at_call 58; go_loud (refine (HAR.out _).mono ?_; rintro r w3 ⟨rfl, hb3⟩; have hs3 := hb3.size; simp at hs3)) | (at_builtin; refine wpList_app1 rfl _ _ 124 rfl (b1 + 1) 127 i0 _ 2 16 Try.underlying124 hi hz0 hz1 hz2 rfl (by decide) _ _ _ rfl w3 [.int .i64 p.1, .int .i64 p.2] rfl (own_below HO.out ((nw _ (Below.refl wr.heap.size wr)).trans (hb3.mono (by simp)))) _ rfl (by simp) rfl (by simp [Value.oneCell']) hk2 (by decide) (by omega) ?_; intro v2 w4 hown2 hb4 ha4))
      go_roundw
      case rel => exact ⟨k + 1, _, by omega, rfl, by go_num, (by
        show w4.ownsRow _ _ _ _ _ _
        rw [HTS.out, flat_snoc]
        exact hown2), (HBr.out.trans (((nw _ (Below.refl wr.heap.size wr)).trans (hb3.mono (by simp))).mono hbs)).trans hb4⟩
      case measure => simp [intOf]; omega
    · obtain rfl : k = x.es.length := by omega
      have hO := HO.out
      rw [List.take_length] at hO
      have hal : (allL x).length = x.es.length + 1 := by simp [allL]
      have hso := sortP_any (b1 + 1) V (allL x) wr (by rw [hal]; exact hO) (by simp [allL]) (by omega)
      obtain ⟨n2, hn2⟩ : ∃ n, (allL x).length = n := ⟨_, rfl⟩
      rw [hn2] at hso hal
      have HSO := Lib.hid hso
      have HN2 := Lib.hid hn2
      have hn2b : n2 ≤ 20001 := by omega
      have HAL := Lib.hid hal
      clear hO hso hn2 hal HO hB4 r0 r1 rl hbr
      go_upto_region 11 with (go_at_call 81; go_loud (refine HSO.out.mono ?_; rintro r ws ⟨rfl, g, cap, L', hv, hg, hp, hs, hsl, hbut, hbel⟩))
      subst hv
      have hpl : L'.length = n2 := by rw [hp.length_eq, HN2.out]
      have hn21 : 1 ≤ n2 := by have := HAL.out; omega
      have hgs : g < ws.heap.size := by
        obtain ⟨b, off, q, hA, hbb, _⟩ := hsl.pt (k := 0) (by omega)
        obtain ⟨rfl, _⟩ : g = b ∧ 0 = off := by simpa using hA
        exact hbb
      have hBB : Below (b1 + 1) W2 ws := HBr.out.trans (hbel (b1 + 1) hg)
      have hOE : ws.ownsRow b1 127 2 (.slice (some ⟨b1, 0, none⟩) 1 1) 1 [.int .i64 0, .int .i64 prev] := own_keep HO1.out fun g' hg' hl => by
        have : b1 = g' := by simpa [Value.ownBlock] using hg'
        exact hBB.block g' (by omega)
      have hWs : Below b1 W1 ws := (HB12.out.mono (by omega)).trans (hBB.mono (by omega))
      have HPM := Lib.hid (And.intro hp hs)
      have HSL := Lib.hid hsl
      have HOE := Lib.hid hOE
      have HWs := Lib.hid hWs
      have hg1 : b1 ≠ g := by omega
      clear hp hs hsl hbut hbel hBB hOE hWs HSO HBr
      go_wp2_with fail
      go_loopw [5, 40] (fun v i wr => ∃ (k : Nat) (V : Value), k ≤ n2 ∧ V = v ∧ i = .int .i64 k ∧ Hid (wr.ownsRow b1 127 2 V (ddp [(0, prev)] (L'.take k)).length ((ddp [(0, prev)] (L'.take k)).flatMap encPt)) ∧ V.ownBlock ≠ some g ∧ Hid (wr.heap[g]? = ws.heap[g]?) ∧ ws.heap.size ≤ wr.heap.size ∧ Below b1 W1 wr) (fun _ i _ => n2 - (intOf i).toNat)
      case atStart => exact ⟨0, _, by omega, rfl, rfl, HOE, by simp [Value.ownBlock]; exact hg1, rfl, Nat.le_refl _, HWs.out⟩
      case round =>
        obtain ⟨k, V, hk, rfl, rfl, HO, hvg, HGE, hsw, hbr⟩ := hrel
        have hgw : g < wr.heap.size := by omega
        by_cases hlt : k < n2
        · obtain ⟨b, off, q, hA, hbb, hqq, d0, d1⟩ := (slr_block (w' := wr) HSL.out (fun _ _ h => h) HGE.out hgw).pt (k := k) (by omega)
          obtain ⟨rfl, rfl⟩ : g = b ∧ 0 = off := by simpa using hA
          rw [Nat.zero_add] at d0 d1
          have HDD : Hid (ddp [(0, prev)] (L'.take (k + 1)) = if (ddp [(0, prev)] (L'.take k)).getLast? = some q then ddp [(0, prev)] (L'.take k) else ddp [(0, prev)] (L'.take k) ++ [q]) := by show _ = _; rw [take_snoc_of hqq, ddp_snoc]
          have hlen2 : 1 ≤ (ddp [(0, prev)] (L'.take k)).length ∧ (ddp [(0, prev)] (L'.take k)).length ≤ k + 1 := by
            have := ddp_len [(0, prev)] (L'.take k)
            rw [List.length_take] at this
            simp at this
            omega
          generalize ddp [(0, prev)] (L'.take k) = acc at *
          obtain ⟨B5, c5, hV, hc5, hcm5, hs5⟩ := own_slr (R := RPt) HO.out (fun _ => rfl) (fun _ => rfl) rfl
          subst hV
          obtain ⟨j, hj⟩ : ∃ j, acc.length = j + 1 := ⟨acc.length - 1, by omega⟩
          obtain ⟨b', off', z, rfl, hbb', hzz, f0, f1⟩ := hs5.pt (k := j) (by omega)
          have hlz : acc.getLast? = some z := by rw [List.getLast?_eq_getElem?, hj]; exact hzz
          rw [hlz] at HDD
          have hj1 : IntKind.i64.wrap ((acc.length : Int) - 1) = (j : Int) := by rw [IntWalk.i64_in _ (by omega)]; omega
          have hj1' : (acc.length : Int) - 1 = (j : Int) := by omega
          have hj2 : IntKind.i64.wrap (j : Int) = (j : Int) := IntWalk.i64_in _ (by omega)
          have hj3 : (j : Int) < (acc.length : Int) := by omega
          have hj4 : (0 : Int) ≤ (j : Int) := by omega
          have HJ := Lib.hid hj
          clear hA hqq hs5 hlz hzz hj
          go_upto_region 14 with fail
          obtain ⟨W3, hW3⟩ : ∃ W, wr.alloc (.cells #[.int .i64 q.1, .int .i64 q.2] 127) = W := ⟨_, rfl⟩
          have hb3 : Below wr.heap.size wr W3 := by rw [← hW3]; exact nw _ (Below.refl _ _)
          have hQ : Blk W3 wr.heap.size 127 #[.int .i64 q.1, .int .i64 q.2] := by rw [← hW3]; exact Blk.new _ _ _
          rw [hW3]
          have e0 := hQ.cell 0
          have e1 := hQ.cell 1
          have el := hQ.lt
          simp at e0 e1
          have f0 := ((bcell hb3).1 _ _ hbb').trans f0
          have f1 := ((bcell hb3).1 _ _ hbb').trans f1
          have hbb' := Nat.lt_of_lt_of_le hbb' hb3.size
          have HO3 := Lib.hid (own_below HO.out hb3)
          have HGE3 : Hid (W3.heap[g]? = ws.heap[g]?) := (hb3.block g hgw).trans HGE.out
          have HB3 := Lib.hid (hbr.trans (hb3.mono (show b1 ≤ wr.heap.size by have := hbr.size; omega)))
          have HS3 := Lib.hid hb3.size
          obtain ⟨tQ, htQ⟩ : ∃ b, wr.heap.size = b := ⟨_, rfl⟩
          have HTQ := Lib.hid htQ
          rw [htQ] at hQ e0 e1 el ⊢
          clear hW3 d0 d1 hbb hb3 hbr htQ
          have HEQ := fun W => run_eqA2 q.1 q.2 z.1 z.2 W
          by_cases hz : q = z
          · have hzb : (decide (q.1 = z.1) && decide (q.2 = z.2)) = true := by simp [hz]
            rw [hzb] at HEQ
            have HD2 : Hid (ddp [(0, prev)] (L'.take (k + 1)) = acc) := HDD.out.trans (if_pos (by rw [hz]))
            clear hz hzb
            refine ordB_below (.quiet 0 (.quiet 1 (.quiet 2 (.quiet 3 (.quiet 4 (.quiet 5 (.quiet 6 (.quiet 7 .done)))))))) (by kernel_rfl) (by kernel_rfl) (by kernel_rfl) (fun _ _ _ _ _ h => h) ?_
            intro V0 hV0
            iterate 8 (first
              | (refine ordB_skip rfl rfl ?_; simp only [Act.put, List.setIfInBounds_toArray, List.set_cons_zero, List.set_cons_succ])
              | (refine ordB_take (v := ?_) rfl rfl ?_ ?_
                 rotate_left 1
                 focus (intro W hW; obtain ⟨hcW, hfW⟩ := bcell hW; (go_simp <;> with_reducible rfl))
                 simp only [Act.put, List.setIfInBounds_toArray, List.set_cons_zero, List.set_cons_succ]))
            refine ordB_nil ?_
            have hgl3 : g < W3.heap.size := Nat.lt_of_lt_of_le hgw HS3.out
            have HGV : Hid (V0.heap[g]? = ws.heap[g]?) := (hV0.block g hgl3).trans HGE3.out
            have HBV := Lib.hid (HB3.out.trans (hV0.mono (show b1 ≤ W3.heap.size by have := HB3.out.size; omega)))
            have HOV := Lib.hid (own_below HO3.out hV0)
            have HSV := Lib.hid hV0.size
            have hswV : ws.heap.size ≤ V0.heap.size := by have := HSV.out; have := HS3.out; omega
            clear e0 e1 el f0 f1 hbb'
            go_wp2_with fail
            go_roundw
            case rel => exact ⟨k + 1, _, by omega, rfl, by go_num, (by show V0.ownsRow _ _ _ _ _ _; rw [HD2.out]; exact HOV.out), hvg, HGV, hswV, HBV.out⟩
            case measure => simp [intOf]; omega
          · have hzb : (decide (q.1 = z.1) && decide (q.2 = z.2)) = false := by
              rw [Bool.eq_false_iff]; intro h; simp at h; exact hz (Prod.ext h.1 h.2)
            rw [hzb] at HEQ
            have HD2 : Hid (ddp [(0, prev)] (L'.take (k + 1)) = acc ++ [q]) := HDD.out.trans (if_neg fun h => hz (Option.some.inj h).symm)
            clear hz hzb
            refine ordB_below (.quiet 0 (.quiet 1 (.quiet 2 (.quiet 3 (.quiet 4 (.quiet 5 (.quiet 6 (.quiet 7 .done)))))))) (by kernel_rfl) (by kernel_rfl) (by kernel_rfl) (fun _ _ _ _ _ h => h) ?_
            intro V0 hV0
            iterate 8 (first
              | (refine ordB_skip rfl rfl ?_; simp only [Act.put, List.setIfInBounds_toArray, List.set_cons_zero, List.set_cons_succ])
              | (refine ordB_take (v := ?_) rfl rfl ?_ ?_
                 rotate_left 1
                 focus (intro W hW; obtain ⟨hcW, hfW⟩ := bcell hW; (go_simp <;> with_reducible rfl))
                 simp only [Act.put, List.setIfInBounds_toArray, List.set_cons_zero, List.set_cons_succ]))
            refine ordB_nil ?_
            have hgl3 : g < W3.heap.size := Nat.lt_of_lt_of_le hgw HS3.out
            have HGV : Hid (V0.heap[g]? = ws.heap[g]?) := (hV0.block g hgl3).trans HGE3.out
            have HBV := Lib.hid (HB3.out.trans (hV0.mono (show b1 ≤ W3.heap.size by have := HB3.out.size; omega)))
            have HOV := Lib.hid (own_below HO3.out hV0)
            have HSV := Lib.hid hV0.size
            have g0 := ((bcell hV0).1 _ _ el).trans e0
            have g1 := ((bcell hV0).1 _ _ el).trans e1
            have hgl := Nat.lt_of_lt_of_le el hV0.size
            have hswV : ws.heap.size ≤ V0.heap.size := by have := HSV.out; have := HS3.out; omega
            have hbsV : b1 ≤ V0.heap.size := by have := HBV.out.size; omega
            have hacc : acc.length ≤ 1000000 := by omega
            clear e0 e1 el f0 f1 hbb'
            go_wp2_with (at_builtin; refine wpList_app1 rfl _ _ 124 rfl (b1) 127 i0 _ 2 16 Try.underlying124 hi hz0 hz1 hz2 rfl (by decide) _ _ _ rfl V0 [.int .i64 q.1, .int .i64 q.2] rfl HOV.out _ rfl (by simp) rfl (by simp [Value.oneCell']) hacc (by decide) hbsV ?_; intro v2 w4 hown2 hb4 ha4)
            go_roundw
            case rel => exact ⟨k + 1, _, by omega, rfl, by go_num, (by show w4.ownsRow _ _ _ _ _ _; rw [HD2.out, List.length_append, flat_snoc]; exact hown2), ha4.ne (Nat.lt_of_lt_of_le hgl3 HSV.out) hvg, (ha4.keep g (Nat.lt_of_lt_of_le hgl3 HSV.out) hvg).trans HGV.out, Nat.le_trans hswV (by have := hb4.size; omega), HBV.out.trans hb4⟩
            case measure => simp [intOf]; omega
        · obtain rfl : k = n2 := by omega
          have hO := HO.out
          rw [List.take_of_length_le (by omega), nodes_of hn (allL_pos HOK.out hn) HPM.out.1 HPM.out.2] at hO
          obtain ⟨B5, c5, hV, hc5, hcm5, hs5⟩ := own_slr (R := RPt) hO (fun _ => rfl) (fun _ => rfl) rfl
          have HBE := Lib.hid (hbWW.trans (hbr.mono hwb))
          subst hV
          clear hO HO hbr
          go_wp2_with fail
          go_ret
          exact ⟨_, _, rfl, hs5, HBE.out⟩
end Go.Proofs.Ytcimnkijpifkjaa

/-
  The plain law of layer 16: the links that leave each node, counted and sorted into one list.
-/
namespace Go.Proofs.Ytcimnkijpifkjaa
open List

/-- Where the links of a node begin in the list of all. -/
def stN (g : Gr) : Nat → Nat
  | 0 => 0
  | v + 1 => stN g v + (lvs g (v : Int)).length
def cntN (g : Gr) (v k : Nat) : Nat := (lvTo g.ls (v : Int) k).length
theorem countP_split (l : List Lk) (v : Int) (hv : 0 ≤ v) : l.countP (fun l => decide (0 ≤ l.fr ∧ l.fr < v + 1)) = l.countP (fun l => decide (0 ≤ l.fr ∧ l.fr < v)) + l.countP (fun l => decide (l.fr = v)) := by
  induction l with
  | nil => rfl
  | cons x l ih =>
    rw [countP_cons, countP_cons, countP_cons, ih]
    by_cases h1 : x.fr = v
    · have a1 : decide (0 ≤ x.fr ∧ x.fr < v + 1) = true := decide_eq_true (by omega)
      have a2 : decide (0 ≤ x.fr ∧ x.fr < v) = false := decide_eq_false (by omega)
      have a3 : decide (x.fr = v) = true := decide_eq_true h1
      rw [a1, a2, a3]
      simp
      omega
    · have a3 : decide (x.fr = v) = false := decide_eq_false h1
      by_cases h2 : 0 ≤ x.fr ∧ x.fr < v
      · have a1 : decide (0 ≤ x.fr ∧ x.fr < v + 1) = true := decide_eq_true (by omega)
        have a2 : decide (0 ≤ x.fr ∧ x.fr < v) = true := decide_eq_true h2
        rw [a1, a2, a3]
        simp
        omega
      · have a1 : decide (0 ≤ x.fr ∧ x.fr < v + 1) = false := decide_eq_false (by omega)
        have a2 : decide (0 ≤ x.fr ∧ x.fr < v) = false := decide_eq_false h2
        rw [a1, a2, a3]
        simp
theorem stN_count (g : Gr) : ∀ v : Nat, stN g v = g.ls.countP (fun l => decide (0 ≤ l.fr ∧ l.fr < (v : Int)))
  | 0 => by
    show 0 = _
    rw [eq_comm, countP_eq_zero]
    intro l _
    simp
  | v + 1 => by
    show stN g v + (lvs g (v : Int)).length = _
    have h := countP_split g.ls (v : Int) (by omega)
    have e : ((v + 1 : Nat) : Int) = (v : Int) + 1 := by omega
    rw [e, h, stN_count g v]
    unfold lvs
    rw [lvTo_len _ _ _ (Nat.le_refl _), take_length]
theorem stN_le (g : Gr) (v : Nat) : stN g v ≤ g.ls.length := by rw [stN_count]; exact countP_le_length
theorem stN_succ (g : Gr) (v : Nat) : stN g (v + 1) = stN g v + (lvs g (v : Int)).length := rfl
theorem stN_mono (g : Gr) {u v : Nat} (h : u ≤ v) : stN g u ≤ stN g v := by
  induction v with
  | zero => obtain rfl : u = 0 := by omega
            exact Nat.le_refl _
  | succ v ih =>
    rcases Nat.lt_or_ge u (v + 1) with h1 | h1
    · have := ih (by omega); rw [stN_succ]; omega
    · obtain rfl : u = v + 1 := by omega
      exact Nat.le_refl _
theorem cntN_le (g : Gr) (v : Nat) {k : Nat} (hk : k ≤ g.ls.length) : cntN g v k ≤ (lvs g (v : Int)).length := by
  unfold cntN lvs
  rw [lvTo_len _ _ _ hk, lvTo_len _ _ _ (Nat.le_refl _), take_length]
  exact Sublist.countP_le (take_sublist _ _)
theorem cntN_all (g : Gr) (v : Nat) : cntN g v g.ls.length = (lvs g (v : Int)).length := rfl
theorem cntN_zero (g : Gr) (v : Nat) : cntN g v 0 = 0 := rfl
theorem cntN_succ {g : Gr} {v k : Nat} {l : Lk} (h : g.ls[k]? = some l) : cntN g v (k + 1) = if l.fr = (v : Int) then cntN g v k + 1 else cntN g v k := by
  unfold cntN
  rw [lvTo_succ h]
  split
  · rw [length_append]; rfl
  · rfl
theorem range_set {f f' : Nat → Int} {n i : Nat} (hi : i < n) (h : ∀ v, v < n → v ≠ i → f' v = f v) : (range n).map f' = ((range n).map f).set i (f' i) := by
  apply ext_getElem?
  intro j
  rw [getElem?_set]
  by_cases hj : i = j
  · subst hj
    rw [if_pos rfl]
    simp [hi]
  · rw [if_neg hj]
    rcases Nat.lt_or_ge j n with h1 | h1
    · simp [h1, h j h1 (fun e => hj e.symm)]
    · simp [h1]
theorem range_at {f : Nat → Int} {n i : Nat} (hi : i < n) : ((range n).map f)[i]? = some (f i) := by simp [hi]
def endsA (g : Gr) (n k : Nat) : List Int := (range n).map (fun v => (cntN g v k : Int))
def endsB (g : Gr) (n k : Nat) : List Int := (range n).map (fun v => if v < k then (stN g v : Int) else ((lvs g (v : Int)).length : Int))
def endsC (g : Gr) (n k : Nat) : List Int := (range n).map (fun v => ((stN g v + cntN g v k : Nat) : Int))
theorem endsA_zero (g : Gr) (n : Nat) : endsA g n 0 = replicate n 0 := by
  unfold endsA
  simp only [cntN_zero]
  apply ext_getElem?
  intro j
  by_cases h : j < n
  · simp [h]
  · simp [h]
theorem endsA_step {g : Gr} {n k f : Nat} {l : Lk} (h : g.ls[k]? = some l) (hf : l.fr = (f : Int)) (hn : f < n) : endsA g n (k + 1) = (endsA g n k).set f ((cntN g f k : Int) + 1) := by
  have e : ((cntN g f k : Int) + 1) = (fun v => (cntN g v (k + 1) : Int)) f := by
    show _ = (cntN g f (k + 1) : Int)
    rw [cntN_succ h, if_pos hf]; omega
  rw [e]
  refine range_set hn fun v _ hv => ?_
  show (cntN g v (k + 1) : Int) = (cntN g v k : Int)
  rw [cntN_succ h, if_neg (by omega)]
theorem endsA_all (g : Gr) (n : Nat) : endsA g n g.ls.length = endsB g n 0 := by
  unfold endsA endsB
  simp only [cntN_all, Nat.not_lt_zero, if_false]
theorem endsB_step (g : Gr) {n k : Nat} (hk : k < n) : endsB g n (k + 1) = (endsB g n k).set k (stN g k) := by
  have e : (stN g k : Int) = (fun v => if v < k + 1 then (stN g v : Int) else ((lvs g (v : Int)).length : Int)) k := by
    show _ = if k < k + 1 then (stN g k : Int) else _
    rw [if_pos (by omega)]
  rw [e]
  refine range_set hk fun v _ hv => ?_
  show (if v < k + 1 then (stN g v : Int) else ((lvs g (v : Int)).length : Int)) = if v < k then (stN g v : Int) else ((lvs g (v : Int)).length : Int)
  by_cases h : v < k
  · rw [if_pos h, if_pos (by omega)]
  · rw [if_neg h, if_neg (by omega)]
theorem endsB_at (g : Gr) {n k : Nat} (hk : k < n) : (endsB g n k)[k]? = some ((lvs g (k : Int)).length : Int) := by
  unfold endsB
  rw [range_at hk, if_neg (by omega)]
theorem endsB_all (g : Gr) (n : Nat) : endsB g n n = endsC g n 0 := by
  unfold endsB endsC
  apply map_congr_left
  intro v hv
  rw [if_pos (mem_range.1 hv), cntN_zero]
  rfl
theorem endsA_at (g : Gr) {n k f : Nat} (hf : f < n) : (endsA g n k)[f]? = some (cntN g f k : Int) := by unfold endsA; rw [range_at hf]
theorem endsC_at (g : Gr) {n k f : Nat} (hf : f < n) : (endsC g n k)[f]? = some ((stN g f + cntN g f k : Nat) : Int) := by unfold endsC; rw [range_at hf]
theorem endsC_end (g : Gr) {n f : Nat} (hf : f < n) : (endsC g n g.ls.length)[f]? = some ((stN g (f + 1) : Nat) : Int) := by rw [endsC_at g hf, cntN_all, stN_succ]
theorem endsC_step {g : Gr} {n k f : Nat} {l : Lk} (h : g.ls[k]? = some l) (hf : l.fr = (f : Int)) (hn : f < n) : endsC g n (k + 1) = (endsC g n k).set f (((stN g f + cntN g f k : Nat) : Int) + 1) := by
  have e : (((stN g f + cntN g f k : Nat) : Int) + 1) = (fun v => ((stN g v + cntN g v (k + 1) : Nat) : Int)) f := by
    show _ = ((stN g f + cntN g f (k + 1) : Nat) : Int)
    rw [cntN_succ h, if_pos hf]; omega
  rw [e]
  refine range_set hn fun v _ hv => ?_
  show ((stN g v + cntN g v (k + 1) : Nat) : Int) = ((stN g v + cntN g v k : Nat) : Int)
  rw [cntN_succ h, if_neg (by omega)]
/-- The list of all, when k links have been put into it. -/
def AllTo (g : Gr) (k : Nat) (al : List Int) : Prop := al.length = g.ls.length ∧ ∀ (v j : Nat) (x : Int), (lvTo g.ls (v : Int) k)[j]? = some x → al[stN g v + j]? = some x
theorem AllTo.zero (g : Gr) : AllTo g 0 (replicate g.ls.length 0) := ⟨by simp, fun v j x h => by simp [lvTo] at h⟩
theorem cntN_lt {g : Gr} {k f : Nat} {l : Lk} (h : g.ls[k]? = some l) (hf : l.fr = (f : Int)) : cntN g f k < (lvs g (f : Int)).length := by
  have h1 := (List.getElem?_eq_some_iff.1 h).1
  have h2 := cntN_le g f (k := k + 1) h1
  rw [cntN_succ h, if_pos hf] at h2
  omega
theorem AllTo.step {g : Gr} {k f : Nat} {al : List Int} {l : Lk} (ha : AllTo g k al) (h : g.ls[k]? = some l) (hf : l.fr = (f : Int)) : AllTo g (k + 1) (al.set (stN g f + cntN g f k) (k : Int)) := by
  obtain ⟨h1, h2⟩ := ha
  have hlt := cntN_lt h hf
  have hkl := (List.getElem?_eq_some_iff.1 h).1
  have hs := stN_le g (f + 1)
  rw [stN_succ] at hs
  refine ⟨by rw [length_set, h1], fun v j x hx => ?_⟩
  rw [getElem?_set]
  by_cases hv : l.fr = (v : Int)
  · obtain rfl : v = f := by omega
    rw [lvTo_succ h, if_pos hf] at hx
    rcases Nat.lt_or_ge j (cntN g v k) with hj | hj
    · rw [getElem?_append_left hj] at hx
      rw [if_neg (by omega)]
      exact h2 v j x hx
    · rw [getElem?_append_right hj] at hx
      have hj2 : j = cntN g v k := by
        have := (List.getElem?_eq_some_iff.1 hx).1
        simp at this
        unfold cntN at hj ⊢
        omega
      subst hj2
      unfold cntN at hx
      simp at hx
      rw [if_pos rfl, if_pos (by omega), hx]
  · rw [lvTo_succ h, if_neg hv] at hx
    have hj := (List.getElem?_eq_some_iff.1 hx).1
    have hj2 : j < (lvs g (v : Int)).length := Nat.lt_of_lt_of_le hj (cntN_le g v (Nat.le_of_lt hkl))
    rw [if_neg]
    · exact h2 v j x hx
    · intro e
      rcases Nat.lt_or_ge v f with h3 | h3
      · have := stN_mono g (u := v + 1) (v := f) h3
        rw [stN_succ] at this
        omega
      · have h4 : f < v := by omega
        have := stN_mono g (u := f + 1) (v := v) h4
        rw [stN_succ] at this
        omega
theorem AllTo.lt {g : Gr} {k f : Nat} {al : List Int} {l : Lk} (ha : AllTo g k al) (h : g.ls[k]? = some l) (hf : l.fr = (f : Int)) : stN g f + cntN g f k < al.length := by
  have hlt := cntN_lt h hf
  have hs := stN_le g (f + 1)
  rw [stN_succ] at hs
  rw [ha.1]
  omega
end Go.Proofs.Ytcimnkijpifkjaa

/-
  Words for memory of layers 15 and 16: slices of slices; parts of rows.
-/
namespace Go.Proofs.Ytcimnkijpifkjaa
open Go Go.RowKit

/-- A slice that lies in one cell and reads as a list of numbers. -/
def RSl (w : World) (x : List Int) (vs : List Value) : Prop := ∃ A c, vs = [.slice A x.length c] ∧ SlR 1 RInt w A x ∧ x.length ≤ c ∧ c ≤ maxLen
theorem keeps_sl : Keeps RSl := fun _ _ _ _ hb ⟨A, c, h, hs, hl⟩ => ⟨A, c, h, hs.below keeps_int hb, hl⟩
theorem SlR.sl {w : World} {A : Option Addr} {xs : List (List Int)} (h : SlR 1 RSl w A xs) {k : Nat} (hk : k < xs.length) :
    ∃ b off x A' c, A = some ⟨b, off, none⟩ ∧ b < w.heap.size ∧ xs[k]? = some x ∧ w.cell? ⟨b, off + k, none⟩ = some (.slice A' x.length c) ∧ SlR 1 RInt w A' x ∧ x.length ≤ c ∧ c ≤ maxLen := by
  obtain ⟨b, off, x, vs, hA, hlt, hx, ⟨A', c, hr, hs, hl⟩, _, hv⟩ := h.at_ hk
  have h0 := hv 0 (.slice A' x.length c) (by rw [hr]; rfl)
  simp only [Nat.mul_one, Nat.add_zero] at h0
  exact ⟨b, off, x, A', c, hA, hlt, hx, h0, hs, hl⟩
/-- A part of a row, from s on. -/
theorem Row.part {w : World} {g : Nat} {al : List Int} (h : Row w g al) (s : Nat) {xs : List Int} (hx : ∀ (j : Nat) (x : Int), xs[j]? = some x → al[s + j]? = some x) : SlR 1 RInt w (some ⟨g, s, none⟩) xs := fun _ =>
  ⟨g, s, rfl, h.lt, fun k x hk => ⟨[.int .i64 x], rfl, rfl, fun j v hj => by
    match j, hj with
    | 0, hj =>
      simp at hj
      subst hj
      have := h.cell (hx k x hk)
      simpa using this⟩⟩
/-- The part of the list of all that a node's links have. -/
def slV (ga : Nat) (g : Gr) (v : Nat) : Value := .slice (if stN g (v + 1) = stN g v then some ⟨ga, 0, none⟩ else some ⟨ga, stN g v, none⟩) (stN g (v + 1) - stN g v) (stN g (v + 1) - stN g v)
def fromC (ga : Nat) (g : Gr) (n k : Nat) : List Value := (List.range n).map (fun v => if v < k then slV ga g v else .slice none 0 0)
theorem fromC_zero (ga : Nat) (g : Gr) (n : Nat) : fromC ga g n 0 = List.replicate n (.slice none 0 0) := by
  unfold fromC
  apply List.ext_getElem?
  intro j
  by_cases h : j < n
  · simp [h]
  · simp [h]
theorem fromC_step (ga : Nat) (g : Gr) {n k : Nat} (hk : k < n) : fromC ga g n (k + 1) = (fromC ga g n k).set k (slV ga g k) := by
  unfold fromC
  apply List.ext_getElem?
  intro j
  rw [List.getElem?_set]
  by_cases hj : k = j
  · subst hj
    rw [if_pos rfl]
    simp [hk]
  · rw [if_neg hj]
    by_cases h : j < n
    · simp [h]
      by_cases h2 : j < k
      · simp [h2, Nat.lt_succ_of_lt h2]
      · have : ¬ j < k + 1 := by omega
        simp [h2, this]
    · simp [h]
theorem fromC_len (ga : Nat) (g : Gr) (n k : Nat) : (fromC ga g n k).length = n := by unfold fromC; simp
/-- What leaving answers. -/
def leavL (g : Gr) (n : Nat) : List (List Int) := (List.range n).map (fun v : Nat => lvs g (v : Int))
theorem leavL_len (g : Gr) (n : Nat) : (leavL g n).length = n := by unfold leavL; simp
theorem leavL_at (g : Gr) {n v : Nat} (hv : v < n) : (leavL g n)[v]? = some (lvs g (v : Int)) := by unfold leavL; simp [hv]
theorem from_slr {w : World} {gf ga : Nat} {t : TypeId} {g : Gr} {n : Nat} {al : List Int} (hb : Blk w gf t (fromC ga g n n).toArray) (ha : AllTo g g.ls.length al) (hr : Row w ga al) (hl : g.ls.length ≤ maxLen) : SlR 1 RSl w (some ⟨gf, 0, none⟩) (leavL g n) := fun _ => by
  refine ⟨gf, 0, rfl, hb.lt, fun k x hx => ?_⟩
  have hk := (List.getElem?_eq_some_iff.1 hx).1
  rw [leavL_len] at hk
  rw [leavL_at g hk] at hx
  obtain rfl := Option.some.inj hx
  have hlen : stN g (k + 1) - stN g k = (lvs g (k : Int)).length := by rw [stN_succ]; omega
  refine ⟨[slV ga g k], ⟨_, _, by unfold slV; rw [hlen], ?_, Nat.le_refl _, by have := stN_le g (k + 1); rw [stN_succ] at this; omega⟩, rfl, fun j v hj => ?_⟩
  · by_cases h0 : stN g (k + 1) = stN g k
    · intro hne
      exfalso
      apply hne
      apply List.eq_nil_of_length_eq_zero
      omega
    · rw [if_neg h0]
      exact hr.part _ fun j x hj => ha.2 k j x hj
  match j, hj with
  | 0, hj =>
    simp at hj
    subst hj
    rw [hb.cell]
    unfold fromC
    simp [hk]
end Go.Proofs.Ytcimnkijpifkjaa

/-
  Words for memory of layers 15 and 20: rows of numbers, one for each node, apart from each other.
-/
namespace Go.Proofs.Ytcimnkijpifkjaa
open Go Go.RowKit

theorem bint_inf : (Try.prog.info? 3).map (fun i => (i.zero, i.size, i.bytes)) = some (some (.int .i64 0), 1, 8) := by kernel_rfl
theorem bints_inf : (Try.prog.info? 31).map (fun i => (i.zero, i.size, i.bytes)) = some (some (.slice none 0 0), 1, 24) := by kernel_rfl
/-- All blocks from B on are as they were. -/
def NewEq (B : Nat) (w W : World) : Prop := w.heap.size ≤ W.heap.size ∧ ∀ b, B ≤ b → b < w.heap.size → W.heap[b]? = w.heap[b]?
theorem NewEq.of_below {B : Nat} {w W : World} (h : Below w.heap.size w W) : NewEq B w W := ⟨h.size, fun b _ hb => h.block b hb⟩
/-- Rows of numbers of the call's own, one for each node, apart from each other. -/
structure OwnV (B N : Nat) (w : World) (V : Nat → Value) (L : Nat → List Int) : Prop where
  own : ∀ v, v < N → w.ownsRow B 3 1 (V v) (L v).length ((L v).map (Value.int .i64))
  apart : ∀ u v, u < N → v < N → u ≠ v → ∀ g, (V u).ownBlock = some g → (V v).ownBlock ≠ some g
def updF {α : Type} (f : Nat → α) (i : Nat) (x : α) : Nat → α := fun j => if j = i then x else f j
theorem updF_same {α : Type} (f : Nat → α) (i : Nat) (x : α) : updF f i x i = x := if_pos rfl
theorem updF_ne {α : Type} (f : Nat → α) {i j : Nat} (x : α) (h : j ≠ i) : updF f i x j = f j := if_neg h
theorem range_upd {α : Type} (f : Nat → α) {n i : Nat} (_hi : i < n) (x : α) : (List.range n).map (updF f i x) = ((List.range n).map f).set i x := by
  apply List.ext_getElem?
  intro j
  rw [List.getElem?_set]
  by_cases hj : i = j
  · subst hj; by_cases h : i < n <;> simp [h, updF_same]
  · rw [if_neg hj]
    by_cases h : j < n <;> simp [h, updF_ne f x (Ne.symm hj)]
theorem OwnV.step {B N : Nat} {w w' : World} {V : Nat → Value} {L : Nat → List Int} (h : OwnV B N w V L) {f : Nat} (hf : f < N) {v' : Value} {L' : Nat → List Int} (ha : Apps w w' (V f) v') (ho : w'.ownsRow B 3 1 v' (L' f).length ((L' f).map (Value.int .i64)))
    (hL : ∀ v, v ≠ f → L' v = L v) : OwnV B N w' (updF V f v') L' := by
  have hlt : ∀ v, v < N → ∀ g, (V v).ownBlock = some g → g < w.heap.size := fun v hv g hg => by
    rcases Nat.lt_or_ge g w.heap.size with h1 | h1
    · exact h1
    · exact absurd hg (own_lt (h.own v hv) h1)
  have hne : ∀ v, v < N → v ≠ f → ∀ g, (V v).ownBlock = some g → v'.ownBlock ≠ some g := fun v hv hvf g hg => ha.ne (hlt v hv g hg) (h.apart v f hv hf hvf g hg)
  refine ⟨fun v hv => ?_, fun u v hu hv huv g hg => ?_⟩
  · by_cases e : v = f
    · subst e; rw [updF_same]; exact ho
    · rw [updF_ne V v' e, hL v e]
      exact own_keep (h.own v hv) fun g hg hgl => ha.keep g hgl (h.apart v f hv hf e g hg)
  · by_cases e1 : u = f
    · subst e1
      rw [updF_same] at hg
      rw [updF_ne V v' (Ne.symm huv)]
      intro hg2
      exact hne v hv (Ne.symm huv) g hg2 hg
    · rw [updF_ne V v' e1] at hg
      by_cases e2 : v = f
      · subst e2; rw [updF_same]; exact hne u hu e1 g hg
      · rw [updF_ne V v' e2]; exact h.apart u v hu hv huv g hg
theorem OwnV.below {B N : Nat} {w w' : World} {V : Nat → Value} {L : Nat → List Int} (h : OwnV B N w V L) (hb : Below w.heap.size w w') : OwnV B N w' V L := ⟨fun v hv => own_below (h.own v hv) hb, h.apart⟩
theorem OwnV.set_ {B N : Nat} {w : World} {V : Nat → Value} {L : Nat → List Int} (h : OwnV B N w V L) {p : Addr} (hp : p.block < B) (u : Value) : OwnV B N (w.setCell p u) V L :=
  ⟨fun v hv => own_set (h.own v hv) (fun e => by have := own_block_le (h.own v hv) _ e; omega) u, h.apart⟩
theorem OwnV.slr {B N : Nat} {w W : World} {V : Nat → Value} {L : Nat → List Int} (h : OwnV B N w V L) (hW : NewEq B w W) {v : Nat} (hv : v < N) : ∃ A c, V v = .slice A (L v).length c ∧ (L v).length ≤ c ∧ c ≤ maxLen ∧ SlR 1 RInt W A (L v) := by
  have ho : W.ownsRow B 3 1 (V v) (L v).length ((L v).map (Value.int .i64)) := own_keep (h.own v hv) fun g hg hl => hW.2 g (own_block_le (h.own v hv) _ hg) hl
  exact own_ints ho rfl
end Go.Proofs.Ytcimnkijpifkjaa

/-
  The plain law of layer 16: bounds of potentials; the row in which they are reckoned.
-/
namespace Go.Proofs.Ytcimnkijpifkjaa
open List

theorem potS_succ (g : Gr) {k : Nat} (hk : 1 ≤ k) : potS g (k + 1) = (lvs g (g.n - (k + 1))).foldl (potStep g (g.n - (k + 1)) (potS g k)) (-1) :: potS g k := by
  obtain ⟨j, rfl⟩ : ∃ j, k = j + 1 := ⟨k - 1, by omega⟩
  show (lvs g (g.n - ((j : Int) + 2))).foldl (potStep g (g.n - ((j : Int) + 2)) (potS g (j + 1))) (-1) :: potS g (j + 1) = _
  have e : g.n - ((j : Int) + 2) = g.n - (((j + 1 : Nat) : Int) + 1) := by omega
  rw [e]
theorem getD_bd {l : List Int} {B : Int} (h : ∀ x ∈ l, -1 ≤ x ∧ x ≤ B) (hB : 0 ≤ B) (i : Nat) : -1 ≤ l.getD i 0 ∧ l.getD i 0 ≤ B := by
  rw [getD_eq_getElem?_getD]
  cases hi : l[i]? with
  | none => simp; omega
  | some x => exact h x (mem_of_getElem? hi)
theorem step_bd {g : Gr} (hg : GrOK g) {v B : Int} {tail : List Int} (ht : ∀ x ∈ tail, -1 ≤ x ∧ x ≤ B) (hB : 0 ≤ B) {L : List Int} (hL : ∀ i ∈ L, 0 ≤ i ∧ i < g.ls.length) : ∀ a : Int, -1 ≤ a ∧ a ≤ B + 1000000 → -1 ≤ L.foldl (potStep g v tail) a ∧ L.foldl (potStep g v tail) a ≤ B + 1000000 := by
  induction L with
  | nil => intro a h; exact h
  | cons i L ih =>
    intro a h
    rw [foldl_cons]
    refine ih (fun j hj => hL j (by simp [hj])) _ ?_
    have hok := lkAt_ok hg (hL i (by simp))
    have hc := hok.cost
    have hb := getD_bd ht hB ((lkAt g i).to - v - 1).toNat
    unfold potStep
    dsimp only
    split <;> omega
theorem potS_bd {g : Gr} (hg : GrOK g) : ∀ k : Nat, ∀ x ∈ potS g k, -1 ≤ x ∧ x ≤ 1000000 * (k : Int)
  | 0 => by simp [potS]
  | 1 => by simp [potS]
  | k + 2 => by
    intro x hx
    have ih := potS_bd hg (k + 1)
    rw [potS_succ g (k := k + 1) (by omega)] at hx
    rcases mem_cons.1 hx with rfl | hx
    · have := step_bd hg (v := g.n - (((k + 1 : Nat) : Int) + 1)) (tail := potS g (k + 1)) (B := 1000000 * ((k + 1 : Nat) : Int)) ih (by omega) (L := lvs g (g.n - (((k + 1 : Nat) : Int) + 1))) (fun i hi => by have := lvs_iff.1 hi; omega) (-1) (by omega)
      omega
    · have := ih x hx
      omega
theorem lvTo_ok {g : Gr} {v : Int} {k : Nat} (hk : k ≤ g.ls.length) : ∀ i ∈ lvTo g.ls v k, 0 ≤ i ∧ i < g.ls.length := fun i hi => by
  obtain ⟨j, hj, rfl, _⟩ := (lvTo_mem k hk i).1 hi
  omega
/-- The row of potentials while they are reckoned: m nodes still to come, one at hand, the others done. -/
def potRow (m : Nat) (acc : Int) (tail : List Int) : List Int := replicate m 0 ++ acc :: tail
theorem potRow_at (m : Nat) (acc : Int) (tail : List Int) : (potRow m acc tail)[m]? = some acc := by
  unfold potRow
  rw [getElem?_append_right (by simp)]
  simp
theorem potRow_tail {m : Nat} {acc : Int} {tail : List Int} {j : Nat} (h : m < j) (hj : j < m + 1 + tail.length) : (potRow m acc tail)[j]? = some (tail.getD (j - m - 1) 0) := by
  unfold potRow
  rw [getElem?_append_right (by simp; omega)]
  simp only [length_replicate]
  obtain ⟨i, hi⟩ : ∃ i, j - m = i + 1 := ⟨j - m - 1, by omega⟩
  rw [hi, getElem?_cons_succ, Nat.add_sub_cancel, getD_eq_getElem?_getD, getElem?_eq_getElem (by omega)]
  rfl
theorem potRow_set (m : Nat) (acc x : Int) (tail : List Int) : (potRow m acc tail).set m x = potRow m x tail := by
  unfold potRow
  rw [set_append_right _ _ (by simp)]
  simp
theorem potRow_start (m : Nat) (tail : List Int) : replicate (m + 1) 0 ++ tail = potRow m 0 tail := by
  unfold potRow
  rw [replicate_succ', append_assoc]
  rfl
/-- One more link of the reference's loop. -/
theorem acc_snoc {g : Gr} {v : Int} {tail : List Int} {j : Nat} {l : Lk} (h : g.ls[j]? = some l) :
    (lvTo g.ls v (j + 1)).foldl (potStep g v tail) (-1) = if l.fr = v then potStep g v tail ((lvTo g.ls v j).foldl (potStep g v tail) (-1)) (j : Int) else (lvTo g.ls v j).foldl (potStep g v tail) (-1) := by
  rw [lvTo_succ h]
  split
  · rw [foldl_append]; rfl
  · rfl
theorem lkAt_nat {g : Gr} {j : Nat} {l : Lk} (h : g.ls[j]? = some l) : lkAt g (j : Int) = l := by
  unfold lkAt
  rw [Int.toNat_natCast, getD_eq_getElem?_getD, h]
  rfl
end Go.Proofs.Ytcimnkijpifkjaa

/-
  The walks of layers 15 and 16: the cost of a way; the order of candidates; whether the other way comes before a candidate.
-/
namespace Go.Proofs.Ytcimnkijpifkjaa
open Go Go.RowKit

/-- What best.Cost answers. -/
def costM (g : Gr) (links : List Int) : Int × Bool := if wayB g 0 links then (sumC g links, true) else (0, false)
/-- After some links: the node and the sum at hand. -/
structure CostAt (g : Gr) (done : List Int) (node sum : Int) : Prop where
  cway : ∀ r, wayB g 0 (done ++ r) = wayB g node r
  csum : ∀ r, sumC g (done ++ r) = sum + sumC g r
  lo : (done.length : Int) ≤ node
  hi : node < g.n
  s0 : 0 ≤ sum
  s1 : sum ≤ 1000000 * (done.length : Int)
theorem CostAt.zero {g : Gr} (hg : GrOK g) : CostAt g [] 0 0 := ⟨fun _ => rfl, fun r => by simp, by simp, by have := hg.n; omega, by omega, by simp⟩
theorem CostAt.step {g : Gr} (hg : GrOK g) {done : List Int} {node sum : Int} (h : CostAt g done node sum) {i : Int} (hi : 0 ≤ i ∧ i < g.ls.length) (hf : (lkAt g i).fr = node) :
    CostAt g (done ++ [i]) (lkAt g i).to (sum + (lkAt g i).cost) := by
  have hok := lkAt_ok hg hi
  have h1 := hok.lt
  have h2 := hok.to
  have h3 := hok.cost
  have h4 := h.lo
  have h5 := h.s0
  have h6 := h.s1
  refine ⟨fun r => ?_, fun r => ?_, by simp; omega, h2, by omega, by simp; omega⟩
  · rw [List.append_assoc, h.cway]
    show (decide (0 ≤ i ∧ i < g.ls.length ∧ (lkAt g i).fr = node) && wayB g (lkAt g i).to r) = _
    rw [decide_eq_true ⟨hi.1, hi.2, hf⟩]
    rfl
  · rw [List.append_assoc, h.csum]
    show sum + ((lkAt g i).cost + sumC g r) = _
    omega
theorem CostAt.bad {g : Gr} {done : List Int} {node sum : Int} (h : CostAt g done node sum) {i : Int} {r : List Int} (hi : ¬ (0 ≤ i ∧ i < g.ls.length ∧ (lkAt g i).fr = node)) : costM g (done ++ i :: r) = (0, false) := by
  unfold costM
  rw [h.cway]
  unfold wayB
  rw [decide_eq_false hi]
  rfl
theorem CostAt.endOK {g : Gr} {done : List Int} {node sum : Int} (h : CostAt g done node sum) (hn : node = g.n - 1) : costM g done = (sum, true) := by
  have h1 := h.cway []
  have h2 := h.csum []
  rw [List.append_nil] at h1 h2
  unfold costM
  rw [h1]
  unfold wayB
  rw [decide_eq_true hn, h2]
  simp [sumC]
theorem CostAt.endNo {g : Gr} {done : List Int} {node sum : Int} (h : CostAt g done node sum) (hn : ¬ node = g.n - 1) : costM g done = (0, false) := by
  have h1 := h.cway []
  rw [List.append_nil] at h1
  unfold costM
  rw [h1]
  unfold wayB
  rw [decide_eq_false hn]
  rfl
end Go.Proofs.Ytcimnkijpifkjaa
