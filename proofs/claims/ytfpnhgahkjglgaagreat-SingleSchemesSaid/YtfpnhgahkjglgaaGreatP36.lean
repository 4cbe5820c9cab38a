/-
  OuWalk5, OuSndP, Open, joined. No conditions.
-/
import Derived.Test.YtfpnhgahkjglgaaGreatP35
import Derived.Test.YtfpnhgahkjglgaaGreatP22
import Derived.Deep.CutBlock
import Derived.Test.YtfpnhgahkjglgaaGreatP06
import Derived.Test.YtfpnhgahkjglgaaGreatP34
import Derived.Test.YtfpnhgahkjglgaaGreatP31
import Derived.Test.YtfpnhgahkjglgaaGreatRows
import Derived.Test.YtfpnhgahkjglgaaGreatP05
import Derived.ProofKit
import Derived.OpenShut
import Derived.ChangeSame
import Derived.Carry
import Derived.Deep.Slices
import Derived.Deep.Fields
import Derived.Lib.SmallJoins
/-
  The walk of layer 05: a whole route.
-/
namespace Go.Proofs.YtfpnhgahkjglgaaGreat
open Go Go.RowKit

/-- What Walk gives. -/
def IsWalk (s : Sc) (w : World) (e : Ending) (w' : World) : Prop :=
  (∃ (i o : ByteArray) (c m : Int), e = .returned (.tuple #[.agg #[.string i, .string o, .int .i64 c], .bool (accB s.acc m)]) ∧ Rte s m i o c ∧ i.size ≤ 6 ∧ o.size ≤ 32 ∧ 0 ≤ c ∧ c ≤ 8000) ∧ Below w.heap.size w w'
def FitP (s : Sc) (m : Int) (i : ByteArray) (L : List Int) : Prop := ∀ x ∈ L, ∃ (q : Nat) (r : Ru), x = (q : Int) ∧ s.rs[q]? = some r ∧ r.fr = m ∧ i.size + r.inp.size ≤ 6
theorem FitP.snoc {s : Sc} {m : Int} {i : ByteArray} {L : List Int} (h : FitP s m i L) {q : Nat} {r : Ru} (hr : s.rs[q]? = some r) (h1 : r.fr = m) (h2 : i.size + r.inp.size ≤ 6) : FitP s m i (L ++ [(q : Int)]) := fun x hx => by
  rcases List.mem_append.1 hx with hx | hx
  · exact h x hx
  · exact ⟨q, r, List.mem_singleton.1 hx, hr, h1, h2⟩
set_option maxRecDepth 100000 in
set_option maxHeartbeats 16000000 in
theorem walk5_any (s : Sc) (A : Option Addr) (c : Nat) (B : Option Addr) (l : List Int) (d : Nat) (n : Int) (w : World) (hs : ScIn w s A c) (hok : ScOK s) (hy : SlR 1 RU8 w B l) (hl0 : l.length ≤ maxLen) (hl8 : ∀ x ∈ l, 0 ≤ x ∧ x ≤ 255) (_hn : 0 ≤ n ∧ n ≤ 8) :
    Calls Tryz.prog 19 #[.agg #[.int .i64 s.n, .int .u8 s.acc, .slice A s.rs.length c], .slice B l.length d, .int .i64 n] w (IsWalk s w) := by
  obtain ⟨i0, hinf, hz0, hz1, hz2⟩ := info_parts cloneI_info
  obtain ⟨w1, hw1⟩ : ∃ w1, w.alloc (.cells #[.int .i64 s.n, .int .u8 s.acc, .slice A s.rs.length c] 30) = w1 := ⟨_, rfl⟩
  have hb1 : Below w.heap.size w w1 := by rw [← hw1]; exact nw _ (Below.refl _ _)
  have hB : Blk w1 w.heap.size 30 #[.int .i64 s.n, .int .u8 s.acc, .slice A s.rs.length c] := by rw [← hw1]; exact Blk.new _ _ _
  have HW1 := Lib.hid hw1
  have HB1 := Lib.hid hb1
  have HCE : Hid (∀ W, Below w1.heap.size w1 W → W.cell? ⟨w.heap.size, 0, none⟩ = some (.int .i64 s.n) ∧ W.cell? ⟨w.heap.size, 1, none⟩ = some (.int .u8 s.acc) ∧ W.cell? ⟨w.heap.size, 2, none⟩ = some (.slice A s.rs.length c) ∧ w.heap.size < W.heap.size) := fun W hW => by
    have e1 := hB.below hW hB.lt
    exact ⟨by rw [e1.cell]; rfl, by rw [e1.cell]; rfl, by rw [e1.cell]; rfl, e1.lt⟩
  obtain ⟨b0, b1, b2, bl⟩ := HCE.out _ (Below.refl _ _)
  clear hw1 hb1 hB
  have hl := hl0
  unfold maxLen at hl
  have hrl := hs.len
  have HS := Lib.hid hs
  have HOK := Lib.hid hok
  have HY := Lib.hid hy
  have HL8 := Lib.hid hl8
  have hnn := hok.1
  have hn8 := hnn.2
  clear hs hok hy hl8
  go_enter Tryz.func19, Tryz.ntmps19
  go_upto_region 1 with fail
  rw [HW1.out]
  obtain ⟨g6, hg6e⟩ : ∃ x, w.heap.size + 1 = x := ⟨_, rfl⟩
  have hg6 : w1.heap.size = g6 := by rw [← hg6e, ← HW1.out]; simp
  obtain ⟨w2, hw2⟩ : ∃ W, w1.alloc (.cells #[.string ⟨#[]⟩, .string ⟨#[]⟩, .int .i64 0] 56) = W := ⟨_, rfl⟩
  have hB6 : Blk w2 g6 56 #[.string ⟨#[]⟩, .string ⟨#[]⟩, .int .i64 0] := by rw [← hw2]; exact Blk.new_ hg6.symm
  have hb2 : Below w1.heap.size w1 w2 := by rw [← hw2]; exact nw _ (Below.refl _ _)
  have hs2 : w2.heap.size = w1.heap.size + 1 := by rw [← hw2]; simp
  rw [hw2]
  try rw [hg6]
  try rw [hg6e]
  clear hw2
  go_upto_region 2 with fail
  obtain ⟨g8, hg8⟩ : ∃ x, g6 + 1 = x := ⟨_, rfl⟩
  obtain ⟨w8, hw8⟩ : ∃ W, w2.alloc (.cells #[.string ⟨#[]⟩, .string ⟨#[]⟩, .int .i64 0] 56) = W := ⟨_, rfl⟩
  have hB8 : Blk w8 g8 56 #[.string ⟨#[]⟩, .string ⟨#[]⟩, .int .i64 0] := by rw [← hw8]; exact Blk.new_ (by omega)
  have hb8 : Below w2.heap.size w2 w8 := by rw [← hw8]; exact nw _ (Below.refl _ _)
  have e28 : w2.heap.size = g8 := by omega
  rw [hw8]
  try rw [e28]
  try rw [hg8]
  have HB6 : Hid (∀ W, Below g8 w8 W → Blk W g6 56 #[.string ⟨#[]⟩, .string ⟨#[]⟩, .int .i64 0]) := fun W h => (hB6.below hb8 hB6.lt).below h (by omega)
  have HB18 : Hid (∀ W, Below g8 w8 W → Below w1.heap.size w1 W) := fun W h => (hb2.trans (hb8.mono hb2.size)).trans (h.mono (by omega))
  have hwg6 : w.heap.size ≤ g6 := by omega
  have hw1g8 : w1.heap.size ≤ g8 := by omega
  have hg68 : g6 < g8 := by omega
  have hwg : w.heap.size < g6 := by omega
  have HB8 := Lib.hid hB8
  clear hw8 hb2 hb8 hs2 hg6 hg6e hg8 hB6 hB8 e28 b0 b1 b2 bl
  go_upto_block 0 with fail
  go_cut [9] (fun s9 W => ∃ (i o : ByteArray) (c' m : Int), s9 = .int .i64 m ∧ Hid (Rte s m i o c') ∧ i.size ≤ 6 ∧ o.size ≤ 32 ∧ (0 ≤ c' ∧ c' ≤ 8000) ∧ (0 ≤ m ∧ m < s.n) ∧ Blk W g8 56 #[.string i, .string o, .int .i64 c'] ∧ Below g8 w8 W)
  case first =>
    go_wp2_with fail
    go_loopw [9, 10] (fun mv iv wr => ∃ (k : Nat) (i o : ByteArray) (c' m : Int), k ≤ l.length ∧ k ≤ 8 ∧ iv = .int .i64 (k : Int) ∧ mv = .int .i64 m ∧ Hid (Rte s m i o c') ∧ i.size ≤ 6 ∧ o.size ≤ 4 * k ∧ 0 ≤ c' ∧ c' ≤ 1000 * (k : Int) ∧ (0 ≤ m ∧ m < s.n) ∧ Blk wr g8 56 #[.string i, .string o, .int .i64 c'] ∧ Below g8 w8 wr) (fun _ iv _ => 8 - (intOf iv).toNat)
    case atStart => exact ⟨0, ⟨#[]⟩, ⟨#[]⟩, 0, 0, Nat.zero_le _, Nat.zero_le _, rfl, rfl, Rte.nil, by decide, by decide, by decide, by decide, ⟨by omega, by omega⟩, HB8.out, Below.refl _ _⟩
    case round =>
      obtain ⟨wR, rfl⟩ : ∃ W, W = wr := ⟨wr, rfl⟩
      obtain ⟨k, i, o, c', m, hk, hk8, rfl, rfl, HR, hi6, ho, hc0, hc1, hm, hB, hbr⟩ := hrel
      have HBR := Lib.hid hbr
      have HB8 := Lib.hid hB
      have hgR : g8 ≤ wR.heap.size := Nat.le_of_lt hB.lt
      clear hbr hB
      by_cases hlt : k < l.length
      · have hki : (k : Int) < (l.length : Int) := by omega
        by_cases hlt8 : k < 8
        · have hk8i : (k : Int) < 8 := by omega
          obtain ⟨b0, b1, b2, bl⟩ := HCE.out _ (HB18.out _ HBR.out)
          go_upto_region 5 with fail
          go_cut [32] (fun s32 W => IsBoolV s32 ∧ Below wR.heap.size wR W)
          case first =>
            by_cases hkn : n ≤ (k : Int)
            · go_wp2_with (go_at_call 48; go_loud (refine (raccepts5_any s A c m wR (HS.out.below (bthen HB1.out (HB18.out _ HBR.out))) ⟨by omega, by omega⟩).mono ?_; rintro e W5 ⟨rfl, hb5⟩))
              go_meet
              exact ⟨⟨_, rfl⟩, hb5⟩
            · go_wp2_with fail
              go_meet
              exact ⟨⟨_, rfl⟩, Below.refl _ _⟩
          case rest =>
            obtain ⟨X1, rfl⟩ : ∃ W, W = wc := ⟨wc, rfl⟩
            obtain ⟨⟨bb, rfl⟩, hb1X⟩ := hcut
            have HB8 := Lib.hid (HB8.out.below hb1X HB8.out.lt)
            have HBR : Hid (Below g8 w8 X1) := HBR.out.trans (hb1X.mono hgR)
            clear hb1X b0 b1 b2 bl
            cases hbv : bb with
            | true =>
              go_wp2_with fail
              go_meet
              exact ⟨i, o, c', m, rfl, HR.out, hi6, by omega, ⟨by omega, by omega⟩, hm, HB8.out, HBR.out⟩
            | false =>
              obtain ⟨b0, b1, b2, bl⟩ := HCE.out _ (HB18.out _ HBR.out)
              go_upto_region 7 with fail
              obtain ⟨gf, hgf⟩ : ∃ x, X1.heap.size = x := ⟨_, rfl⟩
              obtain ⟨X2, hX2⟩ : ∃ W, X1.alloc (.cells #[] 3) = W := ⟨_, rfl⟩
              have hb2X : Below X1.heap.size X1 X2 := by rw [← hX2]; exact nw _ (Below.refl _ _)
              have hOW2 : X2.ownsRow gf 3 1 (.slice (some ⟨gf, 0, none⟩) 0 0) 0 (([] : List Int).map (Value.int .i64)) := by rw [← hX2, ← hgf]; exact own_empty X1 _ _ _ (Nat.le_refl _)
              rw [hgf, hX2]
              have hg8f : g8 < gf := by rw [← hgf]; exact HB8.out.lt
              have HB8 := Lib.hid (HB8.out.below hb2X HB8.out.lt)
              have HBR2 : Hid (Below g8 w8 X2) := HBR.out.trans (hb2X.mono (by omega))
              have hgf2 : gf ≤ X2.heap.size := by rw [← hgf]; exact hb2X.size
              have HOW2 := Lib.hid hOW2
              clear hX2 hgf hb2X hOW2 b0 b1 b2 bl
              go_wp2_with fail
              go_loopw [11, 12] (fun fv pv wr => ∃ (p : Nat) (L : List Int) (C : Option Addr) (cc : Nat), p ≤ s.rs.length ∧ pv = .int .i64 (p : Int) ∧ fv = .slice C L.length cc ∧ Hid (FitP s m i L) ∧ Hid (wr.ownsRow gf 3 1 (.slice C L.length cc) L.length (L.map (Value.int .i64))) ∧ L.length ≤ p ∧ Below gf X2 wr ∧ gf ≤ wr.heap.size) (fun _ pv _ => s.rs.length - (intOf pv).toNat)
              case atStart => exact ⟨0, [], some ⟨gf, 0, none⟩, 0, Nat.zero_le _, rfl, rfl, (fun x hx => by cases hx), HOW2.out, Nat.zero_le _, Below.refl _ _, hgf2⟩
              case round =>
                obtain ⟨wQ, rfl⟩ : ∃ W, W = wr := ⟨wr, rfl⟩
                obtain ⟨p, L, C, cc, hp, rfl, rfl, HFP, HOW, hLp, hbq, hgq⟩ := hrel
                have HBQ := Lib.hid hbq
                have HBRQ : Hid (Below g8 w8 wQ) := HBR2.out.trans (hbq.mono (by omega))
                have HB8Q := Lib.hid (HB8.out.below hbq hg8f)
                clear hbq
                obtain ⟨b0, b1, b2, bl⟩ := HCE.out _ (HB18.out _ HBRQ.out)
                by_cases hpl : p < s.rs.length
                · have hpi : (p : Int) < (s.rs.length : Int) := by omega
                  obtain ⟨bb3, off, t, rfl, hbb, hxx, d0, d1, d2, d3, d4⟩ := ((HS.out.below (bthen HB1.out (HB18.out _ HBRQ.out))).sl).ru hpl
                  have hri := (HOK.out.2.2.2.1 t (List.mem_of_getElem? hxx)).2.1.1
                  have c0 := HB8Q.out.cell 0
                  have cl := HB8Q.out.lt
                  simp at c0
                  have HX := Lib.hid hxx
                  have hp0 : (0 : Int) ≤ (p : Int) := by omega
                  clear hxx
                  go_upto_region 10 with fail
                  go_cut [62] (fun s62 W => IsPutB (t.fr = m ∧ i.size + t.inp.size ≤ 6) True s62 ∧ Below wQ.heap.size wQ W)
                  case first =>
                    by_cases hfm : t.fr = m
                    · have hwz : IntKind.i64.wrap ((i.size : Int) + (t.inp.size : Int)) = (i.size : Int) + (t.inp.size : Int) := IntWalk.i64_in _ (by omega)
                      have HFM := Lib.hid hfm
                      have hfm2 : (t.fr == m) = true := by simpa using hfm
                      rw [hfm] at d0
                      clear hfm
                      by_cases hz6 : i.size + t.inp.size ≤ 6
                      · have hz6i : (i.size : Int) + (t.inp.size : Int) ≤ 6 := by omega
                        refine ordB_below (.quiet 0 (.quiet 1 (.quiet 2 (.quiet 3 (.quiet 4 (.quiet 5 (.quiet 6 (.quiet 7 (.quiet 8 (.quiet 9 (.quiet 10 (.quiet 11 (.quiet 12 (.quiet 13 (.quiet 14 (.quiet 15 (.quiet 16 (.quiet 17 (.quiet 18 (.quiet 19 (.quiet 20 (.quiet 21 .done)))))))))))))))))))))) (by kernel_rfl) (by kernel_rfl) (by kernel_rfl) (fun _ _ _ _ _ h => h) ?_
                        intro V0 hV0
                        iterate 22 (first
                          | (refine ordB_skip rfl rfl ?_; simp only [Act.put, List.setIfInBounds_toArray, List.set_cons_zero, List.set_cons_succ])
                          | (refine ordB_take (v := ?_) rfl rfl ?_ ?_
                             rotate_left 1
                             focus (intro W hW; obtain ⟨hcW, hfW⟩ := bcell hW; (go_simp <;> with_reducible rfl))
                             simp only [Act.put, List.setIfInBounds_toArray, List.set_cons_zero, List.set_cons_succ]))
                        refine ordB_nil ?_
                        go_wp2_with fail
                        go_meet
                        exact ⟨.yes ⟨HFM.out, hz6⟩, hV0⟩
                      · have hz6i : ¬ (i.size : Int) + (t.inp.size : Int) ≤ 6 := by omega
                        refine ordB_below (.quiet 0 (.quiet 1 (.quiet 2 (.quiet 3 (.quiet 4 (.quiet 5 (.quiet 6 (.quiet 7 (.quiet 8 (.quiet 9 (.quiet 10 (.quiet 11 (.quiet 12 (.quiet 13 (.quiet 14 (.quiet 15 (.quiet 16 (.quiet 17 (.quiet 18 (.quiet 19 (.quiet 20 (.quiet 21 .done)))))))))))))))))))))) (by kernel_rfl) (by kernel_rfl) (by kernel_rfl) (fun _ _ _ _ _ h => h) ?_
                        intro V0 hV0
                        iterate 22 (first
                          | (refine ordB_skip rfl rfl ?_; simp only [Act.put, List.setIfInBounds_toArray, List.set_cons_zero, List.set_cons_succ])
                          | (refine ordB_take (v := ?_) rfl rfl ?_ ?_
                             rotate_left 1
                             focus (intro W hW; obtain ⟨hcW, hfW⟩ := bcell hW; (go_simp <;> with_reducible rfl))
                             simp only [Act.put, List.setIfInBounds_toArray, List.set_cons_zero, List.set_cons_succ]))
                        refine ordB_nil ?_
                        go_wp2_with fail
                        go_meet
                        exact ⟨.no trivial, hV0⟩
                    · have hfm2 : (t.fr == m) = false := by simpa using hfm
                      refine ordB_below (.quiet 0 (.quiet 1 (.quiet 2 (.quiet 3 (.quiet 4 (.quiet 5 (.quiet 6 (.quiet 7 (.quiet 8 (.quiet 9 (.quiet 10 (.quiet 11 (.quiet 12 (.quiet 13 (.quiet 14 (.quiet 15 (.quiet 16 (.quiet 17 (.quiet 18 (.quiet 19 (.quiet 20 (.quiet 21 .done)))))))))))))))))))))) (by kernel_rfl) (by kernel_rfl) (by kernel_rfl) (fun _ _ _ _ _ h => h) ?_
                      intro V0 hV0
                      iterate 22 (first
                        | (refine ordB_skip rfl rfl ?_; simp only [Act.put, List.setIfInBounds_toArray, List.set_cons_zero, List.set_cons_succ])
                        | (refine ordB_take (v := ?_) rfl rfl ?_ ?_
                           rotate_left 1
                           focus (intro W hW; obtain ⟨hcW, hfW⟩ := bcell hW; (go_simp <;> with_reducible rfl))
                           simp only [Act.put, List.setIfInBounds_toArray, List.set_cons_zero, List.set_cons_succ]))
                      refine ordB_nil ?_
                      go_wp2_with fail
                      go_meet
                      exact ⟨.no trivial, hV0⟩
                  case rest =>
                    obtain ⟨X3, rfl⟩ : ∃ W, W = wc := ⟨wc, rfl⟩
                    obtain ⟨⟨bb, rfl, hyes, _⟩, hb3⟩ := hcut
                    have HYS := Lib.hid hyes
                    have HOW3 := Lib.hid (own_below HOW.out hb3)
                    have HBQ3 : Hid (Below gf X2 X3) := HBQ.out.trans (hb3.mono hgq)
                    have hgq3 : gf ≤ X3.heap.size := Nat.le_trans hgq hb3.size
                    clear hb3 hyes b0 b1 b2 bl d0 d1 d2 d3 d4 hbb c0 cl
                    cases hbv2 : bb with
                    | false =>
                      go_wp2_with fail
                      go_roundw
                      case rel => exact ⟨p + 1, L, C, cc, by omega, by go_num, rfl, HFP.out, HOW3.out, by omega, HBQ3.out, hgq3⟩
                      case measure => simp [intOf]; omega
                    | true =>
                      have HYP := Lib.hid (HYS.out hbv2)
                      go_wp2_with (at_builtin; go_loud (refine wpList_appS5 (enc := fun x => [Value.int .i64 x]) (R := RInt) rfl _ _ 99 rfl gf 3 i0 _ 1 8 Tryz.underlying99 hinf hz0 hz1 hz2 rfl (by decide) (.slice C L.length cc) _ _ rfl (HOW3.out.alloc _) (some ⟨X3.heap.size, 0, none⟩) 1 [(p : Int)] rfl (slr_blkR (enc := fun x => [Value.int .i64 x]) (Blk.new_ rfl) (fun _ => rfl) (fun _ => rfl)) (fun _ _ _ h => h) (fun _ => rfl) ints_one (by simp; omega) (by decide) (by simp; omega) ?_; intro v6 X6 hown6 hb6 ha6; obtain ⟨C6, cc6, rfl⟩ := own_form hown6; have HOW6 : Hid (X6.ownsRow gf 3 1 (.slice C6 (L.length + 1) cc6) (L.length + 1) ((L ++ [(p : Int)]).map (Value.int .i64))) := (by show World.ownsRow _ _ _ _ _ _ _; rw [List.map_append]; exact hown6); have HBX6 : Hid (Below gf X2 X6) := (HBQ3.out.alloc hgq3 (.cells #[.int .i64 (p : Int)] 3)).trans hb6; have hgq6 : gf ≤ X6.heap.size := (by have := hb6.size; simp at this; omega); clear hown6 hb6 ha6))
                      go_roundw
                      case rel => exact ⟨p + 1, L ++ [(p : Int)], C6, cc6, by omega, by go_num, by simp, HFP.out.snoc HX.out HYP.out.1 HYP.out.2, (by show World.ownsRow _ _ _ _ _ _ _; simpa using HOW6.out), by simp; omega, HBX6.out, hgq6⟩
                      case measure => simp [intOf]; omega
                · obtain rfl : p = s.rs.length := by omega
                  have hpi : ¬ ((s.rs.length : Nat) : Int) < (s.rs.length : Int) := by omega
                  by_cases hz0 : L.length = 0
                  · have hzi : (L.length : Int) = 0 := by omega
                    go_wp2_with fail
                    go_meet
                    exact ⟨i, o, c', m, rfl, HR.out, hi6, by omega, ⟨by omega, by omega⟩, hm, HB8Q.out, HBRQ.out⟩
                  · have hzi : ¬ (L.length : Int) = 0 := by omega
                    have hzn : ¬ L.length = 0 := hz0
                    obtain ⟨bl8, ol8, x8, rfl, hbl8, hx8, e0⟩ := (HY.out.below keeps_u8 (bthen HB1.out (HB18.out _ HBRQ.out))).u8 hlt
                    have hx88 := HL8.out x8 (List.mem_of_getElem? hx8)
                    obtain ⟨z, hz⟩ : ∃ z : Nat, x8 % (L.length : Int) = (z : Int) := ⟨(x8 % (L.length : Int)).toNat, by have := Int.emod_nonneg x8 hzi; omega⟩
                    have hzl : z < L.length := by have := Int.emod_lt_of_pos x8 (show (0 : Int) < (L.length : Int) by omega); omega
                    have htm : x8.tmod (L.length : Int) = (z : Int) := by rw [Int.tmod_eq_emod_of_nonneg hx88.1]; exact hz
                    have hw8 : IntKind.i64.wrap x8 = x8 := IntWalk.i64_in _ (by omega)
                    have hwz : IntKind.i64.wrap (z : Int) = (z : Int) := IntWalk.i64_in _ (by omega)
                    have hzI : (z : Int) < (L.length : Int) := by omega
                    have hz0' : (0 : Int) ≤ (z : Int) := by omega
                    obtain ⟨C9, c9, he9, _, _, hst⟩ := own_slt HOW.out rfl
                    obtain rfl : C = C9 := by injection he9
                    obtain ⟨bL, oL, y, rfl, hbL, hyy, f0⟩ := hst.slr.int (k := z) hzl
                    obtain ⟨q, t, rfl, hq, hfr, hsz6⟩ := HFP.out y (List.mem_of_getElem? hyy)
                    have hql : q < s.rs.length := (List.getElem?_eq_some_iff.1 hq).1
                    obtain ⟨b5, o5, t', rfl, hb5, ht', d0, d1, d2, d3, d4⟩ := ((HS.out.below (bthen HB1.out (HB18.out _ HBRQ.out))).sl).ru hql
                    obtain rfl : t = t' := Option.some.inj (hq.symm.trans ht')
                    have hru := HOK.out.2.2.2.1 t (List.mem_of_getElem? hq)
                    have hti := hru.2.1.1
                    have hto := hru.2.2.1.1
                    have htc := hru.2.2.2
                    have htt := hru.1.2
                    have HT : Hid (s.rs[q]? = some t ∧ t.fr = m) := ⟨hq, hfr⟩
                    have HSZ : Hid (i.size + t.inp.size ≤ 6) := hsz6
                    have hqi : (q : Int) < (s.rs.length : Int) := by omega
                    have hq0 : (0 : Int) ≤ (q : Int) := by omega
                    clear hq hfr hsz6 ht' hru hyy hx8 hz hst he9
                    go_upto_region 13 with fail
                    go_cut [13] (fun s13 W => ∃ g13 : Nat, s13 = .pointer (some ⟨g13, 0, none⟩) ∧ wQ.heap.size ≤ g13 ∧ Blk W g13 61 #[.int .i64 t.fr, .int .i64 t.to, .string t.inp, .string t.out, .int .i64 t.co] ∧ Below wQ.heap.size wQ W)
                    case first =>
                      refine ordB_below (.quiet 0 (.quiet 1 (.quiet 2 (.quiet 3 (.quiet 4 (.quiet 5 (.quiet 6 (.quiet 7 (.quiet 8 (.quiet 9 (.quiet 10 (.quiet 11 (.quiet 12 (.quiet 13 (.quiet 14 (.only 15 (.only 16 .done))))))))))))))))) (by kernel_rfl) (by kernel_rfl) (by kernel_rfl) (fun _ _ _ _ _ h => h) ?_
                      intro V0 hV0
                      iterate 15 (first
                        | (refine ordB_skip rfl rfl ?_; simp only [Act.put, List.setIfInBounds_toArray, List.set_cons_zero, List.set_cons_succ])
                        | (refine ordB_take (v := ?_) rfl rfl ?_ ?_
                           rotate_left 1
                           focus (intro W hW; obtain ⟨hcW, hfW⟩ := bcell hW; (go_simp <;> with_reducible rfl))
                           simp only [Act.put, List.setIfInBounds_toArray, List.set_cons_zero, List.set_cons_succ]))
                      refine ordB_only (opB_call rfl rfl (fun K hK => ?_))
                      go_simp
                      refine hK.out _ _ (hV0.alloc hV0.size _) (fun hV0_1 => ?_)
                      have R := Blk.new V0 61 #[.int .i64 0, .int .i64 0, .string ⟨#[]⟩, .string ⟨#[]⟩, .int .i64 0]
                      have Rb := nw (.cells #[.int .i64 0, .int .i64 0, .string ⟨#[]⟩, .string ⟨#[]⟩, .int .i64 0] 61) (Below.refl V0.heap.size V0)
                      have Rg := hV0.size
                      obtain ⟨V0_1, qqV0_1⟩ : ∃ W', V0.alloc (.cells #[.int .i64 0, .int .i64 0, .string ⟨#[]⟩, .string ⟨#[]⟩, .int .i64 0] 61) = W' := ⟨_, rfl⟩
                      rw [qqV0_1] at hV0_1 R Rb ⊢
                      clear qqV0_1 Rb
                      refine ordB_only (opB_call rfl rfl (fun K hK => ?_))
                      have Rc0 := R.cell 0
                      have Rf0 := R.frozen 0
                      have Rc1 := R.cell 1
                      have Rf1 := R.frozen 1
                      have Rc2 := R.cell 2
                      have Rf2 := R.frozen 2
                      have Rc3 := R.cell 3
                      have Rf3 := R.frozen 3
                      have Rc4 := R.cell 4
                      have Rf4 := R.frozen 4
                      simp at Rc0 Rc1 Rc2 Rc3 Rc4
                      go_simp
                      refine hK.out _ _ (((((hV0_1.setCell (p := ⟨V0.heap.size, 0, none⟩) Rg _).setCell (p := ⟨V0.heap.size, 1, none⟩) Rg _).setCell (p := ⟨V0.heap.size, 2, none⟩) Rg _).setCell (p := ⟨V0.heap.size, 3, none⟩) Rg _).setCell (p := ⟨V0.heap.size, 4, none⟩) Rg _) (fun hV0_1_2 => ?_)
                      have R := (((((R.set_ 0 (.int .i64 t.fr)).set_ 1 (.int .i64 t.to)).set_ 2 (.string t.inp)).set_ 3 (.string t.out)).set_ 4 (.int .i64 t.co))
                      obtain ⟨V0_1_2, qqV0_1_2⟩ : ∃ W', (((((V0_1.setCell ⟨V0.heap.size, 0, none⟩ (.int .i64 t.fr)).setCell ⟨V0.heap.size, 1, none⟩ (.int .i64 t.to)).setCell ⟨V0.heap.size, 2, none⟩ (.string t.inp)).setCell ⟨V0.heap.size, 3, none⟩ (.string t.out)).setCell ⟨V0.heap.size, 4, none⟩ (.int .i64 t.co)) = W' := ⟨_, rfl⟩
                      rw [qqV0_1_2] at hV0_1_2 R  ⊢
                      clear qqV0_1_2 Rc0 Rf0 Rc1 Rf1 Rc2 Rf2 Rc3 Rf3 Rc4 Rf4
                      refine ordB_nil ?_
                      go_wp2_with fail
                      go_meet
                      exact ⟨_, rfl, hV0.size, R, hV0_1_2⟩
                    case rest =>
                      obtain ⟨X3, rfl⟩ : ∃ W, W = wc := ⟨wc, rfl⟩
                      obtain ⟨g13, rfl, hg13, hB13, hb3⟩ := hcut
                      have HB8 := Lib.hid (HB8Q.out.below hb3 HB8Q.out.lt)
                      have hgQ : g8 ≤ wQ.heap.size := Nat.le_of_lt HB8Q.out.lt
                      have HBX : Hid (Below g8 w8 X3) := HBRQ.out.trans (hb3.mono hgQ)
                      have hg3s : g8 < X3.heap.size := HB8.out.lt
                      have c0 := HB8.out.cell 0
                      have c1 := HB8.out.cell 1
                      have c2 := HB8.out.cell 2
                      have cl := HB8.out.lt
                      have p1 := hB13.cell 1
                      have p2 := hB13.cell 2
                      have p3 := hB13.cell 3
                      have p4 := hB13.cell 4
                      have pl := hB13.lt
                      simp at c0 c1 c2 p1 p2 p3 p4
                      have hwc : IntKind.i64.wrap (c' + t.co) = c' + t.co := IntWalk.i64_in _ (by omega)
                      have hlt1 : ¬ 9223372036854775807 < i.size + t.inp.size := by omega
                      have hlt2 : ¬ 9223372036854775807 < o.size + t.out.size := by omega
                      have hne13 : ¬ g13 = g8 := by have := HB8Q.out.lt; omega
                      clear hb3 hB13 b0 b1 b2 bl d0 d1 d2 d3 d4 hb5 f0 hbL e0 hbl8
                      go_wp2_with fail
                      refine ordV_start (fun W => Below X3.heap.size X3 W) (ButB g8 X3) [18, 20, 22] [(0, none), (1, some false), (2, none), (3, none), (4, none), (5, none), (6, some false), (7, none), (8, none), (9, none), (10, none), (11, some false), (12, none), (13, none), (14, none), (15, none), (16, none), (17, none), (18, some true), (19, none), (20, some true), (21, none), (22, some true), (23, none)] (by kernel_rfl) (by kernel_rfl) (by kernel_rfl) (fun _ _ _ _ _ h => h) (ButB.of_below (Below.refl _ _).drew) ?_
                      have HD : Below X3.heap.size X3 X3.drew := (Below.refl _ _).drew
                      obtain ⟨Wd, hWd⟩ : ∃ Wd, X3.drew = Wd := ⟨_, rfl⟩
                      rw [hWd] at HD ⊢
                      clear hWd
                      refine ordV_takeR (v := ?_) rfl rfl ?_ ?_; rotate_left 1; (focus (intro W hW; have hcW := hW.cell; (go_simp <;> with_reducible rfl))); (try simp only [Act.put, List.setIfInBounds_toArray, List.set_cons_zero, List.set_cons_succ])
                      refine ordV_takeS (v := ?_) rfl rfl HD ?_ ?_; rotate_left 1; (focus (intro W hW; obtain ⟨hcW, hfW⟩ := bcell hW; (go_simp <;> with_reducible rfl))); simp only [Act.put, List.setIfInBounds_toArray, List.set_cons_zero, List.set_cons_succ]
                      refine ordV_takeR (v := ?_) rfl rfl ?_ ?_; rotate_left 1; (focus (intro W hW; have hcW := hW.cell; (go_simp <;> with_reducible rfl))); (try simp only [Act.put, List.setIfInBounds_toArray, List.set_cons_zero, List.set_cons_succ])
                      refine ordV_takeR (v := ?_) rfl rfl ?_ ?_; rotate_left 1; (focus (intro W hW; have hcW := hW.cell; (go_simp <;> with_reducible rfl))); (try simp only [Act.put, List.setIfInBounds_toArray, List.set_cons_zero, List.set_cons_succ])
                      refine ordV_takeR (v := ?_) rfl rfl ?_ ?_; rotate_left 1; (focus (intro W hW; have hcW := hW.cell; (go_simp <;> with_reducible rfl))); (try simp only [Act.put, List.setIfInBounds_toArray, List.set_cons_zero, List.set_cons_succ])
                      refine ordV_takeR (v := ?_) rfl rfl ?_ ?_; rotate_left 1; (focus (intro W hW; have hcW := hW.cell; (go_simp <;> with_reducible rfl))); (try simp only [Act.put, List.setIfInBounds_toArray, List.set_cons_zero, List.set_cons_succ])
                      refine ordV_takeS (v := ?_) rfl rfl HD ?_ ?_; rotate_left 1; (focus (intro W hW; obtain ⟨hcW, hfW⟩ := bcell hW; (go_simp <;> with_reducible rfl))); simp only [Act.put, List.setIfInBounds_toArray, List.set_cons_zero, List.set_cons_succ]
                      refine ordV_takeR (v := ?_) rfl rfl ?_ ?_; rotate_left 1; (focus (intro W hW; have hcW := hW.cell; (go_simp <;> with_reducible rfl))); (try simp only [Act.put, List.setIfInBounds_toArray, List.set_cons_zero, List.set_cons_succ])
                      refine ordV_takeR (v := ?_) rfl rfl ?_ ?_; rotate_left 1; (focus (intro W hW; have hcW := hW.cell; (go_simp <;> with_reducible rfl))); (try simp only [Act.put, List.setIfInBounds_toArray, List.set_cons_zero, List.set_cons_succ])
                      refine ordV_takeR (v := ?_) rfl rfl ?_ ?_; rotate_left 1; (focus (intro W hW; have hcW := hW.cell; (go_simp <;> with_reducible rfl))); (try simp only [Act.put, List.setIfInBounds_toArray, List.set_cons_zero, List.set_cons_succ])
                      refine ordV_takeR (v := ?_) rfl rfl ?_ ?_; rotate_left 1; (focus (intro W hW; have hcW := hW.cell; (go_simp <;> with_reducible rfl))); (try simp only [Act.put, List.setIfInBounds_toArray, List.set_cons_zero, List.set_cons_succ])
                      refine ordV_takeS (v := ?_) rfl rfl HD ?_ ?_; rotate_left 1; (focus (intro W hW; obtain ⟨hcW, hfW⟩ := bcell hW; (go_simp <;> with_reducible rfl))); simp only [Act.put, List.setIfInBounds_toArray, List.set_cons_zero, List.set_cons_succ]
                      refine ordV_takeR (v := ?_) rfl rfl ?_ ?_; rotate_left 1; (focus (intro W hW; have hcW := hW.cell; (go_simp <;> with_reducible rfl))); (try simp only [Act.put, List.setIfInBounds_toArray, List.set_cons_zero, List.set_cons_succ])
                      refine ordV_takeR (v := ?_) rfl rfl ?_ ?_; rotate_left 1; (focus (intro W hW; have hcW := hW.cell; (go_simp <;> with_reducible rfl))); (try simp only [Act.put, List.setIfInBounds_toArray, List.set_cons_zero, List.set_cons_succ])
                      refine ordV_takeR (v := ?_) rfl rfl ?_ ?_; rotate_left 1; (focus (intro W hW; have hcW := hW.cell; (go_simp <;> with_reducible rfl))); (try simp only [Act.put, List.setIfInBounds_toArray, List.set_cons_zero, List.set_cons_succ])
                      refine ordV_takeR (v := ?_) rfl rfl ?_ ?_; rotate_left 1; (focus (intro W hW; have hcW := hW.cell; (go_simp <;> with_reducible rfl))); (try simp only [Act.put, List.setIfInBounds_toArray, List.set_cons_zero, List.set_cons_succ])
                      refine ordV_takeR (v := ?_) rfl rfl ?_ ?_; rotate_left 1; (focus (intro W hW; have hcW := hW.cell; (go_simp <;> with_reducible rfl))); (try simp only [Act.put, List.setIfInBounds_toArray, List.set_cons_zero, List.set_cons_succ])
                      refine ordV_takeR (v := ?_) rfl rfl ?_ ?_; rotate_left 1; (focus (intro W hW; have hcW := hW.cell; (go_simp <;> with_reducible rfl))); (try simp only [Act.put, List.setIfInBounds_toArray, List.set_cons_zero, List.set_cons_succ])
                      have hBd := HB8.out.below HD HB8.out.lt
                      have d0 := hBd.cell 0
                      have d1 := hBd.cell 1
                      have d2 := hBd.cell 2
                      have df0 := hBd.frozen 0
                      have df1 := hBd.frozen 1
                      have df2 := hBd.frozen 2
                      have dl := hBd.lt
                      simp at d0 d1 d2
                      refine ordV_call rfl rfl (fun K hK => ?_)
                      go_simp
                      refine hK.out _ _ ((ButB.of_below (g := g8) HD).set_ 0 (.string (i ++ t.inp))) (fun _ h => by cases h) ?_
                      clear hK K
                      try simp only [Act.put, List.setIfInBounds_toArray, List.set_cons_zero, List.set_cons_succ]
                      refine ordV_takeR (v := ?_) rfl rfl ?_ ?_; rotate_left 1; (focus (intro W hW; have hcW := hW.cell; (go_simp <;> with_reducible rfl))); (try simp only [Act.put, List.setIfInBounds_toArray, List.set_cons_zero, List.set_cons_succ])
                      refine ordV_call rfl rfl (fun K hK => ?_)
                      go_simp
                      refine hK.out _ _ (((ButB.of_below (g := g8) HD).set_ 0 (.string (i ++ t.inp))).set_ 1 (.string (o ++ t.out))) (fun _ h => by cases h) ?_
                      clear hK K
                      try simp only [Act.put, List.setIfInBounds_toArray, List.set_cons_zero, List.set_cons_succ]
                      refine ordV_takeR (v := ?_) rfl rfl ?_ ?_; rotate_left 1; (focus (intro W hW; have hcW := hW.cell; (go_simp <;> with_reducible rfl))); (try simp only [Act.put, List.setIfInBounds_toArray, List.set_cons_zero, List.set_cons_succ])
                      refine ordV_call rfl rfl (fun K hK => ?_)
                      go_simp
                      refine hK.out _ _ ((((ButB.of_below (g := g8) HD).set_ 0 (.string (i ++ t.inp))).set_ 1 (.string (o ++ t.out))).set_ 2 (.int .i64 (c' + t.co))) (fun _ h => by cases h) ?_
                      clear hK K
                      try simp only [Act.put, List.setIfInBounds_toArray, List.set_cons_zero, List.set_cons_succ]
                      refine ordV_takeR (v := ?_) rfl rfl ?_ ?_; rotate_left 1; (focus (intro W hW; have hcW := hW.cell; (go_simp <;> with_reducible rfl))); (try simp only [Act.put, List.setIfInBounds_toArray, List.set_cons_zero, List.set_cons_succ])
                      refine ordV_nil ?_
                      have hBE := ((hBd.set_ 0 (.string (i ++ t.inp))).set_ 1 (.string (o ++ t.out))).set_ 2 (.int .i64 (c' + t.co))
                      have hbE := (((HBX.out.trans (HD.mono (by omega))).setCell (p := ⟨g8, 0, none⟩) (Nat.le_refl _) (.string (i ++ t.inp))).setCell (p := ⟨g8, 1, none⟩) (Nat.le_refl _) (.string (o ++ t.out))).setCell (p := ⟨g8, 2, none⟩) (Nat.le_refl _) (.int .i64 (c' + t.co))
                      obtain ⟨XE, hXE⟩ : ∃ W, ((Wd.setCell ⟨g8, 0, none⟩ (.string (i ++ t.inp))).setCell ⟨g8, 1, none⟩ (.string (o ++ t.out))).setCell ⟨g8, 2, none⟩ (.int .i64 (c' + t.co)) = W := ⟨_, rfl⟩
                      rw [hXE] at hBE hbE ⊢
                      clear hXE
                      have HBE : Hid (Blk XE g8 56 #[.string (i ++ t.inp), .string (o ++ t.out), .int .i64 (c' + t.co)]) := by show Blk _ _ _ _; simpa using hBE
                      have HbE := Lib.hid hbE
                      clear hBE hbE hBd d0 d1 d2 df0 df1 df2 dl HD
                      go_wp2_with fail
                      go_roundw
                      case rel => exact ⟨k + 1, i ++ t.inp, o ++ t.out, c' + t.co, t.to, by omega, by omega, by go_num, (by first | rfl | trivial), Rte.snoc HR.out (List.mem_of_getElem? HT.out.1) HT.out.2, (by rw [ByteArray.size_append]; exact HSZ.out), (by rw [ByteArray.size_append]; omega), by omega, by omega, ⟨by omega, by omega⟩, HBE.out, HbE.out⟩
                      case measure => simp [intOf]; omega
        · have hk8i : ¬ (k : Int) < 8 := by omega
          go_wp2_with fail
          go_meet
          exact ⟨i, o, c', m, rfl, HR.out, hi6, by omega, ⟨by omega, by omega⟩, hm, HB8.out, HBR.out⟩
      · have hki : ¬ (k : Int) < (l.length : Int) := by omega
        go_wp2_with fail
        go_meet
        exact ⟨i, o, c', m, rfl, HR.out, hi6, by omega, ⟨by omega, by omega⟩, hm, HB8.out, HBR.out⟩
  case rest =>
    obtain ⟨WA, rfl⟩ : ∃ W, W = wc := ⟨wc, rfl⟩
    obtain ⟨i, o, c', m, rfl, HR, hi6, ho, hc, hm, hB, hbr⟩ := hcut
    have HB6 := Lib.hid (HB6.out _ hbr)
    have HBWA := Lib.hid (bthen HB1.out (HB18.out _ hbr))
    obtain ⟨b0, b1, b2, bl⟩ := HCE.out _ (HB18.out _ hbr)
    have c0 := hB.cell 0
    have c1 := hB.cell 1
    have c2 := hB.cell 2
    have cl := hB.lt
    simp at c0 c1 c2
    have hne8 : g8 ≠ g6 := by omega
    have hne0 : w.heap.size ≠ g6 := by omega
    clear hB hbr
    go_wp2_with fail
    refine ordV_start (fun _ => True) (ButB g6 WA) [4] [(0, none), (1, none), (2, none), (3, some true), (4, some true), (5, none)] (by kernel_rfl) (by kernel_rfl) (by kernel_rfl) (fun _ _ _ _ _ h => h) (ButB.of_below (Below.refl _ _).drew) ?_
    have HD : Below WA.heap.size WA WA.drew := (Below.refl _ _).drew
    obtain ⟨Wd, hWd⟩ : ∃ Wd, WA.drew = Wd := ⟨_, rfl⟩
    rw [hWd] at HD ⊢
    clear hWd
    iterate 3 (refine ordV_takeR (v := ?_) rfl rfl ?_ ?_; rotate_left 1; (focus (intro W hW; have hcW := hW.cell; (go_simp <;> (try with_reducible rfl)))); (try simp only [Act.put, List.setIfInBounds_toArray, List.set_cons_zero, List.set_cons_succ]))
    refine ordV_call rfl rfl (fun K hK => ?_)
    go_simp
    go_at_call 48
    refine (raccepts5_any s A c m Wd (HS.out.below (bthen HBWA.out HD)) ⟨by omega, by omega⟩).mono ?_
    rintro e W5 ⟨rfl, hb5⟩
    have HD5 := HD.trans (hb5.mono HD.size)
    refine hK.out _ _ (ButB.of_below HD5) (fun _ _ => trivial) ?_
    clear hK K
    try simp only [Act.put, List.setIfInBounds_toArray, List.set_cons_zero, List.set_cons_succ]
    have hBr := HB6.out.below HD5 HB6.out.lt
    have d0 := hBr.cell 0
    have d1 := hBr.cell 1
    have d2 := hBr.cell 2
    have df0 := hBr.frozen 0
    have df1 := hBr.frozen 1
    have df2 := hBr.frozen 2
    have dl := hBr.lt
    simp at d0 d1 d2
    refine ordV_call rfl rfl (fun K hK => ?_)
    go_simp
    refine hK.out _ _ ((((ButB.of_below HD5).set_ 0 _).set_ 1 _).set_ 2 _) (fun _ _ => trivial) ?_
    clear hK K
    try simp only [Act.put, List.setIfInBounds_toArray, List.set_cons_zero, List.set_cons_succ]
    iterate 1 (refine ordV_takeR (v := ?_) rfl rfl ?_ ?_; rotate_left 1; (focus (intro W hW; (go_simp <;> (try with_reducible rfl)))); (try simp only [Act.put, List.setIfInBounds_toArray, List.set_cons_zero, List.set_cons_succ]))
    refine ordV_nil ?_
    go_wp2_with fail
    (try simp only [Exit.inBlock, Exit.then])
    refine ret_cell_tmp (t := 56) (cs := #[.string i, .string o, .int .i64 c']) (((hBr.set_ 0 (.string i)).set_ 1 (.string o)).set_ 2 (.int .i64 c')) rfl rfl Tryz.underlying56 rfl (by kernel_rfl) rfl ?_
    exact ⟨⟨i, o, c', m, rfl, HR.out, hi6, by omega, by omega⟩, (((bthen HBWA.out HD5).setCell (p := ⟨g6, 0, none⟩) hwg6 _).setCell (p := ⟨g6, 1, none⟩) hwg6 _).setCell (p := ⟨g6, 2, none⟩) hwg6 _⟩
end Go.Proofs.YtfpnhgahkjglgaaGreat

/-
  What the laws of layer 05 say of sound schemes. Plain laws. No conditions.
-/
namespace Go.Proofs.YtfpnhgahkjglgaaGreat
open Go Go.RowKit

theorem IsSnd.parts {s : Sc} {e : Ending} (h : IsSnd s e) : (e = .returned (.bool true) ∧ soundE s = 0) ∨ (e = .returned (.bool false) ∧ ¬ soundE s = 0) := by
  obtain ⟨b, h1, h2⟩ := h
  cases b with
  | true => exact .inl ⟨h1, h2.1 rfl⟩
  | false => exact .inr ⟨h1, fun h => by have := h2.2 h; cases this⟩
theorem rte_let {s : Sc} (hok : ScOK s) {m : Int} {i o : ByteArray} {c : Int} (h : Rte s m i o c) (hi : i.size ≤ 40) : letB i = true := letB_iff.2 ⟨hi, rte_small hok h⟩
end Go.Proofs.YtfpnhgahkjglgaaGreat

/-
  Arguments opened: a slice reads as a list of things, whatever memory it lies in; the row's last step where old memory is left alone.
-/
namespace Go.Proofs.YtfpnhgahkjglgaaGreat
open Go Go.RowKit Go.ChangeShapes Go.WideShapes

theorem Tryz.own : ownKnob Tryz.prog.godebug = none := by kernel_rfl
theorem Tryz.laidOut : laidOutB Tryz.prog = true := by kernel_rfl

section
variable {H : Type} {enc : TypeId × Value → H} {P : Program} {w : World} {base : Nat} {spare : Nat → Bool} {held : Bool}
theorem list_choose {α : Type} {p : Nat → α → Prop} : ∀ (n : Nat), (∀ i, i < n → ∃ x, p i x) → ∃ xs : List α, xs.length = n ∧ ∀ i x, xs[i]? = some x → p i x
  | 0, _ => ⟨[], rfl, fun i x h => by simp at h⟩
  | n + 1, h => by
    obtain ⟨xs, hl, hp⟩ := list_choose n (fun i hi => h i (by omega))
    obtain ⟨x, hx⟩ := h n (by omega)
    refine ⟨xs ++ [x], by simp [hl], fun i y hy => ?_⟩
    rcases Nat.lt_or_ge i n with hi | hi
    · rw [List.getElem?_append_left (by omega)] at hy; exact hp i y hy
    · obtain ⟨hlt, _⟩ := List.getElem?_eq_some_iff.1 hy
      have : i = n := by simp [hl] at hlt; omega
      subst this
      rw [List.getElem?_append_right (by omega), hl] at hy
      simp at hy
      subst hy
      exact hx
/-- A slice that an argument holds reads as a list. -/
theorem open_slr {α : Type} {R : World → α → List Value → Prop} {t e : TypeId} {s fuel : Nat} {cs : List Value} {X : DataW H × List MemPlace} (ht : P.underlying t = some (.slice e)) (hc : P.cellsOf e = s) (hs : 0 < s)
    (hel : ∀ (n : Nat) (cs : List Value) (y : DataW H × List MemPlace), DataW.trod enc P w base spare held n e cs = some y → cs.length = s → ∃ x : α, R w x cs)
    (h : DataW.trod enc P w base spare held fuel t cs = some X) : ∃ (A : Option Addr) (len cap : Nat) (xs : List α), cs = [.slice A len cap] ∧ xs.length = len ∧ len ≤ cap ∧ cap ≤ maxLen ∧ SlR s R w A xs := by
  rcases Go.Deep.open_slice ht h with ⟨rfl, _⟩ | ⟨a, len, cap, m, n, D, Pl, rfl, hb, hl, hm, hmm, _, hx⟩
  · exact ⟨none, 0, 0, [], rfl, rfl, Nat.le_refl _, Nat.zero_le _, SlR.nil⟩
  · have hlm : len ≤ m := by rw [hmm]; split <;> omega
    subst hc
    obtain ⟨xs, hxl, hxs⟩ := list_choose (p := fun i x => ∃ cs', w.cells? base (a.add (i * P.cellsOf e)) (P.cellsOf e) = some cs' ∧ R w x cs') len (fun i hi => by
      obtain ⟨cs', h1, h2⟩ := hx i (by omega)
      obtain ⟨x, hx⟩ := hel _ _ _ h2 (World.cells?_some h1).2.1
      exact ⟨x, cs', h1, hx⟩)
    refine ⟨some a, len, cap, xs, rfl, hxl, hl, hm, fun hne => ?_⟩
    have hcell : ∀ i x, xs[i]? = some x → ∃ vs, R w x vs ∧ vs.length = P.cellsOf e ∧ ∀ j v, vs[j]? = some v → w.cell? (a.add (i * P.cellsOf e + j)) = some v := fun i x hi => by
      obtain ⟨cs', h1, h2⟩ := hxs i x hi
      obtain ⟨_, hcl, hat⟩ := World.cells?_some h1
      refine ⟨cs', h2, hcl, fun j v hj => ?_⟩
      obtain ⟨hjl, _⟩ := List.getElem?_eq_some_iff.1 hj
      have := hat j (by omega)
      rw [Go.Deep.add_add] at this
      rw [this]; exact hj
    obtain ⟨x0, hx0⟩ : ∃ x, xs[0]? = some x := ⟨xs[0]'(List.length_pos_iff.2 hne), List.getElem?_eq_getElem _⟩
    obtain ⟨vs, _, hvl, hv⟩ := hcell 0 x0 hx0
    obtain ⟨v0, hv0⟩ : ∃ v, vs[0]? = some v := ⟨vs[0]'(by omega), List.getElem?_eq_getElem _⟩
    have h0 := hv 0 v0 hv0
    simp only [Nat.zero_mul, Nat.zero_add] at h0
    have ha0 : a.add 0 = a := by unfold Addr.add; simp
    rw [ha0] at h0
    rcases a with ⟨b, o, sp⟩
    cases sp with
    | some _ =>
      unfold World.cell? at h0
      dsimp only at h0
      split at h0 <;> simp at h0
    | none =>
      refine ⟨b, o, rfl, ?_, fun k x hk => ?_⟩
      · rcases Nat.lt_or_ge b w.heap.size with h | h
        · exact h
        · unfold World.cell? at h0; dsimp only at h0; rw [Array.getElem?_eq_none h] at h0; cases h0
      · obtain ⟨vs, h1, h2, h3⟩ := hcell k x hk
        refine ⟨vs, h1, h2, fun j v hj => ?_⟩
        have := h3 j v hj
        have e : (Addr.mk b o none).add (k * P.cellsOf e + j) = ⟨b, o + k * P.cellsOf e + j, none⟩ := by unfold Addr.add; split <;> simp_all [Nat.add_assoc]
        rw [e] at this
        exact this
/-- The row's last step: the call left old memory alone. -/
theorem post_of_below {f : Func} {s : ChangeSpec} {apart fresh handsOn again : Bool} {W W' : World} {args : Array Value} {v : Value} {ds gs : List (DataW H)} {before pa pv : List MemPlace}
    (hW : DataW.Whole enc P f.params.toList s.vars apart W args.toList ds gs before)
    (hres : ∀ (b : Nat) (sp : Nat → Bool) (hd : Bool), DataW.TrodAll enc P W' b sp hd f.resultTypes.toList (v.resultList f.resultTypes.size) (s.fn H (ds ++ gs)).results [])
    (hargs : ∀ sp : Nat → Bool, (∀ p ∈ before, sp p.block = true) → DataW.TrodAll enc P W' 0 sp true f.params.toList args.toList (s.fn H (ds ++ gs)).args pa)
    (hvars : ∀ sp : Nat → Bool, (∀ p ∈ before, sp p.block = true) → DataW.TrodVars enc P W' sp s.vars (s.fn H (ds ++ gs)).vars pv)
    (hps : before = pa ++ pv) (hb : Below W.heap.size W W')
    (hok : ∀ (j : Nat) (t : TypeId) (r : Value), f.resultTypes[j]? = some t → (v.resultList f.resultTypes.size)[j]? = some r → Value.okWide P W' .any 0 t r) :
    s.post enc P f apart fresh handsOn again W args v W' := by
  have hlt : ∀ p ∈ before, p.block < W.heap.size := fun p hp => hW.lt p hp
  have hold : ∀ p ∈ before, (fun b => decide (b < W.heap.size)) p.block = true := fun p hp => by simpa using hlt p hp
  refine ⟨ds, gs, before, [], pa, pv, hW, hres _ _ _, hargs _ hold, hvars _ hold, World.keptBut_mono (fun p hp => ⟨hp, ?_⟩) (hb.frame (· ∈ before)), fun _ => ?_⟩
  · rw [hps, List.mem_append] at hp
    exact Or.inr hp
  · obtain ⟨_, _, _, _, _, hz, hn⟩ := hW
    refine ⟨hok, _, _, ([] ++ pa) ++ pv, ⟨[] ++ pa, pv, trodAll_append (hargs _ (fun _ _ => rfl)) (hres _ _ _), hvars _ (fun _ _ => rfl), rfl, ?_, ?_⟩, ?_⟩
    · intro b off hp
      have hin : MemPlace.cell b off ∈ before := by rw [hps]; simpa using hp
      rw [hb.frozen (hlt _ hin)]
      exact hz b off hin
    · intro ha
      have := hn ha
      rw [hps] at this
      simpa using this
    · intro p hp _
      rw [hps]
      simpa using hp
theorem below_trod {t : TypeId} {W W' : World} {v : Value} {d : DataW H} {ps : List MemPlace} {sp : Nat → Bool} (hr : Tryz.prog.readableRec t = true) (hrow : t < Tryz.prog.types.size) (h : DataW.Trod enc Tryz.prog W 0 (fun _ => true) true t v d ps)
    (hb : Below W.heap.size W W') (hlt : ∀ x ∈ ps, x.block < W.heap.size) (hsp : ∀ x ∈ ps, sp x.block = true) : DataW.Trod enc Tryz.prog W' 0 sp true t v d ps :=
  WideElems.Trod_stays Tryz.laidOut hr hrow h (fun x hx => hb.same (hlt x hx)) hsp
end
end Go.Proofs.YtfpnhgahkjglgaaGreat
