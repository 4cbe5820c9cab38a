/-
  CostWalkN, CostWalkP, CostWalkQ, CostWalkR, CostWalkS, joined. No conditions.
-/
import Derived.Test.YtfjkmgjjifhdkaaGreatR01
import Derived.Test.YtfjkmgjjifhdkaaGreatR27
import Derived.Test.YtfjkmgjjifhdkaaGreatR02
import Derived.WalkSpells
import Derived.Lib.Overlaps
import Derived.Lib.AppendZerosOnto
import Derived.Lib.AppendZeros
import Derived.Laws.IdiomCopy
import Derived.Laws.Externs
import Derived.Lib.JoinLaws
import Derived.Lib.SliceRun
import Derived.RegionTactic
import Derived.Deep.RegionLaw
import Derived.Shelf.Spec.SlicesInsert
import Derived.Shelf.RegionOpenPlain
/-
  The walks of layer 11: a pair put into an increasing list (the reference).
-/
namespace Go.Proofs.YtfjkmgjjifhdkaaGreat
open Go Go.RowKit

def encP (x : Pr) : List Value := [.int .i64 x.a, .int .i64 x.b, .int .i64 x.n]
def addStep (p : Pr) (st : List Pr × Bool) (q : Pr) : List Pr × Bool :=
  if !st.2 && lessP p q then (st.1 ++ [p] ++ [q], true)
  else if q.a = p.a ∧ q.b = p.b then (st.1 ++ [⟨q.a, q.b, q.n + p.n⟩], true) else (st.1 ++ [q], st.2)
def addTo (p : Pr) (l : List Pr) (k : Nat) : List Pr × Bool := (l.take k).foldl (addStep p) ([], false)
/-- What add returns. -/
def addP (l : List Pr) (p : Pr) : List Pr := if (addTo p l l.length).2 then (addTo p l l.length).1 else (addTo p l l.length).1 ++ [p]
theorem addTo_succ {p : Pr} {l : List Pr} {k : Nat} {q : Pr} (hx : l[k]? = some q) : addTo p l (k + 1) = addStep p (addTo p l k) q := by
  unfold addTo; rw [take_succ_of hx, List.foldl_append]; rfl
theorem less_ne {p q : Pr} (h : lessP p q = true) : ¬ (q.a = p.a ∧ q.b = p.b) := by unfold lessP at h; simp at h; omega
theorem addTo_len (p : Pr) (l : List Pr) (k : Nat) : (addTo p l k).1.length ≤ 2 * k := by
  unfold addTo
  have : ∀ (l : List Pr) (st : List Pr × Bool), (l.foldl (addStep p) st).1.length ≤ st.1.length + 2 * l.length := by
    intro l
    induction l with
    | nil => intro st; simp
    | cons x l ih =>
      intro st
      have h1 := ih (addStep p st x)
      have h2 : (addStep p st x).1.length ≤ st.1.length + 2 := by unfold addStep; split <;> (try split) <;> simp
      simp only [List.foldl_cons, List.length_cons]
      omega
  have h := this (l.take k) ([], false)
  have h2 : (l.take k).length ≤ k := List.length_take_le _ _
  simp only [List.length_nil] at h
  omega
theorem pair_info : (Tryz.prog.info? 111).map (fun i => (i.zero, i.size, i.bytes)) = some (some (.agg #[.int .i64 0, .int .i64 0, .int .i64 0]), 3, 24) := by kernel_rfl
theorem encP_snoc (L : List Pr) (p : Pr) : (L ++ [p]).flatMap encP = L.flatMap encP ++ encP p := by simp

set_option maxRecDepth 100000 in
set_option maxHeartbeats 4000000 in
theorem add_any (v0 v1 v3 : Value) (A : Option Addr) (xs : List Pr) (c : Nat) (p : Pr) (w : World) (hx : SlR 3 RPr w A xs) (hl : xs.length ≤ 65536) (hN : Within 4294967296 (xs.map Pr.n)) (hpn : -4294967296 ≤ p.n ∧ p.n ≤ 4294967296) :
    Calls Tryz.prog 43 #[.agg #[v0, v1, .slice A xs.length c, v3], .agg #[.int .i64 p.a, .int .i64 p.b, .int .i64 p.n]] w fun e w' => ∃ v, e = .returned v ∧ w'.ownsRow w.heap.size 111 3 v (addP xs p).length ((addP xs p).flatMap encP) ∧ Below w.heap.size w w' := by
  obtain ⟨i0, hi, hz0, hz1, hz2⟩ := info_parts pair_info
  have HBW : Hid (∀ W, Below (w.heap.size + 2) ((w.alloc (.cells #[v0, v1, .slice A xs.length c, v3] 56)).alloc (.cells #[.int .i64 p.a, .int .i64 p.b, .int .i64 p.n] 111)) W → Below w.heap.size w W) := fun W hW => (((Below.refl _ _).alloc (Nat.le_refl _) _).alloc (by simp) _).trans (hW.mono (by omega))
  go_enter Tryz.func43, Tryz.ntmps43
  go_wp2_with fail
  go_loopw [5, 6, 7, 8] (fun out d i _ wr => ∃ k : Nat, ∃ L : List Pr, ∃ b : Bool, k ≤ xs.length ∧ Hid (addTo p xs k = (L, b)) ∧ L.length ≤ 2 * k ∧ i = .int .i64 k ∧ d = .bool b ∧ wr.ownsRow (w.heap.size + 2) 111 3 out L.length (L.flatMap encP) ∧ Below (w.heap.size + 2) ((w.alloc (.cells #[v0, v1, .slice A xs.length c, v3] 56)).alloc (.cells #[.int .i64 p.a, .int .i64 p.b, .int .i64 p.n] 111)) wr) (fun _ _ i _ _ => xs.length - (intOf i).toNat)
  case atStart => exact ⟨0, [], false, by omega, rfl, by simp, rfl, rfl, by simpa using own_empty ((w.alloc (.cells #[v0, v1, .slice A xs.length c, v3] 56)).alloc (.cells #[.int .i64 p.a, .int .i64 p.b, .int .i64 p.n] 111)) 111 3 (w.heap.size + 2) (by simp), (Below.refl _ _).alloc (by simp) _⟩
  case round =>
    obtain ⟨k, L, b, hk, HL, hLk, rfl, rfl, hown, hb⟩ := hrel
    have hsz : w.heap.size + 2 ≤ wr.heap.size := by have := hb.size; simp at this; omega
    have hm2 : wr.cell? ⟨w.heap.size, 2, none⟩ = some (.slice A xs.length c) := (hb.cell (p := ⟨w.heap.size, 2, none⟩) (by show w.heap.size < _; omega)).trans ((World.cell?_alloc_lt _ _ ⟨w.heap.size, 2, none⟩ (by simp)).trans (new_cell _ _ _ 2))
    have hpb : ∀ o, wr.cell? ⟨w.heap.size + 1, o, none⟩ = (#[.int .i64 p.a, .int .i64 p.b, .int .i64 p.n] : Array Value)[o]? := fun o => (hb.cell (p := ⟨w.heap.size + 1, o, none⟩) (by show w.heap.size + 1 < _; omega)).trans (by simp)
    have hp0 : wr.cell? ⟨w.heap.size + 1, 0, none⟩ = some (.int .i64 p.a) := hpb 0
    have hp1 : wr.cell? ⟨w.heap.size + 1, 1, none⟩ = some (.int .i64 p.b) := hpb 1
    have hp2 : wr.cell? ⟨w.heap.size + 1, 2, none⟩ = some (.int .i64 p.n) := hpb 2
    clear hpb
    have hs0 : w.heap.size < wr.heap.size := by omega
    have hs1 : w.heap.size + 1 < wr.heap.size := by omega
    by_cases hlt : k < xs.length
    · obtain ⟨bk, off, q, rfl, hbb, hqq, hc0', hc1', hc2'⟩ := hx.pr hlt
      have hbel := HBW.out _ hb
      have hc0 := (hbel.cell (p := ⟨bk, _, none⟩) hbb).trans hc0'
      have hc1 := (hbel.cell (p := ⟨bk, _, none⟩) hbb).trans hc1'
      have hc2 := (hbel.cell (p := ⟨bk, _, none⟩) hbb).trans hc2'
      have hqn := hN q.n (List.mem_map.2 ⟨q, List.mem_of_getElem? hqq, rfl⟩)
      have HX := Lib.hid hqq
      clear hqq hc0' hc1' hc2'
      have hlen' := addTo_len p xs (k + 1)
      rw [addTo_succ HX.out, HL.out] at hlen'
      have HLen := Lib.hid hlen'
      clear hlen'
      have HF : Hid (∀ W, Below (wr.heap.size + 1) (wr.alloc (.cells #[.int .i64 q.a, .int .i64 q.b, .int .i64 q.n] 111)) W → W.cell? ⟨wr.heap.size, 0, none⟩ = some (.int .i64 q.a) ∧ W.cell? ⟨wr.heap.size, 1, none⟩ = some (.int .i64 q.b) ∧ W.cell? ⟨wr.heap.size, 2, none⟩ = some (.int .i64 q.n) ∧
          W.cell? ⟨w.heap.size + 1, 0, none⟩ = some (.int .i64 p.a) ∧ W.cell? ⟨w.heap.size + 1, 1, none⟩ = some (.int .i64 p.b) ∧ W.cell? ⟨w.heap.size + 1, 2, none⟩ = some (.int .i64 p.n) ∧ W.frozen? ⟨wr.heap.size, 2, none⟩ = false ∧ wr.heap.size < W.heap.size ∧
          W.ownsRow (w.heap.size + 2) 111 3 u5 L.length (L.flatMap encP) ∧ Below (w.heap.size + 2) wr W) := fun W hW =>
        ⟨box_cell hW 0, box_cell hW 1, box_cell hW 2, ((unbox hW).cell (p := ⟨w.heap.size + 1, 0, none⟩) hs1).trans hp0, ((unbox hW).cell (p := ⟨w.heap.size + 1, 1, none⟩) hs1).trans hp1, ((unbox hW).cell (p := ⟨w.heap.size + 1, 2, none⟩) hs1).trans hp2, box_frozen hW 2, box_size hW, own_below hown (unbox hW), (unbox hW).mono hsz⟩
      have hwn : -9223372036854775808 ≤ q.n + p.n ∧ q.n + p.n ≤ 9223372036854775807 := by omega
      have heq : ((q.a == p.a) = true ∧ (q.b == p.b) = true) ∨ ((q.a == p.a) = true ∧ (q.b == p.b) = false) ∨ (q.a == p.a) = false := by
        cases q.a == p.a <;> cases q.b == p.b <;> simp
      cases b with
      | true =>
        rcases heq with ⟨e1, e2⟩ | ⟨e1, e2⟩ | e1
        · have HN := Lib.hid (show addTo p xs (k + 1) = (L ++ [⟨q.a, q.b, q.n + p.n⟩], true) by rw [addTo_succ HX.out, HL.out]; unfold addStep; rw [if_pos (show q.a = p.a ∧ q.b = p.b from ⟨by simpa using e1, by simpa using e2⟩)]; rfl)
          go_wp2_with (first | (at_builtin; refine wpList_app1 rfl _ _ 54 rfl (w.heap.size + 2) 111 i0 _ 3 24 Tryz.underlying54 hi hz0 hz1 hz2 rfl (by decide) _ _ _ rfl (wr.alloc (.cells #[.int .i64 q.a, .int .i64 q.b, .int .i64 (q.n + p.n)] 111)) [.int .i64 q.a, .int .i64 q.b, .int .i64 (q.n + p.n)] rfl (hown.alloc _) _ rfl (by simp) rfl (by simp [Value.oneCell']) (by omega) (by decide) (by simp; omega) ?_; intro v2 w2 hown2 hb2 ha2))
          go_roundw
          case rel => exact ⟨k + 1, L ++ [(⟨q.a, q.b, q.n + p.n⟩ : Pr)], true, by omega, HN.out, by simp; omega, by go_num, rfl, by rw [encP_snoc, List.length_append]; exact hown2, hb.trans (((Below.refl _ _).alloc hsz _).trans hb2)⟩
          case measure => simp [intOf]; omega
        · have HN := Lib.hid (show addTo p xs (k + 1) = (L ++ [q], true) by rw [addTo_succ HX.out, HL.out]; unfold addStep; rw [if_neg (show ¬ (q.a = p.a ∧ q.b = p.b) from fun h => by simp [h.2] at e2)]; rfl)
          go_wp2_with (first | (at_builtin; refine wpList_app1 rfl _ _ 54 rfl (w.heap.size + 2) 111 i0 _ 3 24 Tryz.underlying54 hi hz0 hz1 hz2 rfl (by decide) _ _ _ rfl (wr.alloc (.cells #[.int .i64 q.a, .int .i64 q.b, .int .i64 q.n] 111)) [.int .i64 q.a, .int .i64 q.b, .int .i64 q.n] rfl (hown.alloc _) _ rfl (by simp) rfl (by simp [Value.oneCell']) (by omega) (by decide) (by simp; omega) ?_; intro v2 w2 hown2 hb2 ha2))
          go_roundw
          case rel => exact ⟨k + 1, L ++ [q], true, by omega, HN.out, by simp; omega, by go_num, rfl, by rw [encP_snoc, List.length_append]; exact hown2, hb.trans (((Below.refl _ _).alloc hsz _).trans hb2)⟩
          case measure => simp [intOf]; omega
        · have HN := Lib.hid (show addTo p xs (k + 1) = (L ++ [q], true) by rw [addTo_succ HX.out, HL.out]; unfold addStep; rw [if_neg (show ¬ (q.a = p.a ∧ q.b = p.b) from fun h => by simp [h.1] at e1)]; rfl)
          go_wp2_with (first | (at_builtin; refine wpList_app1 rfl _ _ 54 rfl (w.heap.size + 2) 111 i0 _ 3 24 Tryz.underlying54 hi hz0 hz1 hz2 rfl (by decide) _ _ _ rfl (wr.alloc (.cells #[.int .i64 q.a, .int .i64 q.b, .int .i64 q.n] 111)) [.int .i64 q.a, .int .i64 q.b, .int .i64 q.n] rfl (hown.alloc _) _ rfl (by simp) rfl (by simp [Value.oneCell']) (by omega) (by decide) (by simp; omega) ?_; intro v2 w2 hown2 hb2 ha2))
          go_roundw
          case rel => exact ⟨k + 1, L ++ [q], true, by omega, HN.out, by simp; omega, by go_num, rfl, by rw [encP_snoc, List.length_append]; exact hown2, hb.trans (((Below.refl _ _).alloc hsz _).trans hb2)⟩
          case measure => simp [intOf]; omega
      | false =>
        cases hless : lessP p q
        · rcases heq with ⟨e1, e2⟩ | ⟨e1, e2⟩ | e1
          · have HN := Lib.hid (show addTo p xs (k + 1) = (L ++ [⟨q.a, q.b, q.n + p.n⟩], true) by rw [addTo_succ HX.out, HL.out]; unfold addStep; rw [hless, if_neg (by simp), if_pos (show q.a = p.a ∧ q.b = p.b from ⟨by simpa using e1, by simpa using e2⟩)])
            go_wp2_with (first | (go_at_call 76; refine (co_less_any p q _).mono ?_; rintro e w1 ⟨rfl, hbL⟩; rw [hless]; obtain ⟨q0, q1, q2, p0, p1, p2, fz, sz, hown1, hbw1⟩ := HF.out _ (bx hbL)) | (at_builtin; refine wpList_app1 rfl _ _ 54 rfl (w.heap.size + 2) 111 i0 _ 3 24 Tryz.underlying54 hi hz0 hz1 hz2 rfl (by decide) _ _ _ rfl (w1.setCell ⟨wr.heap.size, 2, none⟩ (.int .i64 (q.n + p.n))) [.int .i64 q.a, .int .i64 q.b, .int .i64 (q.n + p.n)] rfl (own_set hown1 (own_lt hown (Nat.le_refl _)) _) _ rfl (by simp) rfl (by simp [Value.oneCell']) (by omega) (by decide) (by simp; omega) ?_; intro v2 w2 hown2 hb2 ha2))
            go_roundw
            case rel => exact ⟨k + 1, L ++ [(⟨q.a, q.b, q.n + p.n⟩ : Pr)], true, by omega, HN.out, by simp; omega, by go_num, rfl, by rw [encP_snoc, List.length_append]; exact hown2, (hb.trans hbw1).trans (((Below.refl _ _).setCell (by show _ ≤ wr.heap.size; omega) _).trans hb2)⟩
            case measure => simp [intOf]; omega
          · have HN := Lib.hid (show addTo p xs (k + 1) = (L ++ [q], false) by rw [addTo_succ HX.out, HL.out]; unfold addStep; rw [hless, if_neg (by simp), if_neg (show ¬ (q.a = p.a ∧ q.b = p.b) from fun h => by simp [h.2] at e2)])
            go_wp2_with (first | (go_at_call 76; refine (co_less_any p q _).mono ?_; rintro e w1 ⟨rfl, hbL⟩; rw [hless]; obtain ⟨q0, q1, q2, p0, p1, p2, fz, sz, hown1, hbw1⟩ := HF.out _ (bx hbL)) | (at_builtin; refine wpList_app1 rfl _ _ 54 rfl (w.heap.size + 2) 111 i0 _ 3 24 Tryz.underlying54 hi hz0 hz1 hz2 rfl (by decide) _ _ _ rfl w1 [.int .i64 q.a, .int .i64 q.b, .int .i64 q.n] rfl hown1 _ rfl (by simp) rfl (by simp [Value.oneCell']) (by omega) (by decide) (by omega) ?_; intro v2 w2 hown2 hb2 ha2))
            go_roundw
            case rel => exact ⟨k + 1, L ++ [q], false, by omega, HN.out, by simp; omega, by go_num, rfl, by rw [encP_snoc, List.length_append]; exact hown2, (hb.trans hbw1).trans hb2⟩
            case measure => simp [intOf]; omega
          · have HN := Lib.hid (show addTo p xs (k + 1) = (L ++ [q], false) by rw [addTo_succ HX.out, HL.out]; unfold addStep; rw [hless, if_neg (by simp), if_neg (show ¬ (q.a = p.a ∧ q.b = p.b) from fun h => by simp [h.1] at e1)])
            go_wp2_with (first | (go_at_call 76; refine (co_less_any p q _).mono ?_; rintro e w1 ⟨rfl, hbL⟩; rw [hless]; obtain ⟨q0, q1, q2, p0, p1, p2, fz, sz, hown1, hbw1⟩ := HF.out _ (bx hbL)) | (at_builtin; refine wpList_app1 rfl _ _ 54 rfl (w.heap.size + 2) 111 i0 _ 3 24 Tryz.underlying54 hi hz0 hz1 hz2 rfl (by decide) _ _ _ rfl w1 [.int .i64 q.a, .int .i64 q.b, .int .i64 q.n] rfl hown1 _ rfl (by simp) rfl (by simp [Value.oneCell']) (by omega) (by decide) (by omega) ?_; intro v2 w2 hown2 hb2 ha2))
            go_roundw
            case rel => exact ⟨k + 1, L ++ [q], false, by omega, HN.out, by simp; omega, by go_num, rfl, by rw [encP_snoc, List.length_append]; exact hown2, (hb.trans hbw1).trans hb2⟩
            case measure => simp [intOf]; omega
        · have HN := Lib.hid (show addTo p xs (k + 1) = (L ++ [p] ++ [q], true) by rw [addTo_succ HX.out, HL.out]; simp [addStep, hless])
          have hne := less_ne hless
          have hneq : (q.a == p.a) = false ∨ ((q.a == p.a) = true ∧ (q.b == p.b) = false) := by
            by_cases h1 : q.a = p.a
            · exact .inr ⟨by simpa using h1, by simpa using fun h2 => hne ⟨h1, h2⟩⟩
            · exact .inl (by simpa using h1)
          clear hne heq
          rcases hneq with e1 | ⟨e1, e2⟩
          all_goals
            go_wp2_with (first | (go_at_call 76; refine (co_less_any p q _).mono ?_; rintro e w1 ⟨rfl, hbL⟩; rw [hless]; obtain ⟨q0, q1, q2, p0, p1, p2, fz, sz, hown1, hbw1⟩ := HF.out _ (bx hbL)) | (at_builtin; refine wpList_app1 rfl _ _ 54 rfl (w.heap.size + 2) 111 i0 _ 3 24 Tryz.underlying54 hi hz0 hz1 hz2 rfl (by decide) _ _ _ rfl w2 [.int .i64 q.a, .int .i64 q.b, .int .i64 q.n] rfl hown2 _ rfl (by simp) rfl (by simp [Value.oneCell']) (by omega) (by decide) (by have := hb2.size; omega) ?_; intro v3 w3 hown3 hb3 ha3) | (at_builtin; refine wpList_app1 rfl _ _ 54 rfl (w.heap.size + 2) 111 i0 _ 3 24 Tryz.underlying54 hi hz0 hz1 hz2 rfl (by decide) _ _ _ rfl w1 [.int .i64 p.a, .int .i64 p.b, .int .i64 p.n] rfl hown1 _ rfl (by simp) rfl (by simp [Value.oneCell']) (by omega) (by decide) (by omega) ?_; intro v2 w2 hown2 hb2 ha2; have r0 := (ha2.cell (o := 0) sz (own_lt hown (Nat.le_refl _))).trans q0; have r1 := (ha2.cell (o := 1) sz (own_lt hown (Nat.le_refl _))).trans q1; have r2 := (ha2.cell (o := 2) sz (own_lt hown (Nat.le_refl _))).trans q2; have t0 := (hb2.cell (p := ⟨w.heap.size + 1, 0, none⟩) (by show w.heap.size + 1 < _; omega)).trans p0; have t1 := (hb2.cell (p := ⟨w.heap.size + 1, 1, none⟩) (by show w.heap.size + 1 < _; omega)).trans p1))
            go_roundw
            case rel => exact ⟨k + 1, L ++ [p] ++ [q], true, by omega, HN.out, by simp; omega, by go_num, rfl, by rw [encP_snoc, encP_snoc, List.length_append, List.length_append]; exact hown3, ((hb.trans hbw1).trans hb2).trans hb3⟩
            case measure => simp [intOf]; omega
    · have HE := Lib.hid (show addTo p xs xs.length = (L, b) by rw [← HL.out]; congr 1; omega)
      have HB := Lib.hid (HBW.out _ hb)
      cases b with
      | true =>
        have HR := Lib.hid (show addP xs p = L by unfold addP; rw [HE.out]; rfl)
        go_wp2_with fail
        go_ret
        exact ⟨_, rfl, by rw [HR.out]; exact own_base hown (by omega), HB.out⟩
      | false =>
        have HR := Lib.hid (show addP xs p = L ++ [p] by unfold addP; rw [HE.out]; rfl)
        go_wp2_with (first | (at_builtin; refine wpList_app1 rfl _ _ 54 rfl (w.heap.size + 2) 111 i0 _ 3 24 Tryz.underlying54 hi hz0 hz1 hz2 rfl (by decide) _ _ _ rfl wr [.int .i64 p.a, .int .i64 p.b, .int .i64 p.n] rfl hown _ rfl (by simp) rfl (by simp [Value.oneCell']) (by omega) (by decide) hsz ?_; intro v1 w1 hown1 hb1 ha1))
        go_ret
        exact ⟨_, rfl, by rw [HR.out, encP_snoc, List.length_append]; exact own_base hown1 (by omega), HB.out.trans (hb1.mono (by omega))⟩
end Go.Proofs.YtfjkmgjjifhdkaaGreat

/-
  The walks of layer 11: copies of slices.
-/
namespace Go.Proofs.YtfjkmgjjifhdkaaGreat
open Go Go.RowKit

theorem flatMap_len {α β : Type} {s : Nat} {enc : α → List β} (h : ∀ x, (enc x).length = s) (xs : List α) : (xs.flatMap enc).length = xs.length * s := by
  induction xs with
  | nil => simp
  | cons x l ih => rw [List.flatMap_cons, List.length_append, h, ih, List.length_cons, Nat.add_mul]; omega
end Go.Proofs.YtfjkmgjjifhdkaaGreat

/-
  The walks of layer 11: a pair put into a slice (the library's Insert).
-/
namespace Go.Proofs.YtfjkmgjjifhdkaaGreat
open Go Go.RowKit

/-- vs laid over l from o on. -/
def over (l : List Value) (o : Nat) (vs : List Value) : List Value := l.take o ++ vs ++ l.drop (o + vs.length)
/-- An owned row out of its block. -/
theorem own_of_blk {w : World} {base g cap n s : Nat} {e : TypeId} {cur : List Value} (hb : Blk w g e cur.toArray) (hg : base ≤ g) (hn : n ≤ cap) (hc : cap ≤ maxLen) (hs : cur.length = cap * s) :
    w.ownsRow base e s (.slice (some ⟨g, 0, none⟩) n cap) n (cur.take (n * s)) :=
  ⟨by rw [List.length_take, hs, Nat.min_eq_left]; exact Nat.mul_le_mul_right _ hn, .inr ⟨g, cap, cur.toArray, rfl, hg, hb, hn, hc, by simpa using hs, by simp⟩⟩
/-- A list with one more at place i. -/
def insAt (xs : List Pr) (i : Nat) (p : Pr) : List Pr := xs.take i ++ [p] ++ xs.drop i

end Go.Proofs.YtfjkmgjjifhdkaaGreat

/-
  The walks of layer 11: a pair put into a slice ahead of its end (the library's Insert).
-/
namespace Go.Proofs.YtfjkmgjjifhdkaaGreat
open Go Go.RowKit

end Go.Proofs.YtfjkmgjjifhdkaaGreat

/-
  The walks of layer 11: a pair put into a slice that has room (the library's Insert), and Insert at any place.
-/
namespace Go.Proofs.YtfjkmgjjifhdkaaGreat
open Go Go.RowKit

end Go.Proofs.YtfjkmgjjifhdkaaGreat
