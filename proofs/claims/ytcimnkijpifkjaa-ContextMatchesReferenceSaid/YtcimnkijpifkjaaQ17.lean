/-
  CostWalkN, CostWalkP, CostWalkQ, CostWalkR, CostWalkS, joined. No conditions.
-/
import Derived.Test.YtcimnkijpifkjaaQ02
import Derived.Test.YtcimnkijpifkjaaQ07
import Derived.WalkSpells
import Derived.Lib.Overlaps
import Derived.Lib.AppendZerosOnto
import Derived.Lib.AppendZeros
import Derived.Laws.IdiomCopy
import Derived.Laws.Externs
import Derived.Lib.JoinLaws
import Derived.Lib.SliceRun
import Derived.RegionTactic
import Derived.Deep.RegionLaw
import Derived.Shelf.Spec.SlicesInsert
import Derived.Shelf.RegionOpenPlain
/-
  The walks of layer 11: a pair put into an increasing list (the reference).
-/
namespace Go.Proofs.Ytcimnkijpifkjaa
open Go Go.RowKit

def encP (x : Pr) : List Value := [.int .i64 x.a, .int .i64 x.b, .int .i64 x.n]
def addStep (p : Pr) (st : List Pr × Bool) (q : Pr) : List Pr × Bool :=
  if !st.2 && lessP p q then (st.1 ++ [p] ++ [q], true)
  else if q.a = p.a ∧ q.b = p.b then (st.1 ++ [⟨q.a, q.b, q.n + p.n⟩], true) else (st.1 ++ [q], st.2)
def addTo (p : Pr) (l : List Pr) (k : Nat) : List Pr × Bool := (l.take k).foldl (addStep p) ([], false)
/-- What add returns. -/
def addP (l : List Pr) (p : Pr) : List Pr := if (addTo p l l.length).2 then (addTo p l l.length).1 else (addTo p l l.length).1 ++ [p]
theorem addTo_succ {p : Pr} {l : List Pr} {k : Nat} {q : Pr} (hx : l[k]? = some q) : addTo p l (k + 1) = addStep p (addTo p l k) q := by
  unfold addTo; rw [take_succ_of hx, List.foldl_append]; rfl
theorem less_ne {p q : Pr} (h : lessP p q = true) : ¬ (q.a = p.a ∧ q.b = p.b) := by unfold lessP at h; simp at h; omega
theorem addTo_len (p : Pr) (l : List Pr) (k : Nat) : (addTo p l k).1.length ≤ 2 * k := by
  unfold addTo
  have : ∀ (l : List Pr) (st : List Pr × Bool), (l.foldl (addStep p) st).1.length ≤ st.1.length + 2 * l.length := by
    intro l
    induction l with
    | nil => intro st; simp
    | cons x l ih =>
      intro st
      have h1 := ih (addStep p st x)
      have h2 : (addStep p st x).1.length ≤ st.1.length + 2 := by unfold addStep; split <;> (try split) <;> simp
      simp only [List.foldl_cons, List.length_cons]
      omega
  have h := this (l.take k) ([], false)
  have h2 : (l.take k).length ≤ k := List.length_take_le _ _
  simp only [List.length_nil] at h
  omega
theorem pair_info : (Try.prog.info? 87).map (fun i => (i.zero, i.size, i.bytes)) = some (some (.agg #[.int .i64 0, .int .i64 0, .int .i64 0]), 3, 24) := by kernel_rfl
theorem encP_snoc (L : List Pr) (p : Pr) : (L ++ [p]).flatMap encP = L.flatMap encP ++ encP p := by simp

set_option maxRecDepth 100000 in
set_option maxHeartbeats 4000000 in
theorem add_any (v0 v1 v3 : Value) (A : Option Addr) (xs : List Pr) (c : Nat) (p : Pr) (w : World) (hx : SlR 3 RPr w A xs) (hl : xs.length ≤ 65536) (hN : Within 4294967296 (xs.map Pr.n)) (hpn : -4294967296 ≤ p.n ∧ p.n ≤ 4294967296) :
    Calls Try.prog 30 #[.agg #[v0, v1, .slice A xs.length c, v3], .agg #[.int .i64 p.a, .int .i64 p.b, .int .i64 p.n]] w fun e w' => ∃ v, e = .returned v ∧ w'.ownsRow w.heap.size 87 3 v (addP xs p).length ((addP xs p).flatMap encP) ∧ Below w.heap.size w w' := by
  obtain ⟨i0, hi, hz0, hz1, hz2⟩ := info_parts pair_info
  have HBW : Hid (∀ W, Below (w.heap.size + 2) ((w.alloc (.cells #[v0, v1, .slice A xs.length c, v3] 34)).alloc (.cells #[.int .i64 p.a, .int .i64 p.b, .int .i64 p.n] 87)) W → Below w.heap.size w W) := fun W hW => (((Below.refl _ _).alloc (Nat.le_refl _) _).alloc (by simp) _).trans (hW.mono (by omega))
  go_enter Try.func30, Try.ntmps30
  go_wp2_with fail
  go_loopw [5, 6, 7, 8] (fun out d i _ wr => ∃ k : Nat, ∃ L : List Pr, ∃ b : Bool, k ≤ xs.length ∧ Hid (addTo p xs k = (L, b)) ∧ L.length ≤ 2 * k ∧ i = .int .i64 k ∧ d = .bool b ∧ wr.ownsRow (w.heap.size + 2) 87 3 out L.length (L.flatMap encP) ∧ Below (w.heap.size + 2) ((w.alloc (.cells #[v0, v1, .slice A xs.length c, v3] 34)).alloc (.cells #[.int .i64 p.a, .int .i64 p.b, .int .i64 p.n] 87)) wr) (fun _ _ i _ _ => xs.length - (intOf i).toNat)
  case atStart => exact ⟨0, [], false, by omega, rfl, by simp, rfl, rfl, by simpa using own_empty ((w.alloc (.cells #[v0, v1, .slice A xs.length c, v3] 34)).alloc (.cells #[.int .i64 p.a, .int .i64 p.b, .int .i64 p.n] 87)) 87 3 (w.heap.size + 2) (by simp), (Below.refl _ _).alloc (by simp) _⟩
  case round =>
    obtain ⟨k, L, b, hk, HL, hLk, rfl, rfl, hown, hb⟩ := hrel
    have hsz : w.heap.size + 2 ≤ wr.heap.size := by have := hb.size; simp at this; omega
    have hm2 : wr.cell? ⟨w.heap.size, 2, none⟩ = some (.slice A xs.length c) := (hb.cell (p := ⟨w.heap.size, 2, none⟩) (by show w.heap.size < _; omega)).trans ((World.cell?_alloc_lt _ _ ⟨w.heap.size, 2, none⟩ (by simp)).trans (new_cell _ _ _ 2))
    have hpb : ∀ o, wr.cell? ⟨w.heap.size + 1, o, none⟩ = (#[.int .i64 p.a, .int .i64 p.b, .int .i64 p.n] : Array Value)[o]? := fun o => (hb.cell (p := ⟨w.heap.size + 1, o, none⟩) (by show w.heap.size + 1 < _; omega)).trans (by simp)
    have hp0 : wr.cell? ⟨w.heap.size + 1, 0, none⟩ = some (.int .i64 p.a) := hpb 0
    have hp1 : wr.cell? ⟨w.heap.size + 1, 1, none⟩ = some (.int .i64 p.b) := hpb 1
    have hp2 : wr.cell? ⟨w.heap.size + 1, 2, none⟩ = some (.int .i64 p.n) := hpb 2
    clear hpb
    have hs0 : w.heap.size < wr.heap.size := by omega
    have hs1 : w.heap.size + 1 < wr.heap.size := by omega
    by_cases hlt : k < xs.length
    · obtain ⟨bk, off, q, rfl, hbb, hqq, hc0', hc1', hc2'⟩ := hx.pr hlt
      have hbel := HBW.out _ hb
      have hc0 := (hbel.cell (p := ⟨bk, _, none⟩) hbb).trans hc0'
      have hc1 := (hbel.cell (p := ⟨bk, _, none⟩) hbb).trans hc1'
      have hc2 := (hbel.cell (p := ⟨bk, _, none⟩) hbb).trans hc2'
      have hqn := hN q.n (List.mem_map.2 ⟨q, List.mem_of_getElem? hqq, rfl⟩)
      have HX := Lib.hid hqq
      clear hqq hc0' hc1' hc2'
      have hlen' := addTo_len p xs (k + 1)
      rw [addTo_succ HX.out, HL.out] at hlen'
      have HLen := Lib.hid hlen'
      clear hlen'
      have HF : Hid (∀ W, Below (wr.heap.size + 1) (wr.alloc (.cells #[.int .i64 q.a, .int .i64 q.b, .int .i64 q.n] 87)) W → W.cell? ⟨wr.heap.size, 0, none⟩ = some (.int .i64 q.a) ∧ W.cell? ⟨wr.heap.size, 1, none⟩ = some (.int .i64 q.b) ∧ W.cell? ⟨wr.heap.size, 2, none⟩ = some (.int .i64 q.n) ∧
          W.cell? ⟨w.heap.size + 1, 0, none⟩ = some (.int .i64 p.a) ∧ W.cell? ⟨w.heap.size + 1, 1, none⟩ = some (.int .i64 p.b) ∧ W.cell? ⟨w.heap.size + 1, 2, none⟩ = some (.int .i64 p.n) ∧ W.frozen? ⟨wr.heap.size, 2, none⟩ = false ∧ wr.heap.size < W.heap.size ∧
          W.ownsRow (w.heap.size + 2) 87 3 u5 L.length (L.flatMap encP) ∧ Below (w.heap.size + 2) wr W) := fun W hW =>
        ⟨box_cell hW 0, box_cell hW 1, box_cell hW 2, ((unbox hW).cell (p := ⟨w.heap.size + 1, 0, none⟩) hs1).trans hp0, ((unbox hW).cell (p := ⟨w.heap.size + 1, 1, none⟩) hs1).trans hp1, ((unbox hW).cell (p := ⟨w.heap.size + 1, 2, none⟩) hs1).trans hp2, box_frozen hW 2, box_size hW, own_below hown (unbox hW), (unbox hW).mono hsz⟩
      have hwn : -9223372036854775808 ≤ q.n + p.n ∧ q.n + p.n ≤ 9223372036854775807 := by omega
      have heq : ((q.a == p.a) = true ∧ (q.b == p.b) = true) ∨ ((q.a == p.a) = true ∧ (q.b == p.b) = false) ∨ (q.a == p.a) = false := by
        cases q.a == p.a <;> cases q.b == p.b <;> simp
      cases b with
      | true =>
        rcases heq with ⟨e1, e2⟩ | ⟨e1, e2⟩ | e1
        · have HN := Lib.hid (show addTo p xs (k + 1) = (L ++ [⟨q.a, q.b, q.n + p.n⟩], true) by rw [addTo_succ HX.out, HL.out]; unfold addStep; rw [if_pos (show q.a = p.a ∧ q.b = p.b from ⟨by simpa using e1, by simpa using e2⟩)]; rfl)
          go_wp2_with (first | (at_builtin; refine wpList_app1 rfl _ _ 32 rfl (w.heap.size + 2) 87 i0 _ 3 24 Try.underlying32 hi hz0 hz1 hz2 rfl (by decide) _ _ _ rfl (wr.alloc (.cells #[.int .i64 q.a, .int .i64 q.b, .int .i64 (q.n + p.n)] 87)) [.int .i64 q.a, .int .i64 q.b, .int .i64 (q.n + p.n)] rfl (hown.alloc _) _ rfl (by simp) rfl (by simp [Value.oneCell']) (by omega) (by decide) (by simp; omega) ?_; intro v2 w2 hown2 hb2 ha2))
          go_roundw
          case rel => exact ⟨k + 1, L ++ [(⟨q.a, q.b, q.n + p.n⟩ : Pr)], true, by omega, HN.out, by simp; omega, by go_num, rfl, by rw [encP_snoc, List.length_append]; exact hown2, hb.trans (((Below.refl _ _).alloc hsz _).trans hb2)⟩
          case measure => simp [intOf]; omega
        · have HN := Lib.hid (show addTo p xs (k + 1) = (L ++ [q], true) by rw [addTo_succ HX.out, HL.out]; unfold addStep; rw [if_neg (show ¬ (q.a = p.a ∧ q.b = p.b) from fun h => by simp [h.2] at e2)]; rfl)
          go_wp2_with (first | (at_builtin; refine wpList_app1 rfl _ _ 32 rfl (w.heap.size + 2) 87 i0 _ 3 24 Try.underlying32 hi hz0 hz1 hz2 rfl (by decide) _ _ _ rfl (wr.alloc (.cells #[.int .i64 q.a, .int .i64 q.b, .int .i64 q.n] 87)) [.int .i64 q.a, .int .i64 q.b, .int .i64 q.n] rfl (hown.alloc _) _ rfl (by simp) rfl (by simp [Value.oneCell']) (by omega) (by decide) (by simp; omega) ?_; intro v2 w2 hown2 hb2 ha2))
          go_roundw
          case rel => exact ⟨k + 1, L ++ [q], true, by omega, HN.out, by simp; omega, by go_num, rfl, by rw [encP_snoc, List.length_append]; exact hown2, hb.trans (((Below.refl _ _).alloc hsz _).trans hb2)⟩
          case measure => simp [intOf]; omega
        · have HN := Lib.hid (show addTo p xs (k + 1) = (L ++ [q], true) by rw [addTo_succ HX.out, HL.out]; unfold addStep; rw [if_neg (show ¬ (q.a = p.a ∧ q.b = p.b) from fun h => by simp [h.1] at e1)]; rfl)
          go_wp2_with (first | (at_builtin; refine wpList_app1 rfl _ _ 32 rfl (w.heap.size + 2) 87 i0 _ 3 24 Try.underlying32 hi hz0 hz1 hz2 rfl (by decide) _ _ _ rfl (wr.alloc (.cells #[.int .i64 q.a, .int .i64 q.b, .int .i64 q.n] 87)) [.int .i64 q.a, .int .i64 q.b, .int .i64 q.n] rfl (hown.alloc _) _ rfl (by simp) rfl (by simp [Value.oneCell']) (by omega) (by decide) (by simp; omega) ?_; intro v2 w2 hown2 hb2 ha2))
          go_roundw
          case rel => exact ⟨k + 1, L ++ [q], true, by omega, HN.out, by simp; omega, by go_num, rfl, by rw [encP_snoc, List.length_append]; exact hown2, hb.trans (((Below.refl _ _).alloc hsz _).trans hb2)⟩
          case measure => simp [intOf]; omega
      | false =>
        cases hless : lessP p q
        · rcases heq with ⟨e1, e2⟩ | ⟨e1, e2⟩ | e1
          · have HN := Lib.hid (show addTo p xs (k + 1) = (L ++ [⟨q.a, q.b, q.n + p.n⟩], true) by rw [addTo_succ HX.out, HL.out]; unfold addStep; rw [hless, if_neg (by simp), if_pos (show q.a = p.a ∧ q.b = p.b from ⟨by simpa using e1, by simpa using e2⟩)])
            go_wp2_with (first | (go_at_call 54; refine (co_less_any p q _).mono ?_; rintro e w1 ⟨rfl, hbL⟩; rw [hless]; obtain ⟨q0, q1, q2, p0, p1, p2, fz, sz, hown1, hbw1⟩ := HF.out _ (bx hbL)) | (at_builtin; refine wpList_app1 rfl _ _ 32 rfl (w.heap.size + 2) 87 i0 _ 3 24 Try.underlying32 hi hz0 hz1 hz2 rfl (by decide) _ _ _ rfl (w1.setCell ⟨wr.heap.size, 2, none⟩ (.int .i64 (q.n + p.n))) [.int .i64 q.a, .int .i64 q.b, .int .i64 (q.n + p.n)] rfl (own_set hown1 (own_lt hown (Nat.le_refl _)) _) _ rfl (by simp) rfl (by simp [Value.oneCell']) (by omega) (by decide) (by simp; omega) ?_; intro v2 w2 hown2 hb2 ha2))
            go_roundw
            case rel => exact ⟨k + 1, L ++ [(⟨q.a, q.b, q.n + p.n⟩ : Pr)], true, by omega, HN.out, by simp; omega, by go_num, rfl, by rw [encP_snoc, List.length_append]; exact hown2, (hb.trans hbw1).trans (((Below.refl _ _).setCell (by show _ ≤ wr.heap.size; omega) _).trans hb2)⟩
            case measure => simp [intOf]; omega
          · have HN := Lib.hid (show addTo p xs (k + 1) = (L ++ [q], false) by rw [addTo_succ HX.out, HL.out]; unfold addStep; rw [hless, if_neg (by simp), if_neg (show ¬ (q.a = p.a ∧ q.b = p.b) from fun h => by simp [h.2] at e2)])
            go_wp2_with (first | (go_at_call 54; refine (co_less_any p q _).mono ?_; rintro e w1 ⟨rfl, hbL⟩; rw [hless]; obtain ⟨q0, q1, q2, p0, p1, p2, fz, sz, hown1, hbw1⟩ := HF.out _ (bx hbL)) | (at_builtin; refine wpList_app1 rfl _ _ 32 rfl (w.heap.size + 2) 87 i0 _ 3 24 Try.underlying32 hi hz0 hz1 hz2 rfl (by decide) _ _ _ rfl w1 [.int .i64 q.a, .int .i64 q.b, .int .i64 q.n] rfl hown1 _ rfl (by simp) rfl (by simp [Value.oneCell']) (by omega) (by decide) (by omega) ?_; intro v2 w2 hown2 hb2 ha2))
            go_roundw
            case rel => exact ⟨k + 1, L ++ [q], false, by omega, HN.out, by simp; omega, by go_num, rfl, by rw [encP_snoc, List.length_append]; exact hown2, (hb.trans hbw1).trans hb2⟩
            case measure => simp [intOf]; omega
          · have HN := Lib.hid (show addTo p xs (k + 1) = (L ++ [q], false) by rw [addTo_succ HX.out, HL.out]; unfold addStep; rw [hless, if_neg (by simp), if_neg (show ¬ (q.a = p.a ∧ q.b = p.b) from fun h => by simp [h.1] at e1)])
            go_wp2_with (first | (go_at_call 54; refine (co_less_any p q _).mono ?_; rintro e w1 ⟨rfl, hbL⟩; rw [hless]; obtain ⟨q0, q1, q2, p0, p1, p2, fz, sz, hown1, hbw1⟩ := HF.out _ (bx hbL)) | (at_builtin; refine wpList_app1 rfl _ _ 32 rfl (w.heap.size + 2) 87 i0 _ 3 24 Try.underlying32 hi hz0 hz1 hz2 rfl (by decide) _ _ _ rfl w1 [.int .i64 q.a, .int .i64 q.b, .int .i64 q.n] rfl hown1 _ rfl (by simp) rfl (by simp [Value.oneCell']) (by omega) (by decide) (by omega) ?_; intro v2 w2 hown2 hb2 ha2))
            go_roundw
            case rel => exact ⟨k + 1, L ++ [q], false, by omega, HN.out, by simp; omega, by go_num, rfl, by rw [encP_snoc, List.length_append]; exact hown2, (hb.trans hbw1).trans hb2⟩
            case measure => simp [intOf]; omega
        · have HN := Lib.hid (show addTo p xs (k + 1) = (L ++ [p] ++ [q], true) by rw [addTo_succ HX.out, HL.out]; simp [addStep, hless])
          have hne := less_ne hless
          have hneq : (q.a == p.a) = false ∨ ((q.a == p.a) = true ∧ (q.b == p.b) = false) := by
            by_cases h1 : q.a = p.a
            · exact .inr ⟨by simpa using h1, by simpa using fun h2 => hne ⟨h1, h2⟩⟩
            · exact .inl (by simpa using h1)
          clear hne heq
          rcases hneq with e1 | ⟨e1, e2⟩
          all_goals
            go_wp2_with (first | (go_at_call 54; refine (co_less_any p q _).mono ?_; rintro e w1 ⟨rfl, hbL⟩; rw [hless]; obtain ⟨q0, q1, q2, p0, p1, p2, fz, sz, hown1, hbw1⟩ := HF.out _ (bx hbL)) | (at_builtin; refine wpList_app1 rfl _ _ 32 rfl (w.heap.size + 2) 87 i0 _ 3 24 Try.underlying32 hi hz0 hz1 hz2 rfl (by decide) _ _ _ rfl w2 [.int .i64 q.a, .int .i64 q.b, .int .i64 q.n] rfl hown2 _ rfl (by simp) rfl (by simp [Value.oneCell']) (by omega) (by decide) (by have := hb2.size; omega) ?_; intro v3 w3 hown3 hb3 ha3) | (at_builtin; refine wpList_app1 rfl _ _ 32 rfl (w.heap.size + 2) 87 i0 _ 3 24 Try.underlying32 hi hz0 hz1 hz2 rfl (by decide) _ _ _ rfl w1 [.int .i64 p.a, .int .i64 p.b, .int .i64 p.n] rfl hown1 _ rfl (by simp) rfl (by simp [Value.oneCell']) (by omega) (by decide) (by omega) ?_; intro v2 w2 hown2 hb2 ha2; have r0 := (ha2.cell (o := 0) sz (own_lt hown (Nat.le_refl _))).trans q0; have r1 := (ha2.cell (o := 1) sz (own_lt hown (Nat.le_refl _))).trans q1; have r2 := (ha2.cell (o := 2) sz (own_lt hown (Nat.le_refl _))).trans q2; have t0 := (hb2.cell (p := ⟨w.heap.size + 1, 0, none⟩) (by show w.heap.size + 1 < _; omega)).trans p0; have t1 := (hb2.cell (p := ⟨w.heap.size + 1, 1, none⟩) (by show w.heap.size + 1 < _; omega)).trans p1))
            go_roundw
            case rel => exact ⟨k + 1, L ++ [p] ++ [q], true, by omega, HN.out, by simp; omega, by go_num, rfl, by rw [encP_snoc, encP_snoc, List.length_append, List.length_append]; exact hown3, ((hb.trans hbw1).trans hb2).trans hb3⟩
            case measure => simp [intOf]; omega
    · have HE := Lib.hid (show addTo p xs xs.length = (L, b) by rw [← HL.out]; congr 1; omega)
      have HB := Lib.hid (HBW.out _ hb)
      cases b with
      | true =>
        have HR := Lib.hid (show addP xs p = L by unfold addP; rw [HE.out]; rfl)
        go_wp2_with fail
        go_ret
        exact ⟨_, rfl, by rw [HR.out]; exact own_base hown (by omega), HB.out⟩
      | false =>
        have HR := Lib.hid (show addP xs p = L ++ [p] by unfold addP; rw [HE.out]; rfl)
        go_wp2_with (first | (at_builtin; refine wpList_app1 rfl _ _ 32 rfl (w.heap.size + 2) 87 i0 _ 3 24 Try.underlying32 hi hz0 hz1 hz2 rfl (by decide) _ _ _ rfl wr [.int .i64 p.a, .int .i64 p.b, .int .i64 p.n] rfl hown _ rfl (by simp) rfl (by simp [Value.oneCell']) (by omega) (by decide) hsz ?_; intro v1 w1 hown1 hb1 ha1))
        go_ret
        exact ⟨_, rfl, by rw [HR.out, encP_snoc, List.length_append]; exact own_base hown1 (by omega), HB.out.trans (hb1.mono (by omega))⟩
end Go.Proofs.Ytcimnkijpifkjaa

/-
  The walks of layer 11: copies of slices.
-/
namespace Go.Proofs.Ytcimnkijpifkjaa
open Go Go.RowKit

theorem slr_cells {α : Type} {s : Nat} {R : World → α → List Value → Prop} {enc : α → List Value} {w : World} {a : Addr} {xs : List α} (h : SlR s R w (some a) xs) (_hs : 0 < s) (hR : ∀ w x vs, R w x vs → vs = enc x) :
    ∀ j u, (xs.flatMap enc)[j]? = some u → w.cell? (a.add j) = some u := by
  by_cases hn : xs = []
  · subst hn; intro j u hj; simp at hj
  · obtain ⟨b, off, ha, _, hc⟩ := h hn
    injection ha with ha
    subst ha
    have key : ∀ (l : List α) (o : Nat), (∀ k x, l[k]? = some x → (enc x).length = s ∧ ∀ j v, (enc x)[j]? = some v → w.cell? ⟨b, o + k * s + j, none⟩ = some v) → ∀ j u, (l.flatMap enc)[j]? = some u → w.cell? ⟨b, o + j, none⟩ = some u := by
      intro l
      induction l with
      | nil => intro o _ j u hj; simp at hj
      | cons x l ih =>
        intro o hl j u hj
        obtain ⟨h0, h1⟩ := hl 0 x rfl
        rw [List.flatMap_cons] at hj
        rcases Nat.lt_or_ge j (enc x).length with hlt | hge
        · rw [List.getElem?_append_left hlt] at hj
          have := h1 j u hj
          simpa using this
        · rw [List.getElem?_append_right hge] at hj
          have := ih (o + s) (fun k y hy => by
            obtain ⟨h2, h3⟩ := hl (k + 1) y (by simpa using hy)
            refine ⟨h2, fun j v hv => ?_⟩
            have := h3 j v hv
            rwa [show o + (k + 1) * s + j = o + s + k * s + j by rw [Nat.add_mul]; omega] at this) (j - (enc x).length) u hj
          rwa [show o + s + (j - (enc x).length) = o + j by omega] at this
    intro j u hj
    rw [add_mk]
    refine key xs off (fun k x hx => ?_) j u hj
    obtain ⟨vs, hr, hl, hv⟩ := hc k x hx
    have := hR _ _ _ hr
    subst this
    exact ⟨hl, hv⟩

theorem flatMap_len {α β : Type} {s : Nat} {enc : α → List β} (h : ∀ x, (enc x).length = s) (xs : List α) : (xs.flatMap enc).length = xs.length * s := by
  induction xs with
  | nil => simp
  | cons x l ih => rw [List.flatMap_cons, List.length_append, h, ih, List.length_cons, Nat.add_mul]; omega
/-- 'append(out, src...)'. -/
theorem wpList_appN {P : Program} {ops : Array Oper} {rest : List Oper} {o : Oper} {a : Act} {Q : Exit → Act → World → Prop} {w : World} (hgd : o.guard = none) (s x : Operand) (t : TypeId)
    (ho : o.op = .call { callee := .builtin .append, args := #[s, x], argTypes := #[t, t] })
    (base : Nat) (e : TypeId) (i : TypeInfo) (z : Value) (size bytes : Nat) (ht : P.underlying t = some (.slice e)) (hi : P.info? e = some i) (hz : i.zero = some z)
    (hsize : i.size = size) (hby : i.bytes = bytes) (hzs : z.cells.size = size) (hsz : 0 < size)
    (v : Value) (n : Nat) (xs : List Value) (hs : a.eval s = v) (hown : w.ownsRow base e size v n xs)
    (ad : Addr) (m c : Nat) (news : List Value) (hx : a.eval x = .slice (some ad) m c) (hl : news.length = m * size) (hnews : ∀ j u, news[j]? = some u → w.cell? (ad.add j) = some u) (h1 : ∀ u ∈ news, u.oneCell' = true)
    (hn : n + m ≤ 1000000) (hbb : bytes ≤ 1000) (hbase : base ≤ w.heap.size)
    (h : ∀ v' w', w'.ownsRow base e size v' (n + m) (xs ++ news) → Below base w w' → Apps w w' v v' → wpList P ops Q rest (a.put o.dst v') w') : wpList P ops Q (o :: rest) a w := by
  have hb1 : (n + m) * bytes ≤ 1000000 * 1000 := Nat.mul_le_mul hn hbb
  refine wpList_plain hgd fun K hK => ?_
  obtain ⟨v', w', hrun, h2, h3, _, h5⟩ := run_append_own_at (P := P) w base t o.type e i z size bytes ht hi hz hsize hby hzs hsz v n xs hown ad m c news hl hnews h1 (by unfold maxLen; omega) (by omega) hbase
  unfold Oper.wp execOp
  simp only [ho, resolve, invoke, builtin, Sem.run_bind, Sem.run_pure, Result.andThen_ok, List.map_toArray, List.map_cons, List.map_nil, hs, hx, hrun]
  refine hK _ _ (h v' w' h2 ((Below.refl _ _).grown h3 hbase (own_block_le hown)) ⟨fun k hk hne => h3.block k hk (fun e => hne e.symm), ?_⟩)
  rcases h5 with h5 | h5
  · exact .inl h5
  · exact .inr ⟨_, h5, Nat.le_refl _⟩

theorem cloneI_info : (Try.prog.info? 3).map (fun i => (i.zero, i.size, i.bytes)) = some (some (.int .i64 0), 1, 8) := by kernel_rfl
theorem cloneS_info : (Try.prog.info? 9).map (fun i => (i.zero, i.size, i.bytes)) = some (some (.string ByteArray.empty), 1, 16) := by kernel_rfl
theorem cloneP_info : (Try.prog.info? 87).map (fun i => (i.zero, i.size, i.bytes)) = some (some (.agg #[.int .i64 0, .int .i64 0, .int .i64 0]), 3, 24) := by kernel_rfl
end Go.Proofs.Ytcimnkijpifkjaa

/-
  The walks of layer 11: a pair put into a slice (the library's Insert).
-/
namespace Go.Proofs.Ytcimnkijpifkjaa
open Go Go.RowKit

theorem run_copyN {P : Program} (w : World) (dT sT ty elem : TypeId) (b o dLen dCap : Nat) (a : Addr) (sLen sCap size k : Nat) (cs : List Value)
    (hu : P.underlying dT = some (.slice elem)) (hs : (P.info? elem).map (·.size) = some size) (hk : k = Nat.min sLen dLen) (hn : cs.length = k * size)
    (hsrc : ∀ j v, cs[j]? = some v → w.cell? (a.add j) = some v) (hc : ∀ j, j < cs.length → (w.cell? ⟨b, o + j, none⟩).isSome = true) (hf : ∀ j, j < cs.length → w.frozen? ⟨b, o + j, none⟩ = false) (h1 : ∀ v ∈ cs, v.oneCell' = true) :
    (Builtin.copy_ #[dT, sT] ty #[.slice (some ⟨b, o, none⟩) dLen dCap, .slice (some a) sLen sCap]).run P w = .ok (goInt k) (w.setCells b o cs) := by
  have hl := run_loadCells_list (P := P) w a cs hsrc
  have hst := run_storeCells_cells (P := P) b o cs 0 w (by simpa using hc) (by simpa using hf) h1
  cases hq : P.info? elem with
  | none => simp [hq] at hs
  | some i =>
    have hi : i.size = size := by simpa [hq] using hs
    rw [hn] at hl
    simp [Builtin.copy_, run_underlying hu, Builtin.lenOf, Builtin.firstCells, sizeOf, typeInfo, hq, hi, ← hk, hl, hst]

/-- vs laid over l from o on. -/
def over (l : List Value) (o : Nat) (vs : List Value) : List Value := l.take o ++ vs ++ l.drop (o + vs.length)
theorem blk_setCells {g : Nat} {t : TypeId} : ∀ (vs : List Value) (o : Nat) (w : World) (cs : List Value), Blk w g t cs.toArray → o + vs.length ≤ cs.length → Blk (w.setCells g o vs) g t (over cs o vs).toArray := by
  intro vs
  induction vs with
  | nil => intro o w cs h _; simpa [World.setCells, over] using h
  | cons v vs ih =>
    intro o w cs h hl
    simp only [List.length_cons] at hl
    have h1 : Blk (w.setCell ⟨g, o, none⟩ v) g t (cs.set o v).toArray := by simpa using h.set_ o v
    have h2 := ih (o + 1) _ _ h1 (by simp; omega)
    rw [World.setCells]
    have e : over (cs.set o v) (o + 1) vs = over cs o (v :: vs) := by
      unfold over
      have ho : o < cs.length := by omega
      rw [List.take_set, List.drop_set_of_lt (by omega), List.take_succ_eq_append_getElem ho, List.set_append_right _ _ (by simp; omega)]
      simp [Nat.min_eq_left (Nat.le_of_lt ho), Nat.add_assoc, Nat.add_comm 1]
    rw [← e]
    exact h2
theorem heap_setCells {g : Nat} : ∀ (vs : List Value) (o : Nat) (w : World) (k : Nat), k ≠ g → (w.setCells g o vs).heap[k]? = w.heap[k]? := by
  intro vs
  induction vs with
  | nil => intro o w k _; rfl
  | cons v vs ih =>
    intro o w k hk
    rw [World.setCells, ih _ _ k hk]
    exact Below.heap_setCell _ _ _ _ hk
theorem size_setCells {g : Nat} : ∀ (vs : List Value) (o : Nat) (w : World), (w.setCells g o vs).heap.size = w.heap.size := by
  intro vs
  induction vs with
  | nil => intro o w; rfl
  | cons v vs ih => intro o w; rw [World.setCells, ih]; simp [World.setCell]
theorem os_setCells {g : Nat} : ∀ (vs : List Value) (o : Nat) (w : World), (w.setCells g o vs).os = w.os ∧ (w.setCells g o vs).tape = w.tape ∧ (w.setCells g o vs).output = w.output := by
  intro vs
  induction vs with
  | nil => intro o w; exact ⟨rfl, rfl, rfl⟩
  | cons v vs ih => intro o w; rw [World.setCells]; exact ih _ _
theorem below_setCells {B g : Nat} {a w : World} (h : Below B a w) (hg : B ≤ g) (o : Nat) (vs : List Value) : Below B a (w.setCells g o vs) := by
  obtain ⟨h1, h2, h3⟩ := os_setCells (g := g) vs o w
  exact h.trans ⟨h1, h2, h3, by rw [size_setCells]; omega, fun k hk => heap_setCells vs o w k (by omega)⟩
/-- An owned row out of its block. -/
theorem own_of_blk {w : World} {base g cap n s : Nat} {e : TypeId} {cur : List Value} (hb : Blk w g e cur.toArray) (hg : base ≤ g) (hn : n ≤ cap) (hc : cap ≤ maxLen) (hs : cur.length = cap * s) :
    w.ownsRow base e s (.slice (some ⟨g, 0, none⟩) n cap) n (cur.take (n * s)) :=
  ⟨by rw [List.length_take, hs, Nat.min_eq_left]; exact Nat.mul_le_mul_right _ hn, .inr ⟨g, cap, cur.toArray, rfl, hg, hb, hn, hc, by simpa using hs, by simp⟩⟩
theorem blk_of_own {w : World} {base n s : Nat} {e : TypeId} {v : Value} {xs : List Value} (h : w.ownsRow base e s v n xs) (hn : 0 < n) :
    ∃ g cap cur, v = .slice (some ⟨g, 0, none⟩) n cap ∧ base ≤ g ∧ Blk w g e (List.toArray cur) ∧ n ≤ cap ∧ cap ≤ maxLen ∧ cur.length = cap * s ∧ cur.take (n * s) = xs := by
  rcases h.2 with ⟨_, h0⟩ | ⟨g, cap, cur, hv, hg, hh, hnc, hcm, hcs, htk⟩
  · omega
  · exact ⟨g, cap, cur.toList, hv, hg, by simpa [Blk] using hh, hnc, hcm, by simpa using hcs, htk⟩

/-- A list with one more at place i. -/
def insAt (xs : List Pr) (i : Nat) (p : Pr) : List Pr := xs.take i ++ [p] ++ xs.drop i

end Go.Proofs.Ytcimnkijpifkjaa

/-
  The walks of layer 11: a pair put into a slice ahead of its end (the library's Insert).
-/
namespace Go.Proofs.Ytcimnkijpifkjaa
open Go Go.RowKit

theorem over_at (a r vs : List Value) : over (a ++ r) a.length vs = a ++ vs ++ r.drop vs.length := by
  simp [over, List.drop_append]
theorem flatMap_encP_len (l : List Pr) : (l.flatMap encP).length = l.length * 3 := flatMap_len (s := 3) (enc := encP) (fun _ => rfl) l
theorem insAt_enc (xs : List Pr) (i : Nat) (p : Pr) : (insAt xs i p).flatMap encP = (xs.take i).flatMap encP ++ encP p ++ (xs.drop i).flatMap encP := by simp [insAt]
theorem over_ins {cur : List Value} {xs : List Pr} {i : Nat} (p : Pr) (hi : i ≤ xs.length) (htk : cur.take (i * 3) = (xs.take i).flatMap encP) (hs : (xs.length + 1) * 3 ≤ cur.length) :
    (over (over cur (i * 3) (encP p)) ((i + 1) * 3) ((xs.drop i).flatMap encP)).take ((xs.length + 1) * 3) = (insAt xs i p).flatMap encP ∧
    (over (over cur ((i + 1) * 3) ((xs.drop i).flatMap encP)) (i * 3) (encP p)).take ((xs.length + 1) * 3) = (insAt xs i p).flatMap encP := by
  have ha : ((xs.take i).flatMap encP).length = i * 3 := by rw [flatMap_encP_len, List.length_take, Nat.min_eq_left hi]
  have hb : ((xs.drop i).flatMap encP).length = (xs.length - i) * 3 := by rw [flatMap_encP_len, List.length_drop]
  obtain ⟨r, hr⟩ : ∃ r, r = cur.drop (i * 3) := ⟨_, rfl⟩
  have hc : cur = (xs.take i).flatMap encP ++ r := by rw [← htk, hr, List.take_append_drop]
  have hrl : r.length = cur.length - i * 3 := by rw [hr, List.length_drop]
  obtain ⟨x, hx⟩ : ∃ x, x = r.take 3 := ⟨_, rfl⟩
  obtain ⟨y, hy⟩ : ∃ y, y = r.drop 3 := ⟨_, rfl⟩
  have hxy : r = x ++ y := by rw [hx, hy, List.take_append_drop]
  have hxl : x.length = 3 := by rw [hx, List.length_take]; omega
  have hpl : (encP p).length = 3 := rfl
  rw [insAt_enc]
  generalize (xs.take i).flatMap encP = a at *
  generalize (xs.drop i).flatMap encP = b at *
  generalize encP p = v at *
  clear hr hx hy htk
  subst hxy
  subst hc
  have e1 : over (a ++ (x ++ y)) (i * 3) v = a ++ v ++ y := by
    rw [← ha, over_at, List.drop_append_of_le_length (by omega), List.drop_of_length_le (by omega), List.nil_append]
  have e2 : over (a ++ v ++ y) ((i + 1) * 3) b = a ++ v ++ b ++ y.drop b.length := by
    rw [show (i + 1) * 3 = (a ++ v).length by simp; omega, over_at]
  have e3 : over (a ++ (x ++ y)) ((i + 1) * 3) b = a ++ (x ++ (b ++ y.drop b.length)) := by
    rw [← List.append_assoc, show (i + 1) * 3 = (a ++ x).length by simp; omega, over_at]; simp
  have e4 : over (a ++ (x ++ (b ++ y.drop b.length))) (i * 3) v = a ++ v ++ b ++ y.drop b.length := by
    rw [← ha, over_at, List.drop_append_of_le_length (by omega), List.drop_of_length_le (by omega)]; simp
  rw [e1, e2, e3, e4]
  have hl : (a ++ v ++ b).length = (xs.length + 1) * 3 := by simp; omega
  rw [← hl]
  exact ⟨by rw [List.take_append_of_le_length (Nat.le_refl _), List.take_length], by rw [List.take_append_of_le_length (Nat.le_refl _), List.take_length]⟩
theorem over_len (l : List Value) (o : Nat) (vs : List Value) (h : o + vs.length ≤ l.length) : (over l o vs).length = l.length := by
  simp [over]; omega
theorem cells_of_take {w : World} {g : Nat} {t : TypeId} {cur : List Value} (h : Blk w g t cur.toArray) {m : Nat} {xs : List Value} (htk : cur.take m = xs) : ∀ j u, xs[j]? = some u → w.cell? ⟨g, j, none⟩ = some u := fun j u hj => by
  rw [h.cell]
  rw [← htk, List.getElem?_take] at hj
  split at hj
  · simpa using hj
  · cases hj
theorem encP_one : ∀ (l : List Pr), ∀ u ∈ l.flatMap encP, u.oneCell' = true := fun l u hu => by
  obtain ⟨x, _, hx⟩ := List.mem_flatMap.1 hu
  simp [encP] at hx
  rcases hx with rfl | rfl | rfl <;> rfl

end Go.Proofs.Ytcimnkijpifkjaa

/-
  The walks of layer 11: a pair put into a slice that has room (the library's Insert), and Insert at any place.
-/
namespace Go.Proofs.Ytcimnkijpifkjaa
open Go Go.RowKit

end Go.Proofs.Ytcimnkijpifkjaa
