/-
  The walks of layer 21: the reference's choice of eight.
-/
import Derived.Test.YtpjecpefbfobdaaAreaSort
import Derived.Test.YtpjecpefbfobdaaAreaLaw
namespace Go.Proofs.Ytpjecpefbfobdaa
open Go Go.RowKit

theorem info_parts {t : TypeId} {z : Value} {s b : Nat} (h : (Try.prog.info? t).map (fun i => (i.zero, i.size, i.bytes)) = some (some z, s, b)) : ∃ i, Try.prog.info? t = some i ∧ i.zero = some z ∧ i.size = s ∧ i.bytes = b := by
  cases hi : Try.prog.info? t with
  | none => rw [hi] at h; cases h
  | some i =>
    rw [hi] at h
    simp at h
    exact ⟨i, rfl, h.1, h.2.1, h.2.2⟩
theorem cho_info : (Try.prog.info? 67).map (fun i => (i.zero, i.size, i.bytes)) = some (some (.agg #[.int .u8 0, .int .i64 0]), 2, 16) := by kernel_rfl
theorem enc_snoc {α : Type} (f : α → List Value) (L : List α) (p : α) : (L ++ [p]).flatMap f = L.flatMap f ++ f p := by simp
theorem countP_snoc {α : Type} (p : α → Bool) (xs : List α) (k : Nat) (y : α) (h : xs[k]? = some y) : (xs.take (k + 1)).countP p = (xs.take k).countP p + (if p y then 1 else 0) := by
  rw [take_succ_of h, List.countP_append, List.countP_cons, List.countP_nil, Nat.zero_add]
theorem filter_snoc {α : Type} (p : α → Bool) (xs : List α) (k : Nat) (y : α) (h : xs[k]? = some y) : (xs.take (k + 1)).filter p = (xs.take k).filter p ++ (if p y then [y] else []) := by
  rw [take_succ_of h, List.filter_append]
  congr 1
  simp [List.filter_cons]

set_option maxHeartbeats 4000000 in
set_option maxRecDepth 100000 in
theorem few_any (A : Option Addr) (xs : List Cho) (c : Nat) (w : World) (hx : SlR 2 RCho w A xs) (hl : xs.length ≤ 65536) :
    Calls Try.prog 39 #[.slice A xs.length c] w fun e w' => ∃ v, e = .returned v ∧ w'.ownsRow w.heap.size 67 2 v (fewOf xs).length ((fewOf xs).flatMap encCho) ∧ Below w.heap.size w w' := by
  obtain ⟨i0, hi, hz0, hz1, hz2⟩ := info_parts cho_info
  go_enter Try.func39, Try.ntmps39
  go_wp2_with fail
  go_loopw [3, 4] (fun out i wr => ∃ k : Nat, ∃ L : List Cho, k ≤ xs.length ∧ Hid (L = (xs.take k).filter (fun x => decide (rankC xs x < 8))) ∧ L.length ≤ k ∧ i = .int .i64 k ∧ wr.ownsRow w.heap.size 67 2 out L.length (L.flatMap encCho) ∧ Below w.heap.size w wr) (fun _ i _ => xs.length - (intOf i).toNat)
  case atStart => exact ⟨0, [], by omega, rfl, by simp, rfl, own_empty w _ _ _ (Nat.le_refl _), (Below.refl _ _).alloc (Nat.le_refl _) _⟩
  case round =>
    obtain ⟨k, L, hk, HL, hLk, rfl, hown, hb⟩ := hrel
    by_cases hlt : k < xs.length
    · obtain ⟨bk, off, x, rfl, hbb, hxx, hc0', hc1'⟩ := (hx.below keeps_cho hb).cho hlt
      have HX := Lib.hid hxx
      clear hxx
      have HOwn := Lib.hid hown
      have hbsz := hb.size
      clear hown
      go_wp2_with fail
      go_loopw [5, 6] (fun bf j wr2 => ∃ q : Nat, ∃ n : Nat, q ≤ xs.length ∧ n ≤ q ∧ Hid (n = (xs.take q).countP (fun y => lessC y x)) ∧ j = .int .i64 q ∧ bf = .int .i64 n ∧ Below wr.heap.size wr wr2) (fun _ j _ => xs.length - (intOf j).toNat)
      case atStart => exact ⟨0, 0, by omega, by omega, rfl, rfl, rfl, Below.refl _ _⟩
      case round =>
        obtain ⟨q, n, hq, hnq, HN, rfl, rfl, hb2⟩ := hrel
        by_cases hlt2 : q < xs.length
        · obtain ⟨bk', off', y, he, hbb', hyy, hd0', hd1'⟩ := (hx.below keeps_cho hb).cho hlt2
          simp only [Option.some.injEq, Addr.mk.injEq, and_true] at he
          obtain ⟨rfl, rfl⟩ := he
          have hc0 := (hb2.cell (p := ⟨bk, _, none⟩) hbb).trans hc0'
          have hc1 := (hb2.cell (p := ⟨bk, _, none⟩) hbb).trans hc1'
          have hd0 := (hb2.cell (p := ⟨bk, _, none⟩) hbb).trans hd0'
          have hd1 := (hb2.cell (p := ⟨bk, _, none⟩) hbb).trans hd1'
          have HY := Lib.hid hyy
          clear hyy hc0' hc1' hd0' hd1'
          have hcase : (y.cost < x.cost ∨ (y.cost = x.cost ∧ y.key < x.key)) ∨ ((y.cost = x.cost ∧ ¬ y.key < x.key) ∨ x.cost < y.cost) := by omega
          rcases hcase with h | h
          · have HP := Lib.hid (show lessC y x = true by simp [lessC]; omega)
            have h2 : (y.cost < x.cost) ∨ ((¬ y.cost < x.cost ∧ (y.cost == x.cost) = true) ∧ y.key < x.key) := by
              rcases h with h | ⟨h, h'⟩
              · exact .inl h
              · exact .inr ⟨⟨by omega, by simpa using h⟩, h'⟩
            clear h
            rcases h2 with h | ⟨⟨h, h'⟩, h''⟩
            all_goals
              go_wp2_with fail
              go_quiet (fail)
              go_wp2_with fail
              go_roundw
              case rel => exact ⟨q + 1, n + 1, by omega, by omega, by show n + 1 = _; rw [countP_snoc _ _ _ _ HY.out, HP.out, ← HN.out]; rfl, by go_num, by go_num, below_drewN hb2 _⟩
              case measure => simp [intOf]; omega
          · have HP := Lib.hid (show lessC y x = false by simp [lessC]; omega)
            have h2 : ((¬ y.cost < x.cost ∧ (y.cost == x.cost) = true) ∧ ¬ y.key < x.key) ∨ (decide (y.cost < x.cost) = false ∧ (y.cost == x.cost) = false) := by
              rcases h with ⟨h, h'⟩ | h
              · exact .inl ⟨⟨by omega, by simpa using h⟩, h'⟩
              · exact .inr ⟨by simp; omega, by simp; omega⟩
            clear h
            rcases h2 with ⟨⟨h, h'⟩, h''⟩ | ⟨h, h'⟩
            all_goals
              go_wp2_with fail
              go_quiet (fail)
              go_wp2_with fail
              go_roundw
              case rel => exact ⟨q + 1, n, by omega, by omega, by show n = _; rw [countP_snoc _ _ _ _ HY.out, HP.out, ← HN.out]; rfl, by go_num, rfl, below_drewN hb2 _⟩
              case measure => simp [intOf]; omega
        · have HR : Hid (rankC xs x = n) := by
            show rankC xs x = n
            rw [HN.out]; unfold rankC
            rw [List.take_of_length_le (by omega)]
          have hc0 := (hb2.cell (p := ⟨bk, _, none⟩) hbb).trans hc0'
          have hc1 := (hb2.cell (p := ⟨bk, _, none⟩) hbb).trans hc1'
          clear hc0' hc1'
          have hown2 := own_below HOwn.out hb2
          have hsz2 := hb2.size
          have hbw := hb.trans (hb2.mono hbsz)
          by_cases h8 : n < 8
          · go_wp2_with (first | (at_builtin; refine wpList_app1 rfl _ _ 39 rfl w.heap.size 67 i0 _ 2 16 Try.underlying39 hi hz0 hz1 hz2 rfl (by decide) _ _ _ rfl _ [.int .u8 x.key, .int .i64 x.cost] rfl hown2 _ rfl (by simp) rfl (by simp [Value.oneCell']) (by omega) (by decide) (by omega) ?_; intro v3 w3 hown3 hb3 ha3))
            go_roundw
            case rel => exact ⟨k + 1, L ++ [x], by omega, by show L ++ [x] = _; rw [filter_snoc _ _ _ _ HX.out, ← HL.out, HR.out]; simp [h8], by simp; omega, by go_num, by rw [enc_snoc, List.length_append]; exact hown3, hbw.trans hb3⟩
            case measure => simp [intOf]; omega
          · go_wp2_with fail
            go_roundw
            case rel => exact ⟨k + 1, L, by omega, by show L = _; rw [filter_snoc _ _ _ _ HX.out, ← HL.out, HR.out]; simp [h8], by omega, by go_num, hown2, hbw⟩
            case measure => simp [intOf]; omega
    · have HF : Hid (fewOf xs = L) := by
        show fewOf xs = L
        rw [HL.out]; unfold fewOf
        rw [List.take_of_length_le (by omega)]
      go_wp2_with fail
      go_ret
      exact ⟨_, rfl, by rw [HF.out]; exact hown, hb⟩
end Go.Proofs.Ytpjecpefbfobdaa
