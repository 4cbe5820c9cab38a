/-
  The walks of layer 21: searches for an area and for a tap.
-/
import Derived.Test.YtpjecpefbfobdaaAreaWalkE
import Derived.Test.YtpjecpefbfobdaaRet
namespace Go.Proofs.Ytpjecpefbfobdaa
open Go Go.RowKit Go.Shelf Go.Lib

def areaOf (us : List Ar) (key : Int) : Option Ar := us.find? (fun a => decide (a.key = key))

set_option maxHeartbeats 1000000 in
theorem isKey_any (a : Ar) (key : Int) (B : Nat) (W : World) (hB : B < W.heap.size) (h0 : W.cell? ⟨B, 0, none⟩ = some (.int .u8 key)) :
    Calls Try.prog 41 #[vAr a, .pointer (some ⟨B, 0, none⟩)] W fun e w' => e = .returned (.bool (decide (a.key = key))) ∧ Below W.heap.size W w' := by
  have hne : B ≠ W.heap.size := by omega
  go_enter Try.func41, Try.ntmps41
  go_wp2
  go_ret
  exact ⟨ret_bool (by first | rfl | (simp; done) | (cases h : decide (a.key = key) <;> simp_all)), nw _ (Below.refl _ _)⟩
theorem cmpTap_any (t : Tp) (k : Int) (W : World) : Calls Try.prog 43 #[vTp t, .int .u8 k] W fun e w' => e = .returned (.int .i64 (Lib.compareInt t.key k)) ∧ Below W.heap.size W w' := by
  obtain ⟨r, hr⟩ : ∃ r, Lib.compareInt t.key k = r := ⟨_, rfl⟩
  have HC := fun W => cmpByte_any t.key k W
  rw [hr] at *
  clear hr
  go_enter Try.func43, Try.ntmps43
  go_wp2_with (go_at_call 34; refine (HC _).mono ?_; rintro e w' ⟨rfl, rfl⟩)
  go_ret
  exact ⟨rfl, nw _ (Below.refl _ _)⟩

set_option maxRecDepth 100000 in
set_option maxHeartbeats 2000000 in
theorem index_any (A : Option Addr) (us : List Ar) (c : Nat) (key : Int) (B : Nat) (w : World) (hx : SlR 5 RAr w A us) (hl : us.length ≤ 65536) (hB : B < w.heap.size) (h0 : w.cell? ⟨B, 0, none⟩ = some (.int .u8 key)) :
    Calls Try.prog 40 #[.slice A us.length c, .func (.func 41) #[] #[.pointer (some ⟨B, 0, none⟩)]] w fun e w' =>
      ((∃ (i : Nat) (a : Ar), us[i]? = some a ∧ areaOf us key = some a ∧ e = .returned (.int .i64 i)) ∨ (areaOf us key = none ∧ e = .returned (.int .i64 (-1)))) ∧ Below w.heap.size w w' := by
  go_enter Try.func40, Try.ntmps40
  go_wp2_with fail
  go_loopw [8] (fun i wr => ∃ k : Nat, k ≤ us.length ∧ Hid (areaOf us key = areaOf (us.drop k) key) ∧ i = .int .i64 k ∧ Below w.heap.size w wr) (fun i _ => us.length - (intOf i).toNat)
  case atStart => exact ⟨0, by omega, rfl, rfl, Below.refl _ _⟩
  case round =>
    obtain ⟨k, hk, HS, rfl, hb⟩ := hrel
    by_cases hlt : k < us.length
    · obtain ⟨b, off, a, rfl, hbb, haa, d0, d1, d2, d3, d4⟩ := (hx.below keeps_ar hb).ar hlt
      have HA := Lib.hid haa
      have HD := Lib.hid (drop_of haa)
      have HI := Lib.hid (isKey_any a key B wr (Nat.lt_of_lt_of_le hB hb.size) ((hb.cell (p := ⟨B, 0, none⟩) hB).trans h0))
      have hbs := hb.size
      clear haa
      by_cases h1 : a.key = key
      · have HR : Hid (areaOf us key = some a) := by show areaOf us key = some a; rw [HS.out, HD.out]; unfold areaOf; rw [List.find?_cons_of_pos (by simpa using h1)]
        rw [decide_eq_true h1] at HI
        clear h1
        go_wp2_with (go_at_call 41; refine HI.out.mono ?_; rintro e w1 ⟨rfl, hb1⟩)
        go_ret
        exact ⟨.inl ⟨k, a, HA.out, HR.out, rfl⟩, hb.trans (hb1.mono hbs)⟩
      · have HR : Hid (areaOf us key = areaOf (us.drop (k + 1)) key) := by show areaOf us key = _; rw [HS.out, HD.out]; unfold areaOf; rw [List.find?_cons_of_neg (by simpa using h1)]
        rw [decide_eq_false h1] at HI
        clear h1
        go_wp2_with (go_at_call 41; refine HI.out.mono ?_; rintro e w1 ⟨rfl, hb1⟩)
        go_roundw
        case rel => exact ⟨k + 1, by omega, HR.out, by go_num, hb.trans (hb1.mono hbs)⟩
        case measure => simp [intOf]; omega
    · have HR : Hid (areaOf us key = none) := by show areaOf us key = none; rw [HS.out, drop_end hlt]; rfl
      go_wp2_with fail
      go_ret
      exact ⟨.inr ⟨HR.out, rfl⟩, hb⟩

/-- The keys of taps increase. -/
def IncT (l : List Tp) : Prop := l.Pairwise (fun x y => x.key < y.key)
theorem IncT.at_ {l : List Tp} (h : IncT l) {i j : Nat} {x y : Tp} (hij : i < j) (hx : l[i]? = some x) (hy : l[j]? = some y) : x.key < y.key := by
  obtain ⟨h1, rfl⟩ := List.getElem?_eq_some_iff.1 hx
  obtain ⟨h2, rfl⟩ := List.getElem?_eq_some_iff.1 hy
  exact (List.pairwise_iff_getElem.1 h) i j h1 h2 hij
/-- Place i is where a key belongs. -/
def PlaceT (l : List Tp) (key : Int) (i : Nat) : Prop := (∀ j x, j < i → l[j]? = some x → x.key < key) ∧ (∀ j x, i ≤ j → l[j]? = some x → key ≤ x.key)

set_option maxRecDepth 100000 in
set_option maxHeartbeats 4000000 in
theorem search_any (A : Option Addr) (xs : List Tp) (c : Nat) (key : Int) (w : World) (hx : SlR 4 RTp w A xs) (hl : xs.length ≤ 65536) (hs : IncT xs) :
    Calls Try.prog 42 #[.slice A xs.length c, .int .u8 key, .func (.func 43) #[] #[]] w fun e w' =>
      ∃ (i : Nat) (f : Bool), i ≤ xs.length ∧ PlaceT xs key i ∧ (f = true ↔ ∃ x, xs[i]? = some x ∧ x.key = key) ∧ e = .returned (.tuple #[.int .i64 i, .bool f]) ∧ Below w.heap.size w w' := by
  have HINC := Lib.hid hs
  clear hs
  go_enter Try.func42, Try.ntmps42
  go_wp2_with fail
  go_loopw [9, 10] (fun i j wr => ∃ k m : Nat, k ≤ m ∧ m ≤ xs.length ∧ Hid ((∀ q x, q < k → xs[q]? = some x → x.key < key) ∧ (∀ q x, m ≤ q → xs[q]? = some x → key ≤ x.key)) ∧ i = .int .i64 k ∧ j = .int .i64 m ∧ Below w.heap.size w wr) (fun i j _ => (intOf j).toNat - (intOf i).toNat)
  case atStart => exact ⟨0, xs.length, by omega, by omega, ⟨fun _ _ h => absurd h (by omega), fun q x h hx => absurd (List.getElem?_eq_some_iff.1 hx).1 (by omega)⟩, rfl, rfl, Below.refl _ _⟩
  case round =>
    obtain ⟨k, m, hkm, hm, HS, rfl, rfl, hb⟩ := hrel
    have hbs := hb.size
    by_cases hlt : k < m
    · obtain ⟨b, off, t, rfl, hbb, htt, d0, d1, d2, d3⟩ := (hx.below keeps_tp hb).tp (k := (k + m) / 2) (by omega)
      have HT := Lib.hid htt
      have HC0 := cmpTap_any t key wr
      clear htt
      have hc3 : Lib.compareInt t.key key = -1 ∧ t.key < key ∨ (Lib.compareInt t.key key = 0 ∧ t.key = key ∨ Lib.compareInt t.key key = 1 ∧ key < t.key) := by
        unfold Lib.compareInt
        rcases Int.lt_trichotomy t.key key with h | h | h
        · exact .inl ⟨if_pos h, h⟩
        · exact .inr (.inl ⟨by rw [if_neg (by omega), if_neg (by omega)], h⟩)
        · exact .inr (.inr ⟨by rw [if_neg (by omega), if_pos h], h⟩)
      rcases hc3 with ⟨h1, h2⟩ | h3
      · rw [h1] at HC0
        have HC := Lib.hid HC0
        have H2 := Lib.hid h2
        clear h1 HC0 h2
        go_wp2_with (go_at_call 43; refine HC.out.mono ?_; rintro e w1 ⟨rfl, hb1⟩)
        go_roundw
        case rel => exact ⟨(k + m) / 2 + 1, m, by omega, by omega, ⟨fun q x hq hx => (by
          rcases Nat.lt_or_ge q ((k + m) / 2) with h | h
          · exact Int.lt_trans (HINC.out.at_ h hx HT.out) H2.out
          · obtain rfl : q = (k + m) / 2 := by omega
            rw [HT.out] at hx
            rw [← Option.some.inj hx]; exact H2.out), HS.out.2⟩, by go_num, rfl, hb.trans (hb1.mono hbs)⟩
        case measure => simp [intOf]; omega
      · have H2 : Hid (key ≤ t.key) := by show key ≤ t.key; rcases h3 with ⟨_, h⟩ | ⟨_, h⟩ <;> omega
        rcases h3 with ⟨h1, h9⟩ | ⟨h1, h9⟩
        all_goals
          rw [h1] at HC0
          have HC := Lib.hid HC0
          clear h1 HC0 h9
          go_wp2_with (go_at_call 43; refine HC.out.mono ?_; rintro e w1 ⟨rfl, hb1⟩)
          go_roundw
          case rel => exact ⟨k, (k + m) / 2, by omega, by omega, ⟨HS.out.1, fun q x hq hx => (by
            rcases Nat.lt_or_ge ((k + m) / 2) q with h | h
            · exact Int.le_of_lt (Int.lt_of_le_of_lt H2.out (HINC.out.at_ h HT.out hx))
            · obtain rfl : q = (k + m) / 2 := by omega
              rw [HT.out] at hx
              rw [← Option.some.inj hx]; exact H2.out)⟩, rfl, by go_num, hb.trans (hb1.mono hbs)⟩
          case measure => simp [intOf]; omega
    · obtain rfl : k = m := by omega
      by_cases hend : k < xs.length
      · obtain ⟨b, off, t, rfl, hbb, htt, d0, d1, d2, d3⟩ := (hx.below keeps_tp hb).tp hend
        have HT := Lib.hid htt
        have HC0 := cmpTap_any t key wr
        have hge : key ≤ t.key := HS.out.2 k t (Nat.le_refl _) htt
        clear htt
        have hc3 : Lib.compareInt t.key key = 0 ∧ t.key = key ∨ Lib.compareInt t.key key = 1 ∧ ¬ t.key = key := by
          unfold Lib.compareInt
          by_cases h : t.key = key
          · exact .inl ⟨by rw [if_neg (by omega), if_neg (by omega)], h⟩
          · exact .inr ⟨by rw [if_neg (by omega), if_pos (by omega)], h⟩
        clear hge
        rcases hc3 with ⟨h1, h2⟩ | ⟨h1, h2⟩
        · rw [h1] at HC0
          have HC := Lib.hid HC0
          have H2 := Lib.hid h2
          clear h1 HC0 h2
          go_wp2_with (go_at_call 43; refine HC.out.mono ?_; rintro e w1 ⟨rfl, hb1⟩)
          go_ret2
          exact ⟨k, true, by omega, HS.out, ⟨fun _ => ⟨t, HT.out, H2.out⟩, fun _ => rfl⟩, rfl, hb.trans (hb1.mono hbs)⟩
        · rw [h1] at HC0
          have HC := Lib.hid HC0
          have H2 := Lib.hid h2
          clear h1 HC0 h2
          go_wp2_with (go_at_call 43; refine HC.out.mono ?_; rintro e w1 ⟨rfl, hb1⟩)
          go_ret2
          exact ⟨k, false, by omega, HS.out, ⟨fun h => (by cases h), fun ⟨x, h, h'⟩ => (by rw [HT.out] at h; rw [← Option.some.inj h] at h'; exact absurd h' H2.out)⟩, rfl, hb.trans (hb1.mono hbs)⟩
      · obtain rfl : k = xs.length := by omega
        go_wp2_with fail
        go_ret2
        exact ⟨xs.length, false, by omega, HS.out, ⟨fun h => (by cases h), fun ⟨x, h, _⟩ => (by rw [List.getElem?_eq_none (Nat.le_refl _)] at h; cases h)⟩, rfl, hb⟩
end Go.Proofs.Ytpjecpefbfobdaa
