/-
  CostWalkT, CostWalkU, CostWalkV, CostWalkL, CostWalkM, joined. No conditions.
-/
import Derived.Test.YtfjkmgjjifhdkaaGreatR36
import Derived.Test.YtfjkmgjjifhdkaaGreatR37
import Derived.Test.YtfjkmgjjifhdkaaGreatR33
import Derived.Test.YtfjkmgjjifhdkaaGreatR05
import Derived.Test.YtfjkmgjjifhdkaaGreatR01
import Derived.Test.YtfjkmgjjifhdkaaGreatR29
/-
  The walks of layer 11: count adds to a pair of an increasing list, or puts it in.
-/
namespace Go.Proofs.YtfjkmgjjifhdkaaGreat
open Go Go.RowKit

/-- cost.count. -/
def countP (ps : List Pr) (g : Pr) : List Pr :=
  match ps[cutP ps g]? with
  | some p => if p.a = g.a ∧ p.b = g.b then ps.set (cutP ps g) ⟨p.a, p.b, p.n + g.n⟩ else insAt ps (cutP ps g) g
  | none => insAt ps (cutP ps g) g
end Go.Proofs.YtfjkmgjjifhdkaaGreat

/-
  The walks of layer 11: Learn, where it refuses.
-/
namespace Go.Proofs.YtfjkmgjjifhdkaaGreat
open Go Go.RowKit

end Go.Proofs.YtfjkmgjjifhdkaaGreat

/-
  The walks of layer 11: Learn, where it goes on.
-/
namespace Go.Proofs.YtfjkmgjjifhdkaaGreat
open Go Go.RowKit

/-- A frame of Learn: the slots that are read again, and others. -/
def LA (f : Nat → Value) (x1 x2 x3 x8 x11 : Value) : Act := ⟨#[f 0, x1, x2, x3, f 4, f 5, f 6, f 7, x8, f 9, f 10, x11, f 12, f 13, f 14, f 15, f 16, f 17, f 18, f 19, f 20, f 21, f 22, f 23, f 24, f 25, f 26, f 27, f 28, f 29, f 30, f 31, f 32, f 33, f 34, f 35, f 36, f 37, f 38, f 39, f 40, f 41, f 42, f 43, f 44, f 45, f 46, f 47, f 48, f 49, f 50, f 51, f 52, f 53, f 54, f 55, f 56, f 57, f 58, f 59, f 60, f 61, f 62, f 63, f 64, f 65, f 66, f 67, f 68, f 69, f 70, f 71, f 72, f 73, f 74, f 75, f 76], []⟩
end Go.Proofs.YtfjkmgjjifhdkaaGreat

/-
  The walks of layer 11: a word put into an increasing list (the reference).
-/
namespace Go.Proofs.YtfjkmgjjifhdkaaGreat
open Go Go.RowKit

def insStep (s : ByteArray) (st : List ByteArray × Bool) (x : ByteArray) : List ByteArray × Bool :=
  (if !st.2 && ltS s x then st.1 ++ [s] ++ [x] else st.1 ++ [x], (st.2 || ltS s x) || decide (s = x))
def insTo (s : ByteArray) (l : List ByteArray) (k : Nat) : List ByteArray × Bool := (l.take k).foldl (insStep s) ([], false)
/-- What insert returns. -/
def insW (l : List ByteArray) (s : ByteArray) : List ByteArray := if (insTo s l l.length).2 then (insTo s l l.length).1 else (insTo s l l.length).1 ++ [s]
theorem insTo_succ {s : ByteArray} {l : List ByteArray} {k : Nat} {x : ByteArray} (hx : l[k]? = some x) : insTo s l (k + 1) = insStep s (insTo s l k) x := by
  unfold insTo; rw [take_succ_of hx, List.foldl_append]; rfl
theorem insStep_len (s : ByteArray) (st : List ByteArray × Bool) (x : ByteArray) : (insStep s st x).1.length ≤ st.1.length + 2 := by
  unfold insStep; dsimp only; split <;> simp
theorem insTo_len (s : ByteArray) (l : List ByteArray) (k : Nat) : (insTo s l k).1.length ≤ 2 * k := by
  unfold insTo
  have : ∀ (l : List ByteArray) (st : List ByteArray × Bool), (l.foldl (insStep s) st).1.length ≤ st.1.length + 2 * l.length := by
    intro l
    induction l with
    | nil => intro st; simp
    | cons x l ih =>
      intro st
      have h1 := ih (insStep s st x)
      have h2 := insStep_len s st x
      simp only [List.foldl_cons, List.length_cons]
      omega
  have h := this (l.take k) ([], false)
  have h2 : (l.take k).length ≤ k := List.length_take_le _ _
  simp only [List.length_nil] at h
  omega
theorem str_info : (Tryz.prog.info? 9).map (fun i => (i.zero, i.size, i.bytes)) = some (some (.string ByteArray.empty), 1, 16) := by kernel_rfl
theorem bytes_eqb (x y : ByteArray) : (x.toList == y.toList) = decide (x = y) := by
  by_cases h : x = y
  · subst h; simp
  · rw [bytes_ne h]; simp [h]

set_option maxRecDepth 100000 in
set_option maxHeartbeats 2000000 in
theorem insert_any (A : Option Addr) (l : List ByteArray) (c : Nat) (s : ByteArray) (w : World) (hx : SlR 1 RStr w A l) (hl : l.length ≤ 65536) :
    Calls Tryz.prog 41 #[.slice A l.length c, .string s] w fun e w' => ∃ v, e = .returned v ∧ w'.ownsRow w.heap.size 9 1 v (insW l s).length ((insW l s).map Value.string) ∧ Below w.heap.size w w' := by
  obtain ⟨i0, hi, hz0, hz1, hz2⟩ := info_parts str_info
  go_enter Tryz.func41, Tryz.ntmps41
  go_wp2_with fail
  go_loopw [5, 6, 7] (fun out d i wr => ∃ k : Nat, ∃ L : List ByteArray, ∃ b : Bool, k ≤ l.length ∧ Hid (insTo s l k = (L, b)) ∧ L.length ≤ 2 * k ∧ i = .int .i64 k ∧ d = .bool b ∧ wr.ownsRow w.heap.size 9 1 out L.length (L.map Value.string) ∧ Below w.heap.size w wr) (fun _ _ i _ => l.length - (intOf i).toNat)
  case atStart => exact ⟨0, [], false, by omega, rfl, by simp, rfl, rfl, own_empty w _ _ _ (Nat.le_refl _), (Below.refl _ _).alloc (Nat.le_refl _) _⟩
  case round =>
    obtain ⟨k, L, b, hk, HL, hLk, rfl, rfl, hown, hb⟩ := hrel
    by_cases hlt : k < l.length
    · obtain ⟨bk, off, x, rfl, hbb, hxx, hcx0⟩ := hx.str hlt
      have hcx := (hb.cell (p := ⟨bk, _, none⟩) hbb).trans hcx0
      clear hcx0
      have HX := Lib.hid hxx
      clear hxx
      have hlen' := insTo_len s l (k + 1)
      rw [insTo_succ HX.out, HL.out] at hlen'
      cases b with
      | true =>
        have HN := Lib.hid (show insTo s l (k + 1) = (L ++ [x], true) by rw [insTo_succ HX.out, HL.out]; simp [insStep])
        go_wp2_with (first | (at_builtin; refine wpList_app1 rfl _ _ 53 rfl w.heap.size 9 i0 _ 1 16 Tryz.underlying53 hi hz0 hz1 hz2 rfl (by decide) _ _ _ rfl wr [.string x] rfl hown _ rfl (by simp) rfl (by simp [Value.oneCell']) (by omega) (by decide) hb.size ?_; intro v2 w2 hown2 hb2 ha2))
        go_roundw
        case rel => exact ⟨k + 1, L ++ [x], true, by omega, HN.out, by simp; omega, by go_num, rfl, by simpa using hown2, hb.trans hb2⟩
        case measure => simp [intOf]; omega
      | false =>
        cases hlt' : ltS s x
        · have hltb : Op.bytesLess s.toList x.toList = false := hlt'
          by_cases he : s = x
          · have hbe : (s.toList == x.toList) = true := by rw [bytes_eqb]; simp [he]
            have HN := Lib.hid (show insTo s l (k + 1) = (L ++ [x], true) by rw [insTo_succ HX.out, HL.out]; unfold insStep; rw [hlt']; simp [he])
            clear he
            go_wp2_with (first | (at_builtin; refine wpList_app1 rfl _ _ 53 rfl w.heap.size 9 i0 _ 1 16 Tryz.underlying53 hi hz0 hz1 hz2 rfl (by decide) _ _ _ rfl wr [.string x] rfl hown _ rfl (by simp) rfl (by simp [Value.oneCell']) (by omega) (by decide) hb.size ?_; intro v2 w2 hown2 hb2 ha2))
            go_roundw
            case rel => exact ⟨k + 1, L ++ [x], true, by omega, HN.out, by simp; omega, by go_num, rfl, by simpa using hown2, hb.trans hb2⟩
            case measure => simp [intOf]; omega
          · have hbe : (s.toList == x.toList) = false := by rw [bytes_eqb]; simp [he]
            have HN := Lib.hid (show insTo s l (k + 1) = (L ++ [x], false) by rw [insTo_succ HX.out, HL.out]; unfold insStep; rw [hlt']; simp [he])
            clear he
            go_wp2_with (first | (at_builtin; refine wpList_app1 rfl _ _ 53 rfl w.heap.size 9 i0 _ 1 16 Tryz.underlying53 hi hz0 hz1 hz2 rfl (by decide) _ _ _ rfl wr [.string x] rfl hown _ rfl (by simp) rfl (by simp [Value.oneCell']) (by omega) (by decide) hb.size ?_; intro v2 w2 hown2 hb2 ha2))
            go_roundw
            case rel => exact ⟨k + 1, L ++ [x], false, by omega, HN.out, by simp; omega, by go_num, rfl, by simpa using hown2, hb.trans hb2⟩
            case measure => simp [intOf]; omega
        · have hltb : Op.bytesLess s.toList x.toList = true := hlt'
          have HN := Lib.hid (show insTo s l (k + 1) = (L ++ [s] ++ [x], true) by rw [insTo_succ HX.out, HL.out]; simp [insStep, hlt'])
          go_wp2_with (first | (at_builtin; refine wpList_app1 rfl _ _ 53 rfl w.heap.size 9 i0 _ 1 16 Tryz.underlying53 hi hz0 hz1 hz2 rfl (by decide) _ _ _ rfl w1 [.string x] rfl hown1 _ rfl (by simp) rfl (by simp [Value.oneCell']) (by omega) (by decide) (Nat.le_trans hb.size hb1.size) ?_; intro v2 w2 hown2 hb2 ha2) | (at_builtin; refine wpList_app1 rfl _ _ 53 rfl w.heap.size 9 i0 _ 1 16 Tryz.underlying53 hi hz0 hz1 hz2 rfl (by decide) _ _ _ rfl wr [.string s] rfl hown _ rfl (by simp) rfl (by simp [Value.oneCell']) (by omega) (by decide) hb.size ?_; intro v1 w1 hown1 hb1 ha1; have hcx1 := (hb1.cell (p := ⟨bk, _, none⟩) hbb).trans hcx))
          go_roundw
          case rel => exact ⟨k + 1, L ++ [s] ++ [x], true, by omega, HN.out, by simp; omega, by go_num, rfl, by simpa using hown2, hb.trans (hb1.trans hb2)⟩
          case measure => simp [intOf]; omega
    · have HE := Lib.hid (show insTo s l l.length = (L, b) by rw [← HL.out]; congr 1; omega)
      cases b with
      | true =>
        have HR := Lib.hid (show insW l s = L by unfold insW; rw [HE.out]; rfl)
        go_wp2_with fail
        go_ret
        exact ⟨_, rfl, by rw [HR.out]; exact hown, hb⟩
      | false =>
        have HR := Lib.hid (show insW l s = L ++ [s] by unfold insW; rw [HE.out]; rfl)
        go_wp2_with (first | (at_builtin; refine wpList_app1 rfl _ _ 53 rfl w.heap.size 9 i0 _ 1 16 Tryz.underlying53 hi hz0 hz1 hz2 rfl (by decide) _ _ _ rfl wr [.string s] rfl hown _ rfl (by simp) rfl (by simp [Value.oneCell']) (by omega) (by decide) hb.size ?_; intro v1 w1 hown1 hb1 ha1))
        go_ret
        exact ⟨_, rfl, by rw [HR.out]; simpa using hown1, hb.trans hb1⟩
end Go.Proofs.YtfjkmgjjifhdkaaGreat

/-
  The walks of layer 11: a word out of letters (the reference).
-/
namespace Go.Proofs.YtfjkmgjjifhdkaaGreat
open Go Go.RowKit

def letter (x : Int) : ByteArray := (ByteArray.mk #[97, 98, 99, 65, 66, 49]).extract (x % 6).toNat (x % 6 + 1).toNat
def wordTo (l : List Int) (k : Nat) : ByteArray := (l.take k).foldl (fun S x => S ++ letter x) (ByteArray.mk #[])
/-- What word returns. -/
def wordOf (l : List Int) : ByteArray := if l.isEmpty then ByteArray.mk #[97] else wordTo l 3
theorem letter_cases (x : Int) : letter x = ByteArray.mk #[97] ∨ letter x = ByteArray.mk #[98] ∨ letter x = ByteArray.mk #[99] ∨ letter x = ByteArray.mk #[65] ∨ letter x = ByteArray.mk #[66] ∨ letter x = ByteArray.mk #[49] := by
  have h : x % 6 = 0 ∨ x % 6 = 1 ∨ x % 6 = 2 ∨ x % 6 = 3 ∨ x % 6 = 4 ∨ x % 6 = 5 := by omega
  unfold letter
  rcases h with h | h | h | h | h | h
  · rw [h]; exact .inl (by rfl)
  · rw [h]; exact .inr (.inl (by rfl))
  · rw [h]; exact .inr (.inr (.inl (by rfl)))
  · rw [h]; exact .inr (.inr (.inr (.inl (by rfl))))
  · rw [h]; exact .inr (.inr (.inr (.inr (.inl (by rfl)))))
  · rw [h]; exact .inr (.inr (.inr (.inr (.inr (by rfl)))))
theorem ret_str {a b : ByteArray} (h : a = b) : Ending.returned (.string a) = .returned (.string b) := by rw [h]
theorem wordTo_succ {l : List Int} {k : Nat} {x : Int} (hx : l[k]? = some x) : wordTo l (k + 1) = wordTo l k ++ letter x := by
  unfold wordTo; rw [take_succ_of hx, List.foldl_append]; rfl
theorem plainS_append (a b : ByteArray) : plainS (a ++ b) = (plainS a && plainS b) := by
  unfold plainS; simp
theorem letter_ok (x : Int) : (letter x).size = 1 ∧ plainS (letter x) = true := by
  rcases letter_cases x with h | h | h | h | h | h <;> rw [h] <;> exact ⟨by rfl, by decide +kernel⟩
theorem wordTo_ok (l : List Int) : ∀ k, k ≤ l.length → (wordTo l k).size = k ∧ plainS (wordTo l k) = true := by
  intro k
  induction k with
  | zero => intro _; exact ⟨rfl, rfl⟩
  | succ k ih =>
    intro hk
    obtain ⟨h1, h2⟩ := ih (by omega)
    rw [wordTo_succ (List.getElem?_eq_getElem (by omega))]
    have := letter_ok l[k]
    exact ⟨by rw [ByteArray.size_append, h1, this.1], by rw [plainS_append, h2, this.2]; rfl⟩
theorem wordTo_min (l : List Int) (k : Nat) : wordTo l k = wordTo l (min k l.length) := by
  unfold wordTo; rw [List.take_eq_take_min]
theorem wordOf_ok (l : List Int) : wordS (wordOf l) = true := by
  cases l with
  | nil => decide +kernel
  | cons x l =>
    have h : wordOf (x :: l) = wordTo (x :: l) (min 3 (x :: l).length) := by rw [← wordTo_min]; rfl
    rw [h]
    have := wordTo_ok (x :: l) (min 3 (x :: l).length) (by omega)
    unfold wordS
    rw [this.1, this.2]
    simp only [List.length_cons, Bool.and_true, Bool.and_eq_true, decide_eq_true_eq]
    omega

set_option maxRecDepth 100000 in
set_option maxHeartbeats 2000000 in
theorem rword_any (A : Option Addr) (l : List Int) (c : Nat) (w : World) (hx : SlR 1 RU8 w A l) (hl : l.length ≤ maxLen) (hb8 : ∀ x ∈ l, 0 ≤ x ∧ x ≤ 255) :
    Calls Tryz.prog 42 #[.slice A l.length c] w fun e w' => e = .returned (.string (wordOf l)) ∧ Below w.heap.size w w' := by
  unfold maxLen at hl
  go_enter Tryz.func42, Tryz.ntmps42
  go_wp2_with fail
  go_loopw [3, 4] (fun out i wr => ∃ k : Nat, ∃ S : ByteArray, k ≤ l.length ∧ k ≤ 3 ∧ Hid (S = wordTo l k) ∧ i = .int .i64 k ∧ out = .string S ∧ Below w.heap.size w wr) (fun _ i _ => 3 - (intOf i).toNat)
  case atStart => exact ⟨0, ByteArray.mk #[], by omega, by omega, rfl, rfl, rfl, Below.refl _ _⟩
  case round =>
    obtain ⟨k, S, hk, hk3, HS, rfl, rfl, hb⟩ := hrel
    have hszN := wordTo_ok l k hk
    have hsz : S.size ≤ 3 := by rw [HS.out, hszN.1]; exact hk3
    by_cases hlt : k < l.length
    · by_cases hlt3 : k < 3
      · obtain ⟨bk, off, x, rfl, hbb, hxx, hcx0⟩ := hx.u8 hlt
        have hcx := (hb.cell (p := ⟨bk, _, none⟩) hbb).trans hcx0
        have HX := Lib.hid hxx
        have hx8 := hb8 x (List.mem_of_getElem? hxx)
        clear hcx0 hxx hszN
        have hm0 : 0 ≤ x % 6 := by omega
        have hm1 : x % 6 ≤ 5 := by omega
        have hwr : IntKind.u8.wrap (x % 6 + 1) = x % 6 + 1 := by unfold IntKind.wrap; simp [IntKind.bits, IntKind.signed]; omega
        have hki : (k : Int) < (l.length : Int) := by omega
        have hk0 : (0 : Int) ≤ (k : Int) := by omega
        go_wp2_with fail
        go_quiet (fail)
        go_wp2_with fail
        go_roundw
        case rel => exact ⟨k + 1, S ++ letter x, by omega, by omega, (by rw [wordTo_succ HX.out, HS.out] : S ++ letter x = wordTo l (k + 1)), by go_num, rfl, below_drewN hb _⟩
        case measure => simp [intOf]; omega
      · obtain rfl : k = 3 := by omega
        have hne : S.toList.isEmpty = false := by
          rw [ByteArray.toList_eq, List.isEmpty_eq_false_iff]
          intro e
          have : S.size = 0 := by simpa using congrArg List.length e
          rw [HS.out, hszN.1] at this; cases this
        have HR := Lib.hid (show wordOf l = S by
          have : l.isEmpty = false := by cases l with | nil => simp at hlt | cons _ _ => rfl
          unfold wordOf; rw [this, HS.out]; rfl)
        clear hszN
        go_wp2_with fail
        go_ret
        exact ⟨ret_str HR.out.symm, hb⟩
    · obtain rfl : k = l.length := by omega
      by_cases h0 : l = []
      · subst h0
        obtain rfl : S = ByteArray.mk #[] := HS.out
        clear hszN hsz
        go_wp2_with fail
        go_ret
        exact ⟨rfl, hb⟩
      · have hne : S.toList.isEmpty = false := by
          rw [ByteArray.toList_eq, List.isEmpty_eq_false_iff]
          intro e
          have : S.size = 0 := by simpa using congrArg List.length e
          rw [HS.out, hszN.1] at this
          exact h0 (List.length_eq_zero_iff.1 this)
        have HR := Lib.hid (show wordOf l = S by
          have : l.isEmpty = false := by cases l with | nil => exact absurd rfl h0 | cons _ _ => rfl
          unfold wordOf; rw [this, HS.out, wordTo_min l 3, Nat.min_eq_right hk3]; rfl)
        clear hszN
        by_cases h3 : l.length < 3
        · go_wp2_with fail
          go_ret
          exact ⟨ret_str HR.out.symm, hb⟩
        · go_wp2_with fail
          go_ret
          exact ⟨ret_str HR.out.symm, hb⟩
end Go.Proofs.YtfjkmgjjifhdkaaGreat
