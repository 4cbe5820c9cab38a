/-
  Lib, CostWalkB, CostWalkC, OuWalkA, Ord, App, OrdT, Blk, GrMath, GrLaw, GrWalkA, joined. No conditions.
-/
import Derived.WalkKit
import Derived.OwnWalk
import Derived.Below
import Derived.Lib.Hide
import Derived.Deep.Draws
import Derived.Deep.QuietTactic
import Derived.Test.YtfpnhgahkjglgaaGreatChecked
import Derived.Test.YtfpnhgahkjglgaaGreatF01
import Derived.Outline
import Derived.Deep.Light
import Derived.WalkSpells
import Derived.BigQuiet
import Derived.Test.YtfpnhgahkjglgaaGreatF04
import Derived.Deep.RegionHeld
import Derived.Laws.AppendOwn
import Derived.Laws.OwnMore
import Derived.Maps.AppendAt
import Derived.WalkLawsBesides
import Derived.Handy
import Derived.IntWalk
set_option maxRecDepth 100000
namespace Go.Proofs.YtfpnhgahkjglgaaGreat
open Go Go.RowKit
def SlR {α : Type} (s : Nat) (R : World → α → List Value → Prop) (w : World) (A : Option Addr) (xs : List α) : Prop :=
 xs ≠ [] → ∃ b off, A = some ⟨b, off, none⟩ ∧ b < w.heap.size ∧
  ∀ k x, xs[k]? = some x → ∃ vs, R w x vs ∧ vs.length = s ∧ ∀ j v, vs[j]? = some v → w.cell? ⟨b, off + k * s + j, none⟩ = some v
def Keeps {α : Type} (R : World → α → List Value → Prop) : Prop := ∀ w w' x vs, Below w.heap.size w w' → R w x vs → R w' x vs
def RInt (_ : World) (x : Int) (vs : List Value) : Prop := vs = [.int .i64 x]
def RU8 (_ : World) (x : Int) (vs : List Value) : Prop := vs = [.int .u8 x]
theorem keeps_int : Keeps RInt := fun _ _ _ _ _ h => h
theorem keeps_u8 : Keeps RU8 := fun _ _ _ _ _ h => h
section
variable {α : Type} {s : Nat} {R : World → α → List Value → Prop} {w w' : World} {A : Option Addr} {xs : List α}
theorem SlR.nil : SlR s R w A ([] : List α) := fun h => absurd rfl h
theorem SlR.below (hR : Keeps R) (h : SlR s R w A xs) (hb : Below w.heap.size w w') : SlR s R w' A xs := fun hn => by
 obtain ⟨b, off, rfl, hlt, hc⟩ := h hn
 refine ⟨b, off, rfl, Nat.lt_of_lt_of_le hlt hb.size, fun k x hx => ?_⟩
 obtain ⟨vs, hr, hl, hv⟩ := hc k x hx
 exact ⟨vs, hR _ _ _ _ hb hr, hl, fun j v hj => (hb.cell (p := ⟨b, _, none⟩) hlt).trans (hv j v hj)⟩
theorem SlR.at_ (h : SlR s R w A xs) {k : Nat} (hk : k < xs.length) : ∃ b off x vs, A = some ⟨b, off, none⟩ ∧ b < w.heap.size ∧ xs[k]? = some x ∧ R w x vs ∧ vs.length = s ∧
 ∀ j v, vs[j]? = some v → w.cell? ⟨b, off + k * s + j, none⟩ = some v := by
 obtain ⟨b, off, hA, hlt, hc⟩ := h (by intro e; subst e; simp at hk)
 obtain ⟨vs, hr, hl, hv⟩ := hc k xs[k] (List.getElem?_eq_getElem hk)
 exact ⟨b, off, xs[k], vs, hA, hlt, List.getElem?_eq_getElem hk, hr, hl, hv⟩
end
theorem SlR.int {w : World} {A : Option Addr} {xs : List Int} (h : SlR 1 RInt w A xs) {k : Nat} (hk : k < xs.length) :
 ∃ b off x, A = some ⟨b, off, none⟩ ∧ b < w.heap.size ∧ xs[k]? = some x ∧ w.cell? ⟨b, off + k, none⟩ = some (.int .i64 x) := by
 obtain ⟨b, off, x, vs, hA, hlt, hx, hr, _, hv⟩ := h.at_ hk
 have h0 := hv 0 (.int .i64 x) (by rw [hr]; rfl)
 simp only [Nat.mul_one, Nat.add_zero] at h0
 exact ⟨b, off, x, hA, hlt, hx, h0⟩
theorem SlR.u8 {w : World} {A : Option Addr} {xs : List Int} (h : SlR 1 RU8 w A xs) {k : Nat} (hk : k < xs.length) :
 ∃ b off x, A = some ⟨b, off, none⟩ ∧ b < w.heap.size ∧ xs[k]? = some x ∧ w.cell? ⟨b, off + k, none⟩ = some (.int .u8 x) := by
 obtain ⟨b, off, x, vs, hA, hlt, hx, hr, _, hv⟩ := h.at_ hk
 have h0 := hv 0 (.int .u8 x) (by rw [hr]; rfl)
 simp only [Nat.mul_one, Nat.add_zero] at h0
 exact ⟨b, off, x, hA, hlt, hx, h0⟩
theorem ret_int {k : IntKind} {a b : Int} (h : a = b) : Ending.returned (.int k a) = .returned (.int k b) := by rw [h]
theorem ret_bool {a b : Bool} (h : a = b) : Ending.returned (.bool a) = .returned (.bool b) := by rw [h]
theorem bcell {W w1 : World} (hb : Below W.heap.size W w1) : (∀ b o, b < W.heap.size → w1.cell? ⟨b, o, none⟩ = W.cell? ⟨b, o, none⟩) ∧ (∀ b o, b < W.heap.size → w1.frozen? ⟨b, o, none⟩ = W.frozen? ⟨b, o, none⟩) :=
 ⟨fun b o h => hb.cell (p := ⟨b, o, none⟩) h, fun b o h => hb.frozen (p := ⟨b, o, none⟩) h⟩
theorem new_cell (w : World) (cs : Array Value) (t : TypeId) (i : Nat) : (w.alloc (.cells cs t)).cell? ⟨w.heap.size, i, none⟩ = cs[i]? := by
 have h : (w.alloc (.cells cs t)).heap[w.heap.size]? = some (.cells cs t) := heap_alloc_new w _
 unfold World.cell?
 simp only [h]
 rfl
theorem below_drewN {B : Nat} {a w : World} (h : Below B a w) (n : Nat) : Below B a (w.drewN n) := ⟨h.os, h.tape, h.output, h.size, h.block⟩
theorem take_succ_of {α : Type} {xs : List α} {k : Nat} {x : α} (h : xs[k]? = some x) : xs.take (k + 1) = xs.take k ++ [x] := by
 obtain ⟨hk, rfl⟩ := List.getElem?_eq_some_iff.1 h
 rw [List.take_succ_eq_append_getElem hk]
/-! syllabaryref02.In. -/
def inB (n lo hi : Int) : Bool := decide (lo ≤ n) && decide (n ≤ hi)
set_option maxHeartbeats 400000 in
theorem in_any (n lo hi : Int) (w : World) : Calls Tryz.prog 31 #[.int .i64 n, .int .i64 lo, .int .i64 hi] w fun e w' => e = .returned (.bool (inB n lo hi)) ∧ w = w' := by
 unfold inB
 by_cases h1 : lo ≤ n
 ·by_cases h2 : n ≤ hi
  all_goals
   go_enter Tryz.func31, Tryz.ntmps31
   go_wp2
   go_ret
   exact ⟨ret_bool (by simp; omega), rfl⟩
 ·go_enter Tryz.func31, Tryz.ntmps31
  go_wp2
  go_ret
  exact ⟨ret_bool (by simp; omega), rfl⟩
/-! syllabaryref11.Total. -/
/-! syllabaryref11.Sum. -/
/-! syllabaryref11.Less. -/
/-! letters and digits -/
def plainB (c : Int) : Bool := (decide (97 ≤ c) && decide (c ≤ 122)) || (decide (65 ≤ c) && decide (c ≤ 90)) || (decide (48 ≤ c) && decide (c ≤ 57))
def plainS (s : ByteArray) : Bool := s.data.toList.all fun c => plainB (c.toNat : Int)
def PlainTo (s : ByteArray) (k : Nat) : Prop := ∀ i (h : i < s.size), i < k → plainB (s[i].toNat : Int) = true
theorem plainS_true {s : ByteArray} (h : PlainTo s s.size) : plainS s = true := by
 unfold plainS
 rw [List.all_eq_true]
 intro c hc
 obtain ⟨i, hi, rfl⟩ := List.getElem_of_mem hc
 have hi' : i < s.size := by simpa using hi
 exact h i hi' hi'
theorem plainS_false {s : ByteArray} {k : Nat} (hk : k < s.size) (h : plainB (s[k].toNat : Int) = false) : plainS s = false := by
 unfold plainS
 rw [List.all_eq_false]
 exact ⟨s[k], List.getElem_mem (l := s.data.toList) (by simpa using hk), by rw [h]; decide⟩
theorem PlainTo.succ {s : ByteArray} {k : Nat} (h : PlainTo s k) (hk : k < s.size) (hp : plainB (s[k].toNat : Int) = true) : PlainTo s (k + 1) := fun i hi hik => by
 by_cases e : i = k
 ·subst e; exact hp
 ·exact h i hi (by omega)
theorem byte_ranges (c : Int) : c < 48 ∨ (48 ≤ c ∧ c ≤ 57) ∨ (57 < c ∧ c < 65) ∨ (65 ≤ c ∧ c ≤ 90) ∨ (90 < c ∧ c < 97) ∨ (97 ≤ c ∧ c ≤ 122) ∨ 122 < c := by omega
set_option maxHeartbeats 1000000 in
theorem plain_any (s : ByteArray) (w : World) (hs : s.size ≤ maxLen) : Calls Tryz.prog 51 #[.string s] w fun e w' => e = .returned (.bool (plainS s)) ∧ w = w' := by
 unfold maxLen at hs
 go_enter Tryz.func51, Tryz.ntmps51
 go_wp2
 go_loop [3] (fun i => ∃ k : Nat, k ≤ s.size ∧ PlainTo s k ∧ i = .int .i64 k) (fun i => s.size - (intOf i).toNat)
 case atStart => exact ⟨0, by omega, fun _ _ h => absurd h (by omega), rfl⟩
 case round =>
  obtain ⟨k, hk, hp, rfl⟩ := hrel
  have HP := Lib.hid hp
  clear hp
  by_cases hlt : k < s.size
  ·have hr := byte_ranges (s[k].toNat : Int)
   obtain ⟨b, hb⟩ : ∃ b, b = plainB (s[k].toNat : Int) := ⟨_, rfl⟩
   have HB := Lib.hid hb
   clear hb
   rcases hr with h | ⟨h, h'⟩ | ⟨h, h'⟩ | ⟨h, h'⟩ | ⟨h, h'⟩ | ⟨h, h'⟩ | h
   all_goals
    go_wp2
    first
     | (go_round
        case rel => exact ⟨k + 1, by omega, HP.out.succ hlt (by unfold plainB; simp; omega), by go_num⟩
        case measure => simp [intOf]; omega)
     | (go_ret
        exact ⟨ret_bool (plainS_false hlt (by unfold plainB; simp; omega)).symm, rfl⟩)
  ·obtain rfl : k = s.size := by omega
   go_wp2
   go_ret
   exact ⟨ret_bool (plainS_true HP.out).symm, rfl⟩
/-! scheme.class, allKnown, Word -/
def clsI (c : Int) : Int := if 97 ≤ c ∧ c ≤ 122 then 1 else if 65 ≤ c ∧ c ≤ 90 then 2 else if 48 ≤ c ∧ c ≤ 57 then 3 else 0
theorem clsI_plain (c : Int) : plainB c = !(clsI c == 0) := by
 unfold plainB clsI
 rw [Bool.eq_iff_iff]
 split <;> (try split) <;> (try split) <;> simp <;> omega
set_option maxHeartbeats 1000000 in
theorem class_any (c : Int) (w : World) : Calls Tryz.prog 106 #[.int .u8 c] w fun e w' => e = .returned (.int .i64 (clsI c)) ∧ w = w' := by
 have hr := byte_ranges c
 rcases hr with h | ⟨h, h'⟩ | ⟨h, h'⟩ | ⟨h, h'⟩ | ⟨h, h'⟩ | ⟨h, h'⟩ | h
 all_goals
  go_enter Tryz.func106, Tryz.ntmps106
  go_wp2
  go_ret
  exact ⟨ret_int (by unfold clsI; repeat' split; all_goals omega), rfl⟩
set_option maxHeartbeats 1000000 in
theorem allKnown_any (s : ByteArray) (w : World) (hs : s.size ≤ maxLen) : Calls Tryz.prog 129 #[.string s] w fun e w' => e = .returned (.bool (plainS s)) ∧ w = w' := by
 unfold maxLen at hs
 go_enter Tryz.func129, Tryz.ntmps129
 go_wp2
 go_loop [3, 6] (fun _ i => ∃ k : Nat, k ≤ s.size ∧ PlainTo s k ∧ i = .int .i64 k) (fun _ i => s.size - (intOf i).toNat)
 case atStart => exact ⟨0, by omega, fun _ _ h => absurd h (by omega), rfl⟩
 case round =>
  obtain ⟨k, hk, hp, rfl⟩ := hrel
  have HP := Lib.hid hp
  clear hp
  by_cases hlt : k < s.size
  ·by_cases hz : clsI (s[k].toNat : Int) = 0
   ·go_wp2_with (go_at_call 106; refine (class_any _ _).mono ?_; rintro e w' ⟨rfl, rfl⟩)
    go_ret
    exact ⟨ret_bool (plainS_false hlt (by rw [clsI_plain, hz]; rfl)).symm, rfl⟩
   ·go_wp2_with (go_at_call 106; refine (class_any _ _).mono ?_; rintro e w' ⟨rfl, rfl⟩)
    go_round
    case rel => exact ⟨k + 1, by omega, HP.out.succ hlt (by rw [clsI_plain]; simpa using hz), by go_num⟩
    case measure => simp [intOf]; omega
  ·obtain rfl : k = s.size := by omega
   go_wp2
   go_ret
   exact ⟨ret_bool (plainS_true HP.out).symm, rfl⟩
theorem knownC_plain (c : UInt8) : plainB (c.toNat : Int) = knownC c := by
 unfold plainB knownC smallC
 rw [Bool.eq_iff_iff]
 simp
 omega
theorem knownS_plain (s : ByteArray) : plainS s = knownS s := by
 unfold plainS knownS bl
 congr 1
 funext c
 exact knownC_plain c
def BytesTo (f : UInt8 → Bool) (s : ByteArray) (k : Nat) : Prop := ∀ i (h : i < s.size), i < k → f s[i] = true
theorem bytesTo_true {f : UInt8 → Bool} {s : ByteArray} (h : BytesTo f s s.size) : (bl s).all f = true := by
 rw [List.all_eq_true]
 intro c hc
 obtain ⟨i, hi, rfl⟩ := List.getElem_of_mem hc
 have hi' : i < s.size := by simpa [bl_len] using hi
 exact h i hi' hi'
theorem bytesTo_false {f : UInt8 → Bool} {s : ByteArray} {k : Nat} (hk : k < s.size) (h : f s[k] = false) : (bl s).all f = false := by
 rw [List.all_eq_false]
 exact ⟨s[k], List.getElem_mem (l := s.data.toList) (by simpa using hk), by rw [h]; decide⟩
theorem BytesTo.succ {f : UInt8 → Bool} {s : ByteArray} {k : Nat} (h : BytesTo f s k) (hk : k < s.size) (hp : f s[k] = true) : BytesTo f s (k + 1) := fun i hi hik => by
 by_cases e : i = k
 ·subst e; exact hp
 ·exact h i hi (by omega)
theorem small_cls (c : UInt8) : smallC c = (clsI (c.toNat : Int) == 1) := by
 unfold smallC clsI
 rw [Bool.eq_iff_iff]
 split <;> (try split) <;> (try split) <;> simp <;> omega
set_option maxHeartbeats 1000000 in
theorem allSmall_any (s : ByteArray) (w : World) (hs : s.size ≤ maxLen) : Calls Tryz.prog 77 #[.string s] w fun e w' => e = .returned (.bool (smallS s)) ∧ w = w' := by
 unfold maxLen at hs
 go_enter Tryz.func77, Tryz.ntmps77
 go_wp2
 go_loop [3, 6] (fun _ i => ∃ k : Nat, k ≤ s.size ∧ BytesTo smallC s k ∧ i = .int .i64 k) (fun _ i => s.size - (intOf i).toNat)
 case atStart => exact ⟨0, by omega, fun _ _ h => absurd h (by omega), rfl⟩
 case round =>
  obtain ⟨k, hk, hp, rfl⟩ := hrel
  have HP := Lib.hid hp
  clear hp
  by_cases hlt : k < s.size
  ·by_cases hz : clsI (s[k].toNat : Int) = 1
   ·go_wp2_with (go_at_call 106; refine (class_any _ _).mono ?_; rintro e w' ⟨rfl, rfl⟩)
    go_round
    case rel => exact ⟨k + 1, by omega, HP.out.succ hlt (by rw [small_cls]; simpa using hz), by go_num⟩
    case measure => simp [intOf]; omega
   ·go_wp2_with (go_at_call 106; refine (class_any _ _).mono ?_; rintro e w' ⟨rfl, rfl⟩)
    go_ret
    exact ⟨ret_bool (bytesTo_false hlt (by rw [small_cls]; simpa using hz)).symm, rfl⟩
  ·obtain rfl : k = s.size := by omega
   go_wp2
   go_ret
   exact ⟨ret_bool (bytesTo_true HP.out).symm, rfl⟩
set_option maxHeartbeats 1000000 in
theorem small_any (s : ByteArray) (w : World) (hs : s.size ≤ maxLen) : Calls Tryz.prog 50 #[.string s] w fun e w' => e = .returned (.bool (smallS s)) ∧ w = w' := by
 unfold maxLen at hs
 go_enter Tryz.func50, Tryz.ntmps50
 go_wp2
 go_loop [3] (fun i => ∃ k : Nat, k ≤ s.size ∧ BytesTo smallC s k ∧ i = .int .i64 k) (fun i => s.size - (intOf i).toNat)
 case atStart => exact ⟨0, by omega, fun _ _ h => absurd h (by omega), rfl⟩
 case round =>
  obtain ⟨k, hk, hp, rfl⟩ := hrel
  have HP := Lib.hid hp
  clear hp
  by_cases hlt : k < s.size
  ·have hr : (s[k].toNat : Int) < 97 ∨ (97 ≤ (s[k].toNat : Int) ∧ (s[k].toNat : Int) ≤ 122) ∨ 122 < (s[k].toNat : Int) := by omega
   rcases hr with h | ⟨h, h'⟩ | h
   all_goals
    go_wp2
    first
     | (go_round
        case rel => exact ⟨k + 1, by omega, HP.out.succ hlt (by unfold smallC; simp; omega), by go_num⟩
        case measure => simp [intOf]; omega)
     | (go_ret
        exact ⟨ret_bool (bytesTo_false hlt (by unfold smallC; simp; omega)).symm, rfl⟩)
  ·obtain rfl : k = s.size := by omega
   go_wp2
   go_ret
   exact ⟨ret_bool (bytesTo_true HP.out).symm, rfl⟩
def letB (s : ByteArray) : Bool := decide (s.size ≤ 40) && smallS s
theorem letB_iff {s : ByteArray} : letB s = true ↔ LetS s := by unfold letB LetS; simp
set_option maxHeartbeats 1000000 in
theorem letters_any (s : ByteArray) (w : World) (hs : s.size ≤ maxLen) : Calls Tryz.prog 38 #[.string s] w fun e w' => e = .returned (.bool (letB s)) ∧ w = w' := by
 by_cases h : s.size ≤ 40
 ·have HL := Lib.hid (show letB s = smallS s by unfold letB; rw [decide_eq_true h]; rfl)
  have h2 : (s.size : Int) ≤ 40 := by omega
  go_enter Tryz.func38, Tryz.ntmps38
  go_wp2_with (go_at_call 77; refine (allSmall_any _ _ hs).mono ?_; rintro e w' ⟨rfl, rfl⟩)
  go_ret
  exact ⟨ret_bool HL.out.symm, rfl⟩
 ·have HL := Lib.hid (show letB s = false by unfold letB; rw [decide_eq_false h]; rfl)
  have h2 : ¬ (s.size : Int) ≤ 40 := by omega
  go_enter Tryz.func38, Tryz.ntmps38
  go_wp2
  go_ret
  exact ⟨ret_bool HL.out.symm, rfl⟩
/-! Rules in memory. -/
def RRu (_ : World) (x : Ru) (vs : List Value) : Prop := vs = [.int .i64 x.fr, .int .i64 x.to, .string x.inp, .string x.out, .int .i64 x.co]
def encRu (x : Ru) : List Value := [.int .i64 x.fr, .int .i64 x.to, .string x.inp, .string x.out, .int .i64 x.co]
theorem keeps_ru : Keeps RRu := fun _ _ _ _ _ h => h
theorem SlR.ru {w : World} {A : Option Addr} {k : Nat} {xs : List Ru} (h : SlR 5 RRu w A xs) (hk : k < xs.length) : ∃ b off x, A = some ⟨b, off, none⟩ ∧ b < w.heap.size ∧ xs[k]? = some x ∧
 w.cell? ⟨b, off + k * 5, none⟩ = some (.int .i64 x.fr) ∧ w.cell? ⟨b, off + k * 5 + 1, none⟩ = some (.int .i64 x.to) ∧ w.cell? ⟨b, off + k * 5 + 2, none⟩ = some (.string x.inp) ∧ w.cell? ⟨b, off + k * 5 + 3, none⟩ = some (.string x.out) ∧ w.cell? ⟨b, off + k * 5 + 4, none⟩ = some (.int .i64 x.co) := by
 obtain ⟨b, off, x, vs, hA, hlt, hx, hr, _, hv⟩ := h.at_ hk
 exact ⟨b, off, x, hA, hlt, hx, hv 0 _ (by rw [hr]; rfl), hv 1 _ (by rw [hr]; rfl), hv 2 _ (by rw [hr]; rfl), hv 3 _ (by rw [hr]; rfl), hv 4 _ (by rw [hr]; rfl)⟩
def RuIn (r : Ru) : Prop := r.inp.size ≤ maxLen ∧ r.out.size ≤ maxLen
theorem add_mk (b o n : Nat) : (Addr.mk b o none).add n = ⟨b, o + n, none⟩ := by
 unfold Addr.add; split <;> simp_all
theorem bx {w w1 : World} {o : Obj} (h : Below (w.alloc o).heap.size (w.alloc o) w1) : Below (w.heap.size + 1) (w.alloc o) w1 := h.mono (by simp)
def nthO : List Oper → Nat → Option Oper
 | o :: _, 0 => some o
 | _ :: l, n + 1 => nthO l n
 | [], _ => none
theorem nthO_spec {ops : Array Oper} {i : Nat} {o : Oper} (h : nthO ops.toList i = some o) : ops[i]? = some o := by
 rw [← Array.getElem?_toList]
 generalize ops.toList = l at h
 induction l generalizing i with
 | nil => simp [nthO] at h
 | cons x l ih =>
  cases i with
  | zero => simpa [nthO] using h
  | succ i => simpa using ih (by simpa [nthO] using h)
theorem own_slr {α : Type} {w : World} {base : Nat} {e : TypeId} {s n : Nat} {v : Value} {xs : List α} {enc : α → List Value} {R : World → α → List Value → Prop}
 (hown : w.ownsRow base e s v n (xs.flatMap enc)) (hl : ∀ x, (enc x).length = s) (hR : ∀ x, R w x (enc x)) (hn : n = xs.length) :
 ∃ A cap, v = .slice A n cap ∧ n ≤ cap ∧ cap ≤ maxLen ∧ SlR s R w A xs := by
 have hget : ∀ (l : List α) (k : Nat) (x : α), l[k]? = some x → ∀ j u, (enc x)[j]? = some u → (l.flatMap enc)[k * s + j]? = some u := by
  intro l
  induction l with
  | nil => intro k x h; simp at h
  | cons y l ih =>
   intro k x hx j u hu
   cases k with
   | zero =>
    simp at hx; subst hx
    obtain ⟨hj, _⟩ := List.getElem?_eq_some_iff.1 hu
    rw [List.flatMap_cons, Nat.zero_mul, Nat.zero_add, List.getElem?_append_left hj]
    exact hu
   | succ k =>
    rw [List.flatMap_cons, List.getElem?_append_right (by rw [hl, Nat.succ_mul]; omega)]
    rw [hl, show (k + 1) * s + j - s = k * s + j by rw [Nat.succ_mul]; omega]
    exact ih k x (by simpa using hx) j u hu
 rcases hown.2 with ⟨rfl, h0⟩ | ⟨g, cap, cur, rfl, hg, hh, hnc, hcm, hcs, htk⟩
 ·subst h0
  have : xs = [] := List.length_eq_zero_iff.1 hn.symm
  subst this
  exact ⟨none, 0, rfl, Nat.le_refl _, Nat.zero_le _, SlR.nil⟩
 ·refine ⟨some ⟨g, 0, none⟩, cap, rfl, hnc, hcm, fun _ => ⟨g, 0, rfl, ?_, fun k x hx => ⟨enc x, hR x, hl x, fun j u hu => ?_⟩⟩⟩
  ·rcases Nat.lt_or_ge g w.heap.size with h | h
   ·exact h
   ·rw [Array.getElem?_eq_none h] at hh; cases hh
  ·have h1 := hget xs k x hx j u hu
   rw [← htk] at h1
   have h2 : cur.toList[k * s + j]? = some u := by
    rw [List.getElem?_take] at h1
    split at h1
    ·exact h1
    ·cases h1
   unfold World.cell?
   simp only [hh, Nat.zero_add, Option.isSome_none]
   simpa using h2
theorem own_empty (w : World) (e : TypeId) (s base : Nat) (hb : base ≤ w.heap.size) : (w.alloc (.cells #[] e)).ownsRow base e s (.slice (some ⟨w.heap.size, 0, none⟩) 0 0) 0 [] := by
 have h : (w.alloc (.cells #[] e)).heap[w.heap.size]? = some (.cells #[] e) := heap_alloc_new w _
 exact ⟨by simp, .inr ⟨w.heap.size, 0, #[], rfl, hb, h, Nat.le_refl _, Nat.zero_le _, by simp, by simp⟩⟩
theorem own_nil (w : World) (e : TypeId) (s base : Nat) : w.ownsRow base e s (.slice none 0 0) 0 [] := ⟨by simp, .inl ⟨rfl, rfl⟩⟩
theorem own_block_le {w : World} {base : Nat} {e : TypeId} {s n : Nat} {v : Value} {xs : List Value} (h : w.ownsRow base e s v n xs) : ∀ k, v.ownBlock = some k → base ≤ k := fun k hk => by
 rcases h.2 with ⟨rfl, _⟩ | ⟨g, cap, cur, rfl, hg, _⟩
 ·simp [Value.ownBlock] at hk
 ·simp [Value.ownBlock] at hk; omega
structure Apps (w w' : World) (v v' : Value) : Prop where
 keep : ∀ k, k < w.heap.size → v.ownBlock ≠ some k → w'.heap[k]? = w.heap[k]?
 at_ : v'.ownBlock = v.ownBlock ∨ ∃ k, v'.ownBlock = some k ∧ w.heap.size ≤ k
theorem Apps.ne {w w' : World} {v v' : Value} (h : Apps w w' v v') {b : Nat} (hb : b < w.heap.size) (hne : v.ownBlock ≠ some b) : v'.ownBlock ≠ some b := fun e => by
 rcases h.at_ with h1 | ⟨k, h1, h2⟩
 ·exact hne (by rw [← h1]; exact e)
 ·rw [h1] at e; injection e with e; omega
theorem own_lt {w : World} {base : Nat} {e : TypeId} {s n : Nat} {v : Value} {xs : List Value} (h : w.ownsRow base e s v n xs) {k : Nat} (hk : w.heap.size ≤ k) : v.ownBlock ≠ some k := fun e => by
 rcases h.2 with ⟨rfl, _⟩ | ⟨g, cap, cur, rfl, _, hh, _⟩
 ·simp [Value.ownBlock] at e
 ·simp [Value.ownBlock] at e
  subst e
  rw [Array.getElem?_eq_none hk] at hh; cases hh
theorem own_base {w : World} {base base' : Nat} {e : TypeId} {s n : Nat} {v : Value} {xs : List Value} (h : w.ownsRow base e s v n xs) (hb : base' ≤ base) : w.ownsRow base' e s v n xs := by
 obtain ⟨h1, h2⟩ := h
 refine ⟨h1, h2.imp id fun ⟨g, cap, cur, hv, hg, r⟩ => ⟨g, cap, cur, hv, by omega, r⟩⟩
theorem own_set {w : World} {base : Nat} {e : TypeId} {s n : Nat} {v : Value} {xs : List Value} (h : w.ownsRow base e s v n xs) {a : Addr} (ha : v.ownBlock ≠ some a.block) (u : Value) : (w.setCell a u).ownsRow base e s v n xs := by
 obtain ⟨h1, h2⟩ := h
 refine ⟨h1, ?_⟩
 rcases h2 with h2 | ⟨g, cap, cur, rfl, hg, hh, r⟩
 ·exact .inl h2
 ·refine .inr ⟨g, cap, cur, rfl, hg, ?_, r⟩
  rw [Below.heap_setCell _ _ _ _ (fun e => ha (by rw [← e]; rfl))]
  exact hh
theorem own_below {w w' : World} {base : Nat} {e : TypeId} {s n : Nat} {v : Value} {xs : List Value} (h : w.ownsRow base e s v n xs) (hb : Below w.heap.size w w') : w'.ownsRow base e s v n xs := by
 obtain ⟨h1, h2⟩ := h
 refine ⟨h1, ?_⟩
 rcases h2 with h2 | ⟨g, cap, cur, rfl, hg, hh, r⟩
 ·exact .inl h2
 ·refine .inr ⟨g, cap, cur, rfl, hg, ?_, r⟩
  have : g < w.heap.size := by
   rcases Nat.lt_or_ge g w.heap.size with h | h
   ·exact h
   ·rw [Array.getElem?_eq_none h] at hh; cases hh
  rw [hb.block g this]
  exact hh
section
variable {P : Program}
theorem wpList_app1 {ops : Array Oper} {rest : List Oper} {o : Oper} {a : Act} {Q : Exit → Act → World → Prop} {w : World} (hgd : o.guard = none) (s x : Operand) (t : TypeId)
 (ho : o.op = .call { callee := .builtin .append, args := #[s, x], argTypes := #[t, t] })
 (base : Nat) (e : TypeId) (i : TypeInfo) (z : Value) (size bytes : Nat) (ht : P.underlying t = some (.slice e)) (hi : P.info? e = some i) (hz : i.zero = some z)
 (hsize : i.size = size) (hby : i.bytes = bytes) (hzs : z.cells.size = size) (hsz : 0 < size)
 (v : Value) (n : Nat) (xs : List Value) (hs : a.eval s = v) (w0 : World) (vs : List Value) (hw : w = w0.alloc (.cells vs.toArray e)) (hown : w0.ownsRow base e size v n xs)
 (g : Nat) (hx : a.eval x = .slice (some ⟨g, 0, none⟩) 1 1) (hg : g = w0.heap.size) (hl : vs.length = size) (h1 : ∀ u ∈ vs, u.oneCell' = true)
 (hn : n ≤ 1000000) (hbb : bytes ≤ 1000) (hbase : base ≤ w0.heap.size)
 (h : ∀ v' w', w'.ownsRow base e size v' (n + 1) (xs ++ vs) → Below base w0 w' → Apps w0 w' v v' → wpList P ops Q rest (a.put o.dst v') w') : wpList P ops Q (o :: rest) a w := by
 subst hw
 subst hg
 have hb1 : (n + 1) * bytes ≤ 1000001 * 1000 := Nat.mul_le_mul (by omega) hbb
 refine wpList_plain hgd fun K hK => ?_
 obtain ⟨v', w', hrun, h2, h3, _, h5⟩ := run_append_own_at (P := P) (w0.alloc (.cells vs.toArray e)) base t o.type e i z size bytes ht hi hz hsize hby hzs hsz v n xs (hown.alloc _) ⟨w0.heap.size, 0, none⟩ 1 1 vs (by rw [hl]; omega)
  (fun j u hj => by rw [add_mk, Nat.zero_add, new_cell]; simpa using hj) h1 (by unfold maxLen; omega) (by omega) (by simp; omega)
 unfold Oper.wp execOp
 simp only [ho, resolve, invoke, builtin, Sem.run_bind, Sem.run_pure, Result.andThen_ok, List.map_toArray, List.map_cons, List.map_nil, hs, hx, hrun]
 refine hK _ _ (h v' w' h2 (((Below.refl _ _).alloc hbase _).grown h3 (by simp; omega) (own_block_le hown)) ⟨fun k hk hne => ?_, ?_⟩)
 ·exact (h3.block k (by simp; omega) (fun e => hne e.symm)).trans (Below.heap_alloc _ _ _ hk)
 ·rcases h5 with h5 | h5
  ·exact .inl h5
  ·exact .inr ⟨_, h5, by simp⟩
end
def waitsFor (ops : Array Oper) (t i : Nat) : Bool := match ops[t]? with
 | some o => o.after.any fun e => Region.binds .any e && e.on == i
 | none => false
def goodFromT (ops : Array Oper) (ts : List Nat) : Array Bool → List (Nat × Bool) → Bool
 | listed, [] => (Region.ready .any ops listed).isEmpty
 | listed, (i, true) :: l => Region.ready .any ops listed == [i] && goodFromT ops ts (listed.setIfInBounds i true) l
 | listed, (i, false) :: l => (Region.ready .any ops listed).contains i && Region.free .any ops listed i && ts.all (fun t => waitsFor ops t i) && goodFromT ops ts (listed.setIfInBounds i true) l
def goodOrdT (ops : Array Oper) (ts : List Nat) (l : List (Nat × Bool)) : Bool := decide (l.length ≤ ops.size) && goodFromT ops ts (Array.replicate ops.size false) l
section
variable {P : Program} {ops : Array Oper} {Q : Exit → Act → World → Prop} {S : World → Prop} {ts : List Nat}
def wpAnyT (P : Program) (ops : Array Oper) (Q : Exit → Act → World → Prop) (S : World → Prop) (ts : List Nat) : Nat → Array Bool → Act → World → Prop
 | 0, listed, a, w => Region.ready .any ops listed = [] ∧ Q .normal a w
 | fuel + 1, listed, a, w =>
  (Region.ready .any ops listed = [] → Q .normal a w) ∧
  ∀ i ∈ Region.ready .any ops listed, wpOp P ops Q i (fun a' w' => (ts.contains i = false → S w') ∧ wpAnyT P ops Q S ts fuel (listed.setIfInBounds i true) a' w') a w
theorem wpAny_of_T : ∀ (fuel : Nat) (listed : Array Bool) (a : Act) (w : World), wpAnyT P ops Q S ts fuel listed a w → wpAny P .any ops Q fuel listed a w
 | 0, _, _, _, h => h
 | fuel + 1, _, _, _, h => ⟨h.1, fun i hi => wpOp_mono (fun a' w' h' => wpAny_of_T fuel _ a' w' h'.2) (h.2 i hi)⟩
theorem wpAnyT_first {i : Nat} {oi : Oper} {v : Value} (hi : ops[i]? = some oi) (hsel : ∀ (j : Nat) (o : Oper) cs b, ops[j]? = some o → o.op ≠ .select cs b)
 (hQ : ∀ c a w, Q (.panic c) (a.put oi.dst v) w → Q (.panic c) a w) (hts : ∀ t ∈ ts, waitsFor ops t i = true) :
 ∀ (fuel : Nat) (listed : Array Bool) (a : Act) (w : World),
  (∀ j oj, ops[j]? = some oj → j ≠ i → listed.getD j true = false → (∀ e ∈ oj.after, Region.binds .any e = true → e.on ≠ i) → oi.apart ops oj = true) →
  i ∈ Region.ready .any ops listed → YieldsIf P ops S oi v a → S w →
  wpAnyT P ops Q S ts fuel (listed.setIfInBounds i true) (a.put oi.dst v) w → wpAnyT P ops Q S ts (fuel + 1) listed a w := by
 intro fuel
 induction fuel with
 | zero =>
  intro listed a w _ hr hy hS H
  refine ⟨fun h => (by rw [h] at hr; cases hr), fun j hj => ?_⟩
  by_cases hji : j = i
  ·subst hji; exact hy.wpOp hi hS ⟨fun _ => hS, H⟩
  ·have h1 := ready_mono hj hji
   rw [H.1] at h1
   cases h1
 | succ fuel ih =>
  intro listed a w hfree hr hy hS H
  refine ⟨fun h => (by rw [h] at hr; cases hr), fun j hj => ?_⟩
  by_cases hji : j = i
  ·subst hji; exact hy.wpOp hi hS ⟨fun _ => hS, H⟩
  ·obtain ⟨hjun, oj, hoj, hall⟩ := mem_ready.1 hj
   have hiun := (mem_ready.1 hr).1
   have hnot : ∀ e ∈ oj.after, Region.binds .any e = true → e.on ≠ i := fun e he hb heq => by
    have h2 := hall e he hb
    rw [heq] at h2
    rcases Nat.lt_or_ge i listed.size with h' | h'
    ·simp [h'] at hiun h2; rw [hiun] at h2; cases h2
    ·simp [Array.getElem?_eq_none h'] at h2
   have hjt : ts.contains j = false := by
    cases hc : ts.contains j
    ·rfl
    ·have hw := hts j (by simpa using hc)
     unfold waitsFor at hw
     simp only [hoj] at hw
     obtain ⟨k, hk, he⟩ := Array.any_eq_true.1 hw
     simp only [Bool.and_eq_true, beq_iff_eq] at he
     exact absurd he.2 (hnot _ (Array.getElem_mem hk) he.1)
   have h2 := wpOp_putIf hoj (hfree j oj hoj hji hjun hnot) (fun cs b => hsel i oi cs b hi) (fun cs b => hsel j oj cs b hoj) hQ hy (H.2 j (ready_mono hj hji))
   have hfree' : ∀ k ok, ops[k]? = some ok → k ≠ i → (listed.setIfInBounds j true).getD k true = false →
    (∀ e ∈ ok.after, Region.binds .any e = true → e.on ≠ i) → oi.apart ops ok = true := fun k ok hk hki hun hno => by
    refine hfree k ok hk hki ?_ hno
    by_cases hjk : j = k
    ·subst hjk; exact hjun
    ·rw [getD_set_ne true hjk] at hun; exact hun
   refine wpOp_mono (fun a' w' h3 => ?_) h2
   have hS' := h3.2.1 hjt
   refine ⟨fun _ => hS', ih (listed.setIfInBounds j true) a' w' hfree' (ready_mono hr (Ne.symm hji)) h3.1 hS' ?_⟩
   rw [Array.setIfInBounds_comm _ _ hji]
   exact h3.2.2
def wpOrdT (P : Program) (ops : Array Oper) (Q : Exit → Act → World → Prop) (S : World → Prop) (ts : List Nat) : List (Nat × Bool) → Act → World → Prop
 | [], a, w => Q .normal a w
 | (i, true) :: l, a, w => wpOp P ops Q i (fun a' w' => (ts.contains i = false → S w') ∧ wpOrdT P ops Q S ts l a' w') a w
 | (i, false) :: l, a, w => ∃ oi v, ops[i]? = some oi ∧ YieldsIf P ops S oi v a ∧ S w ∧ wpOrdT P ops Q S ts l (a.put oi.dst v) w
theorem wpAnyT_of_ord (hs : Region.noSelect ops = true) (hQ : ∀ d v c a w, Q (.panic c) (Act.put a (some d) v) w → Q (.panic c) a w) :
 ∀ (l : List (Nat × Bool)) (fuel : Nat) (listed : Array Bool) (a : Act) (w : World), l.length ≤ fuel → goodFromT ops ts listed l = true → wpOrdT P ops Q S ts l a w →
  wpAnyT P ops Q S ts fuel listed a w := by
 intro l
 induction l with
 | nil =>
  intro fuel listed a w _ hg h
  have hr : Region.ready .any ops listed = [] := by simpa [goodFromT] using hg
  cases fuel with
  | zero => exact ⟨hr, h⟩
  | succ fuel => exact ⟨fun _ => h, by rw [hr]; simp⟩
 | cons x l ih =>
  intro fuel listed a w hf hg h
  obtain ⟨fuel, rfl⟩ : ∃ f, fuel = f + 1 := ⟨fuel - 1, by simp at hf; omega⟩
  have hf' : l.length ≤ fuel := by simp at hf; omega
  obtain ⟨i, b⟩ := x
  cases b with
  | true =>
   simp only [goodFromT, Bool.and_eq_true, beq_iff_eq] at hg
   refine ⟨fun h0 => absurd (h0.symm.trans hg.1) (by simp), fun j hj => ?_⟩
   rw [hg.1] at hj
   obtain rfl : j = i := by simpa using hj
   exact wpOp_mono (fun a' w' h' => ⟨h'.1, ih fuel _ a' w' hf' hg.2 h'.2⟩) h
  | false =>
   simp only [goodFromT, Bool.and_eq_true, List.all_eq_true] at hg
   obtain ⟨oi, v, hi, hy, hS, h'⟩ := h
   refine wpAnyT_first hi (Region.noSelect_spec hs) (fun c a w hh => ?_) hg.1.2 fuel listed a w (Region.free_spec hi hg.1.1.2) (by simpa using hg.1.1.1) hy hS (ih fuel _ _ w hf' hg.2 h')
   cases hd : oi.dst with
   | none => rw [hd] at hh; exact hh
   | some d => rw [hd] at hh; exact hQ d v c a w hh
theorem ordT_below {id : Nat} {a : Act} {w : World} (ts : List Nat) (l : List (Nat × Bool)) (hm : P.follows .mixedOrders = true) (hs : Region.noSelect ops = true) (hg : goodOrdT ops ts l = true)
 (hQ : ∀ d v c a w, Q (.panic c) (Act.put a (some d) v) w → Q (.panic c) a w) (h : ∀ W, Below w.heap.size w W → wpOrdT P ops Q (Below w.heap.size w) ts l a W) : (Code.region id ops true).wp P Q a w := by
 unfold goodOrdT at hg
 simp only [Bool.and_eq_true, decide_eq_true_eq] at hg
 exact wp_region_any hm (wpAny_of_T _ _ _ _ (wpAnyT_of_ord hs hQ l _ _ a _ hg.1 hg.2 (h _ (Below.refl _ _).drew)))
theorem ordT_nil {a : Act} {w : World} (h : Q .normal a w) : wpOrdT P ops Q S ts [] a w := h
theorem ordT_take {i : Nat} {o : Oper} {v : Value} {l : List (Nat × Bool)} {a : Act} {w : World} (ho' : nthO ops.toList i = some o) (hw : Region.wanted o (yielded ops a.tmps) = true) (hS : S w)
 (hy : ∀ W, S W → (execOp a.eval o).run P W = .ok (.value v) W)
 (h : wpOrdT P ops Q S ts l (a.put o.dst v) w) : wpOrdT P ops Q S ts ((i, false) :: l) a w := ⟨o, v, nthO_spec ho', .inl ⟨hw, hy⟩, hS, h⟩
theorem ordT_call {i : Nat} {o : Oper} {l : List (Nat × Bool)} {a : Act} {w : World} (ho' : nthO ops.toList i = some o) (hw : Region.wanted o (yielded ops a.tmps) = true)
 (h : ∀ K' : Act → World → Prop, Shut (∀ a w, (ts.contains i = false → S w) → wpOrdT P ops Q S ts l a w → K' a w) → Oper.wp P o a w K' Q) : wpOrdT P ops Q S ts ((i, true) :: l) a w := by
 have ho := nthO_spec ho'
 show wpOp P ops Q i _ a w
 refine wpOp_step ho fun K' hK => ?_
 rw [if_pos hw]
 exact h K' fun a w hS hW => hK a w ⟨hS, hW⟩
end
def Blk (w : World) (g : Nat) (t : TypeId) (cs : Array Value) : Prop := w.heap[g]? = some (.cells cs t (0, 0))
section
variable {w w' : World} {g : Nat} {t : TypeId} {cs : Array Value}
theorem Blk.lt (h : Blk w g t cs) : g < w.heap.size := by
 rcases Nat.lt_or_ge g w.heap.size with hlt | hge
 ·exact hlt
 ·unfold Blk at h; rw [Array.getElem?_eq_none hge] at h; cases h
theorem Blk.cell (h : Blk w g t cs) (i : Nat) : w.cell? ⟨g, i, none⟩ = cs[i]? := by
 unfold Blk at h; unfold World.cell?; simp only [h]; rfl
theorem Blk.frozen (h : Blk w g t cs) (i : Nat) : w.frozen? ⟨g, i, none⟩ = false := by
 unfold Blk at h; unfold World.frozen?; simp only [h]; simp
theorem Blk.new (w : World) (t : TypeId) (cs : Array Value) : Blk (w.alloc (.cells cs t)) w.heap.size t cs := heap_alloc_new w _
theorem Blk.new_ {w : World} {g : Nat} {t : TypeId} {cs : Array Value} (hg : g = w.heap.size) : Blk (w.alloc (.cells cs t)) g t cs := by subst hg; exact heap_alloc_new w _
theorem Blk.alloc (h : Blk w g t cs) (o : Obj) : Blk (w.alloc o) g t cs := (Below.heap_alloc w o g h.lt).trans h
theorem Blk.set_ (h : Blk w g t cs) (i : Nat) (u : Value) : Blk (w.setCell ⟨g, i, none⟩ u) g t (cs.setIfInBounds i u) := by
 unfold Blk at h ⊢
 simp [World.setCell, Array.getElem?_modify, h]
theorem Blk.far (h : Blk w g t cs) {p : Addr} (hp : g ≠ p.block) (u : Value) : Blk (w.setCell p u) g t cs := (Below.heap_setCell w p u g hp).trans h
theorem Blk.below {B : Nat} (h : Blk w g t cs) (hb : Below B w w') (hg : g < B) : Blk w' g t cs := (hb.block g hg).trans h
theorem Blk.apps {v v' : Value} (h : Blk w g t cs) (ha : Apps w w' v v') (hne : v.ownBlock ≠ some g) : Blk w' g t cs := (ha.keep g h.lt hne).trans h
end
section
variable {w w' : World} {base : Nat} {e e' : TypeId} {s s' n n' : Nat} {v v' v2 : Value} {xs xs' : List Value}
theorem own_keep (h : w.ownsRow base e s v n xs) (hk : ∀ g, v.ownBlock = some g → g < w.heap.size → w'.heap[g]? = w.heap[g]?) : w'.ownsRow base e s v n xs := by
 obtain ⟨h1, h2⟩ := h
 refine ⟨h1, ?_⟩
 rcases h2 with h2 | ⟨g, cap, cur, rfl, hg, hh, r⟩
 ·exact .inl h2
 ·refine .inr ⟨g, cap, cur, rfl, hg, ?_, r⟩
  have : g < w.heap.size := by
   rcases Nat.lt_or_ge g w.heap.size with h | h
   ·exact h
   ·rw [Array.getElem?_eq_none h] at hh; cases hh
  rw [hk g rfl this]
  exact hh
theorem own_ne (h : w.ownsRow base e s v n xs) {base' : Nat} (h' : w.ownsRow base' e' s' v' n' xs') (hne : e ≠ e') (g : Nat) (hg : v.ownBlock = some g) : v'.ownBlock ≠ some g := fun hg' => by
 rcases h.2 with ⟨rfl, _⟩ | ⟨g1, cap, cur, rfl, _, hh, _⟩
 ·simp [Value.ownBlock] at hg
 ·rcases h'.2 with ⟨rfl, _⟩ | ⟨g2, cap', cur', rfl, _, hh', _⟩
  ·simp [Value.ownBlock] at hg'
  ·simp [Value.ownBlock] at hg hg'
   subst hg; subst hg'
   rw [hh] at hh'
   injection hh' with hh'
   injection hh' with _ ht
   exact hne ht
theorem own_blk_ne (h : w.ownsRow base e s v n xs) {g : Nat} {t : TypeId} {cs : Array Value} (hb : Blk w g t cs) (hne : e ≠ t) : v.ownBlock ≠ some g := fun hg => by
 rcases h.2 with ⟨rfl, _⟩ | ⟨g1, cap, cur, rfl, _, hh, _⟩
 ·simp [Value.ownBlock] at hg
 ·simp [Value.ownBlock] at hg
  subst hg
  unfold Blk at hb
  rw [hh] at hb
  injection hb with hb
  injection hb with _ ht
  exact hne ht
theorem own_apps (h : w.ownsRow base e s v n xs) {base' : Nat} (h' : w.ownsRow base' e' s' v2 n' xs') (hne : e ≠ e') {v2' : Value} (ha : Apps w w' v2 v2') : w'.ownsRow base e s v n xs :=
 own_keep h fun g hg hlt => ha.keep g hlt (own_ne h h' hne g hg)
end
theorem own_lit (w : World) (cs : Array Value) (e : TypeId) (s n base g : Nat) (hg : g = w.heap.size) (hb : base ≤ w.heap.size) (hs : cs.size = n * s) (hn : n ≤ maxLen) :
 (w.alloc (.cells cs e)).ownsRow base e s (.slice (some ⟨g, 0, none⟩) n n) n cs.toList := by
 subst hg
 have h : (w.alloc (.cells cs e)).heap[w.heap.size]? = some (.cells cs e) := heap_alloc_new w _
 exact ⟨by simpa using hs, .inr ⟨w.heap.size, n, cs, rfl, hb, h, Nat.le_refl _, hn, hs, by rw [List.take_of_length_le (by simp [hs])]⟩⟩
structure Lk where
 fr : Int
 to : Int
 lb : Int
 cost : Int
deriving DecidableEq, Inhabited
structure Gr where
 n : Int
 ls : List Lk
deriving DecidableEq, Inhabited
def lvTo (ls : List Lk) (v : Int) : Nat → List Int
 | 0 => []
 | k + 1 => match ls[k]? with
  | some l => if l.fr = v then lvTo ls v k ++ [(k : Int)] else lvTo ls v k
  | none => lvTo ls v k
def lvs (g : Gr) (v : Int) : List Int := lvTo g.ls v g.ls.length
end Go.Proofs.YtfpnhgahkjglgaaGreat
namespace Go.Proofs.YtfpnhgahkjglgaaGreat
open List
end Go.Proofs.YtfpnhgahkjglgaaGreat
namespace Go.Proofs.YtfpnhgahkjglgaaGreat
open Go Go.RowKit
theorem nw {w W : World} (o : Obj) (h : Below w.heap.size w W) : Below w.heap.size w (W.alloc o) := h.alloc h.size o
theorem bthen {a b c : World} (h1 : Below a.heap.size a b) (h2 : Below b.heap.size b c) : Below a.heap.size a c := h1.trans (h2.mono h1.size)
end Go.Proofs.YtfpnhgahkjglgaaGreat
