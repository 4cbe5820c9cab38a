/-
  The walks of layer 11: a word put into an increasing list (the reference).
-/
import Derived.Test.YtbfpcleogdalfaaApp
import Derived.Test.YtbfpcleogdalfaaCostWalkE
namespace Go.Proofs.Ytbfpcleogdalfaa
open Go Go.RowKit

def insStep (s : ByteArray) (st : List ByteArray × Bool) (x : ByteArray) : List ByteArray × Bool :=
  (if !st.2 && ltS s x then st.1 ++ [s] ++ [x] else st.1 ++ [x], (st.2 || ltS s x) || decide (s = x))
def insTo (s : ByteArray) (l : List ByteArray) (k : Nat) : List ByteArray × Bool := (l.take k).foldl (insStep s) ([], false)
/-- What insert returns. -/
def insW (l : List ByteArray) (s : ByteArray) : List ByteArray := if (insTo s l l.length).2 then (insTo s l l.length).1 else (insTo s l l.length).1 ++ [s]
theorem insTo_succ {s : ByteArray} {l : List ByteArray} {k : Nat} {x : ByteArray} (hx : l[k]? = some x) : insTo s l (k + 1) = insStep s (insTo s l k) x := by
  unfold insTo; rw [take_succ_of hx, List.foldl_append]; rfl
theorem insStep_len (s : ByteArray) (st : List ByteArray × Bool) (x : ByteArray) : (insStep s st x).1.length ≤ st.1.length + 2 := by
  unfold insStep; dsimp only; split <;> simp
theorem insTo_len (s : ByteArray) (l : List ByteArray) (k : Nat) : (insTo s l k).1.length ≤ 2 * k := by
  unfold insTo
  have : ∀ (l : List ByteArray) (st : List ByteArray × Bool), (l.foldl (insStep s) st).1.length ≤ st.1.length + 2 * l.length := by
    intro l
    induction l with
    | nil => intro st; simp
    | cons x l ih =>
      intro st
      have h1 := ih (insStep s st x)
      have h2 := insStep_len s st x
      simp only [List.foldl_cons, List.length_cons]
      omega
  have h := this (l.take k) ([], false)
  have h2 : (l.take k).length ≤ k := List.length_take_le _ _
  simp only [List.length_nil] at h
  omega
theorem str_info : (Try.prog.info? 9).map (fun i => (i.zero, i.size, i.bytes)) = some (some (.string ByteArray.empty), 1, 16) := by kernel_rfl
theorem bytes_eqb (x y : ByteArray) : (x.toList == y.toList) = decide (x = y) := by
  by_cases h : x = y
  · subst h; simp
  · rw [bytes_ne h]; simp [h]

set_option maxHeartbeats 2000000 in
theorem insert_any (A : Option Addr) (l : List ByteArray) (c : Nat) (s : ByteArray) (w : World) (hx : SlR 1 RStr w A l) (hl : l.length ≤ 65536) :
    Calls Try.prog 25 #[.slice A l.length c, .string s] w fun e w' => ∃ v, e = .returned v ∧ w'.ownsRow w.heap.size 9 1 v (insW l s).length ((insW l s).map Value.string) ∧ Below w.heap.size w w' := by
  obtain ⟨i0, hi, hz0, hz1, hz2⟩ := info_parts str_info
  go_enter Try.func25, Try.ntmps25
  go_wp2_with fail
  go_loopw [5, 6, 7] (fun out d i wr => ∃ k : Nat, ∃ L : List ByteArray, ∃ b : Bool, k ≤ l.length ∧ Hid (insTo s l k = (L, b)) ∧ L.length ≤ 2 * k ∧ i = .int .i64 k ∧ d = .bool b ∧ wr.ownsRow w.heap.size 9 1 out L.length (L.map Value.string) ∧ Below w.heap.size w wr) (fun _ _ i _ => l.length - (intOf i).toNat)
  case atStart => exact ⟨0, [], false, by omega, rfl, by simp, rfl, rfl, own_empty w _ _ _ (Nat.le_refl _), (Below.refl _ _).alloc (Nat.le_refl _) _⟩
  case round =>
    obtain ⟨k, L, b, hk, HL, hLk, rfl, rfl, hown, hb⟩ := hrel
    by_cases hlt : k < l.length
    · obtain ⟨bk, off, x, rfl, hbb, hxx, hcx0⟩ := hx.str hlt
      have hcx := (hb.cell (p := ⟨bk, _, none⟩) hbb).trans hcx0
      clear hcx0
      have HX := Lib.hid hxx
      clear hxx
      have hlen' := insTo_len s l (k + 1)
      rw [insTo_succ HX.out, HL.out] at hlen'
      cases b with
      | true =>
        have HN := Lib.hid (show insTo s l (k + 1) = (L ++ [x], true) by rw [insTo_succ HX.out, HL.out]; simp [insStep])
        go_wp2_with (first | (at_builtin; refine wpList_app1 rfl _ _ 30 rfl w.heap.size 9 i0 _ 1 16 Try.underlying30 hi hz0 hz1 hz2 rfl (by decide) _ _ _ rfl wr [.string x] rfl hown _ rfl (by simp) rfl (by simp [Value.oneCell']) (by omega) (by decide) hb.size ?_; intro v2 w2 hown2 hb2 ha2))
        go_roundw
        case rel => exact ⟨k + 1, L ++ [x], true, by omega, HN.out, by simp; omega, by go_num, rfl, by simpa using hown2, hb.trans hb2⟩
        case measure => simp [intOf]; omega
      | false =>
        cases hlt' : ltS s x
        · have hltb : Op.bytesLess s.toList x.toList = false := hlt'
          by_cases he : s = x
          · have hbe : (s.toList == x.toList) = true := by rw [bytes_eqb]; simp [he]
            have HN := Lib.hid (show insTo s l (k + 1) = (L ++ [x], true) by rw [insTo_succ HX.out, HL.out]; unfold insStep; rw [hlt']; simp [he])
            clear he
            go_wp2_with (first | (at_builtin; refine wpList_app1 rfl _ _ 30 rfl w.heap.size 9 i0 _ 1 16 Try.underlying30 hi hz0 hz1 hz2 rfl (by decide) _ _ _ rfl wr [.string x] rfl hown _ rfl (by simp) rfl (by simp [Value.oneCell']) (by omega) (by decide) hb.size ?_; intro v2 w2 hown2 hb2 ha2))
            go_roundw
            case rel => exact ⟨k + 1, L ++ [x], true, by omega, HN.out, by simp; omega, by go_num, rfl, by simpa using hown2, hb.trans hb2⟩
            case measure => simp [intOf]; omega
          · have hbe : (s.toList == x.toList) = false := by rw [bytes_eqb]; simp [he]
            have HN := Lib.hid (show insTo s l (k + 1) = (L ++ [x], false) by rw [insTo_succ HX.out, HL.out]; unfold insStep; rw [hlt']; simp [he])
            clear he
            go_wp2_with (first | (at_builtin; refine wpList_app1 rfl _ _ 30 rfl w.heap.size 9 i0 _ 1 16 Try.underlying30 hi hz0 hz1 hz2 rfl (by decide) _ _ _ rfl wr [.string x] rfl hown _ rfl (by simp) rfl (by simp [Value.oneCell']) (by omega) (by decide) hb.size ?_; intro v2 w2 hown2 hb2 ha2))
            go_roundw
            case rel => exact ⟨k + 1, L ++ [x], false, by omega, HN.out, by simp; omega, by go_num, rfl, by simpa using hown2, hb.trans hb2⟩
            case measure => simp [intOf]; omega
        · have hltb : Op.bytesLess s.toList x.toList = true := hlt'
          have HN := Lib.hid (show insTo s l (k + 1) = (L ++ [s] ++ [x], true) by rw [insTo_succ HX.out, HL.out]; simp [insStep, hlt'])
          go_wp2_with (first | (at_builtin; refine wpList_app1 rfl _ _ 30 rfl w.heap.size 9 i0 _ 1 16 Try.underlying30 hi hz0 hz1 hz2 rfl (by decide) _ _ _ rfl w1 [.string x] rfl hown1 _ rfl (by simp) rfl (by simp [Value.oneCell']) (by omega) (by decide) (Nat.le_trans hb.size hb1.size) ?_; intro v2 w2 hown2 hb2 ha2) | (at_builtin; refine wpList_app1 rfl _ _ 30 rfl w.heap.size 9 i0 _ 1 16 Try.underlying30 hi hz0 hz1 hz2 rfl (by decide) _ _ _ rfl wr [.string s] rfl hown _ rfl (by simp) rfl (by simp [Value.oneCell']) (by omega) (by decide) hb.size ?_; intro v1 w1 hown1 hb1 ha1; have hcx1 := (hb1.cell (p := ⟨bk, _, none⟩) hbb).trans hcx))
          go_roundw
          case rel => exact ⟨k + 1, L ++ [s] ++ [x], true, by omega, HN.out, by simp; omega, by go_num, rfl, by simpa using hown2, hb.trans (hb1.trans hb2)⟩
          case measure => simp [intOf]; omega
    · have HE := Lib.hid (show insTo s l l.length = (L, b) by rw [← HL.out]; congr 1; omega)
      cases b with
      | true =>
        have HR := Lib.hid (show insW l s = L by unfold insW; rw [HE.out]; rfl)
        go_wp2_with fail
        go_ret
        exact ⟨_, rfl, by rw [HR.out]; exact hown, hb⟩
      | false =>
        have HR := Lib.hid (show insW l s = L ++ [s] by unfold insW; rw [HE.out]; rfl)
        go_wp2_with (first | (at_builtin; refine wpList_app1 rfl _ _ 30 rfl w.heap.size 9 i0 _ 1 16 Try.underlying30 hi hz0 hz1 hz2 rfl (by decide) _ _ _ rfl wr [.string s] rfl hown _ rfl (by simp) rfl (by simp [Value.oneCell']) (by omega) (by decide) hb.size ?_; intro v1 w1 hown1 hb1 ha1))
        go_ret
        exact ⟨_, rfl, by rw [HR.out]; simpa using hown1, hb.trans hb1⟩
end Go.Proofs.Ytbfpcleogdalfaa
