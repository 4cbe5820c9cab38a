/-
  The walks of layer 21: costs in a slot, the area of a key, middles.
-/
import Derived.Test.YtpjecpefbfobdaaAreaLaw2
import Derived.Test.YtpjecpefbfobdaaAreaWalkO
import Derived.Test.YtpjecpefbfobdaaAreaWalkQ
namespace Go.Proofs.Ytpjecpefbfobdaa
open Go Go.RowKit

set_option maxHeartbeats 1000000 in
theorem cost_any (A : Option Addr) (xs : List Cho) (c : Nat) (key : Int) (w : World) (hx : SlR 2 RCho w A xs) (hl : xs.length ≤ 65536) :
    Calls Try.prog 27 #[.slice A xs.length c, .int .u8 key] w fun e w' => e = .returned (.int .i64 (costS xs key)) ∧ w = w' := by
  go_enter Try.func27, Try.ntmps27
  go_wp2
  go_loop [5] (fun i => ∃ k : Nat, k ≤ xs.length ∧ Hid (costS xs key = costS (xs.drop k) key) ∧ i = .int .i64 k) (fun i => xs.length - (intOf i).toNat)
  case atStart => exact ⟨0, by omega, rfl, rfl⟩
  case round =>
    obtain ⟨k, hk, HS, rfl⟩ := hrel
    by_cases hlt : k < xs.length
    · obtain ⟨b, off, x, rfl, hbb, hxx, hc0, hc1⟩ := hx.cho hlt
      have HD := Lib.hid (drop_of hxx)
      clear hxx
      by_cases h1 : x.key = key
      · have HR : Hid (costS xs key = x.cost) := by show costS xs key = x.cost; rw [HS.out, HD.out, costS, if_pos h1]
        go_wp2
        go_ret
        exact ⟨ret_int HR.out.symm, rfl⟩
      · have HR : Hid (costS xs key = costS (xs.drop (k + 1)) key) := by show costS xs key = _; rw [HS.out, HD.out, costS, if_neg h1]
        go_wp2
        go_round
        case rel => exact ⟨k + 1, by omega, HR.out, by go_num⟩
        case measure => simp [intOf]; omega
    · go_wp2
      go_ret
      exact ⟨ret_int (by rw [HS.out, drop_end hlt]; rfl), rfl⟩

theorem refmiddle_any (a : Ar) (w : World) (ha : ArOK a) : Calls Try.prog 28 #[vAr a] w fun e w' => e = .returned (vPt (midOf a)) ∧ Below w.heap.size w w' := by
  obtain ⟨h1, h2, h3, h4⟩ := ha
  unfold Small at h1 h2 h3 h4
  go_enter Try.func28, Try.ntmps28
  go_wp2
  go_returns
  exact ⟨rfl, nw _ (nw _ (Below.refl _ _))⟩

def AreaPost (o : Option Ar) (e : Ending) : Prop := match o with
  | some a => e = .returned (.tuple #[vAr a, .bool true])
  | none => e = .returned (.tuple #[vAr ⟨0, 0, 0, 0, 0⟩, .bool false])
set_option maxRecDepth 100000 in
set_option maxHeartbeats 4000000 in
theorem area_any (A : Option Addr) (us : List Ar) (c : Nat) (v1 v2 : Value) (key : Int) (w : World) (hx : SlR 5 RAr w A us) (hl : us.length ≤ 65536) :
    Calls Try.prog 25 #[.agg #[.slice A us.length c, v1, v2], .int .u8 key] w fun e w' =>
      AreaPost (areaOf us key) e ∧ Below w.heap.size w w' := by
  obtain ⟨w2, hw2⟩ : ∃ w2, (w.alloc (.cells #[.slice A us.length c, v1, v2] 31)).alloc (.cells #[.int .u8 0, .int .i64 0, .int .i64 0, .int .i64 0, .int .i64 0] 57) = w2 := ⟨_, rfl⟩
  have hbw2 : Below w.heap.size w w2 := by rw [← hw2]; exact nw _ (nw _ (Below.refl _ _))
  have hB0 : Blk w2 w.heap.size 31 #[.slice A us.length c, v1, v2] := by rw [← hw2]; exact (Blk.new _ _ _).alloc _
  have hB1 : Blk w2 (w.heap.size + 1) 57 #[.int .u8 0, .int .i64 0, .int .i64 0, .int .i64 0, .int .i64 0] := by rw [← hw2]; exact Blk.new_ (by simp)
  have c00 := hB0.cell 0
  have c10 := hB1.cell 0
  have c11 := hB1.cell 1
  have c12 := hB1.cell 2
  have c13 := hB1.cell 3
  have c14 := hB1.cell 4
  have f10 := hB1.frozen 0
  have f11 := hB1.frozen 1
  have f12 := hB1.frozen 2
  have f13 := hB1.frozen 3
  have f14 := hB1.frozen 4
  simp at c00 c10 c11 c12 c13 c14
  have HB1 := Lib.hid hB1
  have HW2 := Lib.hid hw2
  have hx2 := hx.below keeps_ar hbw2
  clear hw2 hB0 hB1
  go_enter Try.func25, Try.ntmps25
  go_wp2_with fail
  rw [HW2.out]
  go_loop [6] (fun i => ∃ k : Nat, k ≤ us.length ∧ Hid (areaOf us key = areaOf (us.drop k) key) ∧ i = .int .i64 k) (fun i => us.length - (intOf i).toNat)
  case atStart => exact ⟨0, by omega, rfl, rfl⟩
  case round =>
    obtain ⟨k, hk, HS, rfl⟩ := hrel
    by_cases hlt : k < us.length
    · obtain ⟨b, off, a, rfl, hbb, haa, d0, d1, d2, d3, d4⟩ := hx2.ar hlt
      have HD := Lib.hid (drop_of haa)
      clear haa
      by_cases h1 : a.key = key
      · have HR : Hid (areaOf us key = some a) := by show areaOf us key = some a; rw [HS.out, HD.out]; unfold areaOf; rw [List.find?_cons_of_pos (by simpa using h1)]
        have HK := Lib.hid h1
        have hek : (a.key == key) = true := by simpa using h1
        clear h1
        go_wp2_with fail
        (try simp only [Exit.inBlock, Exit.then])
        refine ret_cell_tmp (t := 57) (cs := #[.int .u8 a.key, .int .i64 a.x0, .int .i64 a.y0, .int .i64 a.x1, .int .i64 a.y1]) (((((HB1.out.set_ 0 _).set_ 1 _).set_ 2 _).set_ 3 _).set_ 4 _) rfl rfl Try.underlying57 rfl (by kernel_rfl) rfl ?_
        rw [HR.out]
        exact ⟨rfl, ((((hbw2.setCell (by show w.heap.size ≤ w.heap.size + 1; omega) _).setCell (by show w.heap.size ≤ w.heap.size + 1; omega) _).setCell (by show w.heap.size ≤ w.heap.size + 1; omega) _).setCell (by show w.heap.size ≤ w.heap.size + 1; omega) _).setCell (by show w.heap.size ≤ w.heap.size + 1; omega) _⟩
      · have HR : Hid (areaOf us key = areaOf (us.drop (k + 1)) key) := by show areaOf us key = _; rw [HS.out, HD.out]; unfold areaOf; rw [List.find?_cons_of_neg (by simpa using h1)]
        go_wp2_with fail
        go_round
        case rel => exact ⟨k + 1, by omega, HR.out, by go_num⟩
        case measure => simp [intOf]; omega
    · have HR : Hid (areaOf us key = none) := by show areaOf us key = none; rw [HS.out, drop_end hlt]; rfl
      go_wp2_with fail
      (try simp only [Exit.inBlock, Exit.then])
      refine ret_cell_tmp (t := 57) (cs := #[.int .u8 0, .int .i64 0, .int .i64 0, .int .i64 0, .int .i64 0]) (((((HB1.out.set_ 0 _).set_ 1 _).set_ 2 _).set_ 3 _).set_ 4 _) rfl rfl Try.underlying57 rfl (by kernel_rfl) rfl ?_
      rw [HR.out]
      exact ⟨rfl, ((((hbw2.setCell (by show w.heap.size ≤ w.heap.size + 1; omega) _).setCell (by show w.heap.size ≤ w.heap.size + 1; omega) _).setCell (by show w.heap.size ≤ w.heap.size + 1; omega) _).setCell (by show w.heap.size ≤ w.heap.size + 1; omega) _).setCell (by show w.heap.size ≤ w.heap.size + 1; omega) _⟩
end Go.Proofs.Ytpjecpefbfobdaa
