/-
  The walks of layer 16: the reference's right page.
-/
import Derived.Test.YtbikjmafddndpaaGrWalkQ
import Derived.Test.YtbikjmafddndpaaBase
namespace Go.Proofs.Ytbikjmafddndpaa
open Go Go.RowKit

/-- All candidates, as the reference lists them. -/
def allC (g : Gr) : List Can := orderedM (waysM g 2000 g.n.toNat 0)
theorem allC_len (g : Gr) : (allC g).length ≤ 2000 := by
  unfold allC orderedM
  have key : ∀ (l out : List Can), (l.foldl insC out).length = l.length + out.length := by
    intro l
    induction l with
    | nil => intro out; simp
    | cons x l ih => intro out; rw [List.foldl_cons, ih, (insC_perm out x).length_eq, List.length_cons, List.length_cons]; omega
  rw [key]
  have := waysM_len g (most := 2000) (by decide) g.n.toNat 0
  simpa using this
/-- A page that a call has made. -/
def IsPage (L : List Can) (b : Bool) (w : World) (e : Ending) (w' : World) : Prop := ∃ A c ms, e = .returned (.agg #[.slice A L.length c, .bool b]) ∧ SlR 2 RMc w' A ms ∧ MsOK w' ms ∧ Hid (ms.map (·.x) = L) ∧ L.length ≤ c ∧ c ≤ maxLen ∧ Below w.heap.size w w'
set_option maxRecDepth 100000 in
set_option maxHeartbeats 16000000 in
theorem first_any (A : Option Addr) (c : Nat) (g : Gr) (N n : Nat) (w : World) (hx : SlR 4 RLk w A g.ls) (hg : GrOK g) (hN : g.n = (N : Int)) (hn : n ≤ 1000000) :
    Calls Try.prog 33 #[.agg #[.int .i64 (N : Int), .slice A g.ls.length c], .int .i64 (n : Int)] w (IsPage ((allC g).take (min n (allC g).length)) (decide (min n (allC g).length = (allC g).length)) w) := by
  obtain ⟨i0, hi, hz0, hz1, hz2⟩ := info_parts can_info
  obtain ⟨hn1, hn2⟩ := hg.n
  obtain ⟨w2, hw2⟩ : ∃ w2, (w.alloc (.cells #[.int .i64 (N : Int), .slice A g.ls.length c] 30)).alloc (.cells #[.slice none 0 0, .bool false] 69) = w2 := ⟨_, rfl⟩
  have hb2 : Below w.heap.size w w2 := by rw [← hw2]; exact nw _ (nw _ (Below.refl _ _))
  have hG : Blk w2 w.heap.size 30 #[.int .i64 (N : Int), .slice A g.ls.length c] := by rw [← hw2]; exact (Blk.new _ _ _).alloc _
  have hP : Blk w2 (w.heap.size + 1) 69 #[.slice none 0 0, .bool false] := by rw [← hw2]; exact Blk.new_ (by simp)
  obtain ⟨bP, hbP⟩ : ∃ b, w.heap.size + 1 = b := ⟨_, rfl⟩
  have HBP := Lib.hid hbP
  rw [hbP] at hP
  have HW2 := Lib.hid hw2
  have g0 := hG.cell 0
  have g1 := hG.cell 1
  simp at g0 g1
  have hwP : w.heap.size ≤ bP := by omega
  have HWA : Hid (Calls Try.prog 44 #[.agg #[.int .i64 (N : Int), .slice A g.ls.length c], .int .i64 0, .int .i64 2000] w2 (IsCans (waysM g 2000 N 0) w2)) := ways_any A c g N hg hN 2000 (by decide) (by decide) N 0 w2 (hx.below keeps_lk hb2) (by omega) (by omega) (by omega)
  have HAL : Hid (allC g = orderedM (waysM g 2000 N 0)) := by show allC g = _; unfold allC; rw [show g.n.toNat = N by omega]
  have hal := allC_len g
  have HLW : Hid ((waysM g 2000 N 0).length ≤ 2000) := waysM_len g (by decide) N 0
  generalize allC g = al at *
  clear hw2 hbP hG hN hg
  go_enter Try.func33, Try.ntmps33
  go_upto_region 1 with fail
  rw [HW2.out, HBP.out]
  go_upto_region 2 with (first
    | (go_at_call 44; go_loud (refine HWA.out.mono ?_; rintro e w3 ⟨v3, ms3, rfl, hor3, hms3, HX3, hb3⟩; obtain ⟨A3, c3, rfl, hc3, hcm3, hs3⟩ := own_slr (R := RMc) hor3 (fun _ => rfl) (fun _ => rfl) rfl; have hl3 : ms3.length ≤ 2000 := by have := congrArg List.length HX3.out; rw [List.length_map] at this; rw [this]; exact HLW.out))
    | (go_at_call 43; go_loud (refine (reford_any A3 c3 ms3 _ hs3 hms3 hl3).mono ?_; rintro e w4 ⟨v4, ms4, rfl, hor4, hms4, HX4, hb4⟩)))
  obtain ⟨A4, c4, rfl, hc4, hcm4, hs4⟩ := own_slr (R := RMc) hor4 (fun _ => rfl) (fun _ => rfl) rfl
  have HX5 : Hid (ms4.map (·.x) = al) := by show _ = _; rw [HX4.out, HX3.out, HAL.out]
  have HL4 : Hid (ms4.length = al.length) := by have := congrArg List.length HX5.out; rw [List.length_map] at this; exact this
  have hl4 : ms4.length ≤ 2000 := by rw [HL4.out]; exact hal
  have hb24 := bthen hb3 hb4
  have hP4 := hP.below hb24 hP.lt
  have hbw4 := bthen hb2 hb24
  clear hor3 hms3 hs3 hb3 hb4 hb24 hP hor4
  have hml4 : ms4.length ≤ 9223372036854775807 := by omega
  obtain ⟨k, hk⟩ : ∃ k, min n ms4.length = k := ⟨_, rfl⟩
  have HK := Lib.hid hk
  have HK2 : Hid (min n al.length = k) := by show _ = _; rw [← HL4.out]; exact hk
  have hkl : k ≤ ms4.length := by omega
  have hkc : k ≤ c4 := by omega
  have hkc' : (k : Int) ≤ (c4 : Int) := by omega
  have hkn : (n : Int) ≤ (ms4.length : Int) ∨ (ms4.length : Int) < (n : Int) := by omega
  have hkv : (if ms4.length < n then (ms4.length : Int) else (n : Int)) = (k : Int) := by split <;> omega
  obtain ⟨wb, hwb⟩ : ∃ b, decide (min n al.length = al.length) = b := ⟨_, rfl⟩
  have HWB := Lib.hid hwb
  have hz : ((k : Int) == (ms4.length : Int)) = wb := by
    rw [← hwb, HK2.out, ← HL4.out, Bool.eq_iff_iff]
    simp
    omega
  rw [hwb]
  clear hk hkn hwb
  go_upto_region 3 with fail
  obtain ⟨W6, hW6⟩ : ∃ W, w4.alloc (.cells #[] 43) = W := ⟨_, rfl⟩
  have hb6 : Below w4.heap.size w4 W6 := by rw [← hW6]; exact nw _ (Below.refl _ _)
  have ho6 : W6.ownsRow w4.heap.size 43 2 (.slice (some ⟨w4.heap.size, 0, none⟩) 0 0) 0 [] := by rw [← hW6]; exact own_empty w4 _ 2 _ (Nat.le_refl _)
  have hs6 := slr_preS (hs4.below keeps_mc hb6) k
  have htl6 : (ms4.take k).length = k := by rw [List.length_take]; omega
  have HTL6 := Lib.hid htl6
  have hs46 := hb6.size
  have HB6 := Lib.hid hb6
  have HM4 := Lib.hid hms4
  have hP6 := hP4.below hb6 hP4.lt
  have hbPl := hP4.lt
  have p0 := hP6.cell 0
  have p1 := hP6.cell 1
  have pf0 := hP6.frozen 0
  have pf1 := hP6.frozen 1
  simp at p0 p1
  have HP6 := Lib.hid hP6
  have HBW4 := Lib.hid hbw4
  clear hkv htl6 hb6 hms4 hP4 hP6 hbw4 hs4
  go_wp2_with (at_builtin; go_loud (refine wpList_appS (enc := encMc) (R := RMc) rfl _ _ 32 rfl w4.heap.size 43 i0 _ 2 32 Try.underlying32 hi hz0 hz1 hz2 rfl (by decide) (.slice (some ⟨w4.heap.size, 0, none⟩) 0 0) 0 [] rfl ho6 A4 c4 (ms4.take k) (by rw [HTL6.out]; rfl) hs6 (fun _ _ _ h => h) (fun _ => rfl) (fun u hu => one_mc hu) (by rw [HTL6.out]; omega) (by decide) hs46 ?_; intro v7 W7 h71 h72 h73; have p0 := (h72.cell (p := ⟨bP, 0, none⟩) hbPl).trans p0; have p1 := (h72.cell (p := ⟨bP, 1, none⟩) hbPl).trans p1; have pf0 := (h72.frozen (p := ⟨bP, 0, none⟩) hbPl).trans pf0; have pf1 := (h72.frozen (p := ⟨bP, 1, none⟩) hbPl).trans pf1; have hs7 := h72.size; have h71' : W7.ownsRow w4.heap.size 43 2 v7 (ms4.take k).length ((ms4.take k).flatMap encMc) := (by simpa using h71); obtain ⟨A7, c7, rfl, hc7, hcm7, hs7'⟩ := own_slr (R := RMc) h71' (fun _ => rfl) (fun _ => rfl) rfl; clear h71))
  rw [HTL6.out] at hc7
  refine ret_cell (t := 69) (cs := #[.slice A7 k c7, .bool wb]) (by have := (((HP6.out.below (h72.mono (Nat.le_refl _)) hbPl).set_ 0 (.slice A7 k c7)).set_ 1 (.bool wb)); simpa [HTL6.out] using this) rfl rfl Try.underlying69 rfl (by kernel_rfl) rfl ?_
  have hbl := own_block_le h71'
  have hnb : (Value.slice A7 (ms4.take k).length c7).ownBlock ≠ some bP := fun e => by have := hbl _ e; omega
  have hP7 := HP6.out.below (h72.mono (Nat.le_refl _)) hbPl
  have hr := own_set (own_set h71' (a := ⟨bP, 0, none⟩) hnb (.slice A7 k c7)) (a := ⟨bP, 1, none⟩) hnb (.bool wb)
  obtain ⟨A8, c8, he8, _, _, hs8⟩ := own_slr (R := RMc) hr (fun _ => rfl) (fun _ => rfl) rfl
  obtain ⟨rfl, rfl⟩ : A7 = A8 ∧ c7 = c8 := by injection he8 with h1 h2 h3; exact ⟨h1, h3⟩
  have hm7 : MsOK W7 (ms4.take k) := (HM4.out.below (HB6.out.trans h72)).sub fun m hm => List.mem_of_mem_take hm
  have hm8 := (hm7.set_ (p := ⟨bP, 0, none⟩) hP7 (by decide) (.slice A7 k c7)).set_ (p := ⟨bP, 1, none⟩) (hP7.set_ 0 (.slice A7 k c7)) (by decide) (.bool wb)
  have hE : Below w.heap.size w W7 := HBW4.out.trans ((HB6.out.trans h72).mono HBW4.out.size)
  have hlk : (al.take (min n al.length)).length = k := by rw [List.length_take, HK2.out]; have := HL4.out; omega
  exact ⟨A7, c7, ms4.take k, by rw [hlk, HWB.out], hs8, hm8, by show _ = _; rw [List.map_take, HX5.out, HK2.out], by rw [hlk]; exact hc7, hcm7, (hE.setCell (p := ⟨bP, 0, none⟩) hwP _).setCell (p := ⟨bP, 1, none⟩) hwP _⟩
end Go.Proofs.Ytbikjmafddndpaa
