/-
  SiWalkA, SiWalkB, joined. No conditions.
-/
import Derived.Test.YtfpnhgahkjglgaaP17
import Derived.Test.YtfpnhgahkjglgaaP07
/-
  The walks of package single: gaps that differ, gaps in a list, places where a route may end.
-/
namespace Go.Proofs.Ytfpnhgahkjglgaa
open Go Go.RowKit Go.Maps

set_option maxRecDepth 100000 in
theorem run_eqGp (x y : Gp) (W : World) : (Op.equalIn 10000 85 (.agg #[.string (ba x.a), .string (ba x.b), .bool x.p]) (.agg #[.string (ba y.a), .string (ba y.b), .bool y.p])).run Try.prog W = .ok (decide (x = y)) W := by
  rw [run_equalIn_agg W 9999 _ _ _ (by kernel_rfl) (by kernel_rfl)]
  have hf : (Try.prog.fieldsOf 85).toList.map (fun f => (f.type, f.offset, f.name != "_")) = [(9, 0, true), (9, 1, true), (4, 2, true)] := by kernel_rfl
  obtain ⟨f0, l0, e0, h0, hf⟩ := List.map_eq_cons_iff.1 hf
  obtain ⟨f1, l1, e1, h1, hf⟩ := List.map_eq_cons_iff.1 hf
  obtain ⟨f2, l2, e2, h2, hf⟩ := List.map_eq_cons_iff.1 hf
  obtain rfl := List.map_eq_nil_iff.1 hf
  simp only [Prod.mk.injEq] at h0 h1 h2
  have hpb : Try.prog.plainKey 4 = true := by kernel_rfl
  have hps : Try.prog.plainKey 9 = true := by kernel_rfl
  have qb : ∀ a b : Bool, (Op.equalIn 9999 4 (.bool a) (.bool b)).run Try.prog W = .ok (a == b) W := fun a b => run_equalIn_bool W 9998 4 a b Try.underlying4
  have qs : ∀ a b : ByteArray, (Op.equalIn 9999 9 (.string a) (.string b)).run Try.prog W = .ok (a.toList == b.toList) W := fun a b => run_equalIn_string W 9998 9 a b Try.underlying9
  obtain ⟨X, hX⟩ : ∃ X : Array Value, X = #[.string (ba x.a), .string (ba x.b), .bool x.p] := ⟨_, rfl⟩
  obtain ⟨Y, hY⟩ : ∃ X : Array Value, X = #[.string (ba y.a), .string (ba y.b), .bool y.p] := ⟨_, rfl⟩
  rw [← hX, ← hY]
  have k5 : (Op.eqFields 9999 X Y []).run Try.prog W = .ok true W := by simp [Op.eqFields]
  have k2 := eqF_cons (f := f2) (xs := X) (ys := Y) h2.2.2 (by rw [h2.1]; exact hpb) (by rw [h2.2.1, hX]; rfl) (by rw [h2.2.1, hY]; rfl) (by rw [h2.1]; exact qb x.p y.p) k5
  rw [← e2] at k2
  have k1 := eqF_cons (f := f1) (xs := X) (ys := Y) h1.2.2 (by rw [h1.1]; exact hps) (by rw [h1.2.1, hX]; rfl) (by rw [h1.2.1, hY]; rfl) (by rw [h1.1]; exact qs (ba x.b) (ba y.b)) k2
  rw [← e1] at k1
  have key := eqF_cons (f := f0) (xs := X) (ys := Y) h0.2.2 (by rw [h0.1]; exact hps) (by rw [h0.2.1, hX]; rfl) (by rw [h0.2.1, hY]; rfl) (by rw [h0.1]; exact qs (ba x.a) (ba y.a)) k1
  rw [← e0] at key
  refine key.trans ?_
  congr 1
  rw [Bool.eq_iff_iff]
  simp only [Bool.and_eq_true, beq_iff_eq, decide_eq_true_iff, and_true]
  constructor
  · rintro ⟨h1, h2, h3⟩
    obtain ⟨a, b, p⟩ := x
    obtain ⟨a', b', p'⟩ := y
    have h1 := ba_inj (toL_inj h1)
    have h2 := ba_inj (toL_inj h2)
    simp only at h1 h2 h3
    rw [h1, h2, h3]
  · rintro rfl
    exact ⟨rfl, rfl, rfl⟩
theorem ba_emp (l : List UInt8) : (ba l).toList.isEmpty = l.isEmpty := by rw [Lib.toList_data]; rfl
set_option maxRecDepth 100000 in
set_option maxHeartbeats 4000000 in
theorem gdiffer_any (g : Gp) (w : World) : Calls Try.prog 59 #[.agg #[.string (ba g.a), .string (ba g.b), .bool g.p]] w fun e w' => e = .returned (.bool (!decide (g = Gp.none_))) ∧ Below w.heap.size w w' := by
  obtain ⟨w1, hw1⟩ : ∃ w1, w.alloc (.cells #[.string (ba g.a), .string (ba g.b), .bool g.p] 85) = w1 := ⟨_, rfl⟩
  have hb1 : Below w.heap.size w w1 := by rw [← hw1]; exact nw _ (Below.refl _ _)
  have hB : Blk w1 w.heap.size 85 #[.string (ba g.a), .string (ba g.b), .bool g.p] := by rw [← hw1]; exact Blk.new _ _ _
  have HW1 := Lib.hid hw1
  have HB1 := Lib.hid hb1
  have b0 := hB.cell 0
  have b1 := hB.cell 1
  have b2 := hB.cell 2
  have bl := hB.lt
  simp at b0 b1 b2
  have HEQ : ∀ W, (Op.equalIn 10000 85 (.agg #[.string (ba g.a), .string (ba g.b), .bool g.p]) (.agg #[.string { data := #[] }, .string { data := #[] }, .bool false])).run Try.prog W = .ok (decide (g = Gp.none_)) W := fun W => run_eqGp g Gp.none_ W
  obtain ⟨q, hq⟩ : ∃ q, decide (g = Gp.none_) = q := ⟨_, rfl⟩
  rw [hq] at HEQ ⊢
  clear hw1 hb1 hB hq
  go_enter Try.func59, Try.ntmps59
  go_upto_region 1 with fail
  rw [HW1.out]
  go_wp2_with fail
  go_ret
  exact ⟨rfl, HB1.out⟩
set_option maxRecDepth 100000 in
set_option maxHeartbeats 4000000 in
theorem gindex_any (A : Option Addr) (xs : List Gp) (c : Nat) (r : Gp) (w : World) (hx : SlR 3 RGp w A xs) (hl : xs.length ≤ 65536) :
    Calls Try.prog 76 #[.slice A xs.length c, .agg #[.string (ba r.a), .string (ba r.b), .bool r.p]] w fun e w' => (∃ i : Int, e = .returned (.int .i64 i) ∧ (0 ≤ i ↔ r ∈ xs)) ∧ Below w.heap.size w w' := by
  obtain ⟨w1, hw1⟩ : ∃ w1, w.alloc (.cells #[.string (ba r.a), .string (ba r.b), .bool r.p] 85) = w1 := ⟨_, rfl⟩
  have hb1 : Below w.heap.size w w1 := by rw [← hw1]; exact nw _ (Below.refl _ _)
  have hB : Blk w1 w.heap.size 85 #[.string (ba r.a), .string (ba r.b), .bool r.p] := by rw [← hw1]; exact Blk.new _ _ _
  have HW1 := Lib.hid hw1
  have HB1 := Lib.hid hb1
  clear hw1 hb1
  go_enter Try.func76, Try.ntmps76
  go_upto_region 1 with fail
  rw [HW1.out]
  go_wp2_with fail
  go_loopw [5, 8] (fun _ i wr => ∃ k : Nat, k ≤ xs.length ∧ Hid (∀ y ∈ xs.take k, y ≠ r) ∧ i = .int .i64 (k : Int) ∧ Below w1.heap.size w1 wr) (fun _ i _ => xs.length - (intOf i).toNat)
  case atStart => exact ⟨0, by omega, by show ∀ y ∈ xs.take 0, y ≠ r; simp, rfl, Below.refl _ _⟩
  case round =>
    obtain ⟨k, hk, HN, rfl, hb⟩ := hrel
    have HBE := Lib.hid (bthen HB1.out hb)
    have hBB := hB.below hb hB.lt
    have b0 := hBB.cell 0
    have b1 := hBB.cell 1
    have b2 := hBB.cell 2
    have bl := hBB.lt
    simp at b0 b1 b2
    have HBR := Lib.hid hb
    by_cases hlt : k < xs.length
    · obtain ⟨b, off, x, rfl, hbb, hxx, d0, d1, d2⟩ := (hx.below keeps_gp HBE.out).gps hlt
      have HX := Lib.hid hxx
      have hki : (k : Int) < (xs.length : Int) := by omega
      have hk0 : (0 : Int) ≤ (k : Int) := by omega
      clear hxx hb hBB
      by_cases he : r = x
      · have HE := Lib.hid he
        have HEQ := fun W => run_eqGp r x W
        rw [decide_eq_true he] at HEQ
        clear he
        go_wp2_with fail
        go_quiet (fail)
        go_wp2_with fail
        go_ret
        exact ⟨⟨_, rfl, ⟨fun _ => by rw [HE.out]; exact List.mem_of_getElem? HX.out, fun _ => by omega⟩⟩, below_drewN HBE.out _⟩
      · have HE := Lib.hid he
        have HEQ := fun W => run_eqGp r x W
        rw [decide_eq_false he] at HEQ
        clear he
        go_wp2_with fail
        go_quiet (fail)
        go_wp2_with fail
        go_roundw
        case rel => exact ⟨k + 1, by omega, (by
          show ∀ y ∈ xs.take (k + 1), y ≠ r
          rw [take_succ_of HX.out]
          intro y hy
          rcases List.mem_append.1 hy with hy | hy
          · exact HN.out y hy
          · rw [List.mem_singleton.1 hy]; exact fun e => HE.out e.symm), by go_num, below_drewN HBR.out _⟩
        case measure => simp [intOf]; omega
    · have HN2 : Hid (∀ y ∈ xs, y ≠ r) := by have := HN.out; rwa [List.take_of_length_le (by omega)] at this
      clear hb hBB
      go_wp2_with fail
      go_ret
      exact ⟨⟨-1, rfl, ⟨fun h => absurd h (by decide), fun h => absurd rfl (HN2.out r h)⟩⟩, HBE.out⟩
set_option maxRecDepth 100000 in
set_option maxHeartbeats 4000000 in
theorem gcont_any (A : Option Addr) (xs : List Gp) (c : Nat) (r : Gp) (w : World) (hx : SlR 3 RGp w A xs) (hl : xs.length ≤ 65536) :
    Calls Try.prog 55 #[.slice A xs.length c, .agg #[.string (ba r.a), .string (ba r.b), .bool r.p]] w fun e w' => e = .returned (.bool (xs.contains r)) ∧ Below w.heap.size w w' := by
  obtain ⟨w1, hw1⟩ : ∃ w1, w.alloc (.cells #[.string (ba r.a), .string (ba r.b), .bool r.p] 85) = w1 := ⟨_, rfl⟩
  have hb1 : Below w.heap.size w w1 := by rw [← hw1]; exact nw _ (Below.refl _ _)
  have hB : Blk w1 w.heap.size 85 #[.string (ba r.a), .string (ba r.b), .bool r.p] := by rw [← hw1]; exact Blk.new _ _ _
  have HW1 := Lib.hid hw1
  have HB1 := Lib.hid hb1
  have HX := Lib.hid (hx.below keeps_gp hb1)
  have b0 := hB.cell 0
  have b1 := hB.cell 1
  have b2 := hB.cell 2
  have bl := hB.lt
  simp at b0 b1 b2
  have hd : xs.contains r = decide (r ∈ xs) := by rw [Bool.eq_iff_iff]; simp
  rw [hd]
  clear hw1 hb1 hx hd
  go_enter Try.func55, Try.ntmps55
  go_upto_region 1 with fail
  rw [HW1.out]
  go_wp2_with (go_at_call 76; go_loud (refine (gindex_any A xs c r w1 HX.out hl).mono ?_; rintro e w2 ⟨⟨i, rfl, hi⟩, hb2⟩))
  have HI := Lib.hid hi
  clear hi
  go_wp2_with fail
  go_ret
  exact ⟨rfl, bthen HB1.out hb2⟩
set_option maxRecDepth 100000 in
set_option maxHeartbeats 8000000 in
theorem sended_any (s : Sc) (A : Option Addr) (c gf gm : Nat) (p : Pl) (w : World) (hS : Blk w gf 74 #[.int .i64 s.n, .int .u8 s.acc, .slice A s.rs.length c, .map (some gm)]) (hacc : 0 ≤ s.acc ∧ s.acc ≤ 255) (hm : 0 ≤ p.1 ∧ p.1 < 8) :
    Calls Try.prog 60 #[.pointer (some ⟨gf, 0, none⟩), .agg #[.int .i64 p.1, .string (ba p.2)]] w fun e w' => e = .returned (.bool ((schA s).acc p)) ∧ Below w.heap.size w w' := by
  obtain ⟨w1, hw1⟩ : ∃ w1, w.alloc (.cells #[.int .i64 p.1, .string (ba p.2)] 81) = w1 := ⟨_, rfl⟩
  have hb1 : Below w.heap.size w w1 := by rw [← hw1]; exact nw _ (Below.refl _ _)
  have hB : Blk w1 w.heap.size 81 #[.int .i64 p.1, .string (ba p.2)] := by rw [← hw1]; exact Blk.new _ _ _
  have hSB := hS.below hb1 hS.lt
  have HW1 := Lib.hid hw1
  have HB1 := Lib.hid hb1
  have b0 := hB.cell 0
  have b1 := hB.cell 1
  have bl := hB.lt
  have f1 := hSB.cell 1
  have fl := hSB.lt
  simp at b0 b1 f1
  obtain ⟨m, t⟩ := p
  simp only at b0 b1 hm
  have HM := Lib.hid hm
  obtain ⟨hm0, hm1⟩ := hm
  have hmin : min m.toNat 8 = m.toNat := by omega
  show Calls _ _ _ _ fun e w' => e = .returned (.bool (decide (t = []) && accB s.acc m)) ∧ _
  clear hw1 hb1 hB hS hSB
  cases t with
  | cons a t =>
    have h1 : (ba (a :: t)).toList.isEmpty = false := ba_emp _
    go_enter Try.func60, Try.ntmps60
    go_upto_region 1 with fail
    rw [HW1.out]
    refine ordB_below (.quiet 0 (.quiet 1 (.quiet 2 (.quiet 3 (.quiet 4 (.quiet 5 (.quiet 6 (.quiet 7 (.quiet 8 (.quiet 9 (.quiet 10 (.quiet 11 (.quiet 12 (.quiet 13 (.quiet 14 (.quiet 15 .done)))))))))))))))) (by kernel_rfl) (by kernel_rfl) (by kernel_rfl) (fun _ _ _ _ _ h => h) ?_
    intro V0 hV0
    iterate 16 (first
      | (refine ordB_skip rfl rfl ?_; simp only [Act.put, List.setIfInBounds_toArray, List.set_cons_zero, List.set_cons_succ])
      | (refine ordB_take (v := ?_) rfl rfl ?_ ?_
         rotate_left 1
         focus (intro W hW; obtain ⟨hcW, hfW⟩ := bcell hW; (go_simp <;> with_reducible rfl))
         simp only [Act.put, List.setIfInBounds_toArray, List.set_cons_zero, List.set_cons_succ]))
    refine ordB_nil ?_
    go_wp2_with fail
    go_ret
    exact ⟨by simp, bthen HB1.out hV0⟩
  | nil =>
    have h1 : (ba []).toList.isEmpty = true := ba_emp _
    go_enter Try.func60, Try.ntmps60
    go_upto_region 1 with fail
    rw [HW1.out]
    refine ordB_below (.quiet 0 (.quiet 1 (.quiet 2 (.quiet 3 (.quiet 4 (.quiet 5 (.quiet 6 (.quiet 7 (.quiet 8 (.quiet 9 (.quiet 10 (.quiet 11 (.quiet 12 (.quiet 13 (.quiet 14 (.quiet 15 .done)))))))))))))))) (by kernel_rfl) (by kernel_rfl) (by kernel_rfl) (fun _ _ _ _ _ h => h) ?_
    intro V0 hV0
    iterate 16 (first
      | (refine ordB_skip rfl rfl ?_; simp only [Act.put, List.setIfInBounds_toArray, List.set_cons_zero, List.set_cons_succ])
      | (refine ordB_take (v := ?_) rfl rfl ?_ ?_
         rotate_left 1
         focus (intro W hW; obtain ⟨hcW, hfW⟩ := bcell hW; (go_simp <;> with_reducible rfl))
         simp only [Act.put, List.setIfInBounds_toArray, List.set_cons_zero, List.set_cons_succ]))
    refine ordB_nil ?_
    go_wp2_with fail
    go_ret
    refine ⟨ret_bool ?_, bthen HB1.out hV0⟩
    have hp : (0 : Int) < 2 ^ m.toNat := Int.pow_pos (by omega)
    have hd0 : 0 ≤ s.acc / 2 ^ m.toNat := Int.ediv_nonneg hacc.1 (by omega)
    have hd1 : s.acc / 2 ^ m.toNat ≤ s.acc := Int.ediv_le_self _ hacc.1
    rw [(bits_u8 (s.acc / 2 ^ m.toNat) 1 (by omega) (by omega)).1]
    unfold accB
    rw [decide_eq_true hm0, Bool.true_and, Nat.testBit_eq_decide_div_mod_eq, show (1 : Int).toNat = 1 from rfl, Nat.and_one_is_mod]
    have e : (s.acc / 2 ^ m.toNat).toNat = s.acc.toNat / 2 ^ m.toNat := by
      have h1 : s.acc / 2 ^ m.toNat = ((s.acc.toNat / 2 ^ m.toNat : Nat) : Int) := by
        rw [Int.natCast_ediv, Int.toNat_of_nonneg hacc.1]
        congr 1
      rw [h1, Int.toNat_natCast]
    rw [e]
    by_cases h : s.acc.toNat / 2 ^ m.toNat % 2 = 1
    · rw [h]; rfl
    · have h0 : s.acc.toNat / 2 ^ m.toNat % 2 = 0 := by omega
      rw [h0]; rfl
end Go.Proofs.Ytfpnhgahkjglgaa

/-
  The walk of package single: a gap after both outputs have grown.
-/
namespace Go.Proofs.Ytfpnhgahkjglgaa
open Go Go.RowKit Go.Maps

theorem ba_app (a b : List UInt8) : ba a ++ ba b = ba (a ++ b) := bl_inj (by rw [bl_app]; rfl)
theorem ba_drop (l : List UInt8) (n : Nat) : (ba l).extract n (ba l).size = ba (l.drop n) := bl_inj (by rw [bl_drop]; rfl)
theorem gapOf_take {A B : List UInt8} {n : Nat} (h : A.take n = B.take n) : gapOf A B = gapOf (A.drop n) (B.drop n) := by
  have e1 : A = A.take n ++ A.drop n := (List.take_append_drop n A).symm
  have e2 : B = A.take n ++ B.drop n := by rw [h]; exact (List.take_append_drop n B).symm
  conv => lhs; rw [e1, e2]
  exact gapOf_app _ _ _
theorem gapOf_end {A B : List UInt8} {n : Nat} (h : A.take n = B.take n) (hn : A.length ≤ n ∨ B.length ≤ n) : gapOf A B = ⟨A.drop n, B.drop n, false⟩ := by
  rw [gapOf_take h]
  rcases hn with hn | hn
  · rw [List.drop_eq_nil_of_le hn, gapOf_nil_l]
  · rw [List.drop_eq_nil_of_le hn, gapOf_nil_r]
theorem gapOf_ne {A B : List UInt8} {n : Nat} {a b : UInt8} (h : A.take n = B.take n) (ha : A[n]? = some a) (hb : B[n]? = some b) (hne : a ≠ b) : gapOf A B = Gp.part := by
  obtain ⟨h1, h2⟩ := List.getElem?_eq_some_iff.1 ha
  obtain ⟨h3, h4⟩ := List.getElem?_eq_some_iff.1 hb
  rw [gapOf_take h, List.drop_eq_getElem_cons h1, List.drop_eq_getElem_cons h3, h2, h4]
  exact if_neg hne
theorem ba_get {l : List UInt8} {n : Nat} (h : n < (ba l).size) : l[n]? = some (ba l)[n] := by
  have h2 : n < l.length := h
  rw [List.getElem?_eq_getElem h2]
  rfl
set_option maxRecDepth 100000 in
set_option maxHeartbeats 8000000 in
theorem gwider_any (g : Gp) (x y : List UInt8) (w : World) (hsz : g.sz + x.length + y.length ≤ 1000000000) :
    Calls Try.prog 56 #[.agg #[.string (ba g.a), .string (ba g.b), .bool g.p], .string (ba x), .string (ba y)] w fun e w' => e = .returned (.agg #[.string (ba (widen g x y).a), .string (ba (widen g x y).b), .bool (widen g x y).p]) ∧ Below w.heap.size w w' := by
  obtain ⟨w2, hw2⟩ : ∃ w2, (w.alloc (.cells #[.string (ba g.a), .string (ba g.b), .bool g.p] 85)).alloc (.cells #[.string { data := #[] }, .string { data := #[] }, .bool false] 85) = w2 := ⟨_, rfl⟩
  obtain ⟨gb, hgb⟩ : ∃ g, w.heap.size = g := ⟨_, rfl⟩
  obtain ⟨gr, hgr⟩ : ∃ h, gb + 1 = h := ⟨_, rfl⟩
  have hb2 : Below w.heap.size w w2 := by rw [← hw2]; exact nw _ (nw _ (Below.refl _ _))
  have hA : Blk w2 gb 85 #[.string (ba g.a), .string (ba g.b), .bool g.p] := by rw [← hw2, ← hgb]; exact (Blk.new _ _ _).alloc _
  have hC : Blk w2 gr 85 #[.string { data := #[] }, .string { data := #[] }, .bool false] := by rw [← hw2]; exact Blk.new_ (by simp; omega)
  have hgrw : w.heap.size ≤ gr := by omega
  have HW2 := Lib.hid hw2
  have HB2 := Lib.hid hb2
  have HC := Lib.hid hC
  have HG := Lib.hid hgb
  have HGR := Lib.hid hgr
  have b0 := hA.cell 0
  have b1 := hA.cell 1
  have b2 := hA.cell 2
  have bl := hA.lt
  simp at b0 b1 b2
  have hsa : g.a.length + x.length ≤ 1000000000 := by unfold Gp.sz at hsz; omega
  have hsb : g.b.length + y.length ≤ 1000000000 := by unfold Gp.sz at hsz; omega
  have hz1 : ¬ 9223372036854775807 < (ba g.a).size + (ba x).size := by rw [ba_size, ba_size]; omega
  have hz2 : ¬ 9223372036854775807 < (ba g.b).size + (ba y).size := by rw [ba_size, ba_size]; omega
  clear hw2 hb2 hA hgb hgr hsz
  cases hp : g.p with
  | true =>
    have HWD : Hid (widen g x y = g) := by show _ = _; unfold widen; rw [if_pos hp]
    have HPT := Lib.hid hp
    rw [hp] at HW2 b2
    clear hp
    go_enter Try.func56, Try.ntmps56
    go_upto_region 1 with fail
    rw [HW2.out, HG.out, HGR.out]
    have r0 := hC.cell 0
    have r1 := hC.cell 1
    have r2 := hC.cell 2
    have rf0 := hC.frozen 0
    have rf1 := hC.frozen 1
    have rf2 := hC.frozen 2
    have rl := hC.lt
    simp at r0 r1 r2
    go_wp2_with fail
    have hE := (((hC.set_ 0 (.string (ba g.a))).set_ 1 (.string (ba g.b))).set_ 2 (.bool true))
    have hbE := (((HB2.out.setCell (p := ⟨gr, 0, none⟩) hgrw (.string (ba g.a))).setCell (p := ⟨gr, 1, none⟩) hgrw (.string (ba g.b))).setCell (p := ⟨gr, 2, none⟩) hgrw (.bool true))
    obtain ⟨w5, hw5⟩ : ∃ W, (((w2.setCell ⟨gr, 0, none⟩ (.string (ba g.a))).setCell ⟨gr, 1, none⟩ (.string (ba g.b))).setCell ⟨gr, 2, none⟩ (.bool true)) = W := ⟨_, rfl⟩
    rw [hw5] at hE hbE ⊢
    have z0 := hE.cell 0
    have z1 := hE.cell 1
    have z2 := hE.cell 2
    simp at z0 z1 z2
    refine bodyPost_ret (v := .agg #[.string (ba g.a), .string (ba g.b), .bool true]) (by simp [results, Try.results56, go_sem, z0, z1, z2]; done) rfl ?_
    exact ⟨by rw [HWD.out, HPT.out], hbE⟩
  | false =>
    have HWD : Hid (widen g x y = gapOf (g.a ++ x) (g.b ++ y)) := by show _ = _; unfold widen; rw [if_neg (by rw [hp]; simp)]
    rw [hp] at HW2 b2
    obtain ⟨A, hA⟩ : ∃ A, g.a ++ x = A := ⟨_, rfl⟩
    obtain ⟨B, hB⟩ : ∃ A, g.b ++ y = A := ⟨_, rfl⟩
    obtain ⟨P, hP⟩ : ∃ P, ba A = P := ⟨_, rfl⟩
    obtain ⟨Q, hQ⟩ : ∃ P, ba B = P := ⟨_, rfl⟩
    have hlP : P.size ≤ 1000000000 := by rw [← hP, ba_size, ← hA, List.length_append]; omega
    have hlQ : Q.size ≤ 1000000000 := by rw [← hQ, ba_size, ← hB, List.length_append]; omega
    have HP : Hid (ba g.a ++ ba x = P) := by show _ = _; rw [ba_app, hA, hP]
    have HQ : Hid (ba g.b ++ ba y = Q) := by show _ = _; rw [ba_app, hB, hQ]
    rw [hA, hB] at HWD
    have HPA := Lib.hid hP
    have HQB := Lib.hid hQ
    clear hp hA hB hP hQ hsa hsb
    go_enter Try.func56, Try.ntmps56
    go_upto_region 1 with fail
    rw [HW2.out, HG.out, HGR.out]
    clear hC
    go_upto_region 3 with fail
    refine ordB_below (.quiet 0 (.quiet 1 (.quiet 2 (.quiet 3 (.quiet 4 (.quiet 5 (.quiet 6 (.quiet 7 (.quiet 8 (.quiet 9 .done)))))))))) (by kernel_rfl) (by kernel_rfl) (by kernel_rfl) (fun _ _ _ _ _ h => h) ?_
    intro V0 hV0
    iterate 10 (first
      | (refine ordB_skip rfl rfl ?_; simp only [Act.put, List.setIfInBounds_toArray, List.set_cons_zero, List.set_cons_succ])
      | (refine ordB_take (v := ?_) rfl rfl ?_ ?_
         rotate_left 1
         focus (intro W hW; obtain ⟨hcW, hfW⟩ := bcell hW; (go_simp <;> with_reducible rfl))
         simp only [Act.put, List.setIfInBounds_toArray, List.set_cons_zero, List.set_cons_succ]))
    refine ordB_nil ?_
    have HB3 := Lib.hid (HB2.out.trans (hV0.mono HB2.out.size))
    have HC3 := Lib.hid (HC.out.below hV0 HC.out.lt)
    obtain ⟨W3, hW3⟩ : ∃ W, V0 = W := ⟨_, rfl⟩
    rw [hW3] at HB3 HC3 ⊢
    rw [HP.out, HQ.out]
    clear hW3 hV0 b0 b1 b2 bl
    go_wp2_with fail
    go_loopw [9] (fun iv wr => ∃ n : Nat, n ≤ P.size ∧ n ≤ Q.size ∧ Hid (A.take n = B.take n) ∧ iv = .int .i64 (n : Int) ∧ Below w.heap.size w wr ∧ Blk wr gr 85 #[.string { data := #[] }, .string { data := #[] }, .bool false]) (fun iv _ => P.size - (intOf iv).toNat)
    case atStart => exact ⟨0, Nat.zero_le _, Nat.zero_le _, (by show A.take 0 = B.take 0; simp), rfl, HB3.out, HC3.out⟩
    case round =>
      obtain ⟨wR, rfl⟩ : ∃ W, W = wr := ⟨wr, rfl⟩
      obtain ⟨n, hnP, hnQ, HT, rfl, hbr, hcr⟩ := hrel
      have HBR := Lib.hid hbr
      have HCR := Lib.hid hcr
      have hn0 : (0 : Int) ≤ (n : Int) := by omega
      have hnp1 : (n : Int) ≤ (P.size : Int) := by omega
      have hnq1 : (n : Int) ≤ (Q.size : Int) := by omega
      clear hbr hcr hz1 hz2
      by_cases h1 : n < P.size
      · have q0 : (n : Int) < (P.size : Int) := by omega
        have HGA : Hid (A[n]? = some P[n]) := by show _ = _; have := HPA.out; subst this; exact ba_get h1
        by_cases h2 : n < Q.size
        · have q1 : (n : Int) < (Q.size : Int) := by omega
          have HGB : Hid (B[n]? = some Q[n]) := by show _ = _; have := HQB.out; subst this; exact ba_get h2
          by_cases h3 : P[n] = Q[n]
          · have q2 : ((P[n].toNat : Int) == (Q[n].toNat : Int)) = true := by rw [h3]; simp
            have HTN : Hid (A.take (n + 1) = B.take (n + 1)) := by show _ = _; rw [take_succ_of HGA.out, take_succ_of HGB.out, HT.out, h3]
            clear h3
            go_upto_region 5 with fail
            refine ordB_below (.quiet 0 (.quiet 1 (.quiet 2 (.quiet 3 (.quiet 4 (.quiet 5 (.quiet 6 (.quiet 7 (.quiet 8 (.quiet 9 (.quiet 10 (.quiet 11 (.quiet 12 (.quiet 13 (.quiet 14 (.quiet 15 (.quiet 16 (.quiet 17 (.quiet 18 .done))))))))))))))))))) (by kernel_rfl) (by kernel_rfl) (by kernel_rfl) (fun _ _ _ _ _ h => h) ?_
            intro V0 hV0
            iterate 19 (first
              | (refine ordB_skip rfl rfl ?_; simp only [Act.put, List.setIfInBounds_toArray, List.set_cons_zero, List.set_cons_succ])
              | (refine ordB_take (v := ?_) rfl rfl ?_ ?_
                 rotate_left 1
                 focus (intro W hW; obtain ⟨hcW, hfW⟩ := bcell hW; (go_simp <;> with_reducible rfl))
                 simp only [Act.put, List.setIfInBounds_toArray, List.set_cons_zero, List.set_cons_succ]))
            refine ordB_nil ?_
            have HBE := Lib.hid (HBR.out.trans (hV0.mono (by have := HBR.out.size; omega)))
            have HCE := Lib.hid (HCR.out.below hV0 HCR.out.lt)
            obtain ⟨W5, hW5⟩ : ∃ W, V0 = W := ⟨_, rfl⟩
            rw [hW5] at HBE HCE ⊢
            clear hW5 hV0
            clear HGA HGB
            go_wp2_with fail
            go_roundw
            case rel => exact ⟨n + 1, by omega, by omega, HTN.out, by go_num, HBE.out, HCE.out⟩
            case measure => simp [intOf]; omega
          · have q2 : ((P[n].toNat : Int) == (Q[n].toNat : Int)) = false := by rw [beq_eq_false_iff_ne]; exact fun e => h3 (UInt8.toNat_inj.1 (by omega))
            have HFN : Hid (widen g x y = Gp.part) := by show _ = _; rw [HWD.out]; exact gapOf_ne HT.out HGA.out HGB.out h3
            clear h3
            go_upto_region 5 with fail
            refine ordB_below (.quiet 0 (.quiet 1 (.quiet 2 (.quiet 3 (.quiet 4 (.quiet 5 (.quiet 6 (.quiet 7 (.quiet 8 (.quiet 9 (.quiet 10 (.quiet 11 (.quiet 12 (.quiet 13 (.quiet 14 (.quiet 15 (.quiet 16 (.quiet 17 (.quiet 18 .done))))))))))))))))))) (by kernel_rfl) (by kernel_rfl) (by kernel_rfl) (fun _ _ _ _ _ h => h) ?_
            intro V0 hV0
            iterate 19 (first
              | (refine ordB_skip rfl rfl ?_; simp only [Act.put, List.setIfInBounds_toArray, List.set_cons_zero, List.set_cons_succ])
              | (refine ordB_take (v := ?_) rfl rfl ?_ ?_
                 rotate_left 1
                 focus (intro W hW; obtain ⟨hcW, hfW⟩ := bcell hW; (go_simp <;> with_reducible rfl))
                 simp only [Act.put, List.setIfInBounds_toArray, List.set_cons_zero, List.set_cons_succ]))
            refine ordB_nil ?_
            have HBE := Lib.hid (HBR.out.trans (hV0.mono (by have := HBR.out.size; omega)))
            have HCE := Lib.hid (HCR.out.below hV0 HCR.out.lt)
            obtain ⟨W5, hW5⟩ : ∃ W, V0 = W := ⟨_, rfl⟩
            rw [hW5] at HBE HCE ⊢
            clear hW5 hV0
            clear HGA HGB
            have hC := HCE.out
            have r0 := hC.cell 0
            have r1 := hC.cell 1
            have r2 := hC.cell 2
            have rf0 := hC.frozen 0
            have rf1 := hC.frozen 1
            have rf2 := hC.frozen 2
            have rl := hC.lt
            simp at r0 r1 r2
            go_wp2_with fail
            have hE := (((hC.set_ 0 (.string { data := #[] })).set_ 1 (.string { data := #[] })).set_ 2 (.bool true))
            have hbE := (((HBE.out.setCell (p := ⟨gr, 0, none⟩) hgrw (.string { data := #[] })).setCell (p := ⟨gr, 1, none⟩) hgrw (.string { data := #[] })).setCell (p := ⟨gr, 2, none⟩) hgrw (.bool true))
            obtain ⟨w5, hw5⟩ : ∃ W, (((W5.setCell ⟨gr, 0, none⟩ (.string { data := #[] })).setCell ⟨gr, 1, none⟩ (.string { data := #[] })).setCell ⟨gr, 2, none⟩ (.bool true)) = W := ⟨_, rfl⟩
            rw [hw5] at hE hbE ⊢
            have z0 := hE.cell 0
            have z1 := hE.cell 1
            have z2 := hE.cell 2
            simp at z0 z1 z2
            refine bodyPost_ret (v := .agg #[.string { data := #[] }, .string { data := #[] }, .bool true]) (by simp [results, Try.results56, go_sem, z0, z1, z2]; done) rfl ?_
            exact ⟨by rw [HFN.out]; rfl, hbE⟩
        · have q1 : ¬ (n : Int) < (Q.size : Int) := by omega
          have HFN : Hid (widen g x y = ⟨A.drop n, B.drop n, false⟩) := by show _ = _; rw [HWD.out]; exact gapOf_end HT.out (.inr (by have := HQB.out; rw [← this] at h2; exact Nat.not_lt.1 h2))
          have HX1 : Hid (ba (A.drop n) = P.extract n P.size) := by show _ = _; have := HPA.out; subst this; exact (ba_drop _ _).symm
          have HX2 : Hid (ba (B.drop n) = Q.extract n Q.size) := by show _ = _; have := HQB.out; subst this; exact (ba_drop _ _).symm
          go_upto_region 5 with fail
          refine ordB_below (.quiet 0 (.quiet 1 (.quiet 2 (.quiet 3 (.quiet 4 (.quiet 5 (.quiet 6 (.quiet 7 (.quiet 8 (.quiet 9 (.quiet 10 (.quiet 11 (.quiet 12 (.quiet 13 (.quiet 14 (.quiet 15 (.quiet 16 (.quiet 17 (.quiet 18 .done))))))))))))))))))) (by kernel_rfl) (by kernel_rfl) (by kernel_rfl) (fun _ _ _ _ _ h => h) ?_
          intro V0 hV0
          iterate 19 (first
            | (refine ordB_skip rfl rfl ?_; simp only [Act.put, List.setIfInBounds_toArray, List.set_cons_zero, List.set_cons_succ])
            | (refine ordB_take (v := ?_) rfl rfl ?_ ?_
               rotate_left 1
               focus (intro W hW; obtain ⟨hcW, hfW⟩ := bcell hW; (go_simp <;> with_reducible rfl))
               simp only [Act.put, List.setIfInBounds_toArray, List.set_cons_zero, List.set_cons_succ]))
          refine ordB_nil ?_
          have HBE := Lib.hid (HBR.out.trans (hV0.mono (by have := HBR.out.size; omega)))
          have HCE := Lib.hid (HCR.out.below hV0 HCR.out.lt)
          obtain ⟨W5, hW5⟩ : ∃ W, V0 = W := ⟨_, rfl⟩
          rw [hW5] at HBE HCE ⊢
          clear hW5 hV0
          go_upto_region 9 with fail
          refine ordB_start (ButB gr W5) (.quiet 0 (.quiet 1 (.quiet 2 (.quiet 3 (.quiet 4 (.quiet 5 (.quiet 6 (.only 7 .done)))))))) (by kernel_rfl) (by kernel_rfl) (by kernel_rfl) (fun _ _ _ _ _ h => h) (ButB.of_below (Below.refl _ _).drew) ?_
          have hV0 : ButB gr W5 W5.drew := ButB.of_below (Below.refl _ _).drew
          have hC : Blk W5.drew gr 85 #[.string { data := #[] }, .string { data := #[] }, .bool false] := HCE.out
          have hB0 : Below w.heap.size w W5.drew := HBE.out.drew
          obtain ⟨V0, qqV0⟩ : ∃ W, W5.drew = W := ⟨_, rfl⟩
          rw [qqV0] at hV0 hC hB0 ⊢
          clear qqV0
          iterate 7 (first
            | (refine ordB_skip rfl rfl ?_; simp only [Act.put, List.setIfInBounds_toArray, List.set_cons_zero, List.set_cons_succ])
            | (refine ordB_take (v := ?_) rfl rfl ?_ ?_
               rotate_left 1
               focus (intro W hW; have hcW := hW.cell; (go_simp <;> with_reducible rfl))
               simp only [Act.put, List.setIfInBounds_toArray, List.set_cons_zero, List.set_cons_succ]))
          refine ordB_only (opB_call rfl rfl (fun K hK => ?_))
          have r0 := hC.cell 0
          have r1 := hC.cell 1
          have r2 := hC.cell 2
          have f0 := hC.frozen 0
          have f1 := hC.frozen 1
          have f2 := hC.frozen 2
          have rl := hC.lt
          simp at r0 r1 r2
          go_simp
          refine hK.out _ _ (((hV0.set_ 0 (.string (P.extract n P.size))).set_ 1 (.string (Q.extract n Q.size))).set_ 2 (.bool false)) (fun hV0_1 => ?_)
          clear hK K
          refine ordB_nil ?_
          try simp only [Act.put, List.setIfInBounds_toArray, List.set_cons_zero, List.set_cons_succ]
          have hE := (((hC.set_ 0 (.string (P.extract n P.size))).set_ 1 (.string (Q.extract n Q.size))).set_ 2 (.bool false))
          have hbE := (((hB0.setCell (p := ⟨gr, 0, none⟩) hgrw (.string (P.extract n P.size))).setCell (p := ⟨gr, 1, none⟩) hgrw (.string (Q.extract n Q.size))).setCell (p := ⟨gr, 2, none⟩) hgrw (.bool false))
          obtain ⟨w5, hw5⟩ : ∃ W, (((V0.setCell ⟨gr, 0, none⟩ (.string (P.extract n P.size))).setCell ⟨gr, 1, none⟩ (.string (Q.extract n Q.size))).setCell ⟨gr, 2, none⟩ (.bool false)) = W := ⟨_, rfl⟩
          rw [hw5] at hE hbE ⊢
          have z0 := hE.cell 0
          have z1 := hE.cell 1
          have z2 := hE.cell 2
          simp at z0 z1 z2
          clear hV0_1 hw5 r0 r1 r2 f0 f1 f2 rl hC hB0
          go_wp2_with fail
          refine bodyPost_ret (v := .agg #[.string (P.extract n P.size), .string (Q.extract n Q.size), .bool false]) (by simp [results, Try.results56, go_sem, z0, z1, z2]; done) rfl ?_
          exact ⟨by rw [HFN.out, HX1.out, HX2.out], hbE⟩
      · have q0 : ¬ (n : Int) < (P.size : Int) := by omega
        have HFN : Hid (widen g x y = ⟨A.drop n, B.drop n, false⟩) := by show _ = _; rw [HWD.out]; exact gapOf_end HT.out (.inl (by have := HPA.out; rw [← this] at h1; exact Nat.not_lt.1 h1))
        have HX1 : Hid (ba (A.drop n) = P.extract n P.size) := by show _ = _; have := HPA.out; subst this; exact (ba_drop _ _).symm
        have HX2 : Hid (ba (B.drop n) = Q.extract n Q.size) := by show _ = _; have := HQB.out; subst this; exact (ba_drop _ _).symm
        go_upto_region 5 with fail
        refine ordB_below (.quiet 0 (.quiet 1 (.quiet 2 (.quiet 3 (.quiet 4 (.quiet 5 (.quiet 6 (.quiet 7 (.quiet 8 (.quiet 9 (.quiet 10 (.quiet 11 (.quiet 12 (.quiet 13 (.quiet 14 (.quiet 15 (.quiet 16 (.quiet 17 (.quiet 18 .done))))))))))))))))))) (by kernel_rfl) (by kernel_rfl) (by kernel_rfl) (fun _ _ _ _ _ h => h) ?_
        intro V0 hV0
        iterate 19 (first
          | (refine ordB_skip rfl rfl ?_; simp only [Act.put, List.setIfInBounds_toArray, List.set_cons_zero, List.set_cons_succ])
          | (refine ordB_take (v := ?_) rfl rfl ?_ ?_
             rotate_left 1
             focus (intro W hW; obtain ⟨hcW, hfW⟩ := bcell hW; (go_simp <;> with_reducible rfl))
             simp only [Act.put, List.setIfInBounds_toArray, List.set_cons_zero, List.set_cons_succ]))
        refine ordB_nil ?_
        have HBE := Lib.hid (HBR.out.trans (hV0.mono (by have := HBR.out.size; omega)))
        have HCE := Lib.hid (HCR.out.below hV0 HCR.out.lt)
        obtain ⟨W5, hW5⟩ : ∃ W, V0 = W := ⟨_, rfl⟩
        rw [hW5] at HBE HCE ⊢
        clear hW5 hV0
        go_upto_region 9 with fail
        refine ordB_start (ButB gr W5) (.quiet 0 (.quiet 1 (.quiet 2 (.quiet 3 (.quiet 4 (.quiet 5 (.quiet 6 (.only 7 .done)))))))) (by kernel_rfl) (by kernel_rfl) (by kernel_rfl) (fun _ _ _ _ _ h => h) (ButB.of_below (Below.refl _ _).drew) ?_
        have hV0 : ButB gr W5 W5.drew := ButB.of_below (Below.refl _ _).drew
        have hC : Blk W5.drew gr 85 #[.string { data := #[] }, .string { data := #[] }, .bool false] := HCE.out
        have hB0 : Below w.heap.size w W5.drew := HBE.out.drew
        obtain ⟨V0, qqV0⟩ : ∃ W, W5.drew = W := ⟨_, rfl⟩
        rw [qqV0] at hV0 hC hB0 ⊢
        clear qqV0
        iterate 7 (first
          | (refine ordB_skip rfl rfl ?_; simp only [Act.put, List.setIfInBounds_toArray, List.set_cons_zero, List.set_cons_succ])
          | (refine ordB_take (v := ?_) rfl rfl ?_ ?_
             rotate_left 1
             focus (intro W hW; have hcW := hW.cell; (go_simp <;> with_reducible rfl))
             simp only [Act.put, List.setIfInBounds_toArray, List.set_cons_zero, List.set_cons_succ]))
        refine ordB_only (opB_call rfl rfl (fun K hK => ?_))
        have r0 := hC.cell 0
        have r1 := hC.cell 1
        have r2 := hC.cell 2
        have f0 := hC.frozen 0
        have f1 := hC.frozen 1
        have f2 := hC.frozen 2
        have rl := hC.lt
        simp at r0 r1 r2
        go_simp
        refine hK.out _ _ (((hV0.set_ 0 (.string (P.extract n P.size))).set_ 1 (.string (Q.extract n Q.size))).set_ 2 (.bool false)) (fun hV0_1 => ?_)
        clear hK K
        refine ordB_nil ?_
        try simp only [Act.put, List.setIfInBounds_toArray, List.set_cons_zero, List.set_cons_succ]
        have hE := (((hC.set_ 0 (.string (P.extract n P.size))).set_ 1 (.string (Q.extract n Q.size))).set_ 2 (.bool false))
        have hbE := (((hB0.setCell (p := ⟨gr, 0, none⟩) hgrw (.string (P.extract n P.size))).setCell (p := ⟨gr, 1, none⟩) hgrw (.string (Q.extract n Q.size))).setCell (p := ⟨gr, 2, none⟩) hgrw (.bool false))
        obtain ⟨w5, hw5⟩ : ∃ W, (((V0.setCell ⟨gr, 0, none⟩ (.string (P.extract n P.size))).setCell ⟨gr, 1, none⟩ (.string (Q.extract n Q.size))).setCell ⟨gr, 2, none⟩ (.bool false)) = W := ⟨_, rfl⟩
        rw [hw5] at hE hbE ⊢
        have z0 := hE.cell 0
        have z1 := hE.cell 1
        have z2 := hE.cell 2
        simp at z0 z1 z2
        clear hV0_1 hw5 r0 r1 r2 f0 f1 f2 rl hC hB0
        go_wp2_with fail
        refine bodyPost_ret (v := .agg #[.string (P.extract n P.size), .string (Q.extract n Q.size), .bool false]) (by simp [results, Try.results56, go_sem, z0, z1, z2]; done) rfl ?_
        exact ⟨by rw [HFN.out, HX1.out, HX2.out], hbE⟩
end Go.Proofs.Ytfpnhgahkjglgaa
