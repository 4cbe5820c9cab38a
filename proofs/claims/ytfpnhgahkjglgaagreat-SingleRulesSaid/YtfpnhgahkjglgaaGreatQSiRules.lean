/-
  The walk of layer 08's law SingleRules.
-/
import Derived.Test.YtfpnhgahkjglgaaGreatQ35
import Derived.Test.YtfpnhgahkjglgaaGreatQ30
import Derived.Test.YtfpnhgahkjglgaaGreatQ33
import Derived.Test.YtfpnhgahkjglgaaGreatQ06
import Derived.Test.YtfpnhgahkjglgaaGreatQ22
namespace Go.Proofs.YtfpnhgahkjglgaaGreat
open Go Go.RowKit Go.Maps

theorem ru_oneS (l : List Ru) : ∀ u ∈ l.flatMap encRu, u.oneCell' = true := fun u hu => by
  obtain ⟨x, _, hx⟩ := List.mem_flatMap.1 hu
  simp [encRu] at hx
  rcases hx with rfl | rfl | rfl | rfl | rfl <;> rfl
theorem slr_tkS {w : World} {A : Option Addr} {xs : List Ru} (h : SlR 5 RRu w A xs) (n : Nat) : SlR 5 RRu w A (xs.take n) := fun hne => by
  obtain ⟨b, o, hA, hb, hc⟩ := h (by rintro rfl; simp at hne)
  refine ⟨b, o, hA, hb, fun k x hk => hc k x ?_⟩
  rw [List.getElem?_take] at hk
  split at hk
  · exact hk
  · cases hk
theorem slr_drS {w : World} {b o : Nat} {xs : List Ru} (h : SlR 5 RRu w (some ⟨b, o, none⟩) xs) (n : Nat) : SlR 5 RRu w (some ⟨b, o + n * 5, none⟩) (xs.drop n) := fun hne => by
  obtain ⟨b', o', hA, hb, hc⟩ := h (by rintro rfl; simp at hne)
  obtain ⟨rfl, rfl⟩ : b = b' ∧ o = o' := by injection hA with hA; injection hA with h1 h2; exact ⟨h1, h2⟩
  refine ⟨b, o + n * 5, rfl, hb, fun k x hk => ?_⟩
  rw [List.getElem?_drop] at hk
  obtain ⟨vs, h1, h2, h3⟩ := hc _ x hk
  refine ⟨vs, h1, h2, fun j v hj => ?_⟩
  have := h3 j v hj
  rw [show o + n * 5 + k * 5 + j = o + (n + k) * 5 + j by rw [Nat.add_mul]; omega]
  exact this
theorem less_sub {m : Int} {rs : List Ru} {n : Nat} : SubL ⟨m, 1, rs.take n ++ rs.drop (n + 1)⟩ ⟨m, 1, rs⟩ := fun x hx => by
  refine ⟨x, ?_, rfl, rfl, rfl, rfl⟩
  rcases List.mem_append.1 (show x ∈ rs.take n ++ rs.drop (n + 1) from hx) with h | h
  · exact List.mem_of_mem_take h
  · exact List.mem_of_mem_drop h
theorem less_not {m : Int} {rs : List Ru} {n : Nat} (hN : FirstTo ⟨m, 1, rs⟩ none) (h : ¬ (soundE ⟨m, 1, rs.take n ++ rs.drop (n + 1)⟩ = 0 ∧ FirstTo ⟨m, 1, rs.take n ++ rs.drop (n + 1)⟩ none)) : ¬ soundE ⟨m, 1, rs.take n ++ rs.drop (n + 1)⟩ = 0 := fun hE =>
  h ⟨hE, fun U hU ht => hN U hU (sub_twice less_sub rfl ht)⟩
theorem more_not {m : Int} {rs : List Ru} {r : Ru} {o : ByteArray} (hm : m ≤ 2) (hE : soundE ⟨m, 1, rs ++ [⟨r.fr, r.to, r.inp, o, r.co⟩]⟩ = 0) (hr : r ∈ rs) (hne : (o.toList == r.out.toList) = false) (hM : RM ⟨m, 1, rs⟩ r.fr) : ¬ FirstTo ⟨m, 1, rs ++ [⟨r.fr, r.to, r.inp, o, r.co⟩]⟩ none := fun hN => by
  obtain ⟨hok, hsp⟩ := soundE_iff.1 hE
  have hsub : SubL ⟨m, 1, rs⟩ ⟨m, 1, rs ++ [⟨r.fr, r.to, r.inp, o, r.co⟩]⟩ := fun x hx => ⟨x, List.mem_append_left _ hx, rfl, rfl, rfl, rfl⟩
  have ht2 : ∀ x ∈ rs ++ [⟨r.fr, r.to, r.inp, o, r.co⟩], (0 ≤ x.fr ∧ x.fr < 2) ∧ 0 ≤ x.to ∧ x.to < 2 := fun x hx => by
    have := (hok.2.2.2.1 x hx).1
    exact ⟨⟨this.1.1, Int.lt_of_lt_of_le this.1.2 hm⟩, this.2.1, Int.lt_of_lt_of_le this.2.2 hm⟩
  have hi4 : ∀ x ∈ rs ++ [⟨r.fr, r.to, r.inp, o, r.co⟩], x.inp.size ≤ 4 := fun x hx => (hok.2.2.2.1 x hx).2.1.1
  have ha : r ∈ rs ++ [⟨r.fr, r.to, r.inp, o, r.co⟩] := List.mem_append_left _ hr
  have hb : (⟨r.fr, r.to, r.inp, o, r.co⟩ : Ru) ∈ rs ++ [⟨r.fr, r.to, r.inp, o, r.co⟩] := List.mem_append_right _ (List.mem_singleton.2 rfl)
  have hne2 : r.out ≠ o := fun e => by
    rw [e] at hne
    simp at hne
  have hRM : RM ⟨m, 1, rs ++ [⟨r.fr, r.to, r.inp, o, r.co⟩]⟩ r.fr := sub_pth hsub hM
  obtain ⟨U, hU, ht⟩ := two_rules (s := ⟨m, 1, rs ++ [⟨r.fr, r.to, r.inp, o, r.co⟩]⟩) (a := r) (b := ⟨r.fr, r.to, r.inp, o, r.co⟩) ht2 hi4 hsp ha hb rfl rfl rfl hne2 hRM
  exact hN U hU ht
set_option maxRecDepth 100000 in
set_option maxHeartbeats 16000000 in
theorem singleRules_any (A : Option Addr) (xs : List Rw) (c : Nat) (qb qd : Int) (pk : Int) (w : World) (hx : SlR 5 RRw w A xs) (hl0 : xs.length ≤ maxLen) (hqb : 0 ≤ qb ∧ qb ≤ 255) (hqd : 0 ≤ qd ∧ qd ≤ 255) (hk : 0 ≤ pk ∧ pk ≤ 255) :
    Calls Tryz.prog 6 #[.agg #[.int .u8 qb, .int .u8 qd, .slice A xs.length c], .int .u8 pk] w fun e w' => e = .returned (.bool true) ∧ Below w.heap.size w w' := by
  obtain ⟨kk, hkk⟩ : ∃ n : Nat, pk = (n : Int) := ⟨pk.toNat, by omega⟩
  subst hkk
  have hk8 : kk ≤ 255 := by omega
  clear hk
  obtain ⟨i0, hinf, hz0, hz1, hz2⟩ := info_partsR rule_info
  obtain ⟨w1, hw1⟩ : ∃ w1, (w.alloc (.cells #[.int .u8 qb, .int .u8 qd, .slice A xs.length c] 24)) = w1 := ⟨_, rfl⟩
  obtain ⟨g, hg⟩ : ∃ g, w.heap.size = g := ⟨_, rfl⟩
  have hb1 : Below w.heap.size w w1 := by rw [← hw1]; exact nw _ (Below.refl _ _)
  have hX0 : Blk w1 g 24 #[.int .u8 qb, .int .u8 qd, .slice A xs.length c] := by rw [← hw1]; exact (Blk.new_ hg.symm)
  have HW1 := Lib.hid hw1
  have HG := Lib.hid hg
  have HB1 := Lib.hid hb1
  have HKP : Hid (∀ W, Below w1.heap.size w1 W → (W.cell? ⟨g, 0, none⟩ = some (.int .u8 qb) ∧ W.cell? ⟨g, 1, none⟩ = some (.int .u8 qd) ∧ W.cell? ⟨g, 2, none⟩ = some (.slice A xs.length c) ∧ g < W.heap.size)) := fun W hW => ⟨by rw [(hX0.below hW hX0.lt).cell]; rfl, by rw [(hX0.below hW hX0.lt).cell]; rfl, by rw [(hX0.below hW hX0.lt).cell]; rfl, (hX0.below hW hX0.lt).lt⟩
  have HMA : Hid (∀ W, Below w1.heap.size w1 W → Calls Tryz.prog 8 #[.agg #[.int .u8 qb, .int .u8 qd, .slice A xs.length c]] W (IsMade W)) := fun W hW => made_any5 A xs c qb qd W (hx.below keeps_rw (hb1.trans (hW.mono hb1.size))) hl0 hqb hqd
  have HSA : Hid (∀ W, Calls Tryz.prog 7 #[] W fun e w' => e = .returned (.bool true) ∧ Below W.heap.size W w') := lsan_any
  have hwk : IntKind.i64.wrap (kk : Int) = (kk : Int) := IntWalk.i64_in _ (by omega)
  clear hw1 hg hb1 hX0 hx
  go_enter Tryz.func6, Tryz.ntmps6
  go_upto_region 1 with fail
  rw [HW1.out, HG.out]
  go_upto_region 3 with (first
    | (go_at_call 7; go_loud (refine (HSA.out _).mono ?_; rintro e w2 ⟨rfl, hb2⟩; obtain ⟨x0, x1, x2, xl⟩ := HKP.out _ hb2))
    | (go_at_call 8; go_loud (refine (HMA.out _ hb2).mono ?_; rintro e w3 ⟨m, rs, A3, c3, rfl, hm, hrs9, hok, hsc, hb3⟩; have hb13 := hb2.trans (hb3.mono hb2.size))))
  obtain ⟨b8, hb8⟩ : ∃ x, w3.heap.size = x := ⟨_, rfl⟩
  generalize hw5 : w3.alloc (.cells _ 30) = w5
  have hB8 : Blk w5 b8 30 #[.int .i64 (m : Int), .int .u8 1, .slice A3 rs.length c3] := by rw [← hw5]; exact Blk.new_ hb8.symm
  have hb15 : Below w1.heap.size w1 w5 := by rw [← hw5]; exact hb13.alloc hb13.size _
  have hsc5 : ScIn w5 ⟨(m : Int), 1, rs⟩ A3 c3 := by rw [← hw5]; exact hsc.below (nw _ (Below.refl _ _))
  rw [hb8]
  have HSCH : Hid (∀ W, Below w5.heap.size w5 W → W.cell? ⟨b8, 0, none⟩ = some (.int .i64 (m : Int)) ∧ W.cell? ⟨b8, 1, none⟩ = some (.int .u8 1) ∧ W.cell? ⟨b8, 2, none⟩ = some (.slice A3 rs.length c3) ∧ b8 < W.heap.size) := fun W hW => by
    have e1 := hB8.below hW hB8.lt
    exact ⟨by rw [e1.cell]; rfl, by rw [e1.cell]; rfl, by rw [e1.cell]; rfl, e1.lt⟩
  have HSND : Hid (∀ W, Below w5.heap.size w5 W → Calls Tryz.prog 16 #[.agg #[.int .i64 (m : Int), .int .u8 1, .slice A3 rs.length c3]] W fun e w' => IsSnd ⟨(m : Int), 1, rs⟩ e ∧ Below W.heap.size W w') := fun W hW => rsound5_any ⟨(m : Int), 1, rs⟩ A3 c3 W (hsc5.below hW)
  have HBW := Lib.hid (HB1.out.trans (hb15.mono HB1.out.size))
  have HB15 := Lib.hid hb15
  have HFL := Lib.hid (made_flat (rs := rs) hm.2)
  have HOK := Lib.hid hok
  have HSC5 := Lib.hid hsc5
  have HMM := Lib.hid hm
  have HIS : Hid (∀ W, Below w5.heap.size w5 W → Calls Tryz.prog 11 #[.agg #[.int .i64 (m : Int), .int .u8 1, .slice A3 rs.length c3]] W (IsIsR ⟨(m : Int), 1, rs⟩ W)) := fun W hW => sis_any ⟨(m : Int), 1, rs⟩ A3 c3 W (HSC5.out.below hW) HFL.out
  have HRS9 := Lib.hid hrs9
  clear hw5 hb8 hb15 hsc5 hsc hb13 hb3 hb2 x0 x1 x2 xl HMA HSA HKP HB1 hok HG HW1 hm
  obtain ⟨e0, e1, e2, el⟩ := HSCH.out _ (Below.refl _ _)
  have hb8l : b8 < w5.heap.size := hB8.lt
  clear hB8
  go_cut [28] (fun s28 W => IsKeep (soundE ⟨(m : Int), 1, rs⟩ = 0 ∧ FirstTo ⟨(m : Int), 1, rs⟩ none ∧ ¬ rs.length = 0) s28 ∧ Below w5.heap.size w5 W)
  case first =>
    by_cases hz : rs.length = 0
    · have hzi : (rs.length : Int) = 0 := by omega
      have z1 : decide ((rs.length : Int) = 0) = true := decide_eq_true hzi
      clear hz
      go_wp2_with (go_at_call 11; go_loud (refine (HIS.out _ (Below.refl _ _)).mono ?_; rintro e w6 ⟨b, rfl, hb, hb6⟩; rcases is_parts hb with ⟨rfl, hbi⟩ | ⟨rfl, hbi⟩ <;> (have HBI := Lib.hid hbi; clear hbi hb; obtain ⟨e0, e1, e2, el⟩ := HSCH.out _ hb6)))
      all_goals go_meet
      all_goals exact ⟨.mk (fun h => by cases h), hb6⟩
    · have hzi : ¬ (rs.length : Int) = 0 := by omega
      have z1 : decide ((rs.length : Int) = 0) = false := decide_eq_false hzi
      have HZ := Lib.hid hz
      clear hz
      go_wp2_with (first | (go_at_call 16; go_loud (refine (HSND.out _ hb6).mono ?_; rintro e w7 ⟨hsn, hb7⟩; obtain rfl := hsn.yes HBI.out.1)) | (go_at_call 11; go_loud (refine (HIS.out _ (Below.refl _ _)).mono ?_; rintro e w6 ⟨b, rfl, hb, hb6⟩; rcases is_parts hb with ⟨rfl, hbi⟩ | ⟨rfl, hbi⟩ <;> (have HBI := Lib.hid hbi; clear hbi hb; obtain ⟨e0, e1, e2, el⟩ := HSCH.out _ hb6))))
      all_goals go_meet
      all_goals first
        | exact ⟨.mk (fun _ => ⟨HBI.out.1, HBI.out.2, HZ.out⟩), bthen hb6 hb7⟩
        | exact ⟨.mk (fun h => by cases h), hb6⟩
  case rest =>
    obtain ⟨w6, rfl⟩ : ∃ W, W = wc := ⟨wc, rfl⟩
    obtain ⟨⟨bb, rfl, hbb⟩, hb6⟩ := hcut
    have HBB := Lib.hid hbb
    clear hbb e0 e1 e2 el
    cases hbv : bb with
    | true =>
      go_wp2_with fail
      go_ret
      exact ⟨rfl, HBW.out.trans (hb6.mono HBW.out.size)⟩
    | false =>
      obtain ⟨hE, hN, hz⟩ := HBB.out hbv
      have HE := Lib.hid hE
      have HN := Lib.hid hN
      clear hE hN HBB hbv
      obtain ⟨ix, hix⟩ : ∃ x, kk % rs.length = x := ⟨_, rfl⟩
      have hixl : ix < rs.length := by rw [← hix]; exact Nat.mod_lt _ (by omega)
      have htm : (kk : Int).tmod (rs.length : Int) = (ix : Int) := by rw [Int.tmod_eq_emod_of_nonneg (by omega), ← hix]; rfl
      obtain ⟨ba, oa, r, rfl, hba, hrx, hd0, hd1, hd2, hd3, hd4⟩ := HSC5.out.sl.ru hixl
      have hcap := HSC5.out.cap
      have hrs9 := HRS9.out
      have hcm := hcap.2
      have hcl := hcap.1
      unfold maxLen at hcm
      have HRD : Hid (∀ W, Below w5.heap.size w5 W → W.cell? ⟨ba, oa + ix * 5, none⟩ = some (.int .i64 r.fr) ∧ W.cell? ⟨ba, oa + ix * 5 + 1, none⟩ = some (.int .i64 r.to) ∧ W.cell? ⟨ba, oa + ix * 5 + 2, none⟩ = some (.string r.inp) ∧ W.cell? ⟨ba, oa + ix * 5 + 3, none⟩ = some (.string r.out) ∧ W.cell? ⟨ba, oa + ix * 5 + 4, none⟩ = some (.int .i64 r.co) ∧ ba < W.heap.size) := fun W hW =>
        ⟨(hW.cell (p := ⟨ba, _, none⟩) hba).trans hd0, (hW.cell (p := ⟨ba, _, none⟩) hba).trans hd1, (hW.cell (p := ⟨ba, _, none⟩) hba).trans hd2, (hW.cell (p := ⟨ba, _, none⟩) hba).trans hd3, (hW.cell (p := ⟨ba, _, none⟩) hba).trans hd4, Nat.lt_of_lt_of_le hba hW.size⟩
      have HMEM : Hid (r ∈ rs) := List.mem_of_getElem? hrx
      have hn0 : ¬ (rs.length : Int) = 0 := by omega
      have hixi : (ix : Int) < (rs.length : Int) := by omega
      have hix0 : (0 : Int) ≤ (ix : Int) := by omega
      have hwi : IntKind.i64.wrap (ix : Int) = (ix : Int) := IntWalk.i64_in _ (by omega)
      have hwi1 : IntKind.i64.wrap ((ix : Int) + 1) = (ix : Int) + 1 := IntWalk.i64_in _ (by omega)
      have q1 : (ix : Int) ≤ (c3 : Int) := by have : rs.length ≤ c3 := hcl; omega
      have q2 : (ix : Int) + 1 ≤ (rs.length : Int) := by omega
      have q3 : (0 : Int) ≤ (ix : Int) + 1 := by omega
      have q4 : ix ≤ c3 := by omega
      have q5 : ix + 1 ≤ rs.length := hixl
      have q6 : (rs.length : Int) ≤ (c3 : Int) := by have : rs.length ≤ c3 := hcl; omega
      have q7 : rs.length ≤ c3 := hcl
      have HTL : Hid ((rs.take ix).length = ix) := by show _ = _; rw [List.length_take]; omega
      have HDL : Hid ((rs.drop (ix + 1)).length = rs.length - (ix + 1)) := List.length_drop
      have HLL : Hid ((rs.take ix ++ rs.drop (ix + 1)).length = rs.length - 1) := by show _ = _; rw [List.length_append, HTL.out, HDL.out]; omega
      have HEX : Hid (∃ A', (if c3 = ix + 1 then some (Addr.mk ba oa none) else some (Addr.mk ba (oa + (ix + 1) * 5) none)) = A' ∧ ∀ W, SlR 5 RRu W (some ⟨ba, oa, none⟩) rs → SlR 5 RRu W A' (rs.drop (ix + 1))) := by
        show ∃ _, _
        by_cases hct : c3 = ix + 1
        · refine ⟨_, rfl, fun W _ => ?_⟩
          rw [List.drop_eq_nil_of_le (by omega)]
          exact SlR.nil
        · refine ⟨_, rfl, fun W hW => ?_⟩
          rw [if_neg hct]
          exact slr_drS hW (ix + 1)
      have HB6 := Lib.hid hb6
      clear hix hrx hd0 hd1 hd2 hd3 hd4 hcap hb6 hz
      obtain ⟨e0, e1, e2, el⟩ := HSCH.out _ HB6.out
      go_upto_region 7 with fail
      obtain ⟨b10, hb10⟩ : ∃ x, w6.heap.size = x := ⟨_, rfl⟩
      obtain ⟨w7, hw7⟩ : ∃ W, w6.alloc (.cells #[.int .i64 (m : Int), .int .u8 1, .slice (some ⟨ba, oa, none⟩) rs.length c3] 30) = W := ⟨_, rfl⟩
      have HL7 : Hid (Blk w7 b10 30 #[.int .i64 (m : Int), .int .u8 1, .slice (some ⟨ba, oa, none⟩) rs.length c3]) := by show Blk _ _ _ _; rw [← hw7]; exact Blk.new_ hb10.symm
      have HB57 : Hid (Below w5.heap.size w5 w7) := by show Below _ _ _; rw [← hw7]; exact HB6.out.alloc HB6.out.size _
      have HSZ7 : Hid (w7.heap.size = b10 + 1) := by show _ = _; rw [← hw7, ← hb10]; simp
      have h510 : w5.heap.size ≤ b10 := by have := HB6.out.size; omega
      have hb8ne : b8 ≠ b10 := by omega
      rw [hb10, hw7]
      clear hw7 hb10 e0 e1 e2 el
      obtain ⟨e0, e1, e2, el⟩ := HSCH.out _ HB57.out
      have p2 := HL7.out.cell 2
      have pf2 := HL7.out.frozen 2
      have pl := HL7.out.lt
      simp at p2
      go_upto_region 8 with (at_builtin; go_loud (refine wpList_appS5 (enc := encRu) (R := RRu) rfl _ _ 28 rfl (b10 + 1) 61 i0 _ 5 56 Tryz.underlying28 hinf hz0 hz1 hz2 rfl (by decide) (.slice (some ⟨w7.heap.size, 0, none⟩) 0 0) 0 [] rfl (own_empty w7 61 5 (b10 + 1) (by have := HSZ7.out; omega)) (some ⟨ba, oa, none⟩) c3 (rs.take ix) (by rw [HTL.out]; rfl) (slr_tkS ((HSC5.out.below (HB57.out.alloc HB57.out.size _)).sl) ix) (fun _ _ _ h => h) (fun _ => rfl) (ru_oneS _) (by rw [HTL.out]; omega) (by decide) (by have := HSZ7.out; simp; omega) ?_; intro v7 W8 h71 h72 h73; have hP8 := (HL7.out.alloc (.cells #[] 61)).apps h73 (by simp [Value.ownBlock]; have := HSZ7.out; omega); have HP8 := Lib.hid hP8; have p2 := hP8.cell 2; have pf2 := hP8.frozen 2; have pl := hP8.lt; simp at p2; have how8 : W8.ownsRow (b10 + 1) 61 5 v7 ix ((rs.take ix).flatMap encRu) := (by have := HTL.out; simpa [this] using h71); obtain ⟨A7, c7, rfl⟩ := own_sl how8; have HOW8 := Lib.hid how8; have HB78 : Hid (Below b10 w7 W8) := ((Below.refl _ _).alloc (by have := HSZ7.out; omega) _).trans (h72.mono (by omega)); clear h71 h72 h73 hP8 how8))
      obtain ⟨W9, hW9⟩ : ∃ W, W8.setCell ⟨b10, 2, none⟩ (.slice A7 ix c7) = W := ⟨_, rfl⟩
      have HNE9 : Hid ((Value.slice A7 ix c7).ownBlock ≠ some b10) := fun e => absurd (own_block_le HOW8.out _ e) (Nat.not_succ_le_self _)
      have HL9 : Hid (Blk W9 b10 30 #[.int .i64 (m : Int), .int .u8 1, (.slice A7 ix c7)]) := by show Blk _ _ _ _; rw [← hW9]; simpa using HP8.out.set_ 2 (.slice A7 ix c7)
      have HOW9 : Hid (W9.ownsRow (b10 + 1) 61 5 (.slice A7 ix c7) ix ((rs.take ix).flatMap encRu)) := by show World.ownsRow _ _ _ _ _ _ _; rw [← hW9]; exact own_set HOW8.out (a := ⟨b10, 2, none⟩) HNE9.out _
      have HB79 : Hid (Below b10 w7 W9) := by show Below _ _ _; rw [← hW9]; exact HB78.out.setCell (p := ⟨b10, 2, none⟩) (Nat.le_refl _) _
      have HBB9 : Hid (b10 + 1 ≤ W9.heap.size) := HL9.out.lt
      have HB59 : Hid (Below w5.heap.size w5 W9) := HB57.out.trans (HB79.out.mono h510)
      have HSL9 : Hid (∀ W, Below W9.heap.size W9 W → SlR 5 RRu W (some ⟨ba, oa, none⟩) rs) := fun W hW => (HSC5.out.below (HB59.out.trans (hW.mono HB59.out.size))).sl
      obtain ⟨A', hA', hsA⟩ := HEX.out
      have HSA := Lib.hid hsA
      have hne10 := HNE9.out
      have hne8 : (Value.slice A7 ix c7).ownBlock ≠ some b8 := fun e => by have := own_block_le HOW9.out _ e; omega
      rw [hW9]
      clear hW9 hsA HEX HOW8 HB78 HP8 p2 pf2 pl e0 e1 e2 el
      obtain ⟨e0, e1, e2, el⟩ := HSCH.out _ HB59.out
      have p2 := HL9.out.cell 2
      have pf2 := HL9.out.frozen 2
      have pl := HL9.out.lt
      simp at p2
      go_cut [] (fun W => ∃ (A9 : Option Addr) (c9 : Nat), (rs.length - 1 ≤ c9 ∧ c9 ≤ maxLen) ∧ SlR 5 RRu W A9 (rs.take ix ++ rs.drop (ix + 1)) ∧ Blk W b10 30 #[.int .i64 (m : Int), .int .u8 1, .slice A9 (rs.length - 1) c9] ∧ Below b10 w7 W)
      case first =>
        refine ordV_start (ButOwn (Value.slice A7 ix c7) W9) (fun _ => True) [9] [(0, some false), (1, some false), (2, some false), (3, some false), (4, some false), (5, some false), (6, some false), (7, some true), (8, none), (9, some true)] (by kernel_rfl) (by kernel_rfl) (by kernel_rfl) (fun _ _ _ _ _ h => h) trivial ?_
        have HD : Below W9.heap.size W9 W9.drew := (Below.refl _ _).drew
        obtain ⟨Wd, hWd⟩ : ∃ Wd, W9.drew = Wd := ⟨_, rfl⟩
        rw [hWd] at HD ⊢
        clear hWd
        have HS0 := ButOwn.of_below (v := Value.slice A7 ix c7) HD
        iterate 7 (refine ordV_takeS (v := ?_) rfl rfl HS0 ?_ ?_; rotate_left 1; (focus (intro W hW; have hcW := hW.cell; (go_simp <;> (try with_reducible rfl)))); simp only [Act.put, List.setIfInBounds_toArray, List.set_cons_zero, List.set_cons_succ])
        refine ordV_call rfl rfl (fun K hK => ?_)
        refine wp_appS (enc := encRu) (R := RRu) _ _ 28 rfl (b10 + 1) 61 i0 _ 5 56 Tryz.underlying28 hinf hz0 hz1 hz2 rfl (by decide) (.slice A7 ix c7) ix ((rs.take ix).flatMap encRu) rfl (own_below HOW9.out HD) A' (c3 - (ix + 1)) (rs.drop (ix + 1)) (by rw [HDL.out]; rfl) (HSA.out _ (HSL9.out _ HD)) (fun _ _ _ h => h) (fun _ => rfl) (ru_oneS (rs.drop (ix + 1))) (by rw [HDL.out]; omega) (by decide) (by have := HD.size; have := HBB9.out; omega) ?_
        intro v9 WA h91 h92 h93
        have hownP : WA.ownsRow (b10 + 1) 61 5 v9 (rs.length - 1) ((rs.take ix ++ rs.drop (ix + 1)).flatMap encRu) := by rw [List.flatMap_append]; have := HDL.out; rw [show rs.length - 1 = ix + (rs.drop (ix + 1)).length by omega]; exact h91
        have hOP := (HL9.out.below HD HL9.out.lt).apps h93 HNE9.out
        have hHSP := HS0.apps h92.size h93
        obtain ⟨A9, c9, rfl, hc9, hcm9, _⟩ := own_slr (R := RRu) hownP (fun _ => rfl) (fun _ => rfl) HLL.out.symm
        refine hK.out _ _ trivial (fun _ _ => hHSP) ?_
        clear hK K
        have o2 := hOP.cell 2
        have of2 := hOP.frozen 2
        have ol := hOP.lt
        simp at o2
        try simp only [Act.put, List.setIfInBounds_toArray, List.set_cons_zero, List.set_cons_succ]
        iterate 1 (refine ordV_takeR (v := ?_) rfl rfl ?_ ?_; rotate_left 1; (focus (intro W hW; (go_simp <;> (try with_reducible rfl)))); simp only [Act.put, List.setIfInBounds_toArray, List.set_cons_zero, List.set_cons_succ])
        refine ordV_call rfl rfl (fun K hK => ?_)
        go_simp
        refine hK.out _ _ trivial (fun _ h => by cases h) ?_
        clear hK K
        refine ordV_nil ?_
        have hne2 : (Value.slice A9 (rs.length - 1) c9).ownBlock ≠ some b10 := fun e => absurd (own_block_le hownP _ e) (Nat.not_succ_le_self _)
        have hownA := own_set hownP (a := ⟨b10, 2, none⟩) hne2 (.slice A9 (rs.length - 1) c9)
        have hOA := hOP.set_ 2 (.slice A9 (rs.length - 1) c9)
        have hbA : Below b10 w7 (WA.setCell ⟨b10, 2, none⟩ (.slice A9 (rs.length - 1) c9)) := (HB79.out.trans ((HD.mono (by have := HBB9.out; omega)).trans (h92.mono (by omega)))).setCell (p := ⟨b10, 2, none⟩) (Nat.le_refl _) _
        obtain ⟨WB, hWB⟩ : ∃ V, WA.setCell ⟨b10, 2, none⟩ (.slice A9 (rs.length - 1) c9) = V := ⟨_, rfl⟩
        rw [hWB] at hownA hOA hbA ⊢
        obtain ⟨A8, c8, he8, _, _, hsl9⟩ := own_slr (R := RRu) hownA (fun _ => rfl) (fun _ => rfl) HLL.out.symm
        obtain ⟨rfl, rfl⟩ : A9 = A8 ∧ c9 = c8 := by injection he8 with h1 h2 h3; exact ⟨h1, h3⟩
        have hblB : Blk WB b10 30 #[.int .i64 (m : Int), .int .u8 1, .slice A9 (rs.length - 1) c9] := by simpa using hOA
        have HCUT : Hid ((rs.length - 1 ≤ c9 ∧ c9 ≤ maxLen) ∧ SlR 5 RRu WB A9 (rs.take ix ++ rs.drop (ix + 1)) ∧ Blk WB b10 30 #[.int .i64 (m : Int), .int .u8 1, .slice A9 (rs.length - 1) c9] ∧ Below b10 w7 WB) := ⟨⟨hc9, hcm9⟩, hsl9, hblB, hbA⟩
        clear hWB hownP hOP hHSP HS0 HD h91 h92 h93 hne2 hownA hOA hbA he8 hsl9 hblB hc9 hcm9 o2 of2 ol
        go_wp2_with fail
        go_meet
        exact ⟨A9, c9, HCUT.out⟩
      case rest =>
        obtain ⟨wl, rfl⟩ : ∃ W, W = wc := ⟨wc, rfl⟩
        obtain ⟨A9, c9, hc9, hsl, hll, hb7l⟩ := hcut
        have HC9 := Lib.hid hc9
        have HSL := Lib.hid hsl
        have HLB := Lib.hid hll
        have HB5l : Hid (Below w5.heap.size w5 wl) := HB57.out.trans (hb7l.mono h510)
        clear hc9 hsl hll hb7l e0 e1 e2 el p2 pf2 pl HSA hA' hne10 hne8 HSL9 HB59 HBB9 HB79 HOW9 HL9 HNE9
        obtain ⟨e0, e1, e2, el⟩ := HSCH.out _ HB5l.out
        obtain ⟨d0, d1, d2, d3, d4, dl⟩ := HRD.out _ HB5l.out
        go_upto_region 11 with fail
        obtain ⟨b11, hb11⟩ : ∃ x, wl.heap.size = x := ⟨_, rfl⟩
        obtain ⟨b12, hb12⟩ : ∃ x, b11 + 1 = x := ⟨_, rfl⟩
        obtain ⟨w12, hw12⟩ : ∃ W, (wl.alloc (.cells #[.int .i64 (m : Int), .int .u8 1, .slice (some ⟨ba, oa, none⟩) rs.length c3] 30)).alloc (.cells #[.int .i64 r.fr, .int .i64 r.to, .string r.inp, .string r.out, .int .i64 r.co] 61) = W := ⟨_, rfl⟩
        have HM12 : Hid (Blk w12 b11 30 #[.int .i64 (m : Int), .int .u8 1, .slice (some ⟨ba, oa, none⟩) rs.length c3]) := by show Blk _ _ _ _; rw [← hw12]; exact (Blk.new_ hb11.symm).alloc _
        have HR12 : Hid (Blk w12 b12 61 #[.int .i64 r.fr, .int .i64 r.to, .string r.inp, .string r.out, .int .i64 r.co]) := by show Blk _ _ _ _; rw [← hw12]; exact Blk.new_ (by simp; omega)
        have HB12 : Hid (Below b11 wl w12) := by show Below _ _ _; rw [← hw12]; exact ((Below.refl _ _).alloc (by omega) _).alloc (by simp; omega) _
        have HLLT : Hid (b10 < b11) := by have := HLB.out.lt; show _ < _; omega
        rw [hb11, hb12, hw12]
        clear hw12 e0 e1 e2 el d0 d1 d2 d3 d4 dl
        have z3 := HR12.out.cell 3
        have zf3 := HR12.out.frozen 3
        have zl := HR12.out.lt
        simp at z3
        go_cut [] (fun W => ∃ ox : ByteArray, ox.size ≤ 4 ∧ Blk W b12 61 #[.int .i64 r.fr, .int .i64 r.to, .string r.inp, .string ox, .int .i64 r.co] ∧ Blk W b11 30 #[.int .i64 (m : Int), .int .u8 1, .slice (some ⟨ba, oa, none⟩) rs.length c3] ∧ Below b11 wl W)
        case first =>
          have hk3 : (kk : Int).tmod 3 = 0 ∨ (kk : Int).tmod 3 = 1 ∨ (kk : Int).tmod 3 = 2 := by rw [Int.tmod_eq_emod_of_nonneg (by omega)]; omega
          have hu0 : IntKind.u8.wrap 0 = 0 := by decide
          have hu1 : IntKind.u8.wrap 1 = 1 := by decide
          have hu2 : IntKind.u8.wrap 2 = 2 := by decide
          rcases hk3 with hk3 | hk3 | hk3
          · go_wp2_with fail
            go_meet
            exact ⟨⟨#[]⟩, by decide, by simpa using (HR12.out.set_ 3 (.string ⟨#[]⟩)).alloc (.cells #[.string ⟨#[]⟩, .string ⟨#[90]⟩, .string ⟨#[90, 90]⟩] 9), (HM12.out.far (p := ⟨b12, 3, none⟩) (by show b11 ≠ b12; omega) _).alloc _, (HB12.out.setCell (p := ⟨b12, 3, none⟩) (by show b11 ≤ b12; omega) _).alloc (by have := HM12.out.lt; simp; omega) _⟩
          · go_wp2_with fail
            go_meet
            exact ⟨⟨#[90]⟩, by decide, by simpa using (HR12.out.set_ 3 (.string ⟨#[90]⟩)).alloc (.cells #[.string ⟨#[]⟩, .string ⟨#[90]⟩, .string ⟨#[90, 90]⟩] 9), (HM12.out.far (p := ⟨b12, 3, none⟩) (by show b11 ≠ b12; omega) _).alloc _, (HB12.out.setCell (p := ⟨b12, 3, none⟩) (by show b11 ≤ b12; omega) _).alloc (by have := HM12.out.lt; simp; omega) _⟩
          · go_wp2_with fail
            go_meet
            exact ⟨⟨#[90, 90]⟩, by decide, by simpa using (HR12.out.set_ 3 (.string ⟨#[90, 90]⟩)).alloc (.cells #[.string ⟨#[]⟩, .string ⟨#[90]⟩, .string ⟨#[90, 90]⟩] 9), (HM12.out.far (p := ⟨b12, 3, none⟩) (by show b11 ≠ b12; omega) _).alloc _, (HB12.out.setCell (p := ⟨b12, 3, none⟩) (by show b11 ≤ b12; omega) _).alloc (by have := HM12.out.lt; simp; omega) _⟩
        case rest =>
          obtain ⟨wB, rfl⟩ : ∃ W, W = wc := ⟨wc, rfl⟩
          obtain ⟨ox, hox, hRB, hMB, hblB⟩ := hcut
          have HRB := Lib.hid hRB
          have HMB := Lib.hid hMB
          have HBLB := Lib.hid hblB
          have HB5B : Hid (Below w5.heap.size w5 wB) := HB5l.out.trans (hblB.mono (by have := HB5l.out.size; omega))
          have HSLB : Hid (∀ W, Below wB.heap.size wB W → SlR 5 RRu W (some ⟨ba, oa, none⟩) rs) := fun W hW => (HSC5.out.below (HB5B.out.trans (hW.mono HB5B.out.size))).sl
          have h811 : b8 ≠ b11 := by have := HLLT.out; omega
          have h1211 : b12 ≠ b11 := by omega
          clear hRB hMB hblB z3 zf3 zl HM12 HR12 HB12
          obtain ⟨e0, e1, e2, el⟩ := HSCH.out _ HB5B.out
          have t0 := HRB.out.cell 0
          have t1 := HRB.out.cell 1
          have t2 := HRB.out.cell 2
          have t3 := HRB.out.cell 3
          have t4 := HRB.out.cell 4
          have tl := HRB.out.lt
          simp at t0 t1 t2 t3 t4
          go_upto_region 12 with fail
          go_cut [] (fun W => ∃ (Am : Option Addr) (cm : Nat), (rs.length + 1 ≤ cm ∧ cm ≤ maxLen) ∧ SlR 5 RRu W Am (rs ++ [(⟨r.fr, r.to, r.inp, ox, r.co⟩ : Ru)]) ∧ Blk W b11 30 #[.int .i64 (m : Int), .int .u8 1, .slice Am (rs.length + 1) cm] ∧ Blk W b12 61 #[.int .i64 r.fr, .int .i64 r.to, .string r.inp, .string ox, .int .i64 r.co] ∧ Below b11 wB W)
          case first =>
            refine ordB_start (ButB b11 wB) (.quiet 1 (.quiet 2 (.quiet 4 (.fork 0 5 (.fork 3 5 (.only 5 (.only 6 (.quiet 7 (.only 8 .done)))) (.only 3 (.only 6 (.quiet 7 (.only 8 .done))))) (.only 0 (.only 3 (.only 6 (.quiet 7 (.only 8 .done))))))))) (by kernel_rfl) (by kernel_rfl) (by kernel_rfl) (fun _ _ _ _ _ h => h) (ButB.of_below (Below.refl _ _).drew) ?_
            have HD0 : Below wB.heap.size wB wB.drew := (Below.refl _ _).drew
            obtain ⟨W0, hWd⟩ : ∃ Wd, wB.drew = Wd := ⟨_, rfl⟩
            rw [hWd] at HD0 ⊢
            clear hWd
            iterate 3 (first
              | (refine ordB_skip rfl rfl ?_; simp only [Act.put, List.setIfInBounds_toArray, List.set_cons_zero, List.set_cons_succ])
              | (refine ordB_take (v := ?_) rfl rfl ?_ ?_
                 rotate_left 1
                 focus (intro W hW; have hcW := hW.cell; (go_simp <;> with_reducible rfl))
                 simp only [Act.put, List.setIfInBounds_toArray, List.set_cons_zero, List.set_cons_succ]))
            refine ordB_fork (opB_call rfl rfl (fun K hK => ?_)) (opB_call rfl rfl (fun K hK => ?_))
            · go_simp
              have HDa1 := HD0.alloc HD0.size (.cells #[] 61)
              refine hK.out _ _ (ButB.of_below HDa1) (fun _ => ?_)
              clear hK K
              have ho := own_empty W0 61 5 wB.heap.size HD0.size
              obtain ⟨vb, hvb⟩ : ∃ b, W0.heap.size = b := ⟨_, rfl⟩
              rw [hvb] at ho  ⊢
              clear hvb
              obtain ⟨Wa1, qq⟩ : ∃ W', W0.alloc (.cells #[] 61) = W' := ⟨_, rfl⟩
              rw [qq] at HDa1 ho  ⊢
              clear qq
              try simp only [Act.put, List.setIfInBounds_toArray, List.set_cons_zero, List.set_cons_succ]
              refine ordB_fork (opB_call rfl rfl (fun K hK => ?_)) (opB_call rfl rfl (fun K hK => ?_))
              · refine wp_appS (enc := encRu) (R := RRu) _ _ 28 rfl wB.heap.size 61 i0 _ 5 56 Tryz.underlying28 hinf hz0 hz1 hz2 rfl (by decide) (.slice (some ⟨vb, 0, none⟩) 0 0) 0 [] rfl ho (some ⟨ba, oa, none⟩) c3 rs rfl (HSLB.out _ HDa1) (fun _ _ _ h => h) (fun _ => rfl) (ru_oneS rs) (by omega) (by decide) HDa1.size ?_
                intro v4 Wa2 h41 h42 h43
                have HDa2 := HDa1.trans h42
                have ho : Wa2.ownsRow wB.heap.size 61 5 v4 rs.length (rs.flatMap encRu) := by simpa using h41
                refine hK.out _ _ (ButB.of_below HDa2) (fun _ => ?_)
                clear hK K h41 h42 h43
                try simp only [Act.put, List.setIfInBounds_toArray, List.set_cons_zero, List.set_cons_succ]
                refine ordB_only (opB_call rfl rfl (fun K hK => ?_))
                go_simp
                have HDa3 := HDa2.alloc HDa2.size (.cells #[.int .i64 r.fr, .int .i64 r.to, .string r.inp, .string ox, .int .i64 r.co] 61)
                refine hK.out _ _ (ButB.of_below HDa3) (fun _ => ?_)
                clear hK K
                have hE : Blk (Wa2.alloc (.cells #[.int .i64 r.fr, .int .i64 r.to, .string r.inp, .string ox, .int .i64 r.co] 61)) Wa2.heap.size 61 #[.int .i64 r.fr, .int .i64 r.to, .string r.inp, .string ox, .int .i64 r.co] := Blk.new_ rfl
                have HNVE := own_lt ho (Nat.le_refl _)
                have ho := ho.alloc (.cells #[.int .i64 r.fr, .int .i64 r.to, .string r.inp, .string ox, .int .i64 r.co] 61)
                obtain ⟨ve, hve⟩ : ∃ b, Wa2.heap.size = b := ⟨_, rfl⟩
                rw [hve] at hE HNVE ⊢
                clear hve
                obtain ⟨Wa3, qq⟩ : ∃ W', Wa2.alloc (.cells #[.int .i64 r.fr, .int .i64 r.to, .string r.inp, .string ox, .int .i64 r.co] 61) = W' := ⟨_, rfl⟩
                rw [qq] at HDa3 hE ho ⊢
                clear qq
                try simp only [Act.put, List.setIfInBounds_toArray, List.set_cons_zero, List.set_cons_succ]
                refine ordB_only (opB_call rfl rfl (fun K hK => ?_))
                refine wp_appS (enc := encRu) (R := RRu) _ _ 28 rfl wB.heap.size 61 i0 _ 5 56 Tryz.underlying28 hinf hz0 hz1 hz2 rfl (by decide) v4 _ _ rfl ho (some ⟨ve, 0, none⟩) 1 [⟨r.fr, r.to, r.inp, ox, r.co⟩] rfl (slr_blkR (enc := encRu) hE (fun _ => rfl) (fun _ => rfl)) (fun _ _ _ h => h) (fun _ => rfl) (ru_oneS [⟨r.fr, r.to, r.inp, ox, r.co⟩]) (by simp; omega) (by decide) HDa3.size ?_
                intro v8 Wa4 h81 h82 h83
                have HDa4 := HDa3.trans h82
                have h8 : Wa4.ownsRow wB.heap.size 61 5 v8 (rs.length + 1) ((rs ++ [(⟨r.fr, r.to, r.inp, ox, r.co⟩ : Ru)]).flatMap encRu) := by rw [List.flatMap_append]; simpa using h81
                obtain ⟨Am, cm, rfl, hcm, hcm2, _⟩ := own_slr (R := RRu) h8 (fun _ => rfl) (fun _ => rfl) (by simp)
                refine hK.out _ _ (ButB.of_below HDa4) (fun _ => ?_)
                clear hK K
                try simp only [Act.put, List.setIfInBounds_toArray, List.set_cons_zero, List.set_cons_succ]
                iterate 1 (first
                  | (refine ordB_skip rfl rfl ?_; simp only [Act.put, List.setIfInBounds_toArray, List.set_cons_zero, List.set_cons_succ])
                  | (refine ordB_take (v := ?_) rfl rfl ?_ ?_
                     rotate_left 1
                     focus (intro W hW; have hcW := hW.cell; (go_simp <;> with_reducible rfl))
                     simp only [Act.put, List.setIfInBounds_toArray, List.set_cons_zero, List.set_cons_succ]))
                refine ordB_only (opB_call rfl rfl (fun K hK => ?_))
                have hM := HMB.out.below HDa4 HMB.out.lt
                have d2 := hM.cell 2
                have df2 := hM.frozen 2
                have dl := hM.lt
                simp at d2
                go_simp
                refine hK.out _ _ ((ButB.of_below HDa4).set_ 2 _) (fun _ => ?_)
                clear hK K
                have hBE := hM.set_ 2 (.slice Am (rs.length + 1) cm)
                have hneM : (Value.slice Am (rs.length + 1) cm).ownBlock ≠ some b11 := fun e => by have := own_block_le h8 _ e; have := HMB.out.lt; omega
                have hOE := own_set h8 (a := ⟨b11, 2, none⟩) hneM (.slice Am (rs.length + 1) cm)
                have hbE := (HDa4.mono (Nat.le_of_lt HMB.out.lt)).setCell (p := ⟨b11, 2, none⟩) (Nat.le_refl _) (.slice Am (rs.length + 1) cm)
                have hRE := (HRB.out.below HDa4 HRB.out.lt).far (p := ⟨b11, 2, none⟩) (by show b12 ≠ b11; omega) (.slice Am (rs.length + 1) cm)
                obtain ⟨A8, c8, he8, _, _, hslm⟩ := own_slr (R := RRu) hOE (fun _ => rfl) (fun _ => rfl) (by simp)
                obtain ⟨rfl, rfl⟩ : Am = A8 ∧ cm = c8 := by injection he8 with h1 h2 h3; exact ⟨h1, h3⟩
                try simp only [Act.put, List.setIfInBounds_toArray, List.set_cons_zero, List.set_cons_succ]
                refine ordB_nil ?_
                go_wp2_with fail
                go_meet
                exact ⟨Am, cm, ⟨by simpa using hcm, hcm2⟩, hslm, by simpa using hBE, hRE, hbE⟩
              · go_simp
                have HDa6 := HDa1.alloc HDa1.size (.cells #[.int .i64 r.fr, .int .i64 r.to, .string r.inp, .string ox, .int .i64 r.co] 61)
                refine hK.out _ _ (ButB.of_below HDa6) (fun _ => ?_)
                clear hK K
                have hE : Blk (Wa1.alloc (.cells #[.int .i64 r.fr, .int .i64 r.to, .string r.inp, .string ox, .int .i64 r.co] 61)) Wa1.heap.size 61 #[.int .i64 r.fr, .int .i64 r.to, .string r.inp, .string ox, .int .i64 r.co] := Blk.new_ rfl
                have HNVE := own_lt ho (Nat.le_refl _)
                have ho := ho.alloc (.cells #[.int .i64 r.fr, .int .i64 r.to, .string r.inp, .string ox, .int .i64 r.co] 61)
                obtain ⟨ve, hve⟩ : ∃ b, Wa1.heap.size = b := ⟨_, rfl⟩
                rw [hve] at hE HNVE ⊢
                clear hve
                obtain ⟨Wa6, qq⟩ : ∃ W', Wa1.alloc (.cells #[.int .i64 r.fr, .int .i64 r.to, .string r.inp, .string ox, .int .i64 r.co] 61) = W' := ⟨_, rfl⟩
                rw [qq] at HDa6 hE ho ⊢
                clear qq
                try simp only [Act.put, List.setIfInBounds_toArray, List.set_cons_zero, List.set_cons_succ]
                refine ordB_only (opB_call rfl rfl (fun K hK => ?_))
                refine wp_appS (enc := encRu) (R := RRu) _ _ 28 rfl wB.heap.size 61 i0 _ 5 56 Tryz.underlying28 hinf hz0 hz1 hz2 rfl (by decide) (.slice (some ⟨vb, 0, none⟩) 0 0) 0 [] rfl ho (some ⟨ba, oa, none⟩) c3 rs rfl (HSLB.out _ HDa6) (fun _ _ _ h => h) (fun _ => rfl) (ru_oneS rs) (by omega) (by decide) HDa6.size ?_
                intro v4 Wa7 h41 h42 h43
                have HDa7 := HDa6.trans h42
                have ho : Wa7.ownsRow wB.heap.size 61 5 v4 rs.length (rs.flatMap encRu) := by simpa using h41
                have hE := hE.apps h43 HNVE
                refine hK.out _ _ (ButB.of_below HDa7) (fun _ => ?_)
                clear hK K h41 h42 h43
                try simp only [Act.put, List.setIfInBounds_toArray, List.set_cons_zero, List.set_cons_succ]
                refine ordB_only (opB_call rfl rfl (fun K hK => ?_))
                refine wp_appS (enc := encRu) (R := RRu) _ _ 28 rfl wB.heap.size 61 i0 _ 5 56 Tryz.underlying28 hinf hz0 hz1 hz2 rfl (by decide) v4 _ _ rfl ho (some ⟨ve, 0, none⟩) 1 [⟨r.fr, r.to, r.inp, ox, r.co⟩] rfl (slr_blkR (enc := encRu) hE (fun _ => rfl) (fun _ => rfl)) (fun _ _ _ h => h) (fun _ => rfl) (ru_oneS [⟨r.fr, r.to, r.inp, ox, r.co⟩]) (by simp; omega) (by decide) HDa7.size ?_
                intro v8 Wa8 h81 h82 h83
                have HDa8 := HDa7.trans h82
                have h8 : Wa8.ownsRow wB.heap.size 61 5 v8 (rs.length + 1) ((rs ++ [(⟨r.fr, r.to, r.inp, ox, r.co⟩ : Ru)]).flatMap encRu) := by rw [List.flatMap_append]; simpa using h81
                obtain ⟨Am, cm, rfl, hcm, hcm2, _⟩ := own_slr (R := RRu) h8 (fun _ => rfl) (fun _ => rfl) (by simp)
                refine hK.out _ _ (ButB.of_below HDa8) (fun _ => ?_)
                clear hK K
                try simp only [Act.put, List.setIfInBounds_toArray, List.set_cons_zero, List.set_cons_succ]
                iterate 1 (first
                  | (refine ordB_skip rfl rfl ?_; simp only [Act.put, List.setIfInBounds_toArray, List.set_cons_zero, List.set_cons_succ])
                  | (refine ordB_take (v := ?_) rfl rfl ?_ ?_
                     rotate_left 1
                     focus (intro W hW; have hcW := hW.cell; (go_simp <;> with_reducible rfl))
                     simp only [Act.put, List.setIfInBounds_toArray, List.set_cons_zero, List.set_cons_succ]))
                refine ordB_only (opB_call rfl rfl (fun K hK => ?_))
                have hM := HMB.out.below HDa8 HMB.out.lt
                have d2 := hM.cell 2
                have df2 := hM.frozen 2
                have dl := hM.lt
                simp at d2
                go_simp
                refine hK.out _ _ ((ButB.of_below HDa8).set_ 2 _) (fun _ => ?_)
                clear hK K
                have hBE := hM.set_ 2 (.slice Am (rs.length + 1) cm)
                have hneM : (Value.slice Am (rs.length + 1) cm).ownBlock ≠ some b11 := fun e => by have := own_block_le h8 _ e; have := HMB.out.lt; omega
                have hOE := own_set h8 (a := ⟨b11, 2, none⟩) hneM (.slice Am (rs.length + 1) cm)
                have hbE := (HDa8.mono (Nat.le_of_lt HMB.out.lt)).setCell (p := ⟨b11, 2, none⟩) (Nat.le_refl _) (.slice Am (rs.length + 1) cm)
                have hRE := (HRB.out.below HDa8 HRB.out.lt).far (p := ⟨b11, 2, none⟩) (by show b12 ≠ b11; omega) (.slice Am (rs.length + 1) cm)
                obtain ⟨A8, c8, he8, _, _, hslm⟩ := own_slr (R := RRu) hOE (fun _ => rfl) (fun _ => rfl) (by simp)
                obtain ⟨rfl, rfl⟩ : Am = A8 ∧ cm = c8 := by injection he8 with h1 h2 h3; exact ⟨h1, h3⟩
                try simp only [Act.put, List.setIfInBounds_toArray, List.set_cons_zero, List.set_cons_succ]
                refine ordB_nil ?_
                go_wp2_with fail
                go_meet
                exact ⟨Am, cm, ⟨by simpa using hcm, hcm2⟩, hslm, by simpa using hBE, hRE, hbE⟩
            · go_simp
              have HDa10 := HD0.alloc HD0.size (.cells #[.int .i64 r.fr, .int .i64 r.to, .string r.inp, .string ox, .int .i64 r.co] 61)
              refine hK.out _ _ (ButB.of_below HDa10) (fun _ => ?_)
              clear hK K
              have hE : Blk (W0.alloc (.cells #[.int .i64 r.fr, .int .i64 r.to, .string r.inp, .string ox, .int .i64 r.co] 61)) W0.heap.size 61 #[.int .i64 r.fr, .int .i64 r.to, .string r.inp, .string ox, .int .i64 r.co] := Blk.new_ rfl
              obtain ⟨ve, hve⟩ : ∃ b, W0.heap.size = b := ⟨_, rfl⟩
              rw [hve] at hE  ⊢
              clear hve
              obtain ⟨Wa10, qq⟩ : ∃ W', W0.alloc (.cells #[.int .i64 r.fr, .int .i64 r.to, .string r.inp, .string ox, .int .i64 r.co] 61) = W' := ⟨_, rfl⟩
              rw [qq] at HDa10 hE  ⊢
              clear qq
              try simp only [Act.put, List.setIfInBounds_toArray, List.set_cons_zero, List.set_cons_succ]
              refine ordB_only (opB_call rfl rfl (fun K hK => ?_))
              go_simp
              have HDa11 := HDa10.alloc HDa10.size (.cells #[] 61)
              refine hK.out _ _ (ButB.of_below HDa11) (fun _ => ?_)
              clear hK K
              have ho := own_empty Wa10 61 5 wB.heap.size HDa10.size
              have HNVE : (Value.slice (some ⟨Wa10.heap.size, 0, none⟩) 0 0).ownBlock ≠ some ve := fun e => by have := hE.lt; simp [Value.ownBlock] at e; omega
              have hE := hE.alloc (.cells #[] 61)
              obtain ⟨vb, hvb⟩ : ∃ b, Wa10.heap.size = b := ⟨_, rfl⟩
              rw [hvb] at ho HNVE ⊢
              clear hvb
              obtain ⟨Wa11, qq⟩ : ∃ W', Wa10.alloc (.cells #[] 61) = W' := ⟨_, rfl⟩
              rw [qq] at HDa11 ho hE ⊢
              clear qq
              try simp only [Act.put, List.setIfInBounds_toArray, List.set_cons_zero, List.set_cons_succ]
              refine ordB_only (opB_call rfl rfl (fun K hK => ?_))
              refine wp_appS (enc := encRu) (R := RRu) _ _ 28 rfl wB.heap.size 61 i0 _ 5 56 Tryz.underlying28 hinf hz0 hz1 hz2 rfl (by decide) (.slice (some ⟨vb, 0, none⟩) 0 0) 0 [] rfl ho (some ⟨ba, oa, none⟩) c3 rs rfl (HSLB.out _ HDa11) (fun _ _ _ h => h) (fun _ => rfl) (ru_oneS rs) (by omega) (by decide) HDa11.size ?_
              intro v4 Wa12 h41 h42 h43
              have HDa12 := HDa11.trans h42
              have ho : Wa12.ownsRow wB.heap.size 61 5 v4 rs.length (rs.flatMap encRu) := by simpa using h41
              have hE := hE.apps h43 HNVE
              refine hK.out _ _ (ButB.of_below HDa12) (fun _ => ?_)
              clear hK K h41 h42 h43
              try simp only [Act.put, List.setIfInBounds_toArray, List.set_cons_zero, List.set_cons_succ]
              refine ordB_only (opB_call rfl rfl (fun K hK => ?_))
              refine wp_appS (enc := encRu) (R := RRu) _ _ 28 rfl wB.heap.size 61 i0 _ 5 56 Tryz.underlying28 hinf hz0 hz1 hz2 rfl (by decide) v4 _ _ rfl ho (some ⟨ve, 0, none⟩) 1 [⟨r.fr, r.to, r.inp, ox, r.co⟩] rfl (slr_blkR (enc := encRu) hE (fun _ => rfl) (fun _ => rfl)) (fun _ _ _ h => h) (fun _ => rfl) (ru_oneS [⟨r.fr, r.to, r.inp, ox, r.co⟩]) (by simp; omega) (by decide) HDa12.size ?_
              intro v8 Wa13 h81 h82 h83
              have HDa13 := HDa12.trans h82
              have h8 : Wa13.ownsRow wB.heap.size 61 5 v8 (rs.length + 1) ((rs ++ [(⟨r.fr, r.to, r.inp, ox, r.co⟩ : Ru)]).flatMap encRu) := by rw [List.flatMap_append]; simpa using h81
              obtain ⟨Am, cm, rfl, hcm, hcm2, _⟩ := own_slr (R := RRu) h8 (fun _ => rfl) (fun _ => rfl) (by simp)
              refine hK.out _ _ (ButB.of_below HDa13) (fun _ => ?_)
              clear hK K
              try simp only [Act.put, List.setIfInBounds_toArray, List.set_cons_zero, List.set_cons_succ]
              iterate 1 (first
                | (refine ordB_skip rfl rfl ?_; simp only [Act.put, List.setIfInBounds_toArray, List.set_cons_zero, List.set_cons_succ])
                | (refine ordB_take (v := ?_) rfl rfl ?_ ?_
                   rotate_left 1
                   focus (intro W hW; have hcW := hW.cell; (go_simp <;> with_reducible rfl))
                   simp only [Act.put, List.setIfInBounds_toArray, List.set_cons_zero, List.set_cons_succ]))
              refine ordB_only (opB_call rfl rfl (fun K hK => ?_))
              have hM := HMB.out.below HDa13 HMB.out.lt
              have d2 := hM.cell 2
              have df2 := hM.frozen 2
              have dl := hM.lt
              simp at d2
              go_simp
              refine hK.out _ _ ((ButB.of_below HDa13).set_ 2 _) (fun _ => ?_)
              clear hK K
              have hBE := hM.set_ 2 (.slice Am (rs.length + 1) cm)
              have hneM : (Value.slice Am (rs.length + 1) cm).ownBlock ≠ some b11 := fun e => by have := own_block_le h8 _ e; have := HMB.out.lt; omega
              have hOE := own_set h8 (a := ⟨b11, 2, none⟩) hneM (.slice Am (rs.length + 1) cm)
              have hbE := (HDa13.mono (Nat.le_of_lt HMB.out.lt)).setCell (p := ⟨b11, 2, none⟩) (Nat.le_refl _) (.slice Am (rs.length + 1) cm)
              have hRE := (HRB.out.below HDa13 HRB.out.lt).far (p := ⟨b11, 2, none⟩) (by show b12 ≠ b11; omega) (.slice Am (rs.length + 1) cm)
              obtain ⟨A8, c8, he8, _, _, hslm⟩ := own_slr (R := RRu) hOE (fun _ => rfl) (fun _ => rfl) (by simp)
              obtain ⟨rfl, rfl⟩ : Am = A8 ∧ cm = c8 := by injection he8 with h1 h2 h3; exact ⟨h1, h3⟩
              try simp only [Act.put, List.setIfInBounds_toArray, List.set_cons_zero, List.set_cons_succ]
              refine ordB_nil ?_
              go_wp2_with fail
              go_meet
              exact ⟨Am, cm, ⟨by simpa using hcm, hcm2⟩, hslm, by simpa using hBE, hRE, hbE⟩
          case rest =>
            obtain ⟨wm, rfl⟩ : ∃ W, W = wc := ⟨wc, rfl⟩
            obtain ⟨Am, cm, hcm2, hslm, hMm, hRm, hbm⟩ := hcut
            have hblm : Below b11 wl wm := HBLB.out.trans hbm
            have HB5M : Hid (Below w5.heap.size w5 wm) := HB5l.out.trans (hblm.mono (by have := HB5l.out.size; omega))
            have hLm : Blk wm b10 30 #[.int .i64 (m : Int), .int .u8 1, .slice A9 (rs.length - 1) c9] := HLB.out.below (g := b10) (by rw [hb11]; exact hblm) HLB.out.lt
            have hlenl := HLL.out
            have hlenm : (rs ++ [(⟨r.fr, r.to, r.inp, ox, r.co⟩ : Ru)]).length = rs.length + 1 := by simp
            have hscl : ScIn wm ⟨(m : Int), 1, rs.take ix ++ rs.drop (ix + 1)⟩ A9 c9 := ⟨HSL.out.below keeps_ru (by rw [hb11]; exact hblm), by show (rs.take ix ++ rs.drop (ix + 1)).length ≤ 65536; omega, fun x hx => by
              obtain ⟨x', hx', hlk⟩ := less_sub x hx
              have h1 := HOK.out.2.2.2.1 x' hx'
              exact ⟨by rw [hlk.2.2.1]; exact Nat.le_trans h1.2.1.1 (by decide), by rw [hlk.2.2.2]; exact Nat.le_trans h1.2.2.1.1 (by decide)⟩, ⟨by show (0 : Int) ≤ 1; decide, by show (1 : Int) ≤ 255; decide⟩, ⟨by show (rs.take ix ++ rs.drop (ix + 1)).length ≤ c9; have := HC9.out.1; omega, HC9.out.2⟩⟩
            have hscm : ScIn wm ⟨(m : Int), 1, rs ++ [⟨r.fr, r.to, r.inp, ox, r.co⟩]⟩ Am cm := ⟨hslm, by show (rs ++ [(⟨r.fr, r.to, r.inp, ox, r.co⟩ : Ru)]).length ≤ 65536; omega, fun x hx => by
              rcases List.mem_append.1 (show x ∈ rs ++ [(⟨r.fr, r.to, r.inp, ox, r.co⟩ : Ru)] from hx) with hx | hx
              · have h1 := HOK.out.2.2.2.1 x hx
                exact ⟨Nat.le_trans h1.2.1.1 (by decide), Nat.le_trans h1.2.2.1.1 (by decide)⟩
              · rw [List.mem_singleton.1 hx]
                exact ⟨Nat.le_trans (HOK.out.2.2.2.1 r HMEM.out).2.1.1 (by decide), Nat.le_trans hox (by decide)⟩, ⟨by show (0 : Int) ≤ 1; decide, by show (1 : Int) ≤ 255; decide⟩, ⟨by show (rs ++ [(⟨r.fr, r.to, r.inp, ox, r.co⟩ : Ru)]).length ≤ cm; omega, hcm2.2⟩⟩
            have HISL : Hid (∀ W, Below wm.heap.size wm W → Calls Tryz.prog 11 #[.agg #[.int .i64 (m : Int), .int .u8 1, .slice A9 (rs.length - 1) c9]] W (IsIsR ⟨(m : Int), 1, rs.take ix ++ rs.drop (ix + 1)⟩ W)) := fun W hW => by
              have h := sis_any ⟨(m : Int), 1, rs.take ix ++ rs.drop (ix + 1)⟩ A9 c9 W (hscl.below hW) (made_flat HMM.out.2)
              rw [hlenl] at h
              exact h
            have HSNL : Hid (¬ soundE ⟨(m : Int), 1, rs.take ix ++ rs.drop (ix + 1)⟩ = 0 → ∀ W, Below wm.heap.size wm W → Calls Tryz.prog 16 #[.agg #[.int .i64 (m : Int), .int .u8 1, .slice A9 (rs.length - 1) c9]] W fun e w' => e = .returned (.bool false) ∧ Below W.heap.size W w') := fun hE W hW => by
              have h := rsound5_any ⟨(m : Int), 1, rs.take ix ++ rs.drop (ix + 1)⟩ A9 c9 W (hscl.below hW)
              rw [hlenl] at h
              exact h.mono fun e w' ⟨h1, h2⟩ => ⟨h1.no hE, h2⟩
            have HISM : Hid (soundE ⟨(m : Int), 1, rs ++ [⟨r.fr, r.to, r.inp, ox, r.co⟩]⟩ = 0 → ¬ FirstTo ⟨(m : Int), 1, rs ++ [⟨r.fr, r.to, r.inp, ox, r.co⟩]⟩ none → ∀ W, Below wm.heap.size wm W → Calls Tryz.prog 11 #[.agg #[.int .i64 (m : Int), .int .u8 1, .slice Am (rs.length + 1) cm]] W fun e w' => e = .returned (.bool false) ∧ Below W.heap.size W w') := fun _ hE W hW => by
              have h := sis_any ⟨(m : Int), 1, rs ++ [⟨r.fr, r.to, r.inp, ox, r.co⟩]⟩ Am cm W (hscm.below hW) (made_flat HMM.out.2)
              rw [hlenm] at h
              refine h.mono fun e w' ⟨b, h1, h2, h3⟩ => ⟨?_, h3⟩
              rcases is_parts h2 with ⟨_, h4⟩ | ⟨rfl, _⟩
              · exact absurd h4.2 hE
              · exact h1
            have HSNM : Hid (∀ b : Bool, (b = true ↔ soundE ⟨(m : Int), 1, rs ++ [⟨r.fr, r.to, r.inp, ox, r.co⟩]⟩ = 0) → ∀ W, Below wm.heap.size wm W → Calls Tryz.prog 16 #[.agg #[.int .i64 (m : Int), .int .u8 1, .slice Am (rs.length + 1) cm]] W fun e w' => e = .returned (.bool b) ∧ Below W.heap.size W w') := fun b hb W hW => by
              have h := rsound5_any ⟨(m : Int), 1, rs ++ [⟨r.fr, r.to, r.inp, ox, r.co⟩]⟩ Am cm W (hscm.below hW)
              rw [hlenm] at h
              refine h.mono fun e w' ⟨h1, h2⟩ => ⟨?_, h2⟩
              cases b with
              | true => exact h1.yes (hb.1 rfl)
              | false => exact h1.no (fun h => by have := hb.2 h; cases this)
            have HRE0 : Hid (∀ W, Below wm.heap.size wm W → Calls Tryz.prog 20 #[.agg #[.int .i64 (m : Int), .int .u8 1, .slice (some ⟨ba, oa, none⟩) rs.length c3], .int .i64 0] W fun e w' => (∃ g, e = .returned (.slice (some ⟨g, 0, none⟩) m m) ∧ W.heap.size ≤ g ∧ BB w' g m (cloN (⟨(m : Int), 1, rs⟩ : Sc).edges (fun k => decide (k = 0)) m)) ∧ Below W.heap.size W w') := fun W hW => by
              have := rreached_any ⟨(m : Int), 1, rs⟩ (some ⟨ba, oa, none⟩) c3 0 W (HSC5.out.below (HB5M.out.trans (hW.mono HB5M.out.size))) HOK.out ⟨by decide, by have := HMM.out.1; show (0 : Int) < (m : Int); omega⟩
              rwa [show (⟨(m : Int), 1, rs⟩ : Sc).n.toNat = m from Int.toNat_natCast m] at this
            have HCE : Hid (∀ W, Below wm.heap.size wm W → (W.cell? ⟨b8, 0, none⟩ = some (.int .i64 (m : Int)) ∧ W.cell? ⟨b8, 1, none⟩ = some (.int .u8 1) ∧ W.cell? ⟨b8, 2, none⟩ = some (.slice (some ⟨ba, oa, none⟩) rs.length c3) ∧ b8 < W.heap.size) ∧ (W.cell? ⟨b10, 0, none⟩ = some (.int .i64 (m : Int)) ∧ W.cell? ⟨b10, 1, none⟩ = some (.int .u8 1) ∧ W.cell? ⟨b10, 2, none⟩ = some (.slice A9 (rs.length - 1) c9) ∧ b10 < W.heap.size) ∧
                (W.cell? ⟨b11, 0, none⟩ = some (.int .i64 (m : Int)) ∧ W.cell? ⟨b11, 1, none⟩ = some (.int .u8 1) ∧ W.cell? ⟨b11, 2, none⟩ = some (.slice Am (rs.length + 1) cm) ∧ b11 < W.heap.size) ∧ (W.cell? ⟨b12, 3, none⟩ = some (.string ox) ∧ b12 < W.heap.size)) := fun W hW => by
              have f1 := hLm.below hW hLm.lt
              have f2 := hMm.below hW hMm.lt
              have f3 := hRm.below hW hRm.lt
              exact ⟨HSCH.out _ (HB5M.out.trans (hW.mono HB5M.out.size)), ⟨by rw [f1.cell]; rfl, by rw [f1.cell]; rfl, by rw [f1.cell]; rfl, f1.lt⟩, ⟨by rw [f2.cell]; rfl, by rw [f2.cell]; rfl, by rw [f2.cell]; rfl, f2.lt⟩, by rw [f3.cell]; rfl, f3.lt⟩
            clear hcm2 hslm hMm hRm hbm hblm hLm hlenl hlenm hscl hscm e0 e1 e2 el t0 t1 t2 t3 t4 tl
            obtain ⟨⟨e0, e1, e2, el⟩, ⟨l0, l1, l2, ll⟩, _⟩ := HCE.out _ (Below.refl _ _)
            go_upto_region 13 with fail
            go_cut [79] (fun s79 W => s79 = .bool false ∧ Below wm.heap.size wm W)
            case first =>
              go_wp2_with (first | (go_at_call 16; go_loud (refine (HSNL.out (less_not HN.out HBI.out) _ hb6).mono ?_; rintro e w7 ⟨rfl, hb7⟩)) | (go_at_call 11; go_loud (refine (HISL.out _ (Below.refl _ _)).mono ?_; rintro e w6 ⟨b, rfl, hb, hb6⟩; rcases is_parts hb with ⟨rfl, hbi⟩ | ⟨rfl, hbi⟩ <;> (have HBI := Lib.hid hbi; clear hbi hb; obtain ⟨_, ⟨l0, l1, l2, ll⟩, _⟩ := HCE.out _ hb6))))
              all_goals go_meet
              all_goals first
                | exact ⟨rfl, bthen hb6 hb7⟩
                | exact ⟨rfl, hb6⟩
            case rest =>
              obtain ⟨wn, rfl⟩ : ∃ W, W = wc := ⟨wc, rfl⟩
              obtain ⟨rfl, hbn⟩ := hcut
              have HBN := Lib.hid hbn
              have HRE : Hid (∀ W, Below wn.heap.size wn W → Calls Tryz.prog 20 #[.agg #[.int .i64 (m : Int), .int .u8 1, .slice (some ⟨ba, oa, none⟩) rs.length c3], .int .i64 0] W fun e w' => (∃ g, e = .returned (.slice (some ⟨g, 0, none⟩) m m) ∧ W.heap.size ≤ g ∧ BB w' g m (cloN (⟨(m : Int), 1, rs⟩ : Sc).edges (fun k => decide (k = 0)) m)) ∧ Below W.heap.size W w') := fun W hW => HRE0.out W (HBN.out.trans (hW.mono HBN.out.size))
              have hrok := (HOK.out.2.2.2.1 r HMEM.out).1.1
              have hf0 : 0 ≤ r.fr := hrok.1
              have hfm : r.fr < (m : Int) := hrok.2
              have hfN : r.fr.toNat < m := by omega
              obtain ⟨rb, hrb⟩ : ∃ b, cloN (⟨(m : Int), 1, rs⟩ : Sc).edges (fun k => decide (k = 0)) m r.fr = b := ⟨_, rfl⟩
              clear hbn hrok e0 e1 e2 el l0 l1 l2 ll
              obtain ⟨⟨e0, e1, e2, el⟩, ⟨l0, l1, l2, ll⟩, ⟨m0, m1, m2, ml⟩, t3, tl⟩ := HCE.out _ HBN.out
              obtain ⟨d0, d1, d2, d3, d4, dl⟩ := HRD.out _ (HB5M.out.trans (HBN.out.mono HB5M.out.size))
              go_upto_region 15 with fail
              refine ordB_below (.quiet 0 (.quiet 2 (.quiet 3 (.quiet 4 (.quiet 5 (.quiet 6 (.quiet 7 (.only 1 (.quiet 8 (.only 9 (.quiet 10 .done))))))))))) (by kernel_rfl) (by kernel_rfl) (by kernel_rfl) (fun _ _ _ _ _ h => h) ?_
              intro Wa hWa
              iterate 7 (first
                | (refine ordB_skip rfl rfl ?_; simp only [Act.put, List.setIfInBounds_toArray, List.set_cons_zero, List.set_cons_succ])
                | (refine ordB_take (v := ?_) rfl rfl ?_ ?_
                   rotate_left 1
                   focus (intro W hW; obtain ⟨hcW, hfW⟩ := bcell hW; (go_simp <;> with_reducible rfl))
                   simp only [Act.put, List.setIfInBounds_toArray, List.set_cons_zero, List.set_cons_succ]))
              refine ordB_only (opB_call rfl rfl (fun K hK => ?_))
              go_simp
              go_at_call 20
              refine (HRE.out Wa hWa).mono ?_
              rintro e Wa_1 ⟨⟨g1, rfl, hg1, hBB⟩, hx1⟩
              refine hK.out _ _ (hWa.trans (hx1.mono hWa.size)) (fun hWa_1 => ?_)
              iterate 1 (first
                | (refine ordB_skip rfl rfl ?_; simp only [Act.put, List.setIfInBounds_toArray, List.set_cons_zero, List.set_cons_succ])
                | (refine ordB_take (v := ?_) rfl rfl ?_ ?_
                   rotate_left 1
                   focus (intro W hW; obtain ⟨hcW, hfW⟩ := bcell hW; (go_simp <;> with_reducible rfl))
                   simp only [Act.put, List.setIfInBounds_toArray, List.set_cons_zero, List.set_cons_succ]))
              refine ordB_only (opB_call rfl rfl (fun K hK => ?_))
              have r0 := hBB.cell hfN
              rw [Int.toNat_of_nonneg hf0, hrb] at r0
              have rl := hBB.lt
              go_simp
              refine hK.out _ _ hWa_1 (fun hWa_1_2 => ?_)
              clear hK K
              obtain ⟨Wa_1_2, rfl⟩ : ∃ V, V = Wa_1 := ⟨_, rfl⟩
              clear r0 rl
              iterate 1 (first
                | (refine ordB_skip rfl rfl ?_; simp only [Act.put, List.setIfInBounds_toArray, List.set_cons_zero, List.set_cons_succ])
                | (refine ordB_take (v := ?_) rfl rfl ?_ ?_
                   rotate_left 1
                   focus (intro W hW; obtain ⟨hcW, hfW⟩ := bcell hW; (go_simp <;> with_reducible rfl))
                   simp only [Act.put, List.setIfInBounds_toArray, List.set_cons_zero, List.set_cons_succ]))
              refine ordB_nil ?_
              have HBQ := Lib.hid (HBN.out.trans (hWa_1_2.mono HBN.out.size))
              obtain ⟨wq, hwq⟩ : ∃ W, Wa_1_2 = W := ⟨_, rfl⟩
              rw [hwq] at HBQ ⊢
              clear hwq hWa_1_2 d0 d1 d2 d3 d4 e0 e1 e2 el l0 l1 l2 ll m0 m1 m2 ml t3 tl
              obtain ⟨⟨e0, e1, e2, el⟩, _, ⟨m0, m1, m2, ml⟩, t3, tl⟩ := HCE.out _ HBQ.out
              obtain ⟨d0, d1, d2, d3, d4, dl⟩ := HRD.out _ (HB5M.out.trans (HBQ.out.mono HB5M.out.size))
              have HRM : Hid (rb = true → RM ⟨(m : Int), 1, rs⟩ r.fr) := fun h => by
                have h1 := (from_iff HOK.out (m0 := 0) (m := r.fr)).1 (by rw [show (⟨(m : Int), 1, rs⟩ : Sc).n.toNat = m from Int.toNat_natCast m, hrb]; exact h)
                exact h1
              go_upto_region 16 with fail
              have hcase : (¬ soundE ⟨(m : Int), 1, rs ++ [⟨r.fr, r.to, r.inp, ox, r.co⟩]⟩ = 0) ∨ (soundE ⟨(m : Int), 1, rs ++ [⟨r.fr, r.to, r.inp, ox, r.co⟩]⟩ = 0 ∧ (ox.toList == r.out.toList) = true) ∨ (soundE ⟨(m : Int), 1, rs ++ [⟨r.fr, r.to, r.inp, ox, r.co⟩]⟩ = 0 ∧ (ox.toList == r.out.toList) = false ∧ rb = false) ∨ (soundE ⟨(m : Int), 1, rs ++ [⟨r.fr, r.to, r.inp, ox, r.co⟩]⟩ = 0 ∧ (ox.toList == r.out.toList) = false ∧ rb = true) := by
                by_cases h1 : soundE ⟨(m : Int), 1, rs ++ [⟨r.fr, r.to, r.inp, ox, r.co⟩]⟩ = 0
                · cases h2 : (ox.toList == r.out.toList) with
                  | true => exact .inr (.inl ⟨h1, rfl⟩)
                  | false =>
                    cases rb with
                    | false => exact .inr (.inr (.inl ⟨h1, rfl, rfl⟩))
                    | true => exact .inr (.inr (.inr ⟨h1, rfl, rfl⟩))
                · exact .inl h1
              rcases hcase with hs | ⟨hs, heq⟩ | ⟨hs, heq, rfl⟩ | ⟨hs, heq, rfl⟩
              · have HSN := Lib.hid (HSNM.out false ⟨fun h => by (cases h), fun h => absurd h hs⟩)
                clear hs
                refine ordB_below (.quiet 0 (.only 1 (.quiet 2 (.quiet 3 (.quiet 4 (.quiet 5 (.quiet 6 (.quiet 7 (.quiet 8 (.quiet 9 (.quiet 10 (.quiet 11 (.quiet 12 (.quiet 13 (.quiet 14 (.quiet 15 (.quiet 16 (.quiet 17 (.quiet 18 (.quiet 19 (.only 20 (.quiet 21 (.quiet 22 (.quiet 23 (.quiet 24 (.quiet 25 (.quiet 26 .done))))))))))))))))))))))))))) (by kernel_rfl) (by kernel_rfl) (by kernel_rfl) (fun _ _ _ _ _ h => h) ?_
                intro U0 hU0
                iterate 1 (first
                  | (refine ordB_skip rfl rfl ?_; simp only [Act.put, List.setIfInBounds_toArray, List.set_cons_zero, List.set_cons_succ])
                  | (refine ordB_take (v := ?_) rfl rfl ?_ ?_
                     rotate_left 1
                     focus (intro W hW; obtain ⟨hcW, hfW⟩ := bcell hW; (go_simp <;> with_reducible rfl))
                     simp only [Act.put, List.setIfInBounds_toArray, List.set_cons_zero, List.set_cons_succ]))
                refine ordB_only (opB_call rfl rfl (fun K hK => ?_))
                go_simp
                go_at_call 16
                refine (HSN.out U0 (HBQ.out.trans (hU0.mono HBQ.out.size))).mono ?_
                rintro e U0_1 ⟨rfl, hq1⟩
                refine hK.out _ _ (hU0.trans (hq1.mono hU0.size)) (fun hU0_1 => ?_)
                iterate 18 (first
                  | (refine ordB_skip rfl rfl ?_; simp only [Act.put, List.setIfInBounds_toArray, List.set_cons_zero, List.set_cons_succ])
                  | (refine ordB_take (v := ?_) rfl rfl ?_ ?_
                     rotate_left 1
                     focus (intro W hW; obtain ⟨hcW, hfW⟩ := bcell hW; (go_simp <;> with_reducible rfl))
                     simp only [Act.put, List.setIfInBounds_toArray, List.set_cons_zero, List.set_cons_succ]))
                refine ordB_only (opB_cskip rfl rfl hU0_1 ?_)
                simp only [Act.put, List.setIfInBounds_toArray, List.set_cons_zero, List.set_cons_succ]
                iterate 6 (first
                  | (refine ordB_skip rfl rfl ?_; simp only [Act.put, List.setIfInBounds_toArray, List.set_cons_zero, List.set_cons_succ])
                  | (refine ordB_take (v := ?_) rfl rfl ?_ ?_
                     rotate_left 1
                     focus (intro W hW; obtain ⟨hcW, hfW⟩ := bcell hW; (go_simp <;> with_reducible rfl))
                     simp only [Act.put, List.setIfInBounds_toArray, List.set_cons_zero, List.set_cons_succ]))
                refine ordB_nil ?_
                go_wp2_with fail
                go_ret
                exact ⟨by simp, HBW.out.trans ((HB5M.out.trans ((HBQ.out.trans (hU0_1.mono HBQ.out.size)).mono HB5M.out.size)).mono HBW.out.size)⟩
              · have HSN := Lib.hid (HSNM.out true ⟨fun _ => hs, fun _ => rfl⟩)
                clear hs
                refine ordB_below (.quiet 0 (.only 1 (.quiet 2 (.quiet 3 (.quiet 4 (.quiet 5 (.quiet 6 (.quiet 7 (.quiet 8 (.quiet 9 (.quiet 10 (.quiet 11 (.quiet 12 (.quiet 13 (.quiet 14 (.quiet 15 (.quiet 16 (.quiet 17 (.quiet 18 (.quiet 19 (.only 20 (.quiet 21 (.quiet 22 (.quiet 23 (.quiet 24 (.quiet 25 (.quiet 26 .done))))))))))))))))))))))))))) (by kernel_rfl) (by kernel_rfl) (by kernel_rfl) (fun _ _ _ _ _ h => h) ?_
                intro U0 hU0
                iterate 1 (first
                  | (refine ordB_skip rfl rfl ?_; simp only [Act.put, List.setIfInBounds_toArray, List.set_cons_zero, List.set_cons_succ])
                  | (refine ordB_take (v := ?_) rfl rfl ?_ ?_
                     rotate_left 1
                     focus (intro W hW; obtain ⟨hcW, hfW⟩ := bcell hW; (go_simp <;> with_reducible rfl))
                     simp only [Act.put, List.setIfInBounds_toArray, List.set_cons_zero, List.set_cons_succ]))
                refine ordB_only (opB_call rfl rfl (fun K hK => ?_))
                go_simp
                go_at_call 16
                refine (HSN.out U0 (HBQ.out.trans (hU0.mono HBQ.out.size))).mono ?_
                rintro e U0_1 ⟨rfl, hq1⟩
                refine hK.out _ _ (hU0.trans (hq1.mono hU0.size)) (fun hU0_1 => ?_)
                iterate 18 (first
                  | (refine ordB_skip rfl rfl ?_; simp only [Act.put, List.setIfInBounds_toArray, List.set_cons_zero, List.set_cons_succ])
                  | (refine ordB_take (v := ?_) rfl rfl ?_ ?_
                     rotate_left 1
                     focus (intro W hW; obtain ⟨hcW, hfW⟩ := bcell hW; (go_simp <;> with_reducible rfl))
                     simp only [Act.put, List.setIfInBounds_toArray, List.set_cons_zero, List.set_cons_succ]))
                refine ordB_only (opB_cskip rfl rfl hU0_1 ?_)
                simp only [Act.put, List.setIfInBounds_toArray, List.set_cons_zero, List.set_cons_succ]
                iterate 6 (first
                  | (refine ordB_skip rfl rfl ?_; simp only [Act.put, List.setIfInBounds_toArray, List.set_cons_zero, List.set_cons_succ])
                  | (refine ordB_take (v := ?_) rfl rfl ?_ ?_
                     rotate_left 1
                     focus (intro W hW; obtain ⟨hcW, hfW⟩ := bcell hW; (go_simp <;> with_reducible rfl))
                     simp only [Act.put, List.setIfInBounds_toArray, List.set_cons_zero, List.set_cons_succ]))
                refine ordB_nil ?_
                go_wp2_with fail
                go_ret
                exact ⟨by simp, HBW.out.trans ((HB5M.out.trans ((HBQ.out.trans (hU0_1.mono HBQ.out.size)).mono HB5M.out.size)).mono HBW.out.size)⟩
              · have HSN := Lib.hid (HSNM.out true ⟨fun _ => hs, fun _ => rfl⟩)
                clear hs
                refine ordB_below (.quiet 0 (.only 1 (.quiet 2 (.quiet 3 (.quiet 4 (.quiet 5 (.quiet 6 (.quiet 7 (.quiet 8 (.quiet 9 (.quiet 10 (.quiet 11 (.quiet 12 (.quiet 13 (.quiet 14 (.quiet 15 (.quiet 16 (.quiet 17 (.quiet 18 (.quiet 19 (.only 20 (.quiet 21 (.quiet 22 (.quiet 23 (.quiet 24 (.quiet 25 (.quiet 26 .done))))))))))))))))))))))))))) (by kernel_rfl) (by kernel_rfl) (by kernel_rfl) (fun _ _ _ _ _ h => h) ?_
                intro U0 hU0
                iterate 1 (first
                  | (refine ordB_skip rfl rfl ?_; simp only [Act.put, List.setIfInBounds_toArray, List.set_cons_zero, List.set_cons_succ])
                  | (refine ordB_take (v := ?_) rfl rfl ?_ ?_
                     rotate_left 1
                     focus (intro W hW; obtain ⟨hcW, hfW⟩ := bcell hW; (go_simp <;> with_reducible rfl))
                     simp only [Act.put, List.setIfInBounds_toArray, List.set_cons_zero, List.set_cons_succ]))
                refine ordB_only (opB_call rfl rfl (fun K hK => ?_))
                go_simp
                go_at_call 16
                refine (HSN.out U0 (HBQ.out.trans (hU0.mono HBQ.out.size))).mono ?_
                rintro e U0_1 ⟨rfl, hq1⟩
                refine hK.out _ _ (hU0.trans (hq1.mono hU0.size)) (fun hU0_1 => ?_)
                iterate 18 (first
                  | (refine ordB_skip rfl rfl ?_; simp only [Act.put, List.setIfInBounds_toArray, List.set_cons_zero, List.set_cons_succ])
                  | (refine ordB_take (v := ?_) rfl rfl ?_ ?_
                     rotate_left 1
                     focus (intro W hW; obtain ⟨hcW, hfW⟩ := bcell hW; (go_simp <;> with_reducible rfl))
                     simp only [Act.put, List.setIfInBounds_toArray, List.set_cons_zero, List.set_cons_succ]))
                refine ordB_only (opB_cskip rfl rfl hU0_1 ?_)
                simp only [Act.put, List.setIfInBounds_toArray, List.set_cons_zero, List.set_cons_succ]
                iterate 6 (first
                  | (refine ordB_skip rfl rfl ?_; simp only [Act.put, List.setIfInBounds_toArray, List.set_cons_zero, List.set_cons_succ])
                  | (refine ordB_take (v := ?_) rfl rfl ?_ ?_
                     rotate_left 1
                     focus (intro W hW; obtain ⟨hcW, hfW⟩ := bcell hW; (go_simp <;> with_reducible rfl))
                     simp only [Act.put, List.setIfInBounds_toArray, List.set_cons_zero, List.set_cons_succ]))
                refine ordB_nil ?_
                go_wp2_with fail
                go_ret
                exact ⟨by simp, HBW.out.trans ((HB5M.out.trans ((HBQ.out.trans (hU0_1.mono HBQ.out.size)).mono HB5M.out.size)).mono HBW.out.size)⟩
              · have HSN := Lib.hid (HSNM.out true ⟨fun _ => hs, fun _ => rfl⟩)
                have HNI := Lib.hid (HISM.out hs (more_not (by have := HMM.out.2; omega) hs HMEM.out heq (HRM.out rfl)))
                clear hs
                refine ordB_below (.quiet 0 (.only 1 (.quiet 2 (.quiet 3 (.quiet 4 (.quiet 5 (.quiet 6 (.quiet 7 (.quiet 8 (.quiet 9 (.quiet 10 (.quiet 11 (.quiet 12 (.quiet 13 (.quiet 14 (.quiet 15 (.quiet 16 (.quiet 17 (.quiet 18 (.quiet 19 (.only 20 (.quiet 21 (.quiet 22 (.quiet 23 (.quiet 24 (.quiet 25 (.quiet 26 .done))))))))))))))))))))))))))) (by kernel_rfl) (by kernel_rfl) (by kernel_rfl) (fun _ _ _ _ _ h => h) ?_
                intro U0 hU0
                iterate 1 (first
                  | (refine ordB_skip rfl rfl ?_; simp only [Act.put, List.setIfInBounds_toArray, List.set_cons_zero, List.set_cons_succ])
                  | (refine ordB_take (v := ?_) rfl rfl ?_ ?_
                     rotate_left 1
                     focus (intro W hW; obtain ⟨hcW, hfW⟩ := bcell hW; (go_simp <;> with_reducible rfl))
                     simp only [Act.put, List.setIfInBounds_toArray, List.set_cons_zero, List.set_cons_succ]))
                refine ordB_only (opB_call rfl rfl (fun K hK => ?_))
                go_simp
                go_at_call 16
                refine (HSN.out U0 (HBQ.out.trans (hU0.mono HBQ.out.size))).mono ?_
                rintro e U0_1 ⟨rfl, hq1⟩
                refine hK.out _ _ (hU0.trans (hq1.mono hU0.size)) (fun hU0_1 => ?_)
                iterate 18 (first
                  | (refine ordB_skip rfl rfl ?_; simp only [Act.put, List.setIfInBounds_toArray, List.set_cons_zero, List.set_cons_succ])
                  | (refine ordB_take (v := ?_) rfl rfl ?_ ?_
                     rotate_left 1
                     focus (intro W hW; obtain ⟨hcW, hfW⟩ := bcell hW; (go_simp <;> with_reducible rfl))
                     simp only [Act.put, List.setIfInBounds_toArray, List.set_cons_zero, List.set_cons_succ]))
                refine ordB_only (opB_call rfl rfl (fun K hK => ?_))
                go_simp
                go_at_call 11
                refine (HNI.out U0_1 (HBQ.out.trans (hU0_1.mono HBQ.out.size))).mono ?_
                rintro e U0_1_2 ⟨rfl, hq2⟩
                refine hK.out _ _ (hU0_1.trans (hq2.mono hU0_1.size)) (fun hU0_1_2 => ?_)
                iterate 6 (first
                  | (refine ordB_skip rfl rfl ?_; simp only [Act.put, List.setIfInBounds_toArray, List.set_cons_zero, List.set_cons_succ])
                  | (refine ordB_take (v := ?_) rfl rfl ?_ ?_
                     rotate_left 1
                     focus (intro W hW; obtain ⟨hcW, hfW⟩ := bcell hW; (go_simp <;> with_reducible rfl))
                     simp only [Act.put, List.setIfInBounds_toArray, List.set_cons_zero, List.set_cons_succ]))
                refine ordB_nil ?_
                go_wp2_with fail
                go_ret
                exact ⟨by simp, HBW.out.trans ((HB5M.out.trans ((HBQ.out.trans (hU0_1_2.mono HBQ.out.size)).mono HB5M.out.size)).mono HBW.out.size)⟩
end Go.Proofs.YtfpnhgahkjglgaaGreat
