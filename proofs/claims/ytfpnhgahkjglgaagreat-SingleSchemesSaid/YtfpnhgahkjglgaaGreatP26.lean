/-
  The walks of layers 05 and 08: the reference's chains, one rule longer.
-/
import Derived.Test.YtfpnhgahkjglgaaGreatP25
import Derived.Test.YtfpnhgahkjglgaaGreatP21
import Derived.Test.YtfpnhgahkjglgaaGreatP14
import Derived.Deep.DeepCutAuto
import Derived.Test.YtfpnhgahkjglgaaGreatP22
import Derived.Laws.Tables
import Derived.Laws.CopyOwn
namespace Go.Proofs.YtfpnhgahkjglgaaGreat
open Go Go.RowKit

/-- The rules that are asked. -/
def askP (silent : Bool) (r : Ru) : Bool := !silent || r.mute
/-- What the next chains are. -/
def IsWk (s : Sc) (silent : Bool) (f : Int → Bool) (n : Nat) (w : World) (e : Ending) (w' : World) : Prop :=
  (∃ ch, e = .returned (.agg (wkC (stepB s (askP silent) f s.rs.length) ch).toArray) ∧ ch.length = 8 ∧
    ∀ (k : Nat) (x : Chn), ch[k]? = some x → (SlT w' x.A x.L ∧ x.L.length ≤ x.c ∧ x.c ≤ maxLen) ∧ x.L.length ≤ n + 1 ∧ (stepB s (askP silent) f s.rs.length (k : Int) = true → x.L.length = n + 1)) ∧ Below w.heap.size w w'
/-- A step is left out. -/
def IsSkip (p : Prop) (v : Value) : Prop := ∃ bb : Bool, v = .bool bb ∧ (bb = true ↔ ¬ p)
theorem IsSkip.mk {p : Prop} {bb : Bool} (h : bb = true ↔ ¬ p) : IsSkip p (.bool bb) := ⟨bb, rfl, h⟩
theorem addB_same {f : Int → Bool} {x : Int} (h : f x = true) : addB f x = f := by
  funext y
  unfold addB
  by_cases e : y = x
  · subst e; simp [h]
  · simp [e]
section
variable {P : Program} {ops : Array Oper} {Q : Exit → Act → World → Prop}
theorem wpList_appS5 {rest : List Oper} {α : Type} {enc : α → List Value} {R : World → α → List Value → Prop} {o : Oper} {a : Act} {w : World} (hgd : o.guard = none) (s x : Operand) (t : TypeId)
    (ho : o.op = .call { callee := .builtin .append, args := #[s, x], argTypes := #[t, t] })
    (base : Nat) (e : TypeId) (i : TypeInfo) (z : Value) (size bytes : Nat) (ht : P.underlying t = some (.slice e)) (hi : P.info? e = some i) (hz : i.zero = some z)
    (hsize : i.size = size) (hby : i.bytes = bytes) (hzs : z.cells.size = size) (hsz : 0 < size)
    (v : Value) (n : Nat) (xs : List Value) (hs : a.eval s = v) (hown : w.ownsRow base e size v n xs)
    (A : Option Addr) (c : Nat) (ys : List α) (hx : a.eval x = .slice A ys.length c) (hr : SlR size R w A ys) (hR : ∀ w x vs, R w x vs → vs = enc x) (hl : ∀ x, (enc x).length = size) (h1 : ∀ u ∈ ys.flatMap enc, u.oneCell' = true)
    (hn : n + ys.length ≤ 1000000) (hbb : bytes ≤ 1000) (hbase : base ≤ w.heap.size)
    (h : ∀ v' w', w'.ownsRow base e size v' (n + ys.length) (xs ++ ys.flatMap enc) → Below base w w' → Apps w w' v v' → wpList P ops Q rest (a.put o.dst v') w') : wpList P ops Q (o :: rest) a w :=
  wpList_plain hgd fun K hK => wp_appS (K := K) s x t ho base e i z size bytes ht hi hz hsize hby hzs hsz v n xs hs hown A c ys hx hr hR hl h1 hn hbb hbase (fun v' w' h1 h2 h3 => hK _ _ (h v' w' h1 h2 h3))
end
/-- A value that says whether something is put. -/
def IsKeep (p : Prop) (v : Value) : Prop := ∃ bb : Bool, v = .bool bb ∧ (bb = false → p)
theorem IsKeep.mk {p : Prop} {bb : Bool} (h : bb = false → p) : IsKeep p (.bool bb) := ⟨bb, rfl, h⟩
theorem wkC_one {f : Int → Bool} {ch : List Chn} : (wkC f ch).toArray.all (·.oneCell') = true := by
  rw [List.all_toArray, List.all_eq_true]
  intro v hv
  rcases List.mem_append.1 hv with h | h
  · obtain ⟨k, _, rfl⟩ := List.mem_map.1 h; rfl
  · obtain ⟨k, _, rfl⟩ := List.mem_map.1 h; rfl
theorem SlT.row_ {w : World} {A : Option Addr} {xs : List Int} {g : Nat} {t : TypeId} {cs : Array Value} (h : SlT w A xs) (hp : Blk w g t cs) (hne : t ≠ 3) (cs' : Array Value) : SlT (w.setRow g cs') A xs := fun hn => by
  obtain ⟨b, off, ds, hA, hB, hc⟩ := h hn
  refine ⟨b, off, ds, hA, ?_, hc⟩
  have hbg : b ≠ g := fun e => by
    unfold Blk at hB hp
    rw [e] at hB
    rw [hB] at hp
    injection hp with hp
    injection hp with _ ht
    exact hne ht.symm
  unfold Blk
  rw [setRow_other _ _ _ _ hbg]
  exact hB
theorem walk_info : (Tryz.prog.info? 203).map (·.size) = some 16 := by kernel_rfl
theorem ints_one {l : List Int} : ∀ u ∈ l.flatMap (fun x => [Value.int .i64 x]), u.oneCell' = true := fun u hu => by
  obtain ⟨x, _, hx⟩ := List.mem_flatMap.1 hu
  rw [List.mem_singleton.1 hx]
  rfl
set_option maxRecDepth 100000 in
set_option maxHeartbeats 8000000 in
theorem rnext_any (s : Sc) (A : Option Addr) (c : Nat) (f : Int → Bool) (ch : List Chn) (silent : Bool) (n : Nat) (w : World) (hs : ScIn w s A c) (hok : ScOK s) (hch : ch.length = 8) (hn9 : n ≤ 8)
    (hwk : ∀ (k : Nat) (x : Chn), ch[k]? = some x → (SlT w x.A x.L ∧ x.L.length ≤ x.c ∧ x.c ≤ maxLen) ∧ x.L.length ≤ n ∧ (f (k : Int) = true → x.L.length = n)) :
    Calls Tryz.prog 117 #[.agg #[.int .i64 s.n, .int .u8 s.acc, .slice A s.rs.length c], .agg (wkC f ch).toArray, .bool silent] w (IsWk s silent f n w) := by
  obtain ⟨i0, hinf, hz0, hz1, hz2⟩ := info_parts cloneI_info
  have HCL := Lib.hid (wkC_len (f := f) hch)
  obtain ⟨ask, hask⟩ : ∃ p, askP silent = p := ⟨_, rfl⟩
  have HASK := Lib.hid hask
  clear hask
  obtain ⟨cw, hcw⟩ : ∃ z, (wkC f ch).toArray = z := ⟨_, rfl⟩
  have HCW := Lib.hid hcw
  rw [hcw]
  obtain ⟨w1, hw1⟩ : ∃ w1, w.alloc (.cells #[.int .i64 s.n, .int .u8 s.acc, .slice A s.rs.length c] 30) = w1 := ⟨_, rfl⟩
  have hb1 : Below w.heap.size w w1 := by rw [← hw1]; exact nw _ (Below.refl _ _)
  have hB : Blk w1 w.heap.size 30 #[.int .i64 s.n, .int .u8 s.acc, .slice A s.rs.length c] := by rw [← hw1]; exact Blk.new _ _ _
  have HW1 := Lib.hid hw1
  have HB1 := Lib.hid hb1
  have HCE : Hid (∀ W, Below w1.heap.size w1 W → W.cell? ⟨w.heap.size, 0, none⟩ = some (.int .i64 s.n) ∧ W.cell? ⟨w.heap.size, 1, none⟩ = some (.int .u8 s.acc) ∧ W.cell? ⟨w.heap.size, 2, none⟩ = some (.slice A s.rs.length c) ∧ w.heap.size < W.heap.size) := fun W hW => by
    have e1 := hB.below hW hB.lt
    exact ⟨by rw [e1.cell]; rfl, by rw [e1.cell]; rfl, by rw [e1.cell]; rfl, e1.lt⟩
  obtain ⟨b0, b1, b2, bl⟩ := HCE.out _ (Below.refl _ _)
  clear hw1 hb1 hB
  go_enter Tryz.func117, Tryz.ntmps117
  go_upto_region 2 with fail
  rw [HW1.out]
  obtain ⟨w2, hw2⟩ : ∃ W, w1.alloc (.cells cw 203) = W := ⟨_, rfl⟩
  have hg2 : w1.heap.size = w.heap.size + 1 := by rw [← HW1.out]; simp
  have hc2 : Blk w2 w1.heap.size 203 (wkC f ch).toArray := by rw [← hw2, HCW.out]; exact Blk.new _ _ _
  have hb2 : Below w1.heap.size w1 w2 := by rw [← hw2]; exact nw _ (Below.refl _ _)
  have hs2 : w2.heap.size = w1.heap.size + 1 := by rw [← hw2]; simp
  rw [hw2]
  obtain ⟨w3, hw3⟩ : ∃ W, w2.alloc (.cells #[.bool false, .bool false, .bool false, .bool false, .bool false, .bool false, .bool false, .bool false, .slice none 0 0, .slice none 0 0, .slice none 0 0, .slice none 0 0, .slice none 0 0, .slice none 0 0, .slice none 0 0, .slice none 0 0] 203) = W := ⟨_, rfl⟩
  have hc3 : Blk w3 w2.heap.size 203 #[.bool false, .bool false, .bool false, .bool false, .bool false, .bool false, .bool false, .bool false, .slice none 0 0, .slice none 0 0, .slice none 0 0, .slice none 0 0, .slice none 0 0, .slice none 0 0, .slice none 0 0, .slice none 0 0] := by rw [← hw3]; exact Blk.new _ _ _
  have hb3 : Below w2.heap.size w2 w3 := by rw [← hw3]; exact nw _ (Below.refl _ _)
  have hs3 : w3.heap.size = w2.heap.size + 1 := by rw [← hw3]; simp
  rw [hw3]
  obtain ⟨w4, hw4⟩ : ∃ W, w3.alloc (.cells #[.bool false, .bool false, .bool false, .bool false, .bool false, .bool false, .bool false, .bool false, .slice none 0 0, .slice none 0 0, .slice none 0 0, .slice none 0 0, .slice none 0 0, .slice none 0 0, .slice none 0 0, .slice none 0 0] 203) = W := ⟨_, rfl⟩
  have hc4 : WkIn w4 w3.heap.size (fun _ => false) (List.replicate 8 ⟨none, [], 0⟩) (n + 1) := by rw [← hw4]; exact WkIn.new _ _
  have hb4 : Below w3.heap.size w3 w4 := by rw [← hw4]; exact nw _ (Below.refl _ _)
  rw [hw4]
  obtain ⟨g1, e1⟩ : ∃ g, w.heap.size + 1 = g := ⟨_, rfl⟩
  rw [e1]
  obtain ⟨g2, e2⟩ : ∃ g, g1 + 1 = g := ⟨_, rfl⟩
  rw [e2]
  obtain ⟨g3, e3⟩ : ∃ g, g2 + 1 = g := ⟨_, rfl⟩
  rw [e3]
  have k1 : w1.heap.size = g1 := by omega
  have k2 : w2.heap.size = g2 := by omega
  have k3 : w3.heap.size = g3 := by omega
  rw [k1] at hc2
  rw [k2] at hc3
  rw [k3] at hc4
  have HB3 := Lib.hid (bthen hb2 hb3)
  have HC2 : Hid (∀ W, Below w3.heap.size w3 W → Blk W g1 203 (wkC f ch).toArray) := fun W hW => (hc2.below hb3 hc2.lt).below hW (by omega)
  have HC3 : Hid (∀ W, Below w3.heap.size w3 W → Blk W g2 203 #[.bool false, .bool false, .bool false, .bool false, .bool false, .bool false, .bool false, .bool false, .slice none 0 0, .slice none 0 0, .slice none 0 0, .slice none 0 0, .slice none 0 0, .slice none 0 0, .slice none 0 0, .slice none 0 0]) := fun W hW => hc3.below hW hc3.lt
  have HG3 : Hid (w3.heap.size = g3 ∧ w.heap.size ≤ g2) := by show _ ∧ _; omega
  have HB4 := Lib.hid hb4
  have HC4 := Lib.hid hc4
  have HS := Lib.hid hs
  have hl := hs.len
  have HOK := Lib.hid hok
  have HWK := Lib.hid hwk
  clear hw2 hw3 hw4 hb2 hb3 hb4 hc2 hc3 hc4 hs2 hs3 e1 e2 e3 k1 k2 hg2 hs hok hwk hcw b0 b1 b2 bl
  go_wp2_with fail
  go_loopw [8] (fun iv wr => ∃ (k : Nat) (ch' : List Chn), k ≤ s.rs.length ∧ iv = .int .i64 (k : Int) ∧ Hid (WkIn wr g3 (stepB s ask f k) ch' (n + 1)) ∧ Below w3.heap.size w3 wr) (fun iv _ => s.rs.length - (intOf iv).toNat)
  case atStart => exact ⟨0, _, by omega, rfl, HC4.out, HB4.out⟩
  case round =>
    obtain ⟨wR, rfl⟩ : ∃ W, W = wr := ⟨wr, rfl⟩
    obtain ⟨k, ch', hk, rfl, HV, hbr⟩ := hrel
    have HBR := Lib.hid hbr
    clear hbr
    obtain ⟨b0, b1, b2, bl⟩ := HCE.out _ (bthen HB3.out HBR.out)
    by_cases hlt : k < s.rs.length
    · obtain ⟨b, off, t, rfl, hbb, hxx, d0, d1, d2, d3, d4⟩ := ((HS.out.below (bthen HB1.out (bthen HB3.out HBR.out))).sl).ru hlt
      have htm := List.mem_of_getElem? hxx
      have hru := HOK.out.2.2.2.1 t htm
      have hn := HOK.out.1
      have hm1 : 0 ≤ t.fr ∧ t.fr < 8 := by have := hru.1; omega
      have hm2 : 0 ≤ t.to ∧ t.to < 8 := by have := hru.1; omega
      have hki : (k : Int) < (s.rs.length : Int) := by omega
      have hk0 : (0 : Int) ≤ (k : Int) := by omega
      obtain ⟨fa, hfa⟩ : ∃ q : Nat, t.fr = (q : Int) := ⟨t.fr.toNat, by omega⟩
      obtain ⟨ta, hta⟩ : ∃ q : Nat, t.to = (q : Int) := ⟨t.to.toNat, by omega⟩
      have hfa8 : fa < 8 := by omega
      have hta8 : ta < 8 := by omega
      rw [hfa] at d0
      rw [hta] at d1
      have HT := Lib.hid (And.intro hxx (And.intro hfa hta))
      clear hxx htm hru hn hm1 hm2 hfa hta
      go_upto_region 6 with fail
      obtain ⟨b9, hb9⟩ : ∃ x, wR.heap.size = x := ⟨_, rfl⟩
      obtain ⟨X1, hX1⟩ : ∃ W, wR.alloc (.cells #[.int .i64 (fa : Int), .int .i64 (ta : Int), .string t.inp, .string t.out, .int .i64 t.co] 61) = W := ⟨_, rfl⟩
      have hB9 : Blk X1 b9 61 #[.int .i64 (fa : Int), .int .i64 (ta : Int), .string t.inp, .string t.out, .int .i64 t.co] := by rw [← hX1]; exact Blk.new_ hb9.symm
      have hX : Below wR.heap.size wR X1 := by rw [← hX1]; exact nw _ (Below.refl _ _)
      rw [hb9, hX1]
      have HV1 := Lib.hid (HV.out.below hX)
      have hgb : g3 < b9 := by have := HV.out.lt; omega
      have hgb1 : ¬ g3 = b9 := by omega
      have hgb2 : ¬ b9 = g3 := by omega
      have hta9 : ¬ ta = 8 + ta := by omega
      have HBX := Lib.hid (HBR.out.trans (hX.mono HBR.out.size))
      clear hX1 hb9 hX d0 d1 d2 d3 d4 hbb b0 b1 b2 bl HV
      have h2 := HC2.out X1 HBX.out
      have q0 := h2.cell fa
      rw [List.getElem?_toArray, wkC_is hfa8] at q0
      have ql := h2.lt
      have p0 := hB9.cell 0
      have p1 := hB9.cell 1
      have p2 := hB9.cell 2
      have pl := hB9.lt
      simp at p0 p1 p2
      have hf0 : (0 : Int) ≤ (fa : Int) := by omega
      have hf1 : (fa : Int) < 8 := by omega
      have ht0 : (0 : Int) ≤ (ta : Int) := by omega
      have ht1 : (ta : Int) < 8 := by omega
      have HB9 := Lib.hid hB9
      clear h2 hB9
      go_cut [2, 37] (fun s2 s37 W => s2 = .bool silent ∧ IsSkip (f (fa : Int) = true ∧ ask t = true) s37 ∧ X1 = W)
      case first =>
        cases hf : f (fa : Int) with
        | false =>
          rw [hf] at q0
          go_wp2_with fail
          go_meet
          exact ⟨rfl, .mk ⟨fun _ h => (by rw [hf] at h; cases h.1), fun _ => rfl⟩, rfl⟩
        | true =>
          rw [hf] at q0
          cases hs : silent with
          | false =>
            have hat : ask t = true := by rw [← HASK.out, hs]; rfl
            have HAT := Lib.hid hat
            have HF := Lib.hid hf
            clear hat hf
            go_wp2_with fail
            go_meet
            exact ⟨by rw [hs], .mk ⟨fun h => (by cases h), fun h => absurd ⟨HF.out, HAT.out⟩ h⟩, rfl⟩
          | true =>
            by_cases hm : t.inp.size = 0
            · have hat : ask t = true := by rw [← HASK.out, hs]; exact decide_eq_true hm
              have HAT := Lib.hid hat
              have HF := Lib.hid hf
              have h1 : t.inp.toList = [] := by rw [Lib.toList_data]; exact List.length_eq_zero_iff.1 hm
              clear hat hf
              go_wp2_with fail
              go_meet
              exact ⟨by rw [hs], .mk ⟨fun h => (by cases h), fun h => absurd ⟨HF.out, HAT.out⟩ h⟩, rfl⟩
            · have hat : ask t = false := by rw [← HASK.out, hs]; exact decide_eq_false hm
              have HAT := Lib.hid hat
              have h1 : ¬ t.inp.toList = [] := fun e => hm (by rw [Lib.toList_data] at e; have := congrArg List.length e; exact this)
              have h2 : t.inp.toList.isEmpty = false := by simpa using h1
              clear hat hf
              go_wp2_with fail
              go_meet
              exact ⟨by rw [hs], .mk ⟨fun _ h => (by rw [HAT.out] at h; cases h.2), fun _ => rfl⟩, rfl⟩
      case rest =>
        obtain ⟨rfl, hsk, rfl⟩ := hcut
        obtain ⟨bb, rfl, hbb⟩ := hsk
        have HBB := Lib.hid hbb
        clear hbb
        cases hbv : bb with
        | true =>
          have HNO : Hid (¬ (f (fa : Int) = true ∧ ask t = true)) := HBB.out.1 hbv
          go_wp2_with fail
          go_roundw
          case rel => exact ⟨k + 1, ch', by omega, by go_num, (by show WkIn _ _ _ _ _; rw [stepB_no HT.out.1 (by rw [HT.out.2.1]; exact HNO.out)]; exact HV1.out), HBX.out⟩
          case measure => simp [intOf]; omega
        | false =>
          have HYES : Hid (f (fa : Int) = true ∧ ask t = true) := Classical.byContradiction fun h => by have := HBB.out.2 h; rw [hbv] at this; cases this
          obtain ⟨x, hx⟩ : ∃ x, ch[fa]? = some x := ⟨_, List.getElem?_eq_getElem (by have := hch; omega)⟩
          obtain ⟨⟨hxs, hxc, hxm⟩, hxn, hxe⟩ := HWK.out fa x hx
          have hxl : x.L.length = n := hxe HYES.out.1
          have q8 := (HC2.out X1 HBX.out).cell (8 + fa)
          rw [List.getElem?_toArray, wkC_l, hx] at q8
          have q8 : X1.cell? ⟨g1, 8 + fa, none⟩ = some (.slice x.A x.L.length x.c) := q8
          have HXS := Lib.hid (hxs.below (bthen HB1.out (bthen HB3.out HBX.out)))
          clear hx hxs hxe HBB
          go_upto_region 9 with (first
            | (at_builtin; go_loud (refine wpList_appS5 (enc := fun x => [Value.int .i64 x]) (R := RInt) rfl _ _ 99 rfl X1.heap.size 3 i0 _ 1 8 Tryz.underlying99 hinf hz0 hz1 hz2 rfl (by decide) v5 _ _ rfl (hown5.alloc _) (some ⟨X5.heap.size, 0, none⟩) 1 [(k : Int)] rfl (slr_blkR (enc := fun x => [Value.int .i64 x]) (Blk.new_ rfl) (fun _ => rfl) (fun _ => rfl)) (fun _ _ _ h => h) (fun _ => rfl) ints_one (by simp; omega) (by decide) (by have := hb5.size; simp at this ⊢; omega) ?_; intro v6 X6 hown6 hb6 ha6))
            | (at_builtin; go_loud (refine wpList_appS5 (enc := fun x => [Value.int .i64 x]) (R := RInt) rfl _ _ 99 rfl X1.heap.size 3 i0 _ 1 8 Tryz.underlying99 hinf hz0 hz1 hz2 rfl (by decide) (.slice (some ⟨X1.heap.size, 0, none⟩) 0 0) 0 [] rfl (own_empty X1 _ _ _ (Nat.le_refl _)) x.A x.c x.L rfl ((HXS.out.below (nw _ (Below.refl _ _))).slr) (fun _ _ _ h => h) (fun _ => rfl) ints_one (by omega) (by decide) (by simp) ?_; intro v5 X5 hown5 hb5 ha5)))
          have e6 : (x.L ++ [(k : Int)]).length = n + 1 := by simp; omega
          have h6 : X6.ownsRow X1.heap.size 3 1 v6 (n + 1) ((x.L ++ [(k : Int)]).map (Value.int .i64)) := by
            have e : 0 + x.L.length + [(k : Int)].length = n + 1 := by simp; omega
            rw [e, ou_flat, ou_flat] at hown6
            simpa using hown6
          obtain ⟨B6, c6, rfl, hc6, hcm6, hs6⟩ := own_slt h6 e6.symm
          have hb15 : Below X1.heap.size X1 X5 := (nw _ (Below.refl _ _)).trans hb5
          have hb16 : Below X1.heap.size X1 X6 := (hb15.alloc hb15.size _).trans hb6
          have HV6 := Lib.hid (HV1.out.below hb16)
          have HBX6 := Lib.hid (HBX.out.trans (hb16.mono HBX.out.size))
          have HB96 := Lib.hid (HB9.out.below hb16 HB9.out.lt)
          have HS6 := Lib.hid hs6
          obtain ⟨y, hy⟩ := HV6.out.get hta8
          have HY := Lib.hid hy
          have r0 := HV6.out.is hta8
          have r8 := HV6.out.l hy
          have rl := HV6.out.lt
          have p1 := HB96.out.cell 1
          have pl := HB96.out.lt
          simp at p1
          have HBF : Hid (Calls Tryz.prog 118 #[.slice B6 (n + 1) c6, .slice y.A y.L.length y.c] X6 fun e w' => IsBool e ∧ Below X6.heap.size X6 w') := by
            have h := rbefore04_any B6 y.A (x.L ++ [(k : Int)]) y.L c6 y.c X6 hs6.slr (HV6.out.ok _ _ hy).1.1.slr (by rw [e6]; omega)
            rw [e6] at h
            exact h
          clear hown6 h6 hb5 hb6 ha5 ha6 hb15 hb16 hs6 hy hown5 q0 q8 ql p0 p2 HV1 HBX HB9 HXS
          go_cut [63] (fun s63 W => IsKeep (stepB s ask f k (ta : Int) = true) s63 ∧ Below X6.heap.size X6 W)
          case first =>
            cases hst : stepB s ask f k (ta : Int) with
            | false =>
              rw [hst] at r0
              go_wp2_with fail
              go_meet
              exact ⟨.mk (fun h => by cases h), Below.refl _ _⟩
            | true =>
              rw [hst] at r0
              have HST := Lib.hid hst
              clear hst
              go_wp2_with (go_at_call 118; go_loud (refine HBF.out.mono ?_; rintro e W7 ⟨⟨bv, rfl⟩, hb7⟩))
              go_meet
              exact ⟨.mk (fun _ => HST.out), hb7⟩
          case rest =>
            obtain ⟨X7, rfl⟩ : ∃ W, W = wc := ⟨wc, rfl⟩
            obtain ⟨⟨bb, rfl, hbb⟩, hb7⟩ := hcut
            have HV7 := Lib.hid (HV6.out.below hb7)
            have HBX7 := Lib.hid (HBX6.out.trans (hb7.mono HBX6.out.size))
            have HS7 := Lib.hid (HS6.out.below hb7)
            have hB97 := HB96.out.below hb7 HB96.out.lt
            have p1 := hB97.cell 1
            have pl := hB97.lt
            simp at p1
            have r0 := HV7.out.is hta8
            have r8 := HV7.out.l HY.out
            have rl := HV7.out.lt
            have rf0 := HV7.out.frozen ta
            have rf8 := HV7.out.frozen (8 + ta)
            have HKP := Lib.hid hbb
            clear hb7 hB97 HV6 HBX6 HB96 HBF hbb
            cases hbv : bb with
            | true =>
              have hPUT := HV7.out.put hta8 (x := ⟨B6, x.L ++ [(k : Int)], c6⟩) HS7.out ⟨by show (x.L ++ [(k : Int)]).length ≤ c6; omega, hcm6⟩ e6
              have e7 : vCh ⟨B6, x.L ++ [(k : Int)], c6⟩ = .slice B6 (n + 1) c6 := by show Value.slice B6 (x.L ++ [(k : Int)]).length c6 = _; rw [e6]
              rw [e7] at hPUT
              have HPUT := Lib.hid hPUT
              clear hPUT e7
              go_wp2_with fail
              go_roundw
              case rel => exact ⟨k + 1, _, by omega, by go_num, (by show WkIn _ _ _ _ _; rw [stepB_yes HT.out.1 (by rw [HT.out.2.1]; exact HYES.out), HT.out.2.2]; exact HPUT.out), (HBX7.out.setCell (p := ⟨g3, ta, none⟩) (Nat.le_of_eq HG3.out.1) _).setCell (p := ⟨g3, 8 + ta, none⟩) (Nat.le_of_eq HG3.out.1) _⟩
              case measure => simp [intOf]; omega
            | false =>
              have HSAME : Hid (addB (stepB s ask f k) (ta : Int) = stepB s ask f k) := addB_same (HKP.out hbv)
              go_wp2_with fail
              go_roundw
              case rel => exact ⟨k + 1, ch', by omega, by go_num, (by show WkIn _ _ _ _ _; rw [stepB_yes HT.out.1 (by rw [HT.out.2.1]; exact HYES.out), HT.out.2.2, HSAME.out]; exact HV7.out), HBX7.out⟩
              case measure => simp [intOf]; omega
    · have hki : ¬ (k : Int) < (s.rs.length : Int) := by omega
      obtain rfl : k = s.rs.length := by omega
      have HCR := Lib.hid (HC3.out wR HBR.out)
      have HSZ : Hid ((Tryz.prog.info? 203).map (·.size) = some (wkC (stepB s ask f s.rs.length) ch').toArray.size) := by
        show _ = _
        rw [walk_info, List.size_toArray, wkC_len HV.out.len]
      have HOLD : Hid (#[Value.bool false, .bool false, .bool false, .bool false, .bool false, .bool false, .bool false, .bool false, .slice none 0 0, .slice none 0 0, .slice none 0 0, .slice none 0 0, .slice none 0 0, .slice none 0 0, .slice none 0 0, .slice none 0 0].size = (wkC (stepB s ask f s.rs.length) ch').toArray.size) := by show (16 : Nat) = (wkC (stepB s ask f s.rs.length) ch').toArray.size; rw [List.size_toArray, wkC_len HV.out.len]
      go_upto_region 12 with fail
      go_wp2_with (first | (refine wpList_load_row rfl 203 _ rfl g3 rfl 203 (wkC (stepB s ask f s.rs.length) ch').toArray (0, 0) _ HV.out.blk Tryz.underlying203 rfl HSZ.out ?_) | (refine wpList_store_row rfl 203 _ _ rfl g2 (wkC (stepB s ask f s.rs.length) ch').toArray rfl rfl 203 _ HCR.out HSZ.out HOLD.out wkC_one ?_))
      (try simp only [Exit.inBlock, Exit.then])
      refine ret_cell (t := 203) (cs := (wkC (stepB s ask f s.rs.length) ch').toArray) (setRow_heap _ _ _ _ _ _ HCR.out) rfl rfl Tryz.underlying203 rfl HSZ.out rfl ?_
      refine ⟨⟨ch', by rw [HASK.out], HV.out.len, fun k x hx => ?_⟩, below_setRow (bthen HB1.out (bthen HB3.out HBR.out)) HG3.out.2 _⟩
      obtain ⟨h1, h2, h3⟩ := HV.out.ok k x hx
      exact ⟨⟨h1.1.row_ HCR.out (by decide) _, h1.2⟩, h2, fun h => h3 (by rw [← HASK.out]; exact h)⟩
end Go.Proofs.YtfpnhgahkjglgaaGreat
