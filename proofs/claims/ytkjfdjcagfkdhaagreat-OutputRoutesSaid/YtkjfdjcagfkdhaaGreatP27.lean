/-
  OuGoesP, OuGoesW, OuLawA, OuLawB, joined. No conditions.
-/
import Derived.Test.YtkjfdjcagfkdhaaGreatP25
import Derived.Test.YtkjfdjcagfkdhaaGreatP23
import Derived.Test.YtkjfdjcagfkdhaaGreatP26
import Derived.Test.YtkjfdjcagfkdhaaGreatP21
import Derived.Laws.EntriesVeiled
/-
  Whether an input goes on, by the modes alone; a look into a map or none.
-/
namespace Go.Proofs.YtkjfdjcagfkdhaaGreat
open Go Go.RowKit Go.Maps

theorem nilInt (k : Int) (W : World) : (Instr.lookup 102 (.map none) (.int .i64 k) true).run Tryz.prog W = .ok (.tuple #[.int .i64 0, .bool false]) W := by kernel_rfl
/-- 'v, ok := m[k]', at a map or none. -/
theorem tabO_lookup_ok (w : World) {ops : Array Oper} {rest : List Oper} {o : Oper} {a : Act} {Q : Exit → Act → World → Prop} (hg : o.guard = none) (m x : Operand) (hop : o.op = Op.lookup 102 m x true) {b : Option Nat} {n : Nat} {M : Int → Option Int} (hm : a.eval m = .map b)
    (h : TabO Tryz.prog 3 3 (fun k : Int => Value.int .i64 k) w b n M) (k : Int) (hx : a.eval x = .int .i64 k) (hk : KOk Tryz.prog 3 (fun k : Int => Value.int .i64 k) k)
    (hK : wpList Tryz.prog ops Q rest (a.put o.dst (.tuple #[.int .i64 ((M k).getD 0), .bool (M k).isSome])) w) : wpList Tryz.prog ops Q (o :: rest) a w := by
  cases b with
  | some b => exact tab_lookup_ok ktInt w hg m x hop hm h k hx hk hK
  | none =>
    refine wpList_plain hg fun K' hK' => ?_
    have h : ∀ k, M k = none := h
    rw [h k] at hK
    unfold Oper.wp
    simp [execOp, hop, hm, hx, nilInt, Result.andThen]
    exact hK' _ _ hK
/-- In a sound scheme all modes that are reached are marked. -/
theorem live_marked {s : Sc} {N : Nat} {f : Int → Bool} (hok : ScOK s) (hsp : SoundP s) (hN : s.n = (N : Int)) (ha : AccF s N f) (hc : ShutF s f) : ∀ r ∈ s.rs, RM s r.fr → f r.to = true := fun r hr hm => by
  have key : ∀ m, LV s m → 0 ≤ m ∧ m < (N : Int) → f m = true := fun m h => by
    unfold LV at h
    induction h with
    | base h1 => exact fun h2 => ha _ h2.1 h2.2 h1
    | @step e h1 h2 ih =>
      intro _
      obtain ⟨x, hx, rfl⟩ := List.mem_map.1 h2
      have h3 := (hok.2.2.2.1 x hx)
      refine hc x hx (ih ⟨h3.1.2.1, ?_⟩)
      have h4 := h3.1.2.2
      rw [hN] at h4
      exact h4
  have h3 := hok.2.2.2.1 r hr
  have hm2 : RM s r.to := rm_step hm hr
  exact key _ (hsp.stuck _ hm2) ⟨h3.1.2.1, by have := h3.1.2.2; omega⟩
section
variable {s : Sc} {f : Int → Bool} {inp : ByteArray} {M : Int → Option Int}
theorem at_end {i : Nat} (hi : i ≤ inp.size) (hl : ∀ r ∈ s.rs, RM s r.fr → f r.to = true) (hM : Holds M (Rch (modeS s f) 0 (bl (inp.extract 0 i)) (inp.extract 0 i).size)) (m : Int) : M m ≠ none ↔ ∃ t o c, bl t = (bl inp).take i ∧ Rte s m t o c := by
  have hbl : bl (inp.extract 0 i) = (bl inp).take i := by
    unfold bl
    simp
  have hsz : (inp.extract 0 i).size = i := by simp; omega
  have e1 : M m ≠ none ↔ ∃ c, Rch (modeS s f) 0 (bl (inp.extract 0 i)) (inp.extract 0 i).size m c := by
    constructor
    · intro h
      cases hm : M m with
      | none => exact absurd hm h
      | some c => exact ⟨c, ((hM m).1 c hm).1⟩
    · rintro ⟨c, hc⟩ h
      exact (hM m).2 h c hc
  rw [e1]
  constructor
  · rintro ⟨c, hc⟩
    obtain ⟨o, ho⟩ := (mode_rch hl).1 hc
    obtain ⟨t, h1, h2⟩ := pair_rte ho
    refine ⟨t, o, c, ?_, h2⟩
    rw [h1, hsz, hbl, List.take_take, Nat.min_self]
  · rintro ⟨t, o, c, h1, h2⟩
    refine ⟨c, (mode_rch hl).2 ⟨o, ?_⟩⟩
    have h3 := rte_pair h2 (inp := bl (inp.extract 0 i)) (by rw [hbl, h1]; exact List.prefix_rfl)
    have h4 : t.size = i := by rw [← bl_len, h1, List.length_take, bl_len]; omega
    rw [h4] at h3
    rw [hsz]
    exact h3
/-- Some mode is held at the end. -/
theorem goes_whole (hl : ∀ r ∈ s.rs, RM s r.fr → f r.to = true) (hM : Holds M (Rch (modeS s f) 0 (bl inp) inp.size)) {m : Int} (h : M m ≠ none) : GoesP s inp := by
  have e : inp.extract 0 inp.size = inp := by simp
  have h2 := at_end (i := inp.size) (inp := inp) (M := M) (Nat.le_refl _) hl (by rw [e]; exact hM) m
  obtain ⟨t, o, c, h3, h4⟩ := h2.1 h
  have h5 : t = inp := bl_inj (by rw [h3, ← bl_len, List.take_length])
  exact .inl ⟨m, o, c, by rw [← h5]; exact h4⟩
/-- None leads on behind this place: the rules' first j looked at, at the place a. -/
def NotAt (s : Sc) (inp : ByteArray) (i j : Nat) : Prop := ∀ t o c x k, k < j → s.rs[k]? = some x → bl t = (bl inp).take i → Rte s x.fr t o c → ¬ (bl inp).drop i <+: bl x.inp
theorem goes_none (hl : ∀ r ∈ s.rs, RM s r.fr → f r.to = true) (hM : Holds M (Rch (modeS s f) 0 (bl inp) inp.size)) (h : ∀ m, M m = none) (ha : ∀ i, i < inp.size → NotAt s inp i s.rs.length) : ¬ GoesP s inp := by
  have e : inp.extract 0 inp.size = inp := by simp
  rintro (⟨m, o, c, h1⟩ | ⟨i, t, o, c, r, h1, h2, h3, h4, h5⟩)
  · refine (at_end (i := inp.size) (inp := inp) (M := M) (Nat.le_refl _) hl (by rw [e]; exact hM) m).2 ⟨inp, o, c, by rw [← bl_len, List.take_length], h1⟩ (h m)
  · obtain ⟨k, hk⟩ := List.mem_iff_getElem?.1 h3
    exact ha i h1 t o c r k (List.getElem?_eq_some_iff.1 hk).1 hk h2 h4 h5
theorem NotAt.zero {i : Nat} : NotAt s inp i 0 := fun _ _ _ _ _ h => absurd h (Nat.not_lt_zero _)
theorem NotAt.succ {i j : Nat} {x : Ru} (h : NotAt s inp i j) (hx : s.rs[j]? = some x) (hn : (¬ ∃ t o c, bl t = (bl inp).take i ∧ Rte s x.fr t o c) ∨ ¬ (bl inp).drop i <+: bl x.inp) : NotAt s inp i (j + 1) := fun t o c y k hk hy h1 h2 h3 => by
  rcases Nat.lt_succ_iff_lt_or_eq.1 hk with h4 | rfl
  · exact h t o c y k h4 hy h1 h2 h3
  · rw [hx] at hy
    obtain rfl := Option.some.inj hy
    rcases hn with hn | hn
    · exact hn ⟨t, o, c, h1, h2⟩
    · exact hn h3
theorem goes_at {i : Nat} {x : Ru} (hi : i < inp.size) (hx : x ∈ s.rs) (hm : ∃ t o c, bl t = (bl inp).take i ∧ Rte s x.fr t o c) (hp : (bl inp).drop i <+: bl x.inp) : GoesP s inp := by
  obtain ⟨t, o, c, h1, h2⟩ := hm
  exact .inr ⟨i, t, o, c, x, hi, h1, hx, h2, hp⟩
theorem rte_rm {m : Int} {t o : ByteArray} {c : Int} (h : Rte s m t o c) : RM s m := by
  induction h with
  | nil => exact .base rfl
  | snoc h1 h2 h3 ih => exact rm_step (by rw [h3]; exact ih) h2
end
/-- What Goes answers. -/
def GoesOf (s : Sc) (inp : ByteArray) (b : Bool) : Prop := b = true ↔ soundE s = 0 ∧ letB inp = true ∧ GoesP s inp
/-- A mode that is reached, as a key. -/
theorem mode_facts {s : Sc} (hs : ScOK s) {f : Int → Bool} (hf : FlatR s) {inp : ByteArray} (hi : inp.size ≤ 40) {i : Nat} {k d : Int} (hil : i ≤ inp.size) (h : Rch (modeS s f) 0 (bl inp) i k d) : KOk Tryz.prog 3 (fun k : Int => Value.int .i64 k) k ∧ 0 ≤ d ∧ d ≤ 1000000 := by
  have hF := mode_flat hf f (bl inp)
  have h5 := rch_cost (S := modeS s f) (scOK_cost hs) h
  have h6 := rch_costB hF (fun r hr => (hs.2.2.2.1 r hr).2.2.2) i k d h
  have h7 : RM s k := rch_rm (S := modeS s f) (s := s) rfl (mode_goes s f) rfl h
  have h8 := rm_range hs h7
  have hn := hs.1
  exact ⟨keyInt_ok (wf_small (by omega) (by omega)), h5, by omega⟩
end Go.Proofs.YtkjfdjcagfkdhaaGreat

/-
  The walk of layer 05: whether an input goes on.
-/
namespace Go.Proofs.YtkjfdjcagfkdhaaGreat
open Go Go.RowKit Go.Maps

/-- What Goes answers and leaves. -/
def IsGoes (s : Sc) (inp : ByteArray) (w : World) (e : Ending) (w' : World) : Prop := (∃ b, e = .returned (.bool b) ∧ GoesOf s inp b) ∧ Below w.heap.size w w'
theorem GoesOf.no {s : Sc} {inp : ByteArray} (h : ¬ (soundE s = 0 ∧ letB inp = true)) : GoesOf s inp false := ⟨fun h => (by cases h), fun h2 => absurd ⟨h2.1, h2.2.1⟩ h⟩
set_option maxRecDepth 100000 in
set_option maxHeartbeats 8000000 in
theorem goes05_any (s : Sc) (A : Option Addr) (c : Nat) (inp : ByteArray) (w : World) (hs : ScIn w s A c) (hfl : ScOK s → SoundP s → FlatR s) (hin : inp.size ≤ maxLen) :
    Calls Tryz.prog 16 #[.agg #[.int .i64 s.n, .int .u8 s.acc, .slice A s.rs.length c], .string inp] w (IsGoes s inp w) := by
  obtain ⟨w1, hw1⟩ : ∃ w1, w.alloc (.cells #[.int .i64 s.n, .int .u8 s.acc, .slice A s.rs.length c] 29) = w1 := ⟨_, rfl⟩
  obtain ⟨g, hg⟩ : ∃ g, w.heap.size = g := ⟨_, rfl⟩
  have hb1 : Below w.heap.size w w1 := by rw [← hw1]; exact nw _ (Below.refl _ _)
  have hB : Blk w1 g 29 #[.int .i64 s.n, .int .u8 s.acc, .slice A s.rs.length c] := by rw [← hw1, ← hg]; exact Blk.new _ _ _
  have HW1 := Lib.hid hw1
  have HG := Lib.hid hg
  have HB1 := Lib.hid hb1
  have HBX := Lib.hid hB
  have HS := Lib.hid hs
  have HFL := Lib.hid hfl
  have HSO : Hid (∀ W, Below w1.heap.size w1 W → Calls Tryz.prog 24 #[.agg #[.int .i64 s.n, .int .u8 s.acc, .slice A s.rs.length c]] W fun e w' => e = .returned (.bool (decide (soundE s = 0))) ∧ Below W.heap.size W w') := fun W hW => osound05_any s A c W (hs.below (bthen hb1 hW))
  have HLE : Hid (∀ W : World, Calls Tryz.prog 25 #[.string inp] W fun e w' => e = .returned (.bool (letB inp)) ∧ W = w') := fun W => letters_any inp W hin
  have b0 := hB.cell 0
  have b1 := hB.cell 1
  have b2 := hB.cell 2
  have bl_ := hB.lt
  simp at b0 b1 b2
  clear hw1 hg hb1 hB hs hfl
  cases hso : decide (soundE s = 0) with
  | false =>
    have HC : Hid (GoesOf s inp false) := GoesOf.no (fun h => of_decide_eq_false hso h.1)
    rw [hso] at HSO
    clear hso
    go_enter Tryz.func16, Tryz.ntmps16
    go_upto_region 1 with fail
    rw [HW1.out, HG.out]
    go_wp2_with (first | (go_at_call 24; go_loud (refine (HSO.out _ (Below.refl _ _)).mono ?_; rintro e w2 ⟨rfl, hb2⟩)) | (go_at_call 25; refine (HLE.out _).mono ?_; rintro e w' ⟨rfl, rfl⟩))
    go_ret
    exact ⟨⟨false, rfl, HC.out⟩, HB1.out.trans (hb2.mono HB1.out.size)⟩
  | true =>
    rw [hso] at HSO
    have HSE := Lib.hid (of_decide_eq_true hso)
    clear hso
    cases hle : letB inp with
    | false =>
      have HC : Hid (GoesOf s inp false) := GoesOf.no (fun h => by rw [hle] at h; cases h.2)
      rw [hle] at HLE
      clear hle
      go_enter Tryz.func16, Tryz.ntmps16
      go_upto_region 1 with fail
      rw [HW1.out, HG.out]
      go_wp2_with (first | (go_at_call 24; go_loud (refine (HSO.out _ (Below.refl _ _)).mono ?_; rintro e w2 ⟨rfl, hb2⟩)) | (go_at_call 25; refine (HLE.out _).mono ?_; rintro e w' ⟨rfl, rfl⟩))
      go_ret
      exact ⟨⟨false, rfl, HC.out⟩, HB1.out.trans (hb2.mono HB1.out.size)⟩
    | true =>
      rw [hle] at HLE
      have HLI := Lib.hid hle
      have hi40 : inp.size ≤ 40 := by have := hle; unfold letB at this; simp at this; exact this.1
      clear hle
      obtain ⟨hok, hsp⟩ := soundE_iff.1 HSE.out
      have HFR := Lib.hid (HFL.out hok hsp)
      have HOK := Lib.hid hok
      have HSP := Lib.hid hsp
      obtain ⟨N, hN⟩ : ∃ N : Nat, s.n = (N : Int) := ⟨s.n.toNat, by have := hok.1; omega⟩
      have hN8 : N ≤ 8 := by have := hok.1; omega
      have HN := Lib.hid hN
      have hr64 : s.rs.length ≤ 64 := hok.2.1
      clear hok hsp hN
      go_enter Tryz.func16, Tryz.ntmps16
      go_upto_region 1 with fail
      rw [HW1.out, HG.out]
      go_upto_region 3 with (first | (go_at_call 24; go_loud (refine (HSO.out _ (Below.refl _ _)).mono ?_; rintro e w2 ⟨rfl, hb2⟩)) | (go_at_call 25; refine (HLE.out _).mono ?_; rintro e w' ⟨rfl, rfl⟩))
      have HB2 : Hid (Below w.heap.size w w2) := HB1.out.trans (hb2.mono HB1.out.size)
      have HBY := Lib.hid (HBX.out.below hb2 HBX.out.lt)
      clear b0 b1 b2 bl_ hb2
      have b0 := HBY.out.cell 0
      have b1 := HBY.out.cell 1
      have b2 := HBY.out.cell 2
      have bl_ := HBY.out.lt
      simp at b0 b1 b2
      have HLV : Hid (Calls Tryz.prog 41 #[.agg #[.int .i64 s.n, .int .u8 s.acc, .slice A s.rs.length c]] w2 (IsLive5 s N w2)) := live5_any s A c N w2 (HS.out.below HB2.out) HOK.out HN.out hN8
      go_upto_region 4 with (go_at_call 41; go_loud (refine HLV.out.mono ?_; rintro e w3 ⟨gL, f, rfl, hgL, hBB, hAF, hSF, hb3⟩))
      obtain ⟨w4, hw4⟩ : ∃ W, w3.alloc (.cells #[.slice (some ⟨gL, 0, none⟩) N N] 96) = W := ⟨_, rfl⟩
      obtain ⟨gO, hgO⟩ : ∃ g, w3.heap.size = g := ⟨_, rfl⟩
      have hb4 : Below w3.heap.size w3 w4 := by rw [← hw4]; exact nw _ (Below.refl _ _)
      have hbo : Blk w4 gO 96 #[.slice (some ⟨gL, 0, none⟩) N N] := by rw [← hw4, ← hgO]; exact Blk.new _ _ _
      have HBO := Lib.hid hbo
      have HB4 : Hid (Below w.heap.size w w4) := (HB2.out.trans (hb3.mono HB2.out.size)).trans (hb4.mono (by have := HB2.out.size; have := hb3.size; omega))
      have HB4X := Lib.hid ((HBY.out.below hb3 HBY.out.lt).below hb4 (HBY.out.below hb3 HBY.out.lt).lt)
      have HLB := Lib.hid (hBB.below hb4)
      have HMARK := Lib.hid (live_marked HOK.out HSP.out HN.out hAF hSF)
      rw [hw4, hgO]
      clear hw4 hgO hb4 hbo hBB hAF hSF hb3 hgL b0 b1 b2 bl_
      have b0 := HB4X.out.cell 0
      have b1 := HB4X.out.cell 1
      have b2 := HB4X.out.cell 2
      have bl_ := HB4X.out.lt
      simp at b0 b1 b2
      go_upto_region 5 with fail
      obtain ⟨w5, hw5⟩ : ∃ W, w4.alloc (.cells #[.int .i64 s.n, .int .u8 s.acc, .slice A s.rs.length c, .func (.func 42) #[] #[], .func (.func 43) #[] #[.pointer (some ⟨gO, 0, none⟩)], .int .i64 8] 101) = W := ⟨_, rfl⟩
      obtain ⟨gW, hgW⟩ : ∃ g, w4.heap.size = g := ⟨_, rfl⟩
      have hb5 : Below w4.heap.size w4 w5 := by rw [← hw5]; exact nw _ (Below.refl _ _)
      have hwk : Blk w5 gW 101 #[.int .i64 s.n, .int .u8 s.acc, .slice A s.rs.length c, .func (.func 42) #[] #[], .func (.func 43) #[] #[.pointer (some ⟨gO, 0, none⟩)], .int .i64 8] := by rw [← hw5, ← hgW]; exact Blk.new _ _ _
      have HWK := Lib.hid hwk
      have HB5 : Hid (Below w.heap.size w w5) := HB4.out.trans (hb5.mono HB4.out.size)
      have HB5X := Lib.hid (HB4X.out.below hb5 HB4X.out.lt)
      have HB5O := Lib.hid (HBO.out.below hb5 HBO.out.lt)
      have HL5 := Lib.hid (HLB.out.below hb5)
      rw [hw5, hgW]
      clear hw5 hgW hb5 hwk b0 b1 b2 bl_
      have HRUN : Hid (∀ (W : World) (t : ByteArray), Below w5.heap.size w5 W → t.size ≤ 40 → Calls Tryz.prog 44 #[.agg #[.int .i64 s.n, .int .u8 s.acc, .slice A s.rs.length c, .func (.func 42) #[] #[], .func (.func 43) #[] #[.pointer (some ⟨gO, 0, none⟩)], .int .i64 8], .int .i64 0, .string t] W fun e w' => ∃ o M, e = .returned (.tuple #[.map o, .bool true]) ∧ Below W.heap.size W w' ∧ TabO Tryz.prog 3 3 (fun k : Int => Value.int .i64 k) w' o 8 M ∧ Holds M (Rch (modeS s f) 0 (bl t) t.size)) := fun W t hW ht =>
        (runInt_any (modeS s f) 0 t s A c 8 gO W (HS.out.below (bthen HB5.out hW)) HOK.out rfl (mode_flat HFR.out f (bl t)) (by omega) (by decide) (by decide) (keyInt_ok (wf_small (by decide) (by decide)))
          (fun i k d hi h => mode_facts HOK.out HFR.out ht hi h) (fun W k => modeInt_any k W) (fun W2 hW2 k x hx _ => by
            have hWW := bthen hW hW2
            have hOW := HB5O.out.below hWW HB5O.out.lt
            exact stepInt_any s f k gO gL N x W2 (by rw [hOW.cell]; rfl) hOW.lt (HL5.out.below hWW) (by have h3 := (HOK.out.2.2.2.1 x hx).1.2; have := HN.out; omega) hN8)).mono fun e w' h => h.ok (fun i _ => modes_few HOK.out)
      have HCC : Hid (∀ W, Below w5.heap.size w5 W → (W.cell? ⟨g, 0, none⟩ = some (.int .i64 s.n) ∧ W.cell? ⟨g, 1, none⟩ = some (.int .u8 s.acc) ∧ W.cell? ⟨g, 2, none⟩ = some (.slice A s.rs.length c) ∧ g < W.heap.size) ∧ (W.cell? ⟨gO, 0, none⟩ = some (.slice (some ⟨gL, 0, none⟩) N N) ∧ gO < W.heap.size) ∧
          (W.cell? ⟨gW, 0, none⟩ = some (.int .i64 s.n) ∧ W.cell? ⟨gW, 1, none⟩ = some (.int .u8 s.acc) ∧ W.cell? ⟨gW, 2, none⟩ = some (.slice A s.rs.length c) ∧ W.cell? ⟨gW, 3, none⟩ = some (.func (.func 42) #[] #[]) ∧ W.cell? ⟨gW, 4, none⟩ = some (.func (.func 43) #[] #[.pointer (some ⟨gO, 0, none⟩)]) ∧ W.cell? ⟨gW, 5, none⟩ = some (.int .i64 8) ∧ gW < W.heap.size)) := fun W hW => by
        have e1 := HB5X.out.below hW HB5X.out.lt
        have e2 := HB5O.out.below hW HB5O.out.lt
        have e3 := HWK.out.below hW HWK.out.lt
        exact ⟨⟨by rw [e1.cell]; rfl, by rw [e1.cell]; rfl, by rw [e1.cell]; rfl, e1.lt⟩, ⟨by rw [e2.cell]; rfl, e2.lt⟩, by rw [e3.cell]; rfl, by rw [e3.cell]; rfl, by rw [e3.cell]; rfl, by rw [e3.cell]; rfl, by rw [e3.cell]; rfl, by rw [e3.cell]; rfl, e3.lt⟩
      obtain ⟨⟨b0, b1, b2, bl_⟩, ⟨o0, ol⟩, k0, k1, k2, k3, k4, k5, kl⟩ := HCC.out w5 (Below.refl _ _)
      go_upto_region 6 with (go_at_call 44; go_loud (refine (HRUN.out _ inp (Below.refl _ _) hi40).mono ?_; rintro e w6 ⟨o, M, rfl, hb6, hTO, hM⟩))
      have HB6 := Lib.hid hb6
      have HTO := Lib.hid hTO
      have HM := Lib.hid hM
      clear hb6 hTO hM b0 b1 b2 bl_ o0 ol k0 k1 k2 k3 k4 k5 kl
      obtain ⟨l, hl, _⟩ := HTO.out.keys
      have HL := Lib.hid hl
      clear hl
      by_cases hl0 : l.length = 0
      · have hnil : ∀ m, M m = none := fun m => by
          cases hm : M m with
          | none => rfl
          | some d => exact absurd ((HL.out.2 m).2 (by rw [hm]; simp)) (by rw [List.eq_nil_of_length_eq_zero hl0]; simp)
        have HNIL := Lib.hid hnil
        clear hnil
        have hlI : ¬ (0 : Int) < (l.length : Int) := by omega
        go_wp2_with (at_len; (refine tabO_len ktInt _ rfl _ rfl (b := o) rfl HTO.out ?_; intro l4 hl4; rw [show l4.length = l.length from Nat.le_antisymm (keysOf_le hl4 HL.out) (keysOf_le HL.out hl4)]))
        go_loopw [40] (fun iv wr => ∃ i : Nat, i ≤ inp.size ∧ iv = .int .i64 (i : Int) ∧ (∀ i', i' < i → NotAt s inp i' s.rs.length) ∧ Below w5.heap.size w5 wr) (fun iv _ => inp.size - (intOf iv).toNat)
        case atStart => exact ⟨0, Nat.zero_le _, rfl, (fun i' h => absurd h (Nat.not_lt_zero _)), HB6.out⟩
        case round =>
          obtain ⟨X0, rfl⟩ : ∃ W, W = wr := ⟨wr, rfl⟩
          obtain ⟨i, hi, rfl, hna, hbx⟩ := hrel
          have HNA := Lib.hid hna
          have HBX0 := Lib.hid hbx
          clear hna hbx
          obtain ⟨⟨b0, b1, b2, bl_⟩, ⟨o0, ol⟩, k0, k1, k2, k3, k4, k5, kl⟩ := HCC.out X0 HBX0.out
          by_cases hlt : i < inp.size
          · have hltI : (i : Int) < (inp.size : Int) := by omega
            have hi0 : (0 : Int) ≤ (i : Int) := by omega
            have hi1 : (i : Int) ≤ (inp.size : Int) := by omega
            have hes : (inp.extract 0 i).size ≤ 40 := by simp; omega
            go_upto_region 11 with fail
            refine ordB_below (.quiet 0 (.quiet 1 (.quiet 2 (.quiet 3 (.only 4 (.quiet 5 (.quiet 6 (.quiet 7 (.quiet 8 (.quiet 9 .done)))))))))) (by kernel_rfl) (by kernel_rfl) (by kernel_rfl) (fun _ _ _ _ _ h => h) ?_
            intro W0 hS0
            iterate 4 (first
              | (refine ordB_skip rfl rfl ?_; simp only [Act.put, List.setIfInBounds_toArray, List.set_cons_zero, List.set_cons_succ])
              | (refine ordB_take (v := ?_) rfl rfl ?_ ?_
                 rotate_left 1
                 focus (intro W hW; obtain ⟨hcW, hfW⟩ := bcell hW; (go_simp <;> with_reducible rfl))
                 simp only [Act.put, List.setIfInBounds_toArray, List.set_cons_zero, List.set_cons_succ]))
            refine ordB_only (opB_call rfl rfl (fun K hK => ?_))
            go_simp
            go_at_call 44
            refine (HRUN.out W0 _ (bthen HBX0.out hS0) hes).mono ?_
            rintro e W0_1 ⟨o2, M2, rfl, hxa, hT2, hM2⟩
            refine hK.out _ _ (hS0.trans (hxa.mono hS0.size)) (fun hS0_1 => ?_)
            iterate 5 (first
              | (refine ordB_skip rfl rfl ?_; simp only [Act.put, List.setIfInBounds_toArray, List.set_cons_zero, List.set_cons_succ])
              | (refine ordB_take (v := ?_) rfl rfl ?_ ?_
                 rotate_left 1
                 focus (intro W hW; obtain ⟨hcW, hfW⟩ := bcell hW; (go_simp <;> with_reducible rfl))
                 simp only [Act.put, List.setIfInBounds_toArray, List.set_cons_zero, List.set_cons_succ]))
            refine ordB_nil ?_
            have hbE := hS0_1
            clear hS0_1
            obtain ⟨X1, rfl⟩ : ∃ V, V = W0_1 := ⟨_, rfl⟩
            have HBX1 : Hid (Below w5.heap.size w5 X1) := bthen HBX0.out hbE
            have HT2 := Lib.hid hT2
            have HAT := Lib.hid (fun m => at_end (m := m) (Nat.le_of_lt hlt) HMARK.out hM2)
            clear hbE hT2 hM2 hxa
            clear b0 b1 b2 bl_ o0 ol k0 k1 k2 k3 k4 k5 kl
            obtain ⟨⟨b0, b1, b2, bl_⟩, ⟨o0, ol⟩, k0, k1, k2, k3, k4, k5, kl⟩ := HCC.out X1 HBX1.out
            go_wp2_with fail
            go_loopw [54] (fun jv wr => ∃ j : Nat, j ≤ s.rs.length ∧ jv = .int .i64 (j : Int) ∧ NotAt s inp i j ∧ Below X1.heap.size X1 wr) (fun jv _ => s.rs.length - (intOf jv).toNat)
            case atStart => exact ⟨0, Nat.zero_le _, rfl, NotAt.zero, Below.refl _ _⟩
            case round =>
              obtain ⟨Y0, rfl⟩ : ∃ W, W = wr := ⟨wr, rfl⟩
              obtain ⟨j, hj, rfl, hnj, hby⟩ := hrel
              have HNJ := Lib.hid hnj
              have HBY0 : Hid (Below w5.heap.size w5 Y0) := bthen HBX1.out hby
              have HTY := Lib.hid (HT2.out.keep fun b hb => hby.block b (HT2.out.lt b hb))
              have HBYX := Lib.hid hby
              clear hnj hby b0 b1 b2 bl_ o0 ol k0 k1 k2 k3 k4 k5 kl
              by_cases hjl : j < s.rs.length
              · obtain ⟨bx, ox, x, rfl, hbxx, hxx, d0, d1, d2, d3, d4⟩ := ((HS.out.below (bthen HB5.out HBY0.out)).sl).ru hjl
                obtain ⟨⟨b0, b1, b2, bl_⟩, ⟨o0, ol⟩, k0, k1, k2, k3, k4, k5, kl⟩ := HCC.out Y0 HBY0.out
                have htm := List.mem_of_getElem? hxx
                have HXX : Hid (s.rs[j]? = some x ∧ x ∈ s.rs) := ⟨hxx, htm⟩
                have hru := HOK.out.2.2.2.1 x htm
                have hx0 : 0 ≤ x.to := hru.1.2.1
                have hx1 : x.to < (N : Int) := by have := hru.1.2.2; have := HN.out; omega
                have HKX : Hid (KOk Tryz.prog 3 (fun k : Int => Value.int .i64 k) x.fr) := keyInt_ok (wf_small (by have := hru.1.1.1; omega) (by have := hru.1.1.2; have := HN.out; omega))
                have hjI : (j : Int) < (s.rs.length : Int) := by omega
                have hj0 : (0 : Int) ≤ (j : Int) := by omega
                clear hxx htm hru
                go_upto_region 15 with fail
                obtain ⟨Y1, hY1⟩ : ∃ W, Y0.alloc (.cells #[.int .i64 x.fr, .int .i64 x.to, .string x.inp, .string x.out, .int .i64 x.co] 55) = W := ⟨_, rfl⟩
                obtain ⟨g13, hg13⟩ : ∃ g, Y0.heap.size = g := ⟨_, rfl⟩
                have hbY : Below Y0.heap.size Y0 Y1 := by rw [← hY1]; exact nw _ (Below.refl _ _)
                have hXB : Blk Y1 g13 55 #[.int .i64 x.fr, .int .i64 x.to, .string x.inp, .string x.out, .int .i64 x.co] := by rw [← hY1]; exact Blk.new_ hg13.symm
                have HBY1 : Hid (Below w5.heap.size w5 Y1) := bthen HBY0.out hbY
                have HBYX1 : Hid (Below X1.heap.size X1 Y1) := bthen HBYX.out hbY
                have HTY1 := Lib.hid (HTY.out.keep fun b hb => hbY.block b (HTY.out.lt b hb))
                have HXB := Lib.hid hXB
                rw [hY1, hg13]
                clear hY1 hg13 hbY hXB b0 b1 b2 bl_ o0 ol k0 k1 k2 k3 k4 k5 kl d0 d1 d2 d3 d4 hbxx
                obtain ⟨⟨b0, b1, b2, bl_⟩, ⟨o0, ol⟩, _⟩ := HCC.out Y1 HBY1.out
                have x0 := HXB.out.cell 0
                have x1 := HXB.out.cell 1
                have x2 := HXB.out.cell 2
                have xl := HXB.out.lt
                simp at x0 x1 x2
                have hLY := HL5.out.below HBY1.out
                have hxN : x.to.toNat < N := by omega
                have l0 := hLY.cell hxN
                have ll := hLY.lt
                rw [Int.toNat_of_nonneg hx0] at l0
                clear hLY
                cases hmx : (M2 x.fr).isSome with
                | false =>
                  have HNO : Hid (¬ ∃ t o c, bl t = (bl inp).take i ∧ Rte s x.fr t o c) := fun h => by
                    have h2 := (HAT.out x.fr).2 h
                    cases hm : M2 x.fr with
                    | none => exact h2 hm
                    | some d => rw [hm] at hmx; cases hmx
                  go_upto_region 16 with (at_lookup; refine tabO_lookup_ok _ rfl _ _ rfl rfl HTY1.out x.fr rfl HKX.out ?_; rw [hmx])
                  have HNEXT : Hid (NotAt s inp i (j + 1)) := HNJ.out.succ HXX.out.1 (.inl HNO.out)
                  refine ordB_below (.quiet 0 (.quiet 1 (.quiet 2 (.quiet 3 (.quiet 4 (.quiet 5 (.quiet 6 (.quiet 7 (.quiet 8 (.quiet 9 (.quiet 10 (.quiet 11 (.quiet 12 (.quiet 13 (.only 14 (.quiet 15 .done)))))))))))))))) (by kernel_rfl) (by kernel_rfl) (by kernel_rfl) (fun _ _ _ _ _ h => h) ?_
                  intro W0 hS0
                  iterate 14 (first
                    | (refine ordB_skip rfl rfl ?_; simp only [Act.put, List.setIfInBounds_toArray, List.set_cons_zero, List.set_cons_succ])
                    | (refine ordB_take (v := ?_) rfl rfl ?_ ?_
                       rotate_left 1
                       focus (intro W hW; obtain ⟨hcW, hfW⟩ := bcell hW; (go_simp <;> with_reducible rfl))
                       simp only [Act.put, List.setIfInBounds_toArray, List.set_cons_zero, List.set_cons_succ]))
                  refine ordB_only (opB_cskip rfl rfl hS0 ?_)
                  simp only [Act.put, List.setIfInBounds_toArray, List.set_cons_zero, List.set_cons_succ]
                  iterate 1 (first
                    | (refine ordB_skip rfl rfl ?_; simp only [Act.put, List.setIfInBounds_toArray, List.set_cons_zero, List.set_cons_succ])
                    | (refine ordB_take (v := ?_) rfl rfl ?_ ?_
                       rotate_left 1
                       focus (intro W hW; obtain ⟨hcW, hfW⟩ := bcell hW; (go_simp <;> with_reducible rfl))
                       simp only [Act.put, List.setIfInBounds_toArray, List.set_cons_zero, List.set_cons_succ]))
                  refine ordB_nil ?_
                  have hbE := hS0
                  clear hS0
                  have HBE := Lib.hid (bthen HBYX1.out hbE)
                  clear hbE
                  go_wp2_with fail
                  go_roundw
                  case rel => exact ⟨j + 1, by omega, by go_num, HNEXT.out, HBE.out⟩
                  case measure => simp [intOf]; omega
                | true =>
                  have HYES : Hid (∃ t o c, bl t = (bl inp).take i ∧ Rte s x.fr t o c) := (HAT.out x.fr).1 (fun e => by rw [e] at hmx; cases hmx)
                  have HFX : Hid (f x.to = true) := by
                    obtain ⟨t, o, c, _, h⟩ := HYES.out
                    exact HMARK.out x HXX.out.2 (rte_rm h)
                  rw [HFX.out] at l0
                  go_upto_region 16 with (at_lookup; refine tabO_lookup_ok _ rfl _ _ rfl rfl HTY1.out x.fr rfl HKX.out ?_; rw [hmx])
                  by_cases hpre : (bl inp).drop i <+: bl x.inp
                  · have HPC : Hid (∀ W : World, Calls Tryz.prog 28 #[.string x.inp, .string (inp.extract i inp.size)] W fun e w' => e = .returned (.bool true) ∧ W = w') := fun W => by
                      have := hasPre_any x.inp (inp.extract i inp.size) W
                      rw [bl_drop, decide_eq_true hpre] at this
                      exact this
                    have HGO : Hid (GoesP s inp) := goes_at hlt HXX.out.2 HYES.out hpre
                    clear hpre
                    refine ordB_below (.quiet 0 (.quiet 1 (.quiet 2 (.quiet 3 (.quiet 4 (.quiet 5 (.quiet 6 (.quiet 7 (.quiet 8 (.quiet 9 (.quiet 10 (.quiet 11 (.quiet 12 (.quiet 13 (.only 14 (.quiet 15 .done)))))))))))))))) (by kernel_rfl) (by kernel_rfl) (by kernel_rfl) (fun _ _ _ _ _ h => h) ?_
                    intro W0 hS0
                    iterate 14 (first
                      | (refine ordB_skip rfl rfl ?_; simp only [Act.put, List.setIfInBounds_toArray, List.set_cons_zero, List.set_cons_succ])
                      | (refine ordB_take (v := ?_) rfl rfl ?_ ?_
                         rotate_left 1
                         focus (intro W hW; obtain ⟨hcW, hfW⟩ := bcell hW; (go_simp <;> with_reducible rfl))
                         simp only [Act.put, List.setIfInBounds_toArray, List.set_cons_zero, List.set_cons_succ]))
                    refine ordB_only (opB_call rfl rfl (fun K hK => ?_))
                    go_simp
                    go_at_call 28
                    refine (HPC.out W0).mono ?_
                    rintro e w' ⟨rfl, rfl⟩
                    refine hK.out _ _ hS0 (fun hS0_1 => ?_)
                    iterate 1 (first
                      | (refine ordB_skip rfl rfl ?_; simp only [Act.put, List.setIfInBounds_toArray, List.set_cons_zero, List.set_cons_succ])
                      | (refine ordB_take (v := ?_) rfl rfl ?_ ?_
                         rotate_left 1
                         focus (intro W hW; obtain ⟨hcW, hfW⟩ := bcell hW; (go_simp <;> with_reducible rfl))
                         simp only [Act.put, List.setIfInBounds_toArray, List.set_cons_zero, List.set_cons_succ]))
                    refine ordB_nil ?_
                    have hbE := hS0_1
                    clear hS0_1
                    go_wp2_with fail
                    go_ret
                    exact ⟨⟨true, rfl, (fun _ => ⟨HSE.out, HLI.out, HGO.out⟩), fun _ => rfl⟩, bthen HB5.out (bthen HBY1.out hbE)⟩
                  · have HPC : Hid (∀ W : World, Calls Tryz.prog 28 #[.string x.inp, .string (inp.extract i inp.size)] W fun e w' => e = .returned (.bool false) ∧ W = w') := fun W => by
                      have := hasPre_any x.inp (inp.extract i inp.size) W
                      rw [bl_drop, decide_eq_false hpre] at this
                      exact this
                    have HNEXT : Hid (NotAt s inp i (j + 1)) := HNJ.out.succ HXX.out.1 (.inr hpre)
                    clear hpre
                    refine ordB_below (.quiet 0 (.quiet 1 (.quiet 2 (.quiet 3 (.quiet 4 (.quiet 5 (.quiet 6 (.quiet 7 (.quiet 8 (.quiet 9 (.quiet 10 (.quiet 11 (.quiet 12 (.quiet 13 (.only 14 (.quiet 15 .done)))))))))))))))) (by kernel_rfl) (by kernel_rfl) (by kernel_rfl) (fun _ _ _ _ _ h => h) ?_
                    intro W0 hS0
                    iterate 14 (first
                      | (refine ordB_skip rfl rfl ?_; simp only [Act.put, List.setIfInBounds_toArray, List.set_cons_zero, List.set_cons_succ])
                      | (refine ordB_take (v := ?_) rfl rfl ?_ ?_
                         rotate_left 1
                         focus (intro W hW; obtain ⟨hcW, hfW⟩ := bcell hW; (go_simp <;> with_reducible rfl))
                         simp only [Act.put, List.setIfInBounds_toArray, List.set_cons_zero, List.set_cons_succ]))
                    refine ordB_only (opB_call rfl rfl (fun K hK => ?_))
                    go_simp
                    go_at_call 28
                    refine (HPC.out W0).mono ?_
                    rintro e w' ⟨rfl, rfl⟩
                    refine hK.out _ _ hS0 (fun hS0_1 => ?_)
                    iterate 1 (first
                      | (refine ordB_skip rfl rfl ?_; simp only [Act.put, List.setIfInBounds_toArray, List.set_cons_zero, List.set_cons_succ])
                      | (refine ordB_take (v := ?_) rfl rfl ?_ ?_
                         rotate_left 1
                         focus (intro W hW; obtain ⟨hcW, hfW⟩ := bcell hW; (go_simp <;> with_reducible rfl))
                         simp only [Act.put, List.setIfInBounds_toArray, List.set_cons_zero, List.set_cons_succ]))
                    refine ordB_nil ?_
                    have hbE := hS0_1
                    clear hS0_1
                    have HBE := Lib.hid (bthen HBYX1.out hbE)
                    clear hbE
                    go_wp2_with fail
                    go_roundw
                    case rel => exact ⟨j + 1, by omega, by go_num, HNEXT.out, HBE.out⟩
                    case measure => simp [intOf]; omega
              · obtain rfl : j = s.rs.length := by omega
                have hjI : ¬ ((s.rs.length : Nat) : Int) < (s.rs.length : Int) := by omega
                go_wp2_with fail
                go_roundw
                case rel =>
                  refine ⟨i + 1, by omega, by go_num, (fun i' h => ?_), HBY0.out⟩
                  rcases Nat.lt_succ_iff_lt_or_eq.1 h with h2 | rfl
                  · exact HNA.out i' h2
                  · exact HNJ.out
                case measure => simp [intOf]; omega
          · obtain rfl : i = inp.size := by omega
            have hltI : ¬ ((inp.size : Nat) : Int) < (inp.size : Int) := by omega
            go_wp2_with fail
            go_ret
            exact ⟨⟨false, rfl, (fun h => by cases h), fun h => absurd h.2.2 (goes_none HMARK.out HM.out HNIL.out HNA.out)⟩, bthen HB5.out HBX0.out⟩
      · have hlI : (0 : Int) < (l.length : Int) := by omega
        have hgo : GoesP s inp := by
          cases hl : l with
          | nil => rw [hl] at hl0; exact absurd rfl hl0
          | cons m l' => exact goes_whole HMARK.out HM.out ((HL.out.2 m).1 (by rw [hl]; simp))
        have HGO := Lib.hid hgo
        clear hgo
        go_wp2_with (at_len; (refine tabO_len ktInt _ rfl _ rfl (b := o) rfl HTO.out ?_; intro l4 hl4; rw [show l4.length = l.length from Nat.le_antisymm (keysOf_le hl4 HL.out) (keysOf_le HL.out hl4)]))
        go_ret
        exact ⟨⟨true, rfl, (fun _ => ⟨HSE.out, HLI.out, HGO.out⟩), fun _ => rfl⟩, bthen HB5.out HB6.out⟩
end Go.Proofs.YtkjfdjcagfkdhaaGreat

/-
  The walks of layer 05: equal results; which comes before.
-/
namespace Go.Proofs.YtkjfdjcagfkdhaaGreat
open Go Go.RowKit

theorem rs_ext {x y : Rs} (h1 : x.tx = y.tx) (h2 : x.co = y.co) : x = y := by
  cases x
  cases y
  simp only at h1 h2
  subst h1 h2
  rfl
set_option maxRecDepth 100000 in
theorem run_eqRs (x y : Rs) (W : World) : (Op.equalIn 10000 47 (.agg #[.string x.tx, .int .i64 x.co]) (.agg #[.string y.tx, .int .i64 y.co])).run Tryz.prog W = .ok (decide (x = y)) W := by
  rw [run_equalIn_agg W 9999 _ _ _ (by kernel_rfl) (by kernel_rfl)]
  have hf : (Tryz.prog.fieldsOf 47).toList.map (fun f => (f.type, f.offset, f.name != "_")) = [(9, 0, true), (3, 1, true)] := by kernel_rfl
  obtain ⟨f0, l0, e0, h0, hf⟩ := List.map_eq_cons_iff.1 hf
  obtain ⟨f1, l1, e1, h1, hf⟩ := List.map_eq_cons_iff.1 hf
  obtain rfl := List.map_eq_nil_iff.1 hf
  simp only [Prod.mk.injEq] at h0 h1
  have hpi : Tryz.prog.plainKey 3 = true := by kernel_rfl
  have hps : Tryz.prog.plainKey 9 = true := by kernel_rfl
  have qi : ∀ a b : Int, (Op.equalIn 9999 3 (.int .i64 a) (.int .i64 b)).run Tryz.prog W = .ok (a == b) W := fun a b => run_equalIn_int W 9998 3 .i64 .i64 a b Tryz.underlying3
  have qs : ∀ a b : ByteArray, (Op.equalIn 9999 9 (.string a) (.string b)).run Tryz.prog W = .ok (a.toList == b.toList) W := fun a b => run_equalIn_string W 9998 9 a b Tryz.underlying9
  obtain ⟨X, hX⟩ : ∃ X : Array Value, X = #[.string x.tx, .int .i64 x.co] := ⟨_, rfl⟩
  obtain ⟨Y, hY⟩ : ∃ X : Array Value, X = #[.string y.tx, .int .i64 y.co] := ⟨_, rfl⟩
  rw [← hX, ← hY]
  have k2 : (Op.eqFields 9999 X Y []).run Tryz.prog W = .ok true W := by simp [Op.eqFields]
  have k1 := eqF_cons (f := f1) (xs := X) (ys := Y) h1.2.2 (by rw [h1.1]; exact hpi) (by rw [h1.2.1, hX]; rfl) (by rw [h1.2.1, hY]; rfl) (by rw [h1.1]; exact qi x.co y.co) k2
  rw [← e1] at k1
  have key := eqF_cons (f := f0) (xs := X) (ys := Y) h0.2.2 (by rw [h0.1]; exact hps) (by rw [h0.2.1, hX]; rfl) (by rw [h0.2.1, hY]; rfl) (by rw [h0.1]; exact qs x.tx y.tx) k1
  rw [← e0] at key
  refine key.trans ?_
  congr 1
  rw [Bool.eq_iff_iff]
  simp only [Bool.and_eq_true, beq_iff_eq, decide_eq_true_iff, and_true]
  constructor
  · rintro ⟨h1, h2⟩
    exact rs_ext (toL_inj h1) h2
  · rintro rfl
    exact ⟨rfl, rfl⟩
set_option maxRecDepth 100000 in
set_option maxHeartbeats 4000000 in
theorem same5_any (A B : Option Addr) (xs ys : List Rs) (c d : Nat) (w : World) (hx : SlR 2 RRs w A xs) (hy : SlR 2 RRs w B ys) (hl : xs.length ≤ 65536) (hm : ys.length ≤ 65536) :
    Calls Tryz.prog 45 #[.slice A xs.length c, .slice B ys.length d] w fun e w' => e = .returned (.bool (decide (xs = ys))) ∧ Below w.heap.size w w' := by
  by_cases hlen : xs.length = ys.length
  · have hlI : (xs.length : Int) = (ys.length : Int) := by omega
    have HL := Lib.hid hlen
    go_enter Tryz.func45, Tryz.ntmps45
    go_wp2_with fail
    go_loopw [5] (fun iv wr => ∃ k : Nat, k ≤ xs.length ∧ iv = .int .i64 (k : Int) ∧ Hid (xs.take k = ys.take k) ∧ Below w.heap.size w wr) (fun iv _ => xs.length - (intOf iv).toNat)
    case atStart => exact ⟨0, Nat.zero_le _, rfl, rfl, Below.refl _ _⟩
    case round =>
      obtain ⟨X0, rfl⟩ : ∃ W, W = wr := ⟨wr, rfl⟩
      obtain ⟨k, hk, rfl, HT, hb⟩ := hrel
      have HB := Lib.hid hb
      by_cases hlt : k < xs.length
      · obtain ⟨b, off, x, rfl, hbb, hxx, d0, d1⟩ := (hx.below keeps_rs hb).rs hlt
        obtain ⟨b2, off2, y, rfl, hbb2, hyy, f0, f1⟩ := (hy.below keeps_rs hb).rs (by omega : k < ys.length)
        have HX := Lib.hid hxx
        have HY := Lib.hid hyy
        have hki : (k : Int) < (xs.length : Int) := by omega
        have hki2 : (k : Int) < (ys.length : Int) := by omega
        have hk0 : (0 : Int) ≤ (k : Int) := by omega
        clear hxx hyy hb
        by_cases he : x = y
        · have HE := Lib.hid he
          have HEQ := fun W => run_eqRs x y W
          rw [decide_eq_true he] at HEQ
          clear he
          go_wp2_with fail
          go_quiet (fail)
          go_wp2_with fail
          go_roundw
          case rel => exact ⟨k + 1, by omega, by go_num, (by show xs.take (k + 1) = ys.take (k + 1); rw [take_succ_of HX.out, take_succ_of HY.out, HT.out, HE.out]), below_drewN HB.out _⟩
          case measure => simp [intOf]; omega
        · have HE := Lib.hid he
          have HEQ := fun W => run_eqRs x y W
          rw [decide_eq_false he] at HEQ
          clear he
          have HNE : Hid (decide (xs = ys) = false) := decide_eq_false (fun e => by
            have h1 := HX.out
            rw [e, HY.out] at h1
            exact HE.out (Option.some.inj h1).symm)
          go_wp2_with fail
          go_quiet (fail)
          go_wp2_with fail
          go_ret
          exact ⟨by rw [HNE.out] <;> rfl, below_drewN HB.out _⟩
      · obtain rfl : k = xs.length := by omega
        have hki : ¬ ((xs.length : Nat) : Int) < (xs.length : Int) := by omega
        have HEE : Hid (decide (xs = ys) = true) := decide_eq_true (by
          have h1 := HT.out
          rw [List.take_length, HL.out, List.take_length] at h1
          exact h1)
        go_wp2_with fail
        go_ret
        exact ⟨by rw [HEE.out] <;> rfl, HB.out⟩
  · have hlI : ¬ (xs.length : Int) = (ys.length : Int) := by omega
    have HNE : Hid (decide (xs = ys) = false) := decide_eq_false (fun e => hlen (by rw [e]))
    go_enter Tryz.func45, Tryz.ntmps45
    go_wp2_with fail
    go_ret
    exact ⟨by rw [HNE.out] <;> rfl, Below.refl _ _⟩
end Go.Proofs.YtkjfdjcagfkdhaaGreat

/-
  The scheme of the examples of layer 05: what it gives. No conditions.
-/
namespace Go.Proofs.YtkjfdjcagfkdhaaGreat
open Go Go.RowKit

def sampS : Sc := ⟨1, 1, [⟨0, 0, ⟨#[97]⟩, ⟨#[97]⟩, 0⟩, ⟨0, 0, ⟨#[97]⟩, ⟨#[65]⟩, 1⟩, ⟨0, 0, ⟨#[97, 97]⟩, ⟨#[66]⟩, 1⟩, ⟨0, 0, ⟨#[98]⟩, ⟨#[]⟩, 5⟩]⟩
theorem samp_ok : ScOK sampS := by decide
theorem samp_rm {m : Int} (h : RM sampS m) : m = 0 := by
  unfold RM at h
  induction h with
  | base h => exact h
  | @step e _ h2 _ =>
    obtain ⟨x, hx, rfl⟩ := List.mem_map.1 h2
    simp [sampS] at hx
    rcases hx with rfl | rfl | rfl | rfl <;> rfl
theorem samp_sound : SoundP sampS where
  live := .base (by decide)
  stuck m h := by rw [samp_rm h]; exact .base (by decide)
  endl m _ _ h := by
    have key : ∀ r ∈ sampS.rs, r.mute = false := by decide
    cases h with
    | one h1 h2 _ => rw [key _ h1] at h2; cases h2
    | more _ h1 h2 _ => rw [key _ h1] at h2; cases h2
theorem samp_E : soundE sampS = 0 := soundE_iff.2 ⟨samp_ok, samp_sound⟩
theorem samp_flat : FlatR sampS := fun r _ h1 _ h2 _ _ => by
  have key : ∀ r ∈ sampS.rs, r.mute = false := by decide
  rw [key r h1] at h2
  cases h2
theorem samp_few {inp : ByteArray} (h : ((List.range (inp.size + 1)).all fun i => decide ((pairsL sampS inp i).length ≤ 2000)) = true) : ¬ Big 2000 sampS inp := fun ⟨i, hi, hm⟩ => by
  have h1 := List.all_eq_true.1 h i (List.mem_range.2 (by omega))
  have hF : FlatS sampS inp := pair_flat samp_flat (bl inp)
  refine few_of_list ((pairsL sampS inp i).map (·.1)) (fun k c hk => ?_) (by rw [List.length_map]; exact of_decide_eq_true h1) hm
  exact List.mem_map.2 ⟨(k, c), (mem_full hF _ _ _).2 hk, rfl⟩
theorem samp_best : bestL sampS ⟨#[97]⟩ = [⟨⟨#[97]⟩, 0⟩, ⟨⟨#[65]⟩, 1⟩] := by kernel_rfl
theorem samp_best2 : bestL sampS ⟨#[97, 97]⟩ = [⟨⟨#[97, 97]⟩, 0⟩, ⟨⟨#[65, 97]⟩, 1⟩, ⟨⟨#[66]⟩, 1⟩, ⟨⟨#[97, 65]⟩, 1⟩, ⟨⟨#[65, 65]⟩, 2⟩] := by kernel_rfl
theorem samp_best3 : bestL sampS ⟨#[98, 97]⟩ = [⟨⟨#[97]⟩, 5⟩, ⟨⟨#[65]⟩, 6⟩] := by kernel_rfl
theorem samp_best4 : bestL sampS ⟨#[]⟩ = [⟨⟨#[]⟩, 0⟩] := by kernel_rfl
theorem samp_best5 : bestL sampS ⟨#[99]⟩ = [] := by kernel_rfl
theorem samp_cost : costL sampS ⟨#[97, 97]⟩ ⟨#[97, 65]⟩ = 1 := by kernel_rfl
theorem samp_cost2 : costL sampS ⟨#[97]⟩ ⟨#[98]⟩ = -1 := by kernel_rfl
theorem samp_goes : goesB sampS ⟨#[97, 98]⟩ = true := by kernel_rfl
theorem samp_goes2 : goesB sampS ⟨#[97, 99]⟩ = false := by kernel_rfl
theorem samp_A : letB ⟨#[65]⟩ = false := by kernel_rfl
theorem samp_take {inp : ByteArray} {k : Int} {L : List Rs} (hl : letB inp = true) (hk : 1 ≤ k ∧ k ≤ 50) (hf : ((List.range (inp.size + 1)).all fun i => decide ((pairsL sampS inp i).length ≤ 2000)) = true) (hb : bestL sampS inp = L) (hne : L ≠ []) : bestR sampS inp k = (L.take k.toNat, 0) := by
  rw [bestR_ok ⟨samp_E, hl, hk.1, hk.2⟩ (samp_few hf) (by rw [hb]; exact hne), hb]
theorem samp_f1 : bestR sampS ⟨#[97]⟩ 5 = ([⟨⟨#[97]⟩, 0⟩, ⟨⟨#[65]⟩, 1⟩], 0) := samp_take (by kernel_rfl) (by decide) (by kernel_rfl) samp_best (by simp)
theorem samp_f2 : bestR sampS ⟨#[97, 97]⟩ 3 = ([⟨⟨#[97, 97]⟩, 0⟩, ⟨⟨#[65, 97]⟩, 1⟩, ⟨⟨#[66]⟩, 1⟩], 0) := samp_take (by kernel_rfl) (by decide) (by kernel_rfl) samp_best2 (by simp)
theorem samp_f3 : bestR sampS ⟨#[98, 97]⟩ 1 = ([⟨⟨#[97]⟩, 5⟩], 0) := samp_take (by kernel_rfl) (by decide) (by kernel_rfl) samp_best3 (by simp)
theorem samp_f4 : bestR sampS ⟨#[]⟩ 9 = ([⟨⟨#[]⟩, 0⟩], 0) := samp_take (by kernel_rfl) (by decide) (by kernel_rfl) samp_best4 (by simp)
theorem samp_e : bestR sampS ⟨#[99]⟩ 5 = ([], 50) := bestR_none ⟨samp_E, (by kernel_rfl), by decide, by decide⟩ (samp_few (by kernel_rfl)) samp_best5
theorem samp_ef : bestR sampS ⟨#[65]⟩ 5 = ([], 1) := bestR_arg (fun h => nomatch samp_A.symm.trans h.2.1)
theorem samp_eg : bestR sampS ⟨#[97]⟩ 0 = ([], 1) := bestR_arg (fun h => absurd h.2.2.1 (by decide))
def zeroS : Sc := ⟨0, 0, []⟩
theorem samp_eh : bestR zeroS ⟨#[97]⟩ 5 = ([], 1) := bestR_arg (fun h => absurd (soundE_iff.1 h.1).1 (by decide))
theorem samp_c1 {r : Int} (h : CostOf sampS ⟨#[97, 97]⟩ ⟨#[97, 65]⟩ r) : r = 1 :=
  isCost_unique (h.1 ⟨samp_E, by kernel_rfl⟩) (samp_cost ▸ isCost_costL (pair_flat samp_flat _) (by decide) _)
theorem samp_c2 {r : Int} (h : CostOf sampS ⟨#[97]⟩ ⟨#[98]⟩ r) : r = -1 :=
  isCost_unique (h.1 ⟨samp_E, by kernel_rfl⟩) (samp_cost2 ▸ isCost_costL (pair_flat samp_flat _) (by decide) _)
theorem samp_c3 {r : Int} (h : CostOf sampS ⟨#[65]⟩ ⟨#[65]⟩ r) : r = -1 := h.2 (fun h => nomatch samp_A.symm.trans h.2)
theorem samp_g1 {b : Bool} (h : GoesOf sampS ⟨#[97, 98]⟩ b) : b = true := h.2 ⟨samp_E, by kernel_rfl, (goesB_iff (pair_flat samp_flat _)).1 samp_goes⟩
theorem samp_g2 {b : Bool} (h : GoesOf sampS ⟨#[97, 99]⟩ b) : b = false := by
  cases b with
  | false => rfl
  | true => have h1 := (goesB_iff (pair_flat samp_flat _)).2 (h.1 rfl).2.2; rw [samp_goes2] at h1; cases h1
end Go.Proofs.YtkjfdjcagfkdhaaGreat
