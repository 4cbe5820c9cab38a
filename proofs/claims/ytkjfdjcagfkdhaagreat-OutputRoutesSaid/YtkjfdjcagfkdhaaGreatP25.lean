/-
  OuLvr, OuLiveW, joined. No conditions.
-/
import Derived.Test.YtkjfdjcagfkdhaaGreatP24
/-
  Words for memory of layer 05: the loop that makes modes live.
-/
namespace Go.Proofs.YtkjfdjcagfkdhaaGreat
open Go Go.RowKit Go.Maps

/-- How many marks are false. -/
def cntF (w : World) (g N : Nat) : Nat := (List.range N).countP fun k => match w.cell? ⟨g, k, none⟩ with
  | some (.bool false) => true
  | _ => false
theorem cntF_bb {w : World} {g N : Nat} {f : Int → Bool} (h : BB w g N f) : cntF w g N = (List.range N).countP fun k : Nat => !f (k : Int) := by
  unfold cntF
  refine List.countP_congr fun k hk => ?_
  rw [h.cell (List.mem_range.1 hk)]
  cases f (k : Int) <;> simp
def cntf (N : Nat) (f : Int → Bool) : Nat := (List.range N).countP fun k : Nat => !f (k : Int)
theorem cntf_lt {N : Nat} {f g : Int → Bool} (h : ∀ x, f x = true → g x = true) {m : Nat} (hm : m < N) (h1 : f (m : Int) = false) (h2 : g (m : Int) = true) : cntf N g < cntf N f := by
  unfold cntf
  have key : ∀ l : List Nat, m ∈ l → l.countP (fun k : Nat => !g (k : Int)) < l.countP (fun k : Nat => !f (k : Int)) := by
    intro l
    induction l with
    | nil => intro h; cases h
    | cons a l ih =>
      intro hml
      have hle : l.countP (fun k : Nat => !g (k : Int)) ≤ l.countP (fun k : Nat => !f (k : Int)) := List.countP_mono_left fun k _ hk => by
        cases hf : f (k : Int) with
        | false => rfl
        | true => rw [h _ hf] at hk; exact hk
      rw [List.countP_cons, List.countP_cons]
      by_cases e : a = m
      · subst e
        simp [h1, h2]
        omega
      · have := ih ((List.mem_cons.1 hml).elim (fun e2 => absurd e2.symm e) id)
        have hx : (if (!g (a : Int)) = true then 1 else 0) ≤ (if (!f (a : Int)) = true then 1 else 0) := by
          cases hf : f (a : Int) with
          | false => cases g (a : Int) <;> decide
          | true => rw [h _ hf]; decide
        omega
  exact key _ (List.mem_range.2 hm)
/-- The measure of the outer loop. -/
def measL (g N : Nat) (v : Value) (w : World) : Nat := 2 * cntF w g N + (match v with
  | .bool true => 1
  | _ => 0)
theorem grown_set (w : World) (g k : Nat) (u : Value) : w.grownBy (w.setCell ⟨g, k, none⟩ u) (some g) :=
  ⟨rfl, rfl, rfl, by simp, fun i _ hn => Below.heap_setCell w ⟨g, k, none⟩ u i (fun e => hn (by rw [e]))⟩
section
variable {w w' : World} {gm n N gL r cnt : Nat} {V : Int → Value} {Ls : Int → List Int} {D : DataW Unit} {left : Lit → Bool} {f : Int → Bool}
theorem LvM.far (h : LvM Tryz.prog 3 3 w gm n N (gm + 1) V Ls D) (hL : BB w gL N f) (hg : w.grownBy w' (some gL)) : LvM Tryz.prog 3 3 w' gm n N (gm + 1) V Ls D := by
  have hne : gL ≠ gm := by
    obtain ⟨es, clock, h1, _⟩ := h.own
    exact map_blk h1 hL
  refine ⟨h.own.kept hg (fun e => hne (Option.some.inj e).symm), h.at_, fun m h0 h1 => (h.row m h0 h1).kept hg ?_, h.has_, h.put, h.apart, h.below⟩
  have := own_blk_ne (h.row m h0 h1) hL (by decide)
  exact .inr this
theorem rng_far (h : w.ranges Tryz.prog 3 slE gm r n D left cnt) (hL : BB w gL N f) (hg : w.grownBy w' (some gL)) : w'.ranges Tryz.prog 3 slE gm r n D left cnt := by
  have hne : gL ≠ gm := by
    obtain ⟨es, clock, h1, _⟩ := h.owns
    exact map_blk h1 hL
  have hnr : gL ≠ r := fun e => by
    obtain ⟨es, clock, since, seen, c0, _, _, _, _, h5, _⟩ := h
    subst e
    have hL : w.heap[gL]? = some _ := hL
    rw [h5] at hL
    cases hL
  exact h.kept hg (fun e => hne (Option.some.inj e).symm) (fun e => hnr (Option.some.inj e).symm)
theorem LvM.iter (h : LvM Tryz.prog 3 3 w gm n N (gm + 1) V Ls D) (hr : w.ranges Tryz.prog 3 slE gm r n D left cnt) (hg : w.grownBy w' (some r)) : LvM Tryz.prog 3 3 w' gm n N (gm + 1) V Ls D := by
  refine ⟨h.own.kept hg (fun e => hr.ne (Option.some.inj e).symm), h.at_, fun m h0 h1 => (h.row m h0 h1).kept hg ?_, h.has_, h.put, h.apart, h.below⟩
  cases hv : (V m).ownBlock with
  | none => exact .inl rfl
  | some g =>
    refine .inr fun e => ?_
    obtain rfl := Option.some.inj e
    obtain ⟨cs, t, f, h2⟩ := own_cells (h.row m h0 h1) hv
    obtain ⟨es, clock, since, seen, c0, _, _, _, _, h5, _⟩ := hr
    rw [h2] at h5
    cases h5
theorem BB.iter (h : BB w gL N f) (hr : w.ranges Tryz.prog 3 slE gm r n D left cnt) (hg : w.grownBy w' (some r)) : BB w' gL N f := by
  refine (hg.block gL h.lt fun e => ?_).trans h
  obtain rfl := Option.some.inj e
  obtain ⟨es, clock, since, seen, c0, _, _, _, _, h5, _⟩ := hr
  have h : w.heap[gL]? = some _ := h
  rw [h5] at h
  cases h
end
/-- All accepting modes are marked. -/
def AccF (s : Sc) (N : Nat) (f : Int → Bool) : Prop := ∀ m : Int, 0 ≤ m → m < (N : Int) → accB s.acc m = true → f m = true
/-- No rule adds a mark. -/
def ShutF (s : Sc) (f : Int → Bool) : Prop := ∀ x ∈ s.rs, f x.to = true → f x.fr = true
/-- Ahead of a pass. -/
def LvO (s : Sc) (N gL gm n : Nat) (V : Int → Value) (D : DataW Unit) (w w1 : World) (v : Value) (wr : World) : Prop :=
  ∃ (ch : Bool) (f : Int → Bool), v = .bool ch ∧ BB wr gL N f ∧ AccF s N f ∧ LvM Tryz.prog 3 3 wr gm n N (gm + 1) V (lsOf s s.rs.length) D ∧ (ch = false → ShutF s f) ∧ Below w1.heap.size w1 wr ∧ w.heap.size ≤ gL
/-- What a pass has done: nothing, and the modes looked at are closed; or a mark more. -/
def PassF (N : Nat) (f0 f : Int → Bool) (ch : Bool) (C : Prop) : Prop := (∀ x, f0 x = true → f x = true) ∧ (ch = false → f = f0 ∧ C) ∧ (ch = true → cntf N f < cntf N f0)
theorem PassF.mark {N : Nat} {f0 f : Int → Bool} {ch : Bool} {C C' : Prop} (h : PassF N f0 f ch C) {m : Nat} (hm : m < N) (h1 : f (m : Int) = false) : PassF N f0 (fun x => if x = (m : Int) then true else f x) true C' := by
  refine ⟨fun x hx => ?_, fun h => (by cases h), fun _ => ?_⟩
  · show (if x = (m : Int) then true else f x) = true
    split
    · rfl
    · exact h.1 x hx
  · refine cntf_lt (fun x hx => ?_) hm ?_ (if_pos rfl)
    · show (if x = (m : Int) then true else f x) = true
      split
      · rfl
      · exact h.1 x hx
    · cases h0 : f0 (m : Int) with
      | false => rfl
      | true => rw [h.1 _ h0] at h1; cases h1
theorem PassF.keep {N : Nat} {f0 f : Int → Bool} {ch : Bool} {C C' : Prop} (h : PassF N f0 f ch C) (hc : f = f0 → C → C') : PassF N f0 f ch C' :=
  ⟨h.1, fun e => ⟨(h.2.1 e).1, hc (h.2.1 e).1 (h.2.1 e).2⟩, h.2.2⟩
/-- A mode's rules, the first j looked at. -/
def ClM (s : Sc) (f : Int → Bool) (m : Int) (j : Nat) : Prop := ∀ (t : Nat) (i : Int) (x : Ru), t < j → (lsOf s s.rs.length m)[t]? = some i → s.rs[i.toNat]? = some x → f x.to = true → f m = true
theorem clM_all {s : Sc} {f : Int → Bool} {N : Nat} (h : ∀ m : Int, 0 ≤ m → m < (N : Int) → lsOf s s.rs.length m ≠ [] → ClM s f m (lsOf s s.rs.length m).length) (hN : ∀ x ∈ s.rs, 0 ≤ x.fr ∧ x.fr < (N : Int)) : ShutF s f := fun x hx hf => by
  obtain ⟨i, hi⟩ := List.mem_iff_getElem?.1 hx
  have hil : i < s.rs.length := (List.getElem?_eq_some_iff.1 hi).1
  have hmem : (i : Int) ∈ lsOf s s.rs.length x.fr := (lsOf_mem s x.fr _ _).2 ⟨i, hil, rfl, by rw [hi]; rfl⟩
  obtain ⟨t, ht⟩ := List.mem_iff_getElem?.1 hmem
  exact h x.fr (hN x hx).1 (hN x hx).2 (List.ne_nil_of_mem hmem) t (i : Int) x (List.getElem?_eq_some_iff.1 ht).1 ht (by rw [Int.toNat_natCast]; exact hi) hf
/-- While a pass goes over the modes. -/
def LvP (s : Sc) (N gL gm n r : Nat) (V : Int → Value) (D : DataW Unit) (f0 : Int → Bool) (w1 : World) (v : Value) (wr : World) : Prop :=
  ∃ (ch : Bool) (f : Int → Bool) (left : Lit → Bool) (cnt : Nat), v = .bool ch ∧ BB wr gL N f ∧ LvM Tryz.prog 3 3 wr gm n N (gm + 1) V (lsOf s s.rs.length) D ∧ wr.ranges Tryz.prog 3 slE gm r n D left cnt ∧
    PassF N f0 f ch (∀ m : Int, 0 ≤ m → m < (N : Int) → Maps.has D (.int .i64 m) = true → left (.int .i64 m) = false → ClM s f0 m (lsOf s s.rs.length m).length) ∧ Below w1.heap.size w1 wr
/-- While a pass goes over the rules of a mode. -/
def LvQ (s : Sc) (N gL gm n r cnt m j : Nat) (V : Int → Value) (D : DataW Unit) (left : Lit → Bool) (f0 : Int → Bool) (w1 : World) (v : Value) (wr : World) : Prop :=
  ∃ (ch : Bool) (f : Int → Bool), v = .bool ch ∧ BB wr gL N f ∧ LvM Tryz.prog 3 3 wr gm n N (gm + 1) V (lsOf s s.rs.length) D ∧ wr.ranges Tryz.prog 3 slE gm r n D left cnt ∧
    PassF N f0 f ch ((∀ m' : Int, 0 ≤ m' → m' < (N : Int) → Maps.has D (.int .i64 m') = true → left (.int .i64 m') = false → m' ≠ (m : Int) → ClM s f0 m' (lsOf s s.rs.length m').length) ∧ ClM s f0 (m : Int) j) ∧ Below w1.heap.size w1 wr
end Go.Proofs.YtkjfdjcagfkdhaaGreat

/-
  The walk of layer 05: the modes that are live.
-/
namespace Go.Proofs.YtkjfdjcagfkdhaaGreat
open Go Go.RowKit Go.Maps

/-- The loop's step over the rules' lists. -/
theorem lv_next (w : World) {ops : Array Oper} {rest : List Oper} {o : Oper} {a : Act} {Q : Exit → Act → World → Prop} (hg : o.guard = none) (it : Operand) (hop : o.op = Op.next it false) {gm n N r cnt : Nat} {V : Int → Value} {Ls : Int → List Int} {D : DataW Unit} {left : Lit → Bool} (_ : N ≤ 8)
    (hit : a.eval it = .pointer (some ⟨r, 0, none⟩)) (hlv : LvM Tryz.prog 3 3 w gm n N (gm + 1) V Ls D) (h : w.ranges Tryz.prog 3 slE gm r n D left cnt)
    (hDone : (∀ m : Int, 0 ≤ m → m < (N : Int) → left (.int .i64 m) = false) → wpList Tryz.prog ops Q rest (a.put o.dst (.tuple #[.bool false])) w)
    (hMore : ∀ (m : Nat) (w' : World) (cnt' : Nat), m < N → w'.ranges Tryz.prog 3 slE gm r n D (fun z => left z && !z.sameKey (.int .i64 (m : Int))) cnt' → cnt' < cnt → w.grownBy w' (some r) → w'.heap.size = w.heap.size →
      (Instr.entry (.pointer (some ⟨r, 0, none⟩))).run Tryz.prog w' = .ok (.tuple #[.int .i64 (m : Int), V (m : Int)]) w' → wpList Tryz.prog ops Q rest (a.put o.dst (.tuple #[.bool true, .int .i64 (m : Int), V (m : Int)])) w') : wpList Tryz.prog ops Q (o :: rest) a w := by
  refine wpList_next_ranges w hg it hop 3 ltLaw.law slE (fun x : Int => Value.int .i64 x) (fun v : Value => v) (fun key kl hk => by obtain ⟨x, hx, _⟩ := Maps.keyOf_int_inv Tryz.underlying3 hk; exact ⟨x, hx⟩) (fun v _ _ => ⟨v, rfl⟩) gm r n D left cnt hit h (fun _ hl => hDone fun m _ _ => hl _) ?_
  intro x c kl y w' cnt' hk hl hy hat hrg hlt hgr hsz hen
  obtain ⟨x', hx1, rfl, _⟩ := Maps.keyOf_int_inv Tryz.underlying3 hk
  have hxx : x = x' := by injection hx1
  subst hxx
  have hh : Maps.has D (.int .i64 x) = true := has_true_of_atKey hat
  obtain ⟨h0, h1⟩ := hlv.has_ x hh
  obtain ⟨m, rfl⟩ : ∃ m : Nat, x = (m : Int) := ⟨x.toNat, (Int.toNat_of_nonneg h0).symm⟩
  have h3 := hlv.at_ (m : Int) h0 h1
  rw [hat] at h3
  have hc : c = V (m : Int) := slE_inj (ps := y.2) (by rw [hy, ← h3]) (slE_own (hlv.row (m : Int) h0 h1))
  subst hc
  exact hMore m w' cnt' (by omega) hrg hlt hgr hsz hen
/-- What Live gives. -/
def IsLive5 (s : Sc) (N : Nat) (w : World) (e : Ending) (w' : World) : Prop :=
  ∃ (g : Nat) (f : Int → Bool), e = .returned (.slice (some ⟨g, 0, none⟩) N N) ∧ w.heap.size ≤ g ∧ BB w' g N f ∧ AccF s N f ∧ ShutF s f ∧ Below w.heap.size w w'
set_option maxRecDepth 100000 in
set_option maxHeartbeats 8000000 in
theorem live5_any (s : Sc) (A : Option Addr) (c N : Nat) (w : World) (hs : ScIn w s A c) (hok : ScOK s) (hN : s.n = (N : Int)) (hN8 : N ≤ 8) : Calls Tryz.prog 41 #[.agg #[.int .i64 s.n, .int .u8 s.acc, .slice A s.rs.length c]] w (IsLive5 s N w) := by
  obtain ⟨w1, hw1⟩ : ∃ w1, w.alloc (.cells #[.int .i64 s.n, .int .u8 s.acc, .slice A s.rs.length c] 29) = w1 := ⟨_, rfl⟩
  have hb1 : Below w.heap.size w w1 := by rw [← hw1]; exact nw _ (Below.refl _ _)
  have hB : Blk w1 w.heap.size 29 #[.int .i64 s.n, .int .u8 s.acc, .slice A s.rs.length c] := by rw [← hw1]; exact Blk.new _ _ _
  have HW1 := Lib.hid hw1
  have HB1 := Lib.hid hb1
  have HCE : Hid (∀ W, Below w1.heap.size w1 W → W.cell? ⟨w.heap.size, 0, none⟩ = some (.int .i64 s.n) ∧ W.cell? ⟨w.heap.size, 1, none⟩ = some (.int .u8 s.acc) ∧ W.cell? ⟨w.heap.size, 2, none⟩ = some (.slice A s.rs.length c) ∧ w.heap.size < W.heap.size) := fun W hW => by
    have e1 := hB.below hW hB.lt
    exact ⟨by rw [e1.cell]; rfl, by rw [e1.cell]; rfl, by rw [e1.cell]; rfl, e1.lt⟩
  obtain ⟨b0, b1, b2, bl⟩ := HCE.out _ (Below.refl _ _)
  clear hw1 hb1 hB
  have hl := hs.len
  have HS := Lib.hid hs
  have HOK := Lib.hid hok
  have HN := Lib.hid hN
  have HMK := Lib.hid (marks_any s A c N w1 hN hN8)
  have HLEA : Hid (∀ W, Below w1.heap.size w1 W → Calls Tryz.prog 67 #[.agg #[.int .i64 s.n, .int .u8 s.acc, .slice A s.rs.length c]] W (IsLeav s N W)) := fun W hW => leaving5_any s A c N W (hs.below (bthen HB1.out hW)) hok hN hN8
  have HACC : Hid (∀ W (m : Int), Below w1.heap.size w1 W → 0 ≤ m ∧ m < 8 → Calls Tryz.prog 66 #[.agg #[.int .i64 s.n, .int .u8 s.acc, .slice A s.rs.length c], .int .i64 m] W fun e w' => e = .returned (.bool (accB s.acc m)) ∧ Below W.heap.size W w') := fun W m hW hm => taccepting_any s A c m W (hs.below (bthen HB1.out hW)) hm
  clear hs hok hN
  go_enter Tryz.func41, Tryz.ntmps41
  go_upto_region 1 with fail
  rw [HW1.out]
  go_wp2_with (go_at_call 65; go_loud (refine HMK.out.mono ?_; rintro e w2 ⟨gL, rfl, hgL, hBB, hb2⟩))
  have HBB2 := Lib.hid hBB
  have HB2 := Lib.hid hb2
  clear b0 b1 b2 bl hBB hb2
  go_loopw [15] (fun iv wr => ∃ (k : Nat) (f : Int → Bool), k ≤ N ∧ iv = .int .i64 (k : Int) ∧ BB wr gL N f ∧ (∀ m : Int, 0 ≤ m → m < (k : Int) → accB s.acc m = true → f m = true) ∧ Below w1.heap.size w1 wr) (fun iv _ => N - (intOf iv).toNat)
  case atStart => exact ⟨0, _, by omega, rfl, HBB2.out, fun m h0 h1 => by omega, HB2.out⟩
  case round =>
    obtain ⟨X3, rfl⟩ : ∃ W, W = wr := ⟨wr, rfl⟩
    obtain ⟨k, f, hk, rfl, hBB, hAC, hb3⟩ := hrel
    have HBB := Lib.hid hBB
    have HAC := Lib.hid hAC
    have HB3 := Lib.hid hb3
    clear hBB hAC hb3
    obtain ⟨b0, b1, b2, bl⟩ := HCE.out _ HB3.out
    by_cases hlt : k < N
    · have hkI : (k : Int) < (N : Int) := by omega
      have hk0 : (0 : Int) ≤ (k : Int) := by omega
      have hk8 : (k : Int) ≤ 8 := by omega
      go_upto_region 6 with (go_at_call 66; go_loud (refine (HACC.out _ (k : Int) HB3.out ⟨by omega, by omega⟩).mono ?_; rintro e X4 ⟨rfl, hb4⟩; have r0 := (HBB.out.below hb4).cell hlt; have rf := (HBB.out.below hb4).frozen k; have rl := (HBB.out.below hb4).lt; have HB4 := Lib.hid hb4; clear hb4))
      have HBN := Lib.hid ((HBB.out.below HB4.out).set_ k (accB s.acc (k : Int)))
      have HBX : Hid (Below w1.heap.size w1 (X4.setCell ⟨gL, k, none⟩ (.bool (accB s.acc (k : Int))))) := (HB3.out.trans (HB4.out.mono HB3.out.size)).setCell (p := ⟨gL, k, none⟩) hgL _
      go_wp2_with fail
      go_roundw
      case rel =>
        refine ⟨k + 1, _, by omega, by go_num, HBN.out, fun m h0 h1 h2 => ?_, HBX.out⟩
        show (if m = (k : Int) then accB s.acc (k : Int) else f m) = true
        by_cases e : m = (k : Int)
        · rw [if_pos e, ← e]; exact h2
        · rw [if_neg e]; exact HAC.out m h0 (by omega) h2
      case measure => simp [intOf]; omega
    · obtain rfl : k = N := by omega
      have hkI : ¬ ((k : Nat) : Int) < (k : Int) := by omega
      go_wp2_with (go_at_call 67; go_loud (refine (HLEA.out _ HB3.out).mono ?_; rintro e X5 ⟨gm, n, V, D, rfl, hgm, hLV, hb5⟩))
      have HLV5 := Lib.hid hLV
      have HB5 := Lib.hid hb5
      have HB15 : Hid (Below w1.heap.size w1 X5) := HB3.out.trans (hb5.mono HB3.out.size)
      have HBB5 := Lib.hid (HBB.out.below hb5)
      have hgmw : w1.heap.size ≤ gm := by have := HB3.out.size; omega
      have HLO : Hid (LvO s k gL gm n V D w w1 (.bool true) X5) := ⟨true, f, rfl, HBB5.out, HAC.out, HLV5.out, fun h => (by cases h), HB15.out, by have := HB1.out.size; omega⟩
      clear hLV hb5 b0 b1 b2 bl
      go_loopw [6] (fun v wr => LvO s k gL gm n V D w w1 v wr) (fun v wr => measL gL k v wr)
      case atStart => exact HLO.out
      case round =>
        obtain ⟨X6, rfl⟩ : ∃ W, W = wr := ⟨wr, rfl⟩
        obtain ⟨ch, f6, rfl, hBB6, hA6, hLV6, hSH, hb6, hwg⟩ := hrel
        have HBB6 := Lib.hid hBB6
        have HA6 := Lib.hid hA6
        have HLV6 := Lib.hid hLV6
        have HSH := Lib.hid hSH
        have HB6 := Lib.hid hb6
        clear hBB6 hA6 hLV6 hSH hb6
        cases ch with
        | false =>
          have HSH2 : Hid (ShutF s f6) := HSH.out rfl
          go_wp2_with fail
          go_ret
          exact ⟨gL, f6, rfl, hwg, HBB6.out, HA6.out, HSH2.out, bthen HB1.out HB6.out⟩
        | true =>
          clear HSH
          go_wp2_with (at_range; refine wpList_range_own _ rfl _ 128 rfl 3 64 ltLaw.law Tryz.underlying128 slE gm n D rfl HLV6.out.own ?_; intro X7 hR7 hg7 hs7)
          go_frame
          obtain ⟨r, hr⟩ : ∃ r, X6.heap.size = r := ⟨_, rfl⟩
          have hb7 := grown_none hg7 X6.heap.size (Nat.le_refl _)
          have HLP0 : Hid (LvP s k gL gm n r V D f6 w1 (.bool false) X7) := by
            rw [hr] at hR7
            exact ⟨false, f6, _, _, rfl, HBB6.out.below hb7, HLV6.out.keep hb7, hR7, ⟨fun _ h => h, fun _ => ⟨rfl, fun m _ _ h1 h2 => by rw [h1] at h2; cases h2⟩, fun h => (by cases h)⟩, HB6.out.trans (hb7.mono HB6.out.size)⟩
          have hrw : w1.heap.size ≤ r := by have := HB6.out.size; omega
          rw [hr]
          clear hr hR7 hg7 hs7 hb7
          go_loopw [6] (fun v wr => LvP s k gL gm n r V D f6 w1 v wr) (fun _ wr => wr.rangeLeft gm r)
          case atStart => exact HLP0.out
          case round =>
            obtain ⟨X8, rfl⟩ : ∃ W, W = wr := ⟨wr, rfl⟩
            obtain ⟨ch, f8, left, cnt, rfl, hBB8, hLV8, hR8, hPF, hb8⟩ := hrel
            have HBB8 := Lib.hid hBB8
            have HLV8 := Lib.hid hLV8
            have HR8 := Lib.hid hR8
            have HPF := Lib.hid hPF
            have HB8 := Lib.hid hb8
            clear hBB8 hLV8 hR8 hPF hb8
            go_wp2_with (at_next; refine lv_next _ rfl _ rfl hN8 rfl HLV8.out HR8.out (fun hd => ?_) (fun m X9 cnt9 hm hR9 hlt9 hg9 hs9 hen => ?_); rotate_left; obtain ⟨Am, cm, hVm, hcm, hcmm, hslm⟩ := own_ints (HLV8.out.row (m : Int) (by omega) (by omega)) (by simp); rw [hVm] at hen ⊢)
            · obtain ⟨left2, hl2⟩ : ∃ L2 : Lit → Bool, (fun z => left z && !z.sameKey (.int .i64 (m : Int))) = L2 := ⟨_, rfl⟩
              have HL2 : Hid (∀ m' : Int, m' ≠ (m : Int) → left2 (.int .i64 m') = left (.int .i64 m')) := fun m' hne => by
                rw [← hl2]
                show (left (.int .i64 m') && !Lit.sameKey (.int .i64 m') (.int .i64 (m : Int))) = _
                rw [sameKey_ne (mkey_ne hne)]
                simp
              have HQ0 : Hid (LvQ s k gL gm n r cnt9 m 0 V D left2 f6 w1 (.bool ch) X9) := by
                refine ⟨ch, f8, rfl, HBB8.out.iter HR8.out hg9, HLV8.out.iter HR8.out hg9, by rw [← hl2]; exact hR9, HPF.out.keep fun _ hc => ⟨fun m' h0 h1 h2 h3 h4 => hc m' h0 h1 h2 (by rw [← HL2.out m' h4]; exact h3), fun t _ _ ht => absurd ht (Nat.not_lt_zero _)⟩, HB8.out.grown hg9 HB8.out.size (fun k hk => by injection hk with hk; omega)⟩
              have HVM := Lib.hid hVm
              have hl64 : (lsOf s s.rs.length (m : Int)).length ≤ 65536 := by have := lsOf_len s (m : Int) s.rs.length; omega
              have hLT9 : Hid (cnt9 < cnt) := hlt9
              clear hl2 hVm hR9 hg9 hs9 hen hslm hlt9
              obtain ⟨LS, hLS⟩ : ∃ l, lsOf s s.rs.length (m : Int) = l := ⟨_, rfl⟩
              have HLS := Lib.hid hLS
              rw [hLS] at hl64 HVM hcm ⊢
              clear hLS
              go_loopw [6, 37] (fun v jv wr => ∃ j : Nat, j ≤ LS.length ∧ jv = .int .i64 (j : Int) ∧ LvQ s k gL gm n r cnt9 m j V D left2 f6 w1 v wr) (fun _ jv _ => LS.length - (intOf jv).toNat)
              case atStart => exact ⟨0, by omega, rfl, HQ0.out⟩
              case round =>
                obtain ⟨X10, rfl⟩ : ∃ W, W = wr := ⟨wr, rfl⟩
                obtain ⟨j, hj, rfl, ch10, f10, rfl, hBBq, hLVq, hRq, hPFq, hbq⟩ := hrel
                have HBBQ := Lib.hid hBBq
                have HLVQ := Lib.hid hLVq
                have HRQ := Lib.hid hRq
                have HPFQ := Lib.hid hPFq
                have HBQ := Lib.hid hbq
                clear hBBq hLVq hRq hPFq hbq
                obtain ⟨b0, b1, b2, bl⟩ := HCE.out _ HBQ.out
                by_cases hjl : j < LS.length
                · have hjI : (j : Int) < (LS.length : Int) := by omega
                  have hj0 : (0 : Int) ≤ (j : Int) := by omega
                  have hj6 : (j : Int) ≤ 65536 := by omega
                  have hsl : SlR 1 RInt X10 Am LS := by
                    have h1 := HLVQ.out.row (m : Int) (by omega) (by omega)
                    rw [HLS.out, HVM.out] at h1
                    obtain ⟨A2, c2, h2, _, _, hs2⟩ := own_ints h1 rfl
                    injection h2 with h2
                    rw [h2]
                    exact hs2
                  obtain ⟨ba, oa, i, rfl, hba, hxi, hci⟩ := hsl.int hjl
                  obtain ⟨ii, hii, rfl, hfr⟩ : ∃ ii : Nat, ii < s.rs.length ∧ i = (ii : Int) ∧ (s.rs[ii]?).map Ru.fr = some (m : Int) := by
                    have h1 := List.mem_of_getElem? hxi
                    rw [← HLS.out] at h1
                    exact (lsOf_mem s _ _ _).1 h1
                  obtain ⟨bx, ox, x, rfl, hbx, hxx, d0, d1, d2, d3, d4⟩ := ((HS.out.below (bthen HB1.out HBQ.out)).sl).ru hii
                  have hru := (HOK.out.2.2.2.1 x (List.mem_of_getElem? hxx)).1.2
                  have hiI : (ii : Int) < (s.rs.length : Int) := by omega
                  have hi0 : (0 : Int) ≤ (ii : Int) := by omega
                  have hto0 : 0 ≤ x.to := hru.1
                  have hto1 : x.to < (k : Int) := by have := HN.out; omega
                  have htoN : x.to.toNat < k := by omega
                  have hm0 : (0 : Int) ≤ (m : Int) := by omega
                  have hm1 : (m : Int) < (k : Int) := by omega
                  have HX : Hid (∀ (i' : Int) (x' : Ru), LS[j]? = some i' → s.rs[i'.toNat]? = some x' → x' = x) := fun i' x' h1 h2 => by
                    rw [hxi] at h1
                    have h1 := Option.some.inj h1
                    rw [← h1, Int.toNat_natCast, hxx] at h2
                    exact (Option.some.inj h2).symm
                  have r0 := HBBQ.out.cell htoN
                  have rm := HBBQ.out.cell hm
                  have rf := HBBQ.out.frozen m
                  have rl := HBBQ.out.lt
                  rw [Int.toNat_of_nonneg hto0] at r0
                  clear hru hxx hxi hfr hsl
                  cases hft : f10 x.to with
                  | false =>
                    have HQN : Hid (PassF k f6 f10 ch10 ((∀ m' : Int, 0 ≤ m' → m' < (k : Int) → Maps.has D (.int .i64 m') = true → left2 (.int .i64 m') = false → m' ≠ (m : Int) → ClM s f6 m' (lsOf s s.rs.length m').length) ∧ ClM s f6 (m : Int) (j + 1))) := HPFQ.out.keep fun hf hc => ⟨hc.1, fun t i' x' ht h1 h2 h3 => by
                      rcases Nat.lt_or_ge t j with h4 | h4
                      · exact hc.2 t i' x' h4 h1 h2 h3
                      · obtain rfl : t = j := by omega
                        rw [HLS.out] at h1
                        rw [HX.out i' x' h1 h2, ← hf, hft] at h3
                        cases h3⟩
                    rw [hft] at r0
                    clear hft
                    go_wp2_with fail
                    go_roundw
                    case rel => exact ⟨j + 1, by omega, by go_num, ch10, f10, rfl, HBBQ.out, HLVQ.out, HRQ.out, HQN.out, HBQ.out⟩
                    case measure => simp [intOf]; omega
                  | true =>
                    rw [hft] at r0
                    cases hfm : f10 (m : Int) with
                    | true =>
                      have HQN : Hid (PassF k f6 f10 ch10 ((∀ m' : Int, 0 ≤ m' → m' < (k : Int) → Maps.has D (.int .i64 m') = true → left2 (.int .i64 m') = false → m' ≠ (m : Int) → ClM s f6 m' (lsOf s s.rs.length m').length) ∧ ClM s f6 (m : Int) (j + 1))) := HPFQ.out.keep fun hf hc => ⟨hc.1, fun t i' x' ht h1 h2 h3 => by
                        rcases Nat.lt_or_ge t j with h4 | h4
                        · exact hc.2 t i' x' h4 h1 h2 h3
                        · rw [← hf]; exact hfm⟩
                      rw [hfm] at rm
                      clear hft hfm
                      go_wp2_with fail
                      go_roundw
                      case rel => exact ⟨j + 1, by omega, by go_num, ch10, f10, rfl, HBBQ.out, HLVQ.out, HRQ.out, HQN.out, HBQ.out⟩
                      case measure => simp [intOf]; omega
                    | false =>
                      have HQN : Hid (PassF k f6 (fun x => if x = (m : Int) then true else f10 x) true ((∀ m' : Int, 0 ≤ m' → m' < (k : Int) → Maps.has D (.int .i64 m') = true → left2 (.int .i64 m') = false → m' ≠ (m : Int) → ClM s f6 m' (lsOf s s.rs.length m').length) ∧ ClM s f6 (m : Int) (j + 1))) := HPFQ.out.mark hm hfm
                      rw [hfm] at rm
                      have HG10 := Lib.hid (grown_set X10 gL m (.bool true))
                      have HB10 : Hid (Below w1.heap.size w1 (X10.setCell ⟨gL, m, none⟩ (.bool true))) := HBQ.out.setCell (p := ⟨gL, m, none⟩) hgL _
                      clear hft hfm
                      go_wp2_with fail
                      go_roundw
                      case rel => exact ⟨j + 1, by omega, by go_num, true, _, rfl, HBBQ.out.set_ m true, HLVQ.out.far HBBQ.out HG10.out, rng_far HRQ.out HBBQ.out HG10.out, HQN.out, HB10.out⟩
                      case measure => simp [intOf]; omega
                · obtain rfl : j = LS.length := by omega
                  have hjI : ¬ ((LS.length : Nat) : Int) < (LS.length : Int) := by omega
                  have HEND : Hid (LvP s k gL gm n r V D f6 w1 (.bool ch10) X10) := ⟨ch10, f10, left2, cnt9, rfl, HBBQ.out, HLVQ.out, HRQ.out, HPFQ.out.keep fun _ hc m' h0 h1 h2 h3 => by
                    by_cases e : m' = (m : Int)
                    · rw [e, HLS.out]; exact hc.2
                    · exact hc.1 m' h0 h1 h2 h3 e, HBQ.out⟩
                  have HLF : Hid (X10.rangeLeft gm r < X8.rangeLeft gm r) := by
                    show X10.rangeLeft gm r < X8.rangeLeft gm r
                    rw [HRQ.out.left_eq, HR8.out.left_eq]
                    exact hLT9.out
                  go_wp2_with fail
                  first
                    | exact ⟨HEND.out, HLF.out⟩
                    | (go_roundw
                       case rel => exact HEND.out
                       case measure => exact HLF.out)
            · refine ⟨⟨ch, f8, rfl, HBB8.out, fun m h0 h1 h2 => HPF.out.1 _ (HA6.out m h0 h1 h2), HLV8.out, fun hch => ?_, HB8.out, hwg⟩, ?_⟩
              · obtain ⟨he, hcl⟩ := HPF.out.2.1 hch
                rw [he]
                exact clM_all (fun m h0 h1 hne => hcl m h0 h1 (HLV8.out.put m h0 h1 hne) (hd m h0 h1)) (fun x hx => by have := (HOK.out.2.2.2.1 x hx).1.1; have := HN.out; omega)
              · have e8 := cntF_bb HBB8.out
                have e6 := cntF_bb HBB6.out
                unfold measL
                rw [e8, e6]
                cases ch with
                | false =>
                  obtain ⟨he, _⟩ := HPF.out.2.1 rfl
                  rw [he]
                  show 2 * _ + 0 < 2 * _ + 1
                  omega
                | true =>
                  have h := HPF.out.2.2 rfl
                  unfold cntf at h
                  show 2 * _ + 1 < 2 * _ + 1
                  omega
end Go.Proofs.YtkjfdjcagfkdhaaGreat
