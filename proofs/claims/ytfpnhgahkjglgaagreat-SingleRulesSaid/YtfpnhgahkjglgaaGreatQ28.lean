/-
  OuBestP, SiChkP, OuBestW, joined. No conditions.
-/
import Derived.Test.YtfpnhgahkjglgaaGreatQ26
import Derived.Test.YtfpnhgahkjglgaaGreatQ27
import Derived.Test.YtfpnhgahkjglgaaGreatQ03
import Derived.Test.YtfpnhgahkjglgaaGreatQ21
import Derived.Laws.EntriesVeiled
import Derived.Carry
/-
  What Best gives, and its loops' memory.
-/
namespace Go.Proofs.YtfpnhgahkjglgaaGreat
open Go Go.RowKit Go.Maps

open Classical in
/-- What Best gives. -/
noncomputable def bestR (s : Sc) (inp : ByteArray) (k : Int) : List Rs × Int :=
  if ¬ (soundE s = 0 ∧ letB inp = true ∧ 1 ≤ k ∧ k ≤ 50) then ([], 1) else if Big 2000 s inp then ([], 2) else if bestL s inp = [] then ([], 50) else ((bestL s inp).take k.toNat, 0)
theorem bestR_arg {s : Sc} {inp : ByteArray} {k : Int} (h : ¬ (soundE s = 0 ∧ letB inp = true ∧ 1 ≤ k ∧ k ≤ 50)) : bestR s inp k = ([], 1) := if_pos h
theorem bestR_big {s : Sc} {inp : ByteArray} {k : Int} (h : soundE s = 0 ∧ letB inp = true ∧ 1 ≤ k ∧ k ≤ 50) (h2 : Big 2000 s inp) : bestR s inp k = ([], 2) := (if_neg (fun x => x h)).trans (if_pos h2)
theorem bestR_none {s : Sc} {inp : ByteArray} {k : Int} (h : soundE s = 0 ∧ letB inp = true ∧ 1 ≤ k ∧ k ≤ 50) (h2 : ¬ Big 2000 s inp) (h3 : bestL s inp = []) : bestR s inp k = ([], 50) := (if_neg (fun x => x h)).trans ((if_neg h2).trans (if_pos h3))
theorem bestR_ok {s : Sc} {inp : ByteArray} {k : Int} (h : soundE s = 0 ∧ letB inp = true ∧ 1 ≤ k ∧ k ≤ 50) (h2 : ¬ Big 2000 s inp) (h3 : bestL s inp ≠ []) : bestR s inp k = ((bestL s inp).take k.toNat, 0) := (if_neg (fun x => x h)).trans ((if_neg h2).trans (if_neg h3))
/-- What Best answers and leaves. -/
def IsBestR (s : Sc) (inp : ByteArray) (k : Int) (w : World) (e : Ending) (w' : World) : Prop :=
  ∃ (xs : List Rs) (er : Int) (A : Option Addr) (c : Nat), e = .returned (.tuple #[.slice A xs.length c, .int .i64 er]) ∧ (xs, er) = bestR s inp k ∧ (xs.length ≤ c ∧ c ≤ maxLen) ∧ SlR 2 RRs w' A xs ∧ Below w.heap.size w w'
theorem IsBestR.nil {s : Sc} {inp : ByteArray} {k : Int} {w w' : World} {er : Int} (h : bestR s inp k = ([], er)) (hb : Below w.heap.size w w') : IsBestR s inp k w (.returned (.tuple #[.slice none 0 0, .int .i64 er])) w' :=
  ⟨[], er, none, 0, rfl, h.symm, ⟨Nat.le_refl _, Nat.zero_le _⟩, SlR.nil, hb⟩
theorem IsRun.parts {K : Type} {kt : TypeId} {enc : K → Value} {S : Sys K} {st : K} {inp : ByteArray} {most : Nat} {w w' : World} {e : Ending} (h : IsRun kt enc S st inp most w e w') :
    (∃ o M, e = .returned (.tuple #[.map o, .bool true]) ∧ Below w.heap.size w w' ∧ TabO Tryz.prog kt 3 enc w' o most M ∧ Holds M (Rch S st (bl inp) inp.size) ∧ ∀ i, i ≤ inp.size → ¬ TooMany most (Rch S st (bl inp) i)) ∨
    (∃ o i, e = .returned (.tuple #[.map o, .bool false]) ∧ Below w.heap.size w w' ∧ i ≤ inp.size ∧ TooMany most (Rch S st (bl inp) i)) := by
  obtain ⟨o, bo, rfl, h1, h2, h3⟩ := h
  cases bo with
  | false =>
    obtain ⟨i, hi, h4⟩ := h3 rfl
    exact .inr ⟨o, i, rfl, h1, hi, h4⟩
  | true =>
    obtain ⟨M, h4, _, h5, h6⟩ := h2 rfl
    exact .inl ⟨o, M, rfl, h1, h4, h5, h6⟩
theorem pair_facts {s : Sc} (hs : ScOK s) {inp : ByteArray} (hF : FlatS s inp) (hi : inp.size ≤ 40) {i : Nat} {k : Int × ByteArray} {d : Int} (hil : i ≤ inp.size) (h : Rch (pairS s) (0, ByteArray.empty) (bl inp) i k d) :
    (KOk Tryz.prog 85 vPair k ∧ 0 ≤ d ∧ d ≤ 1000000) ∧ (0 ≤ k.1 ∧ k.1 < 8) ∧ k.2.size ≤ 1000 := by
  obtain ⟨t, _, h3⟩ := pair_rte h
  have h4 := rte_mode hs h3
  have hn := hs.1
  have h5 := pair_cost hs h
  have h6 := rch_costB (S := pairS s) hF (fun r hr => (hs.2.2.2.1 r hr).2.2.2) i k d h
  have h7 := pair_size hs hF h
  have h8 : k.2.size ≤ 1000 := by omega
  exact ⟨⟨keyPair_ok (wf_small (by omega) (by omega)) (by unfold maxLen; omega), h5, by omega⟩, ⟨by omega, by omega⟩, h8⟩
/-- The texts of accepted pairs that have been looked at. -/
def DoneP (acc : Int) (M : Int × ByteArray → Option Int) (L : Int × ByteArray → Bool) (t : ByteArray) (c : Int) : Prop := ∃ m, accB acc m = true ∧ M (m, t) = some c ∧ L (m, t) = false
theorem doneP_start {acc : Int} {M : Int × ByteArray → Option Int} : Holds (fun _ : ByteArray => none) (DoneP acc M (fun k => (M k).isSome)) := fun t => ⟨fun c h => (by cases h), fun _ c ⟨m, _, h1, h2⟩ => by
  have h2 : (M (m, t)).isSome = false := h2
  rw [h1] at h2
  cases h2⟩
theorem doneP_iff {acc : Int} {M : Int × ByteArray → Option Int} {L : Int × ByteArray → Bool} {k : Int × ByteArray} {d : Int} (hk : M k = some d) {t : ByteArray} {c : Int} :
    DoneP acc M (fun x => L x && !decide (x = k)) t c ↔ DoneP acc M L t c ∨ (accB acc k.1 = true ∧ t = k.2 ∧ c = d) := by
  constructor
  · rintro ⟨m, h1, h2, h3⟩
    have h3 : (L (m, t) && !decide ((m, t) = k)) = false := h3
    by_cases e : (m, t) = k
    · subst e
      rw [hk] at h2
      exact .inr ⟨h1, rfl, (Option.some.inj h2).symm⟩
    · exact .inl ⟨m, h1, h2, by simpa [e] using h3⟩
  · rintro (⟨m, h1, h2, h3⟩ | ⟨h1, rfl, rfl⟩)
    · exact ⟨m, h1, h2, by show (L (m, t) && _) = false; rw [h3]; rfl⟩
    · exact ⟨k.1, h1, hk, by show (L (k.1, k.2) && !decide ((k.1, k.2) = k)) = false; simp⟩
theorem doneP_no {acc : Int} {M : Int × ByteArray → Option Int} {L : Int × ByteArray → Bool} {k : Int × ByteArray} {d : Int} (hk : M k = some d) (ha : accB acc k.1 = false) {T : ByteArray → Option Int} (h : Holds T (DoneP acc M L)) : Holds T (DoneP acc M (fun x => L x && !decide (x = k))) :=
  holds_iff h fun t c => by
    rw [doneP_iff hk]
    exact ⟨.inl, fun h => h.elim id fun h => by rw [ha] at h; cases h.1⟩
theorem doneP_yes {acc : Int} {M : Int × ByteArray → Option Int} {L : Int × ByteArray → Bool} {k : Int × ByteArray} {d : Int} (hk : M k = some d) (ha : accB acc k.1 = true) {T : ByteArray → Option Int} (h : Holds T (DoneP acc M L)) : Holds (relaxT T k.2 d) (DoneP acc M (fun x => L x && !decide (x = k))) :=
  holds_step h fun t c => by
    rw [doneP_iff hk]
    exact ⟨fun h => h.elim .inl fun h => .inr h.2, fun h => h.elim .inl fun h => .inr ⟨ha, h⟩⟩
theorem rtab_cnt {K : Type} {kt : TypeId} {enc : K → Value} {w : World} {o : Option Nat} {r n cnt : Nat} {M : K → Option Int} {L : K → Bool} (h : RTabO Tryz.prog kt 3 enc w o r n M L cnt) : cnt ≤ n := by
  cases o with
  | none => exact h.2.2.2 ▸ Nat.zero_le _
  | some b =>
    obtain ⟨D, left, ⟨es, clock, since, seen, c0, _, _, h3, _, _, _, h7, _⟩, _⟩ := h
    rw [← h7]
    unfold leftOf
    exact Nat.le_trans (Array.size_filter_le ..) h3
/-- The loop over the pairs: the texts' costs so far. -/
def BsI (acc : Int) (M : Int × ByteArray → Option Int) (o : Option Nat) (r gc cm : Nat) (w w6 wr : World) : Prop :=
  ∃ (L : Int × ByteArray → Bool) (cnt n : Nat) (T : ByteArray → Option Int), RTabO Tryz.prog 85 3 vPair wr o r 2000 M L cnt ∧ Tab Tryz.prog 9 3 (fun k : ByteArray => Value.string k) wr gc n T ∧ n + cnt ≤ cm ∧ Holds T (DoneP acc M L) ∧ (∀ t c, T t = some c → t.size ≤ 1000 ∧ 0 ≤ c ∧ c ≤ 1000000) ∧ CelK w6 wr ∧ Below w.heap.size w wr
theorem best_done {s : Sc} {inp : ByteArray} (hF : FlatS s inp) {M : Int × ByteArray → Option Int} (hM : Holds M (Rch (pairS s) (0, ByteArray.empty) (bl inp) inp.size)) {L : Int × ByteArray → Bool} (hL : ∀ k c, M k = some c → L k = false) {T : ByteArray → Option Int} (hT : Holds T (DoneP s.acc M L))
    {l : List ByteArray} (hl : KeysOf T l) {R : List Rs} (hp : R.Perm (l.map fun t => ⟨t, (T t).getD 0⟩)) (hs : R.Pairwise LeR) : R = bestL s inp := by
  refine IsRes.unique (IsRes.congr (isRes_table hT hl hp hs) (fun t c h => ?_) (fun t c h => ?_)) (best_is hF)
  · obtain ⟨m, h1, h2, _⟩ := h
    exact ⟨m, h1, pair_iff.1 ((hM _).1 c h2).1⟩
  · obtain ⟨m, h1, h2⟩ := h
    obtain ⟨d, hd, hdc⟩ := hM.some_ (pair_iff.2 h2)
    exact ⟨d, ⟨m, h1, hd, hL _ d hd⟩, hdc⟩
/-- A map's states are listed, each with its cost. -/
def RgR (T : ByteArray → Option Int) (b r n g2 : Nat) (w1 : World) (v : Value) (wr : World) : Prop :=
  ∃ (ks : List ByteArray) (Lf : ByteArray → Bool) (cnt : Nat), ks.Nodup ∧ (∀ k, k ∈ ks ↔ (T k ≠ none ∧ Lf k = false)) ∧ wr.ownsRow g2 48 2 v ks.length (ks.flatMap (fun t => encRs ⟨t, (T t).getD 0⟩)) ∧ RTab Tryz.prog 9 3 (fun k : ByteArray => Value.string k) wr b r n T Lf cnt ∧ Below g2 w1 wr
theorem RgR.round {T : ByteArray → Option Int} {b r n g2 : Nat} {w1 wR w4 w5 : World} {v v' : Value} {ks : List ByteArray} {Lf : ByteArray → Bool} {cnt cnt4 : Nat}
    (h1 : ks.Nodup) (h2 : ∀ k, k ∈ ks ↔ (T k ≠ none ∧ Lf k = false)) (h3 : wR.ownsRow g2 48 2 v ks.length (ks.flatMap (fun t => encRs ⟨t, (T t).getD 0⟩))) (h4 : RTab Tryz.prog 9 3 (fun k : ByteArray => Value.string k) wR b r n T Lf cnt) (h5 : Below g2 w1 wR) (hg : g2 ≤ r) (hs : g2 ≤ w1.heap.size)
    {k : ByteArray} {d : Int} (hk : T k = some d) (hl : Lf k = true) (hR4 : RTab Tryz.prog 9 3 (fun k : ByteArray => Value.string k) w4 b r n T (fun x => Lf x && !decide (x = k)) cnt4) (hg4 : wR.grownBy w4 (some r))
    (hown : w5.ownsRow g2 48 2 v' (ks.length + 1) (ks.flatMap (fun t => encRs ⟨t, (T t).getD 0⟩) ++ [.string k, .int .i64 d])) (hb : Below g2 w4 w5) (ha : Apps w4 w5 v v') : RgR T b r n g2 w1 v' w5 ∧ RTab Tryz.prog 9 3 (fun k : ByteArray => Value.string k) w5 b r n T (fun x => Lf x && !decide (x = k)) cnt4 := by
  obtain ⟨h6, h7⟩ := RgI.more h1 h2 hk hl
  have h8 := own_iter h4 hg4 h3
  have h11 := rtab_apps hR4 ha h8
  have hown2 : w5.ownsRow g2 48 2 v' (ks.length + 1) (ks.flatMap (fun t => encRs ⟨t, (T t).getD 0⟩) ++ encRs ⟨k, (T k).getD 0⟩) := by rw [hk]; exact hown
  refine ⟨⟨ks ++ [k], _, cnt4, h6, h7, own_snoc hown2, h11, ?_⟩, h11⟩
  exact (h5.grown hg4 (Nat.le_trans hs h5.size) (fun k hk => by injection hk with hk; omega)).trans hb
section
variable {acc : Int} {M : Int × ByteArray → Option Int} {o : Option Nat} {r gc cm cnt cnt9 n : Nat} {w w6 X8 X9 X10 XF : World} {L : Int × ByteArray → Bool} {T : ByteArray → Option Int} {k : Int × ByteArray} {d : Int}
theorem BsI.no (hT : Tab Tryz.prog 9 3 (fun k : ByteArray => Value.string k) X8 gc n T) (hR : RTabO Tryz.prog 85 3 vPair X8 o r 2000 M L cnt) (hn : n + cnt ≤ cm) (hD : Holds T (DoneP acc M L)) (hB : ∀ t c, T t = some c → t.size ≤ 1000 ∧ 0 ≤ c ∧ c ≤ 1000000) (hc : CelK w6 X8) (hb : Below w.heap.size w X8)
    (hM : M k = some d) (ha : accB acc k.1 = false) (hR9 : RTabO Tryz.prog 85 3 vPair X9 o r 2000 M (fun x => L x && !decide (x = k)) cnt9) (hlt : cnt9 < cnt) (hg : X8.grownBy X9 (some r)) (hr : w.heap.size ≤ r) (hgr : gc ≠ r) (hF : Below X9.heap.size X9 XF) :
    BsI acc M o r gc cm w w6 XF ∧ leftO XF o r < leftO X8 o r := by
  have hb9 : Below w.heap.size w X9 := hb.grown hg hb.size (fun k hk => by injection hk with hk; omega)
  have hT9 := hT.keep (hg.block gc hT.lt (fun e => hgr (Option.some.inj e)))
  have hRF := hR9.below hF
  refine ⟨⟨_, cnt9, n, T, hRF, hT9.keep (hF.block gc hT9.lt), by omega, doneP_no hM ha hD, hB, (hc.trans (CelK.of_iter hg hR.iter)).trans (CelK.of_below hF), hb9.trans (hF.mono hb9.size)⟩, ?_⟩
  rw [hRF.left_eq, hR.left_eq]
  exact hlt
theorem BsI.yes (hT : Tab Tryz.prog 9 3 (fun k : ByteArray => Value.string k) X8 gc n T) (hR : RTabO Tryz.prog 85 3 vPair X8 o r 2000 M L cnt) (hn : n + cnt ≤ cm) (hD : Holds T (DoneP acc M L)) (hB : ∀ t c, T t = some c → t.size ≤ 1000 ∧ 0 ≤ c ∧ c ≤ 1000000) (hc : CelK w6 X8) (hb : Below w.heap.size w X8)
    (hM : M k = some d) (ha : accB acc k.1 = true) (hR9 : RTabO Tryz.prog 85 3 vPair X9 o r 2000 M (fun x => L x && !decide (x = k)) cnt9) (hlt : cnt9 < cnt) (hg : X8.grownBy X9 (some r)) (hr : w.heap.size ≤ r) (hgr : gc ≠ r) (hX : Below X9.heap.size X9 X10)
    (hTF : Tab Tryz.prog 9 3 (fun k : ByteArray => Value.string k) XF gc (n + 1) (relaxT T k.2 d)) (hgF : X10.grownBy XF (some gc)) (hgc : w.heap.size ≤ gc) (ho : ∀ b, o = some b → b ≠ gc) (hkb : k.2.size ≤ 1000 ∧ 0 ≤ d ∧ d ≤ 1000000) :
    BsI acc M o r gc cm w w6 XF ∧ leftO XF o r < leftO X8 o r := by
  have hb9 : Below w.heap.size w X9 := hb.grown hg hb.size (fun k hk => by injection hk with hk; omega)
  have hT9 := hT.keep (hg.block gc hT.lt (fun e => hgr (Option.some.inj e)))
  have hT10 := hT9.keep (hX.block gc hT9.lt)
  have hb10 : Below w.heap.size w X10 := hb9.trans (hX.mono hb9.size)
  have hRF := (hR9.below hX).other hgF ho hT10.isMap
  refine ⟨⟨_, cnt9, n + 1, _, hRF, hTF, by omega, doneP_yes hM ha hD, fun t c h => ?_, ((hc.trans (CelK.of_iter hg hR.iter)).trans (CelK.of_below hX)).trans (CelK.of_map hgF hT10.isMap), hb10.grown hgF hb10.size (fun k hk => by injection hk with hk; omega)⟩, ?_⟩
  · unfold relaxT at h
    split at h
    · rename_i e
      subst e
      split at h
      · rename_i oo ho2
        obtain rfl := Option.some.inj h
        have := hB _ _ ho2
        omega
      · obtain rfl := Option.some.inj h
        exact hkb
    · exact hB t c h
  · rw [hRF.left_eq, hR.left_eq]
    exact hlt
end
/-- The loop's step over a map from texts. -/
theorem nextStr (w : World) {ops : Array Oper} {rest : List Oper} {o : Oper} {a : Act} {Q : Exit → Act → World → Prop} (hg : o.guard = none) (it : Operand) (hop : o.op = Op.next it false) {b : Option Nat} {r n cnt : Nat} {M : ByteArray → Option Int} {L : ByteArray → Bool} (hit : a.eval it = .pointer (some ⟨r, 0, none⟩)) (h : RTabO Tryz.prog 9 3 (fun k : ByteArray => Value.string k) w b r n M L cnt)
    (hDone : (∀ k, KOk Tryz.prog 9 (fun k : ByteArray => Value.string k) k → L k = false) → wpList Tryz.prog ops Q rest (a.put o.dst (.tuple #[.bool false])) w)
    (hMore : ∀ (k : ByteArray) (c : Int) (w' : World) (cnt' : Nat), KOk Tryz.prog 9 (fun k : ByteArray => Value.string k) k → M k = some c → L k = true → RTabO Tryz.prog 9 3 (fun k : ByteArray => Value.string k) w' b r n M (fun x => L x && !decide (x = k)) cnt' → cnt' < cnt → w.grownBy w' (some r) → w'.heap.size = w.heap.size →
      (Instr.entry (.pointer (some ⟨r, 0, none⟩))).run Tryz.prog w' = .ok (.tuple #[.string k, .int .i64 c]) w' → wpList Tryz.prog ops Q rest (a.put o.dst (.tuple #[.bool true, .string k, .int .i64 c])) w') : wpList Tryz.prog ops Q (o :: rest) a w :=
  tabO_next ktStr w hg it hop hit h hDone hMore
theorem flat_rs (T : ByteArray → Option Int) : ∀ ks : List ByteArray, ks.flatMap (fun t => encRs ⟨t, (T t).getD 0⟩) = (ks.map fun t => (⟨t, (T t).getD 0⟩ : Rs)).flatMap encRs
  | [] => rfl
  | k :: ks => by rw [List.flatMap_cons, List.map_cons, List.flatMap_cons, flat_rs T ks]
theorem take_min_ {α : Type} (L : List α) (k : Nat) : L.take (min k L.length) = L.take k := by
  rcases Nat.le_total k L.length with h | h
  · rw [Nat.min_eq_left h]
  · rw [Nat.min_eq_right h, List.take_of_length_le (Nat.le_refl _), List.take_of_length_le h]
end Go.Proofs.YtfpnhgahkjglgaaGreat

/-
  What Check, Proves and Is of layer 08 answer. Plain laws. No conditions.
-/
namespace Go.Proofs.YtfpnhgahkjglgaaGreat
open Go List

/-- What Check answers: an input, two outputs, an error. -/
def ChkP (s : Sc) (ti ta tb : ByteArray) (er : Int) : Prop :=
  (soundE s ≠ 0 ∧ ti = ByteArray.empty ∧ ta = ByteArray.empty ∧ tb = ByteArray.empty ∧ er = 20) ∨
  (soundE s = 0 ∧ FirstTo s none ∧ ti = ByteArray.empty ∧ ta = ByteArray.empty ∧ tb = ByteArray.empty ∧ er = 0) ∨
  (soundE s = 0 ∧ ∃ u, FirstTo s (some u) ∧ ((Big 2000 s (ba u) ∧ ti = ByteArray.empty ∧ ta = ByteArray.empty ∧ tb = ByteArray.empty ∧ er = 2) ∨
    (¬ Big 2000 s (ba u) ∧ ∃ x y l, bestL s (ba u) = x :: y :: l ∧ ti = ba u ∧ ta = x.tx ∧ tb = y.tx ∧ er = 80)))
theorem first_let {s : Sc} (hok : ScOK s) {u : List UInt8} (h : FirstTo s (some u)) : letB (ba u) = true := by
  obtain ⟨⟨h1, _⟩, h2⟩ := h
  obtain ⟨x, _, c, _, ⟨m, _, hw⟩, _⟩ := twice_iff.1 (show Twice (schA s) (bl (ba u)) from h1)
  exact letB_iff.2 ⟨h2, rte_small hok hw⟩
theorem first_best {s : Sc} {u : List UInt8} (hF : FlatS s (ba u)) (h : FirstTo s (some u)) : 2 ≤ (bestL s (ba u)).length := (twice_best hF).1 (show Twice (schA s) (bl (ba u)) from h.1.1)
theorem chk_best {s : Sc} (hE : soundE s = 0) (hfl : ScOK s → SoundP s → FlatR s) {u : List UInt8} (hu : FirstTo s (some u)) {l : List Rs} {er : Int} (hb : (l, er) = bestR s (ba u) 2) :
    (l = [] ∧ er = 2 ∧ Big 2000 s (ba u)) ∨ (∃ x y r, l = [x, y] ∧ er = 0 ∧ ¬ Big 2000 s (ba u) ∧ bestL s (ba u) = x :: y :: r) := by
  obtain ⟨hok, hsp⟩ := soundE_iff.1 hE
  have hk : soundE s = 0 ∧ letB (ba u) = true ∧ (1 : Int) ≤ 2 ∧ (2 : Int) ≤ 50 := ⟨hE, first_let hok hu, by decide, by decide⟩
  by_cases hbig : Big 2000 s (ba u)
  · rw [bestR_big hk hbig] at hb
    injection hb with h1 h2
    exact .inl ⟨h1, h2, hbig⟩
  · have h2 := first_best (pair_flat (hfl hok hsp) (bl (ba u))) hu
    cases hL : bestL s (ba u) with
    | nil => rw [hL] at h2; simp at h2
    | cons x l' => cases l' with
      | nil => rw [hL] at h2; simp at h2
      | cons y r =>
        rw [bestR_ok hk hbig (by rw [hL]; simp), hL] at hb
        injection hb with h3 h4
        exact .inr ⟨x, y, r, h3, h4, hbig, rfl⟩
theorem ChkP.ok {s : Sc} {ti ta tb : ByteArray} {er : Int} (h : ChkP s ti ta tb er) : er = 0 ↔ soundE s = 0 ∧ FirstTo s none := by
  rcases h with ⟨h1, _, _, _, rfl⟩ | ⟨h1, h2, _, _, _, rfl⟩ | ⟨h1, u, h2, ⟨_, _, _, _, rfl⟩ | ⟨_, _, _, _, _, _, _, _, rfl⟩⟩
  · exact ⟨fun h => absurd h (by decide), fun h => absurd h.1 h1⟩
  · exact ⟨fun _ => ⟨h1, h2⟩, fun _ => rfl⟩
  · exact ⟨fun h => absurd h (by decide), fun h => by have := firstTo_unique h.2 h2; cases this⟩
  · exact ⟨fun h => absurd h (by decide), fun h => by have := firstTo_unique h.2 h2; cases this⟩
/-- What Proves answers. -/
def PrvP (s : Sc) (ti ta tb : ByteArray) : Prop := soundE s = 0 ∧ ta ≠ tb ∧ letB ti = true ∧ (∃ c, Whole s ti ta c) ∧ ∃ c, Whole s ti tb c
theorem cost_ge {s : Sc} {i o : ByteArray} {r : Int} (hr : CostOf s i o r) : 0 ≤ r ↔ soundE s = 0 ∧ letB i = true ∧ ∃ c, Whole s i o c := by
  by_cases h : soundE s = 0 ∧ letB i = true
  · rcases hr.1 h with ⟨rfl, h1⟩ | ⟨h1, h2, h3⟩
    · exact ⟨fun h => absurd h (by decide), fun ⟨_, _, c, hc⟩ => absurd hc (h1 c)⟩
    · exact ⟨fun _ => ⟨h.1, h.2, _, h2⟩, fun _ => h1⟩
  · rw [hr.2 h]
    exact ⟨fun h => absurd h (by decide), fun ⟨h1, h2, _⟩ => absurd ⟨h1, h2⟩ h⟩
end Go.Proofs.YtfpnhgahkjglgaaGreat

/-
  The walk of layer 05: Best.
-/
namespace Go.Proofs.YtfpnhgahkjglgaaGreat
open Go Go.RowKit Go.Maps

theorem infoR : (Tryz.prog.info? 48).map (fun i => (i.zero, i.size, i.bytes)) = some (some (.agg #[.string ByteArray.empty, .int .i64 0]), 2, 24) := by kernel_rfl
set_option maxRecDepth 100000 in
set_option maxHeartbeats 8000000 in
theorem best05_any (s : Sc) (A : Option Addr) (c : Nat) (inp : ByteArray) (k : Int) (w : World) (hs : ScIn w s A c) (hfl : ScOK s → SoundP s → FlatR s) (hin : inp.size ≤ maxLen) (hk0 : 0 ≤ k) (hk1 : k ≤ 1000) :
    Calls Tryz.prog 18 #[.agg #[.int .i64 s.n, .int .u8 s.acc, .slice A s.rs.length c], .string inp, .int .i64 k] w (IsBestR s inp k w) := by
  obtain ⟨i0, hinf, hz0, hz1, hz2⟩ := info_parts infoR
  obtain ⟨w1, hw1⟩ : ∃ w1, w.alloc (.cells #[.int .i64 s.n, .int .u8 s.acc, .slice A s.rs.length c] 30) = w1 := ⟨_, rfl⟩
  obtain ⟨g, hg⟩ : ∃ g, w.heap.size = g := ⟨_, rfl⟩
  have hb1 : Below w.heap.size w w1 := by rw [← hw1]; exact nw _ (Below.refl _ _)
  have hB : Blk w1 g 30 #[.int .i64 s.n, .int .u8 s.acc, .slice A s.rs.length c] := by rw [← hw1, ← hg]; exact Blk.new _ _ _
  have HW1 := Lib.hid hw1
  have HG := Lib.hid hg
  have HB1 := Lib.hid hb1
  have HBX := Lib.hid hB
  have HS := Lib.hid hs
  have HFL := Lib.hid hfl
  have HSO : Hid (∀ W, Below w1.heap.size w1 W → Calls Tryz.prog 37 #[.agg #[.int .i64 s.n, .int .u8 s.acc, .slice A s.rs.length c]] W fun e w' => e = .returned (.bool (decide (soundE s = 0))) ∧ Below W.heap.size W w') := fun W hW => osound05_any s A c W (hs.below (bthen hb1 hW))
  have HLE : Hid (∀ W : World, Calls Tryz.prog 38 #[.string inp] W fun e w' => e = .returned (.bool (letB inp)) ∧ W = w') := fun W => letters_any inp W hin
  have b0 := hB.cell 0
  have b1 := hB.cell 1
  have b2 := hB.cell 2
  have bl_ := hB.lt
  simp at b0 b1 b2
  clear hw1 hg hb1 hB hs hfl
  cases hso : decide (soundE s = 0) with
  | false =>
    have HC : Hid (bestR s inp k = ([], 1)) := bestR_arg (fun h => of_decide_eq_false hso h.1)
    rw [hso] at HSO
    clear hso
    go_enter Tryz.func18, Tryz.ntmps18
    go_upto_region 1 with fail
    rw [HW1.out, HG.out]
    go_wp2_with (first | (go_at_call 37; go_loud (refine (HSO.out _ (Below.refl _ _)).mono ?_; rintro e w2 ⟨rfl, hb2⟩)) | (go_at_call 38; refine (HLE.out _).mono ?_; rintro e w' ⟨rfl, rfl⟩))
    go_ret2
    exact IsBestR.nil HC.out (HB1.out.trans (hb2.mono HB1.out.size))
  | true =>
    rw [hso] at HSO
    have HSE := Lib.hid (of_decide_eq_true hso)
    clear hso
    cases hle : letB inp with
    | false =>
      have HC : Hid (bestR s inp k = ([], 1)) := bestR_arg (fun h => by rw [hle] at h; cases h.2.1)
      rw [hle] at HLE
      clear hle
      go_enter Tryz.func18, Tryz.ntmps18
      go_upto_region 1 with fail
      rw [HW1.out, HG.out]
      go_wp2_with (first | (go_at_call 37; go_loud (refine (HSO.out _ (Below.refl _ _)).mono ?_; rintro e w2 ⟨rfl, hb2⟩)) | (go_at_call 38; refine (HLE.out _).mono ?_; rintro e w' ⟨rfl, rfl⟩))
      go_ret2
      exact IsBestR.nil HC.out (HB1.out.trans (hb2.mono HB1.out.size))
    | true =>
      rw [hle] at HLE
      have HLI := Lib.hid hle
      have hi40 : inp.size ≤ 40 := by have := hle; unfold letB at this; simp at this; exact this.1
      clear hle
      by_cases hk : k < 1
      · have HC : Hid (bestR s inp k = ([], 1)) := bestR_arg (fun h => by omega)
        go_enter Tryz.func18, Tryz.ntmps18
        go_upto_region 1 with fail
        rw [HW1.out, HG.out]
        go_wp2_with (first | (go_at_call 37; go_loud (refine (HSO.out _ (Below.refl _ _)).mono ?_; rintro e w2 ⟨rfl, hb2⟩)) | (go_at_call 38; refine (HLE.out _).mono ?_; rintro e w' ⟨rfl, rfl⟩))
        go_ret2
        exact IsBestR.nil HC.out (HB1.out.trans (hb2.mono HB1.out.size))
      · by_cases hk2 : 50 < k
        · have HC : Hid (bestR s inp k = ([], 1)) := bestR_arg (fun h => by omega)
          go_enter Tryz.func18, Tryz.ntmps18
          go_upto_region 1 with fail
          rw [HW1.out, HG.out]
          go_wp2_with (first | (go_at_call 37; go_loud (refine (HSO.out _ (Below.refl _ _)).mono ?_; rintro e w2 ⟨rfl, hb2⟩)) | (go_at_call 38; refine (HLE.out _).mono ?_; rintro e w' ⟨rfl, rfl⟩))
          go_ret2
          exact IsBestR.nil HC.out (HB1.out.trans (hb2.mono HB1.out.size))
        · have HARG : Hid (soundE s = 0 ∧ letB inp = true ∧ 1 ≤ k ∧ k ≤ 50) := ⟨HSE.out, HLI.out, by omega, by omega⟩
          obtain ⟨hok, hsp⟩ := soundE_iff.1 HSE.out
          have hFl := HFL.out hok hsp
          have HOK := Lib.hid hok
          have HFS : Hid (FlatS s inp) := pair_flat hFl (bl inp)
          clear hok hsp hFl
          go_enter Tryz.func18, Tryz.ntmps18
          go_upto_region 1 with fail
          rw [HW1.out, HG.out]
          go_upto_region 3 with (first | (go_at_call 37; go_loud (refine (HSO.out _ (Below.refl _ _)).mono ?_; rintro e w2 ⟨rfl, hb2⟩)) | (go_at_call 38; refine (HLE.out _).mono ?_; rintro e w' ⟨rfl, rfl⟩))
          have HB2 : Hid (Below w.heap.size w w2) := HB1.out.trans (hb2.mono HB1.out.size)
          have HBY := Lib.hid (HBX.out.below hb2 HBX.out.lt)
          clear b0 b1 b2 bl_ hb2
          have b0 := HBY.out.cell 0
          have b1 := HBY.out.cell 1
          have b2 := HBY.out.cell 2
          have bl_ := HBY.out.lt
          simp at b0 b1 b2
          go_upto_region 4 with fail
          obtain ⟨w4, hw4⟩ : ∃ W, w2.alloc (.cells #[.int .i64 s.n, .int .u8 s.acc, .slice A s.rs.length c, .func (.func 39) #[] #[], .func (.func 40) #[] #[], .int .i64 2000] 89) = W := ⟨_, rfl⟩
          obtain ⟨g8, hg8⟩ : ∃ g, w2.heap.size = g := ⟨_, rfl⟩
          have hb4 : Below w2.heap.size w2 w4 := by rw [← hw4]; exact nw _ (Below.refl _ _)
          have hWK : Blk w4 g8 89 #[.int .i64 s.n, .int .u8 s.acc, .slice A s.rs.length c, .func (.func 39) #[] #[], .func (.func 40) #[] #[], .int .i64 2000] := by rw [← hw4, ← hg8]; exact Blk.new _ _ _
          have HB4 : Hid (Below w.heap.size w w4) := HB2.out.trans (hb4.mono HB2.out.size)
          have HB4X := Lib.hid (HBY.out.below hb4 HBY.out.lt)
          rw [hw4, hg8]
          have HRUN : Hid (Calls Tryz.prog 41 #[.agg #[.int .i64 s.n, .int .u8 s.acc, .slice A s.rs.length c, .func (.func 39) #[] #[], .func (.func 40) #[] #[], .int .i64 2000], .agg #[.int .i64 0, .string ByteArray.empty], .string inp] w4 (IsRun 85 vPair (pairS s) (0, ByteArray.empty) inp 2000 w4)) :=
            runPair_any (pairS s) (0, ByteArray.empty) inp s A c 2000 w4 (HS.out.below HB4.out) HOK.out rfl HFS.out (by omega) (by decide) (by decide) (keyPair_ok (wf_small (by decide) (by decide)) (by decide))
              (fun i k d hi h => (pair_facts HOK.out HFS.out hi40 hi h).1) (fun W k => modePair_any k W) (fun W _ k x hx ⟨i, d, hi, h⟩ => stepPair_any s k x W (by have h1 := (pair_facts HOK.out HFS.out hi40 hi h).2.2; have h2 := (HOK.out.2.2.2.1 x hx).2.2.1.1; omega))
          have k0 := hWK.cell 0
          have k1 := hWK.cell 1
          have k2 := hWK.cell 2
          have k3 := hWK.cell 3
          have k4 := hWK.cell 4
          have k5 := hWK.cell 5
          have kl := hWK.lt
          simp at k0 k1 k2 k3 k4 k5
          clear hw4 hg8 hb4 hWK b0 b1 b2 bl_
          have hmm := @run_makeMap Tryz.prog
          go_wp2_with (first | (go_at_call 41; go_loud (refine HRUN.out.mono ?_; rintro e w5 hru; rcases hru.parts with ⟨o, M, rfl, hb5, hTO, hM, hfew⟩ | ⟨o, i, rfl, hb5, hi, hmany⟩)) | (at_range; refine tabO_range ktPair _ rfl _ rfl (b := o) rfl (hTO.keep fun b hb => Below.heap_alloc _ _ b (hTO.lt b hb)) ?_; intro w7 cnt7 hR7 hg7 hs7))
          · go_frame
            obtain ⟨gc, hgc⟩ : ∃ b, w5.heap.size = b := ⟨_, rfl⟩
            have hs6 : (w5.alloc (.map #[] 0)).heap.size = gc + 1 := by simp [hgc]
            have hb6 : Below w5.heap.size w5 (w5.alloc (.map #[] 0)) := nw _ (Below.refl _ _)
            have hb67 : Below gc w5 w7 := by rw [← hgc]; exact hb6.trans (grown_none hg7 _ (by rw [hs6]; omega))
            have HB5 : Hid (Below w.heap.size w w5) := HB4.out.trans (hb5.mono HB4.out.size)
            have HB7 : Hid (Below w.heap.size w w7) := HB5.out.trans (hb67.mono (by have := HB5.out.size; omega))
            have hgcw : w.heap.size ≤ gc := by have := HB5.out.size; omega
            have HB7X : Hid (Blk w7 g 30 #[.int .i64 s.n, .int .u8 s.acc, .slice A s.rs.length c]) := (HB4X.out.below hb5 HB4X.out.lt).below hb67 (by have := (HB4X.out.below hb5 HB4X.out.lt).lt; omega)
            have hOB : ∀ b, o = some b → b ≠ gc := fun b hb => by have := hTO.lt b hb; omega
            have hT0 : Tab Tryz.prog 9 3 (fun k : ByteArray => Value.string k) (w5.alloc (.map #[] 0)) gc 0 (fun _ => none) := by rw [← hgc]; exact Tab.made w5
            have HBS0 : Hid (BsI s.acc M o (gc + 1) gc cnt7 w w7 w7) := by
              rw [hs6] at hR7
              exact ⟨_, cnt7, 0, _, hR7, hT0.keep ((grown_none hg7 _ (Nat.le_refl _)).block gc (by omega)), by omega, doneP_start, fun _ _ h => (by cases h), CelK.refl _, HB7.out⟩
            have hcm : cnt7 ≤ 2000 := rtab_cnt hR7
            have HM := Lib.hid hM
            have HFEW := Lib.hid hfew
            have HOB := Lib.hid hOB
            rw [hs6]
            try rw [hgc]
            clear hs6 hb6 hb67 hb5 hT0 hR7 hg7 hs7 hTO hM hfew hOB hgc hmm k0 k1 k2 k3 k4 k5 kl
            have HCC : Hid (∀ W, CelK w7 W → W.cell? ⟨g, 0, none⟩ = some (.int .i64 s.n) ∧ W.cell? ⟨g, 1, none⟩ = some (.int .u8 s.acc) ∧ W.cell? ⟨g, 2, none⟩ = some (.slice A s.rs.length c) ∧ g < W.heap.size) := fun W hW => by
              have e1 := hW.blk HB7X.out
              exact ⟨by rw [e1.cell]; rfl, by rw [e1.cell]; rfl, by rw [e1.cell]; rfl, e1.lt⟩
            go_loopw [] (fun wr => BsI s.acc M o (gc + 1) gc cnt7 w w7 wr) (fun wr => leftO wr o (gc + 1))
            case atStart => exact HBS0.out
            case round =>
              obtain ⟨X8, rfl⟩ : ∃ W, W = wr := ⟨wr, rfl⟩
              obtain ⟨L, cnt, n, TT, hR8, hT8, hnc, hD8, hTB, hc8, hb8⟩ := hrel
              have HR8 := Lib.hid hR8
              have HT8 := Lib.hid hT8
              have HD8 := Lib.hid hD8
              have HTB := Lib.hid hTB
              have HC8 := Lib.hid hc8
              have HB8 := Lib.hid hb8
              clear hR8 hT8 hD8 hTB hc8 hb8
              have HTW : Hid (∀ (X9 W : World), X8.grownBy X9 (some (gc + 1)) → Below X9.heap.size X9 W → Tab Tryz.prog 9 3 (fun k : ByteArray => Value.string k) W gc n TT) := fun X9 W h1 h2 => by
                have h3 := HT8.out.keep (h1.block gc HT8.out.lt (fun e => by have := Option.some.inj e; omega))
                exact h3.keep (h2.block gc h3.lt)
              obtain ⟨l, hl, hln⟩ := HT8.out.keys
              have HL := Lib.hid hl
              have hl2 : l.length ≤ 2000 := by omega
              clear hl
              go_wp2_with (first | (at_next; refine nextPair _ rfl _ rfl (b := o) rfl HR8.out (fun hd => ?_) (fun q d X9 cnt9 hq hMq hLq hR9 hlt9 hg9 hs9 hen => have hck := fun (cs : Array Value) => HCC.out (X9.alloc (.cells cs 85)) ((HC8.out.trans (CelK.of_iter hg9 HR8.out.iter)).trans (CelK.of_below (nw _ (Below.refl _ _)))); have b0 := fun cs => (hck cs).1; have b1 := fun cs => (hck cs).2.1; have b2 := fun cs => (hck cs).2.2.1; have bl_ := fun cs => (hck cs).2.2.2; have HMQ := Lib.hid hMq; have HR9 := Lib.hid hR9; have HG9 := Lib.hid hg9; have HQF := Lib.hid (pair_facts HOK.out HFS.out hi40 (Nat.le_refl _) ((HM.out q).1 d hMq).1); ?_); by_cases hl0 : l.length = 0; rotate_left 2; cases hac : accB s.acc q.1) | (go_at_call 42; go_loud (refine (oaccepting_any s A c q.1 _ (HS.out.below (nw _ (HB8.out.grown HG9.out HB8.out.size (fun k hk => by injection hk with hk; omega)))) HQF.out.2.1).mono ?_; rintro e X10 ⟨rfl, hb10⟩; have HB10 := Lib.hid (Below.trans (nw _ (Below.refl X9.heap.size X9)) (hb10.mono (by simp))); have hqb : Blk (X9.alloc (.cells #[.int .i64 q.1, .string q.2] 85)) X8.heap.size 85 #[.int .i64 q.1, .string q.2] := Blk.new_ hs9.symm; have hqb2 := hqb.below hb10 hqb.lt; have z0 := hqb2.cell 0; have z1 := hqb2.cell 1; have zl := hqb2.lt; simp at z0 z1; clear hb10 hqb hqb2)) | (go_at_call 43; go_loud (refine (relaxStr_any q.2 d gc n TT _ (HTW.out _ _ HG9.out HB10.out) (by unfold maxLen; omega) (keyStr_ok (by have := HQF.out.2.2; unfold maxLen; omega)) (wf_small HQF.out.1.2.1 HQF.out.1.2.2)).mono ?_; rintro e X11 ⟨rfl, hT11, hg11⟩)) | (at_len; refine tab_len ktStr _ rfl _ rfl rfl HT8.out ?_; intro l2 hl2; rw [show l2.length = l.length from Nat.le_antisymm (keysOf_le hl2 HL.out) (keysOf_le HL.out hl2)]) | (at_make; refine wpList_make_own _ rfl _ _ 43 rfl X8.heap.size 48 i0 _ 2 Tryz.underlying43 hinf hz0 hz1 .i64 .i64 _ l.length rfl rfl rfl (by rw [hz2]; omega) (by unfold maxLen; omega) (Nat.le_refl _) ?_; intro Y1 hownY hgY; have HOWY := Lib.hid hownY; have HGY := Lib.hid hgY; clear hownY hgY) | (at_range; refine tab_range ktStr _ rfl _ rfl rfl (hT2_of HT8.out HGY.out) ?_; intro Y2 cntY hRY hgY2 hsY2))
              · exact BsI.no HT8.out HR8.out hnc HD8.out HTB.out HC8.out HB8.out HMQ.out hac HR9.out hlt9 HG9.out (by omega) (by omega) HB10.out
              · exact BsI.yes HT8.out HR8.out hnc HD8.out HTB.out HC8.out HB8.out HMQ.out hac HR9.out hlt9 HG9.out (by omega) (by omega) HB10.out hT11 hg11 hgcw HOB.out ⟨HQF.out.2.2, HQF.out.1.2⟩
              · go_ret2
                have hl1 : l = [] := List.eq_nil_of_length_eq_zero (by simpa using hl0)
                have hD := best_done HFS.out HM.out (fun q d h => hd q (TabO.ok HR8.out.tab (by rw [h]; simp))) HD8.out HL.out (R := []) (by rw [hl1]; exact List.Perm.refl _) List.Pairwise.nil
                exact IsBestR.nil (bestR_none HARG.out (fun ⟨i, hi, h⟩ => HFEW.out i hi h) hD.symm) HB8.out
              · go_frame
                have hb2 := grown_none hgY2 Y1.heap.size (Nat.le_refl _)
                obtain ⟨r2, hr2⟩ : ∃ r, Y1.heap.size = r := ⟨_, rfl⟩
                obtain ⟨g2, hg2⟩ : ∃ g, X8.heap.size = g := ⟨_, rfl⟩
                have HG2 := Lib.hid hg2
                have hg12 : g2 ≤ r2 := by have := HGY.out.size; omega
                have HOY2 : Hid (Y2.ownsRow g2 48 2 (.slice (some ⟨g2, 0, none⟩) 0 l.length) 0 []) := by have h := own_below HOWY.out hb2; rw [hg2] at h; exact h
                have HBY2 : Hid (Below g2 X8 Y2) := (grown_none HGY.out g2 (by omega)).trans (hb2.mono (by omega))
                have HRY2 : Hid (RTab Tryz.prog 9 3 (fun k : ByteArray => Value.string k) Y2 gc r2 n TT (fun t => (TT t).isSome) cntY) := by rw [hr2] at hRY; exact hRY
                have hX8 : (∀ q d, M q = some d → L q = false) := fun q d h => hd q (TabO.ok HR8.out.tab (by rw [h]; simp))
                have HX8 := Lib.hid hX8
                have hlne : l.length ≠ 0 := by simpa using hl0
                rw [hr2, hg2]
                clear hb2 hr2 hg2 hRY hgY2 hsY2 hX8 hl0 hd
                go_loopw [14] (fun v wr => RgR TT gc r2 n g2 X8 v wr) (fun _ wr => wr.rangeLeft gc r2)
                case atStart => exact ⟨[], _, cntY, List.Pairwise.nil, fun t => by simp, HOY2.out, HRY2.out, HBY2.out⟩
                case round =>
                  obtain ⟨Z0, rfl⟩ : ∃ W, W = wr := ⟨wr, rfl⟩
                  obtain ⟨ks, Lf, cntZ, hnd, hmem, hownZ, hRZ, hbZ⟩ := hrel
                  have HRZ := Lib.hid hRZ
                  have HOWZ := Lib.hid hownZ
                  have HBZ := Lib.hid hbZ
                  have HMEM := Lib.hid hmem
                  have hksl : ks.length ≤ 2000 := by
                    have := nodup_le hnd fun t ht => (HL.out.2 t).2 ((HMEM.out t).1 ht).1
                    omega
                  have hZs : g2 ≤ Z0.heap.size := by have := HBZ.out.size; have := HG2.out; omega
                  clear hownZ hRZ hbZ hmem
                  obtain ⟨LL, hLL⟩ : ∃ LL : List Rs, (ks.map fun t => (⟨t, (TT t).getD 0⟩ : Rs)) = LL := ⟨_, rfl⟩
                  have hLLn : LL.length = ks.length := by rw [← hLL, List.length_map]
                  have HLL := Lib.hid hLL
                  have HOWL : Hid (∀ v n, Z0.ownsRow g2 48 2 v n (ks.flatMap fun t => encRs ⟨t, (TT t).getD 0⟩) → n = ks.length → Z0.ownsRow g2 48 2 v LL.length (LL.flatMap encRs)) := fun v n h e => by
                    rw [flat_rs, HLL.out, e, ← hLLn] at h
                    exact h
                  have HKS : Hid ((∀ t, KOk Tryz.prog 9 (fun k : ByteArray => Value.string k) t → Lf t = false) → KeysOf TT ks) := fun hd => ⟨hnd, fun t => ⟨fun h => ((HMEM.out t).1 h).1, fun h => (HMEM.out t).2 ⟨h, hd t (TabO.ok (o := some gc) (RTab.tab HRZ.out) h)⟩⟩⟩
                  clear hLL
                  obtain ⟨mN, hmN⟩ : ∃ m, min k.toNat ks.length = m := ⟨_, rfl⟩
                  have HMN := Lib.hid hmN
                  have hmin : min k (ks.length : Int) = (mN : Int) := by omega
                  have hmL : (mN : Int) ≤ (ks.length : Int) := by omega
                  have hm0 : (0 : Int) ≤ (mN : Int) := by omega
                  clear hmN
                  go_wp2_with (first | (at_next; refine nextStr _ rfl _ rfl (b := some gc) rfl HRZ.out (fun hd => ?_) (fun t d Z1 cnt1 ht hTt hLt hR1 hlt1 hg1 hs1 hen => ?_)) | (at_builtin; go_loud (refine wpList_app1 rfl _ _ 43 rfl g2 48 i0 _ 2 24 Tryz.underlying43 hinf hz0 hz1 hz2 rfl (by decide) _ ks.length (ks.flatMap (fun t => encRs ⟨t, (TT t).getD 0⟩)) rfl Z1 [.string t, .int .i64 d] rfl (own_iter HRZ.out hg1 HOWZ.out) _ rfl (by simp [hs1]) rfl (by simp [Value.oneCell']) (by omega) (by decide) (by omega) ?_; intro v5 Z5 hown5 hb5 ha5)) | (go_at_call 44; go_loud (refine (sortedF_any g2 _ LL _ (HOWL.out _ _ HOWZ.out rfl) hZs (fun e => hlne (by have h1 := keysOf_le HL.out (HKS.out hd); rw [← hLLn, e] at h1; simp at h1; rw [h1]; rfl)) (by omega)).mono ?_; rintro e Z6 ⟨g6, cap6, LS, rfl, ⟨hg6, hc6, hcm6⟩, hpm, hsd, hsl6, hb6⟩; have HPM := Lib.hid hpm; have HSD := Lib.hid hsd; have HSL6 := Lib.hid hsl6; have HB6 := Lib.hid hb6; have HC6 := Lib.hid hcm6; have HTK : Hid ((LS.take mN).length = mN) := (by show (LS.take mN).length = mN; rw [List.length_take, hpm.length_eq]; omega); clear hpm hsd hsl6 hb6 hcm6)) | (go_at_call 47; go_loud (have hcl := cloneR_any (some ⟨g6, 0, none⟩) (LS.take mN) cap6 _ (slr_pre5 HSL6.out mN) (by rw [HTK.out]; omega); rw [HTK.out] at hcl; refine hcl.mono ?_; rintro e Z7 ⟨v7, rfl, hown7, hb7⟩)))
                  · go_ret2
                    obtain ⟨A7, c7, rfl, hn7, hm7, hs7⟩ := own_slr (R := RRs) (xs := LS.take mN) hown7 (fun _ => rfl) (fun _ => rfl) HTK.out.symm
                    have hLS : LS = bestL s inp := best_done HFS.out HM.out HX8.out HD8.out (HKS.out hd) (by rw [HLL.out]; exact HPM.out) HSD.out
                    have hne : bestL s inp ≠ [] := fun e => by
                      rw [hLS] at HPM
                      have h1 := HPM.out.length_eq
                      rw [e, hLLn] at h1
                      have h2 := keysOf_le HL.out (HKS.out hd)
                      rw [← h1] at h2
                      simp at h2
                      rw [h2] at hlne
                      exact hlne rfl
                    have htk : LS.take mN = (bestL s inp).take k.toNat := by
                      rw [← HMN.out, ← hLLn, ← HPM.out.length_eq, take_min_, hLS]
                    refine ⟨(bestL s inp).take k.toNat, 0, A7, c7, ?_, (bestR_ok HARG.out (fun ⟨i, hi, h⟩ => HFEW.out i hi h) hne).symm, ?_, ?_, ?_⟩
                    · rw [← htk, HTK.out] <;> rfl
                    · rw [← htk, HTK.out]; exact ⟨hn7, hm7⟩
                    · rw [← htk]; exact hs7
                    · have hZ := HG2.out
                      exact ((HB8.out.trans (HBZ.out.mono (by have := HB8.out.size; omega))).trans (HB6.out.mono (by have := HB8.out.size; omega))).trans (hb7.mono (by have := HB8.out.size; have := HBZ.out.size; have := HB6.out.size; omega))
                  · have h := RgR.round hnd HMEM.out HOWZ.out HRZ.out HBZ.out hg12 (Nat.le_of_eq HG2.out.symm) hTt hLt hR1 hg1 hown5 hb5 ha5
                    refine ⟨h.1, ?_⟩
                    rw [RTab.left_eq h.2, RTab.left_eq HRZ.out]
                    exact hlt1
          · go_ret2
            exact IsBestR.nil (bestR_big HARG.out ⟨i, hi, hmany⟩) (HB4.out.trans (hb5.mono HB4.out.size))
end Go.Proofs.YtfpnhgahkjglgaaGreat
