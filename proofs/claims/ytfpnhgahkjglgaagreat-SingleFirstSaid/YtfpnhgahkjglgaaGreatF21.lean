/-
  OuBestP, SiChkP, OuLiveA, OuLvm, GrMade, OrdV, Ret, GrWalkC, OuLeave, OuLvr, OuLiveW, joined. No conditions.
-/
import Derived.Test.YtfpnhgahkjglgaaGreatF19
import Derived.Test.YtfpnhgahkjglgaaGreatF20
import Derived.Test.YtfpnhgahkjglgaaGreatF03
import Derived.Test.YtfpnhgahkjglgaaGreatF17
import Derived.Test.YtfpnhgahkjglgaaGreatF14
import Derived.Test.YtfpnhgahkjglgaaGreatF15
import Derived.Test.YtfpnhgahkjglgaaGreatF05
import Derived.Laws.Rows
import Derived.Laws.ResultCell
import Derived.Test.YtfpnhgahkjglgaaGreatF06
import Derived.Deep.DeepCutAuto
import Derived.Carry
namespace Go.Proofs.YtfpnhgahkjglgaaGreat
open Go Go.RowKit Go.Maps
open Classical in
noncomputable def bestR (s : Sc) (inp : ByteArray) (k : Int) : List Rs × Int :=
 if ¬ (soundE s = 0 ∧ letB inp = true ∧ 1 ≤ k ∧ k ≤ 50) then ([], 1) else if Big 2000 s inp then ([], 2) else if bestL s inp = [] then ([], 50) else ((bestL s inp).take k.toNat, 0)
theorem bestR_arg {s : Sc} {inp : ByteArray} {k : Int} (h : ¬ (soundE s = 0 ∧ letB inp = true ∧ 1 ≤ k ∧ k ≤ 50)) : bestR s inp k = ([], 1) := if_pos h
theorem bestR_big {s : Sc} {inp : ByteArray} {k : Int} (h : soundE s = 0 ∧ letB inp = true ∧ 1 ≤ k ∧ k ≤ 50) (h2 : Big 2000 s inp) : bestR s inp k = ([], 2) := (if_neg (fun x => x h)).trans (if_pos h2)
theorem bestR_none {s : Sc} {inp : ByteArray} {k : Int} (h : soundE s = 0 ∧ letB inp = true ∧ 1 ≤ k ∧ k ≤ 50) (h2 : ¬ Big 2000 s inp) (h3 : bestL s inp = []) : bestR s inp k = ([], 50) := (if_neg (fun x => x h)).trans ((if_neg h2).trans (if_pos h3))
theorem bestR_ok {s : Sc} {inp : ByteArray} {k : Int} (h : soundE s = 0 ∧ letB inp = true ∧ 1 ≤ k ∧ k ≤ 50) (h2 : ¬ Big 2000 s inp) (h3 : bestL s inp ≠ []) : bestR s inp k = ((bestL s inp).take k.toNat, 0) := (if_neg (fun x => x h)).trans ((if_neg h2).trans (if_neg h3))
def IsBestR (s : Sc) (inp : ByteArray) (k : Int) (w : World) (e : Ending) (w' : World) : Prop :=
 ∃ (xs : List Rs) (er : Int) (A : Option Addr) (c : Nat), e = .returned (.tuple #[.slice A xs.length c, .int .i64 er]) ∧ (xs, er) = bestR s inp k ∧ (xs.length ≤ c ∧ c ≤ maxLen) ∧ SlR 2 RRs w' A xs ∧ Below w.heap.size w w'
theorem IsBestR.nil {s : Sc} {inp : ByteArray} {k : Int} {w w' : World} {er : Int} (h : bestR s inp k = ([], er)) (hb : Below w.heap.size w w') : IsBestR s inp k w (.returned (.tuple #[.slice none 0 0, .int .i64 er])) w' :=
 ⟨[], er, none, 0, rfl, h.symm, ⟨Nat.le_refl _, Nat.zero_le _⟩, SlR.nil, hb⟩
theorem IsRun.parts {K : Type} {kt : TypeId} {enc : K → Value} {S : Sys K} {st : K} {inp : ByteArray} {most : Nat} {w w' : World} {e : Ending} (h : IsRun kt enc S st inp most w e w') :
 (∃ o M, e = .returned (.tuple #[.map o, .bool true]) ∧ Below w.heap.size w w' ∧ TabO Tryz.prog kt 3 enc w' o most M ∧ Holds M (Rch S st (bl inp) inp.size) ∧ ∀ i, i ≤ inp.size → ¬ TooMany most (Rch S st (bl inp) i)) ∨
 (∃ o i, e = .returned (.tuple #[.map o, .bool false]) ∧ Below w.heap.size w w' ∧ i ≤ inp.size ∧ TooMany most (Rch S st (bl inp) i)) := by
 obtain ⟨o, bo, rfl, h1, h2, h3⟩ := h
 cases bo with
 | false =>
  obtain ⟨i, hi, h4⟩ := h3 rfl
  exact .inr ⟨o, i, rfl, h1, hi, h4⟩
 | true =>
  obtain ⟨M, h4, _, h5, h6⟩ := h2 rfl
  exact .inl ⟨o, M, rfl, h1, h4, h5, h6⟩
theorem pair_facts {s : Sc} (hs : ScOK s) {inp : ByteArray} (hF : FlatS s inp) (hi : inp.size ≤ 40) {i : Nat} {k : Int × ByteArray} {d : Int} (hil : i ≤ inp.size) (h : Rch (pairS s) (0, ByteArray.empty) (bl inp) i k d) :
 (KOk Tryz.prog 85 vPair k ∧ 0 ≤ d ∧ d ≤ 1000000) ∧ (0 ≤ k.1 ∧ k.1 < 8) ∧ k.2.size ≤ 1000 := by
 obtain ⟨t, _, h3⟩ := pair_rte h
 have h4 := rte_mode hs h3
 have hn := hs.1
 have h5 := pair_cost hs h
 have h6 := rch_costB (S := pairS s) hF (fun r hr => (hs.2.2.2.1 r hr).2.2.2) i k d h
 have h7 := pair_size hs hF h
 have h8 : k.2.size ≤ 1000 := by omega
 exact ⟨⟨keyPair_ok (wf_small (by omega) (by omega)) (by unfold maxLen; omega), h5, by omega⟩, ⟨by omega, by omega⟩, h8⟩
def DoneP (acc : Int) (M : Int × ByteArray → Option Int) (L : Int × ByteArray → Bool) (t : ByteArray) (c : Int) : Prop := ∃ m, accB acc m = true ∧ M (m, t) = some c ∧ L (m, t) = false
theorem doneP_start {acc : Int} {M : Int × ByteArray → Option Int} : Holds (fun _ : ByteArray => none) (DoneP acc M (fun k => (M k).isSome)) := fun t => ⟨fun c h => (by cases h), fun _ c ⟨m, _, h1, h2⟩ => by
 have h2 : (M (m, t)).isSome = false := h2
 rw [h1] at h2
 cases h2⟩
theorem doneP_iff {acc : Int} {M : Int × ByteArray → Option Int} {L : Int × ByteArray → Bool} {k : Int × ByteArray} {d : Int} (hk : M k = some d) {t : ByteArray} {c : Int} :
 DoneP acc M (fun x => L x && !decide (x = k)) t c ↔ DoneP acc M L t c ∨ (accB acc k.1 = true ∧ t = k.2 ∧ c = d) := by
 constructor
 ·rintro ⟨m, h1, h2, h3⟩
  have h3 : (L (m, t) && !decide ((m, t) = k)) = false := h3
  by_cases e : (m, t) = k
  ·subst e
   rw [hk] at h2
   exact .inr ⟨h1, rfl, (Option.some.inj h2).symm⟩
  ·exact .inl ⟨m, h1, h2, by simpa [e] using h3⟩
 ·rintro (⟨m, h1, h2, h3⟩ | ⟨h1, rfl, rfl⟩)
  ·exact ⟨m, h1, h2, by show (L (m, t) && _) = false; rw [h3]; rfl⟩
  ·exact ⟨k.1, h1, hk, by show (L (k.1, k.2) && !decide ((k.1, k.2) = k)) = false; simp⟩
theorem doneP_no {acc : Int} {M : Int × ByteArray → Option Int} {L : Int × ByteArray → Bool} {k : Int × ByteArray} {d : Int} (hk : M k = some d) (ha : accB acc k.1 = false) {T : ByteArray → Option Int} (h : Holds T (DoneP acc M L)) : Holds T (DoneP acc M (fun x => L x && !decide (x = k))) :=
 holds_iff h fun t c => by
  rw [doneP_iff hk]
  exact ⟨.inl, fun h => h.elim id fun h => by rw [ha] at h; cases h.1⟩
theorem doneP_yes {acc : Int} {M : Int × ByteArray → Option Int} {L : Int × ByteArray → Bool} {k : Int × ByteArray} {d : Int} (hk : M k = some d) (ha : accB acc k.1 = true) {T : ByteArray → Option Int} (h : Holds T (DoneP acc M L)) : Holds (relaxT T k.2 d) (DoneP acc M (fun x => L x && !decide (x = k))) :=
 holds_step h fun t c => by
  rw [doneP_iff hk]
  exact ⟨fun h => h.elim .inl fun h => .inr h.2, fun h => h.elim .inl fun h => .inr ⟨ha, h⟩⟩
theorem rtab_cnt {K : Type} {kt : TypeId} {enc : K → Value} {w : World} {o : Option Nat} {r n cnt : Nat} {M : K → Option Int} {L : K → Bool} (h : RTabO Tryz.prog kt 3 enc w o r n M L cnt) : cnt ≤ n := by
 cases o with
 | none => exact h.2.2.2 ▸ Nat.zero_le _
 | some b =>
  obtain ⟨D, left, ⟨es, clock, since, seen, c0, _, _, h3, _, _, _, h7, _⟩, _⟩ := h
  rw [← h7]
  unfold leftOf
  exact Nat.le_trans (Array.size_filter_le ..) h3
def BsI (acc : Int) (M : Int × ByteArray → Option Int) (o : Option Nat) (r gc cm : Nat) (w w6 wr : World) : Prop :=
 ∃ (L : Int × ByteArray → Bool) (cnt n : Nat) (T : ByteArray → Option Int), RTabO Tryz.prog 85 3 vPair wr o r 2000 M L cnt ∧ Tab Tryz.prog 9 3 (fun k : ByteArray => Value.string k) wr gc n T ∧ n + cnt ≤ cm ∧ Holds T (DoneP acc M L) ∧ (∀ t c, T t = some c → t.size ≤ 1000 ∧ 0 ≤ c ∧ c ≤ 1000000) ∧ CelK w6 wr ∧ Below w.heap.size w wr
theorem best_done {s : Sc} {inp : ByteArray} (hF : FlatS s inp) {M : Int × ByteArray → Option Int} (hM : Holds M (Rch (pairS s) (0, ByteArray.empty) (bl inp) inp.size)) {L : Int × ByteArray → Bool} (hL : ∀ k c, M k = some c → L k = false) {T : ByteArray → Option Int} (hT : Holds T (DoneP s.acc M L))
 {l : List ByteArray} (hl : KeysOf T l) {R : List Rs} (hp : R.Perm (l.map fun t => ⟨t, (T t).getD 0⟩)) (hs : R.Pairwise LeR) : R = bestL s inp := by
 refine IsRes.unique (IsRes.congr (isRes_table hT hl hp hs) (fun t c h => ?_) (fun t c h => ?_)) (best_is hF)
 ·obtain ⟨m, h1, h2, _⟩ := h
  exact ⟨m, h1, pair_iff.1 ((hM _).1 c h2).1⟩
 ·obtain ⟨m, h1, h2⟩ := h
  obtain ⟨d, hd, hdc⟩ := hM.some_ (pair_iff.2 h2)
  exact ⟨d, ⟨m, h1, hd, hL _ d hd⟩, hdc⟩
def RgR (T : ByteArray → Option Int) (b r n g2 : Nat) (w1 : World) (v : Value) (wr : World) : Prop :=
 ∃ (ks : List ByteArray) (Lf : ByteArray → Bool) (cnt : Nat), ks.Nodup ∧ (∀ k, k ∈ ks ↔ (T k ≠ none ∧ Lf k = false)) ∧ wr.ownsRow g2 48 2 v ks.length (ks.flatMap (fun t => encRs ⟨t, (T t).getD 0⟩)) ∧ RTab Tryz.prog 9 3 (fun k : ByteArray => Value.string k) wr b r n T Lf cnt ∧ Below g2 w1 wr
theorem RgR.round {T : ByteArray → Option Int} {b r n g2 : Nat} {w1 wR w4 w5 : World} {v v' : Value} {ks : List ByteArray} {Lf : ByteArray → Bool} {cnt cnt4 : Nat}
 (h1 : ks.Nodup) (h2 : ∀ k, k ∈ ks ↔ (T k ≠ none ∧ Lf k = false)) (h3 : wR.ownsRow g2 48 2 v ks.length (ks.flatMap (fun t => encRs ⟨t, (T t).getD 0⟩))) (h4 : RTab Tryz.prog 9 3 (fun k : ByteArray => Value.string k) wR b r n T Lf cnt) (h5 : Below g2 w1 wR) (hg : g2 ≤ r) (hs : g2 ≤ w1.heap.size)
 {k : ByteArray} {d : Int} (hk : T k = some d) (hl : Lf k = true) (hR4 : RTab Tryz.prog 9 3 (fun k : ByteArray => Value.string k) w4 b r n T (fun x => Lf x && !decide (x = k)) cnt4) (hg4 : wR.grownBy w4 (some r))
 (hown : w5.ownsRow g2 48 2 v' (ks.length + 1) (ks.flatMap (fun t => encRs ⟨t, (T t).getD 0⟩) ++ [.string k, .int .i64 d])) (hb : Below g2 w4 w5) (ha : Apps w4 w5 v v') : RgR T b r n g2 w1 v' w5 ∧ RTab Tryz.prog 9 3 (fun k : ByteArray => Value.string k) w5 b r n T (fun x => Lf x && !decide (x = k)) cnt4 := by
 obtain ⟨h6, h7⟩ := RgI.more h1 h2 hk hl
 have h8 := own_iter h4 hg4 h3
 have h11 := rtab_apps hR4 ha h8
 have hown2 : w5.ownsRow g2 48 2 v' (ks.length + 1) (ks.flatMap (fun t => encRs ⟨t, (T t).getD 0⟩) ++ encRs ⟨k, (T k).getD 0⟩) := by rw [hk]; exact hown
 refine ⟨⟨ks ++ [k], _, cnt4, h6, h7, own_snoc hown2, h11, ?_⟩, h11⟩
 exact (h5.grown hg4 (Nat.le_trans hs h5.size) (fun k hk => by injection hk with hk; omega)).trans hb
section
variable {acc : Int} {M : Int × ByteArray → Option Int} {o : Option Nat} {r gc cm cnt cnt9 n : Nat} {w w6 X8 X9 X10 XF : World} {L : Int × ByteArray → Bool} {T : ByteArray → Option Int} {k : Int × ByteArray} {d : Int}
theorem BsI.no (hT : Tab Tryz.prog 9 3 (fun k : ByteArray => Value.string k) X8 gc n T) (hR : RTabO Tryz.prog 85 3 vPair X8 o r 2000 M L cnt) (hn : n + cnt ≤ cm) (hD : Holds T (DoneP acc M L)) (hB : ∀ t c, T t = some c → t.size ≤ 1000 ∧ 0 ≤ c ∧ c ≤ 1000000) (hc : CelK w6 X8) (hb : Below w.heap.size w X8)
 (hM : M k = some d) (ha : accB acc k.1 = false) (hR9 : RTabO Tryz.prog 85 3 vPair X9 o r 2000 M (fun x => L x && !decide (x = k)) cnt9) (hlt : cnt9 < cnt) (hg : X8.grownBy X9 (some r)) (hr : w.heap.size ≤ r) (hgr : gc ≠ r) (hF : Below X9.heap.size X9 XF) :
 BsI acc M o r gc cm w w6 XF ∧ leftO XF o r < leftO X8 o r := by
 have hb9 : Below w.heap.size w X9 := hb.grown hg hb.size (fun k hk => by injection hk with hk; omega)
 have hT9 := hT.keep (hg.block gc hT.lt (fun e => hgr (Option.some.inj e)))
 have hRF := hR9.below hF
 refine ⟨⟨_, cnt9, n, T, hRF, hT9.keep (hF.block gc hT9.lt), by omega, doneP_no hM ha hD, hB, (hc.trans (CelK.of_iter hg hR.iter)).trans (CelK.of_below hF), hb9.trans (hF.mono hb9.size)⟩, ?_⟩
 rw [hRF.left_eq, hR.left_eq]
 exact hlt
theorem BsI.yes (hT : Tab Tryz.prog 9 3 (fun k : ByteArray => Value.string k) X8 gc n T) (hR : RTabO Tryz.prog 85 3 vPair X8 o r 2000 M L cnt) (hn : n + cnt ≤ cm) (hD : Holds T (DoneP acc M L)) (hB : ∀ t c, T t = some c → t.size ≤ 1000 ∧ 0 ≤ c ∧ c ≤ 1000000) (hc : CelK w6 X8) (hb : Below w.heap.size w X8)
 (hM : M k = some d) (ha : accB acc k.1 = true) (hR9 : RTabO Tryz.prog 85 3 vPair X9 o r 2000 M (fun x => L x && !decide (x = k)) cnt9) (hlt : cnt9 < cnt) (hg : X8.grownBy X9 (some r)) (hr : w.heap.size ≤ r) (hgr : gc ≠ r) (hX : Below X9.heap.size X9 X10)
 (hTF : Tab Tryz.prog 9 3 (fun k : ByteArray => Value.string k) XF gc (n + 1) (relaxT T k.2 d)) (hgF : X10.grownBy XF (some gc)) (hgc : w.heap.size ≤ gc) (ho : ∀ b, o = some b → b ≠ gc) (hkb : k.2.size ≤ 1000 ∧ 0 ≤ d ∧ d ≤ 1000000) :
 BsI acc M o r gc cm w w6 XF ∧ leftO XF o r < leftO X8 o r := by
 have hb9 : Below w.heap.size w X9 := hb.grown hg hb.size (fun k hk => by injection hk with hk; omega)
 have hT9 := hT.keep (hg.block gc hT.lt (fun e => hgr (Option.some.inj e)))
 have hT10 := hT9.keep (hX.block gc hT9.lt)
 have hb10 : Below w.heap.size w X10 := hb9.trans (hX.mono hb9.size)
 have hRF := (hR9.below hX).other hgF ho hT10.isMap
 refine ⟨⟨_, cnt9, n + 1, _, hRF, hTF, by omega, doneP_yes hM ha hD, fun t c h => ?_, ((hc.trans (CelK.of_iter hg hR.iter)).trans (CelK.of_below hX)).trans (CelK.of_map hgF hT10.isMap), hb10.grown hgF hb10.size (fun k hk => by injection hk with hk; omega)⟩, ?_⟩
 ·unfold relaxT at h
  split at h
  ·rename_i e
   subst e
   split at h
   ·rename_i oo ho2
    obtain rfl := Option.some.inj h
    have := hB _ _ ho2
    omega
   ·obtain rfl := Option.some.inj h
    exact hkb
  ·exact hB t c h
 ·rw [hRF.left_eq, hR.left_eq]
  exact hlt
end
theorem nextStr (w : World) {ops : Array Oper} {rest : List Oper} {o : Oper} {a : Act} {Q : Exit → Act → World → Prop} (hg : o.guard = none) (it : Operand) (hop : o.op = Op.next it false) {b : Option Nat} {r n cnt : Nat} {M : ByteArray → Option Int} {L : ByteArray → Bool} (hit : a.eval it = .pointer (some ⟨r, 0, none⟩)) (h : RTabO Tryz.prog 9 3 (fun k : ByteArray => Value.string k) w b r n M L cnt)
 (hDone : (∀ k, KOk Tryz.prog 9 (fun k : ByteArray => Value.string k) k → L k = false) → wpList Tryz.prog ops Q rest (a.put o.dst (.tuple #[.bool false])) w)
 (hMore : ∀ (k : ByteArray) (c : Int) (w' : World) (cnt' : Nat), KOk Tryz.prog 9 (fun k : ByteArray => Value.string k) k → M k = some c → L k = true → RTabO Tryz.prog 9 3 (fun k : ByteArray => Value.string k) w' b r n M (fun x => L x && !decide (x = k)) cnt' → cnt' < cnt → w.grownBy w' (some r) → w'.heap.size = w.heap.size →
  (Instr.entry (.pointer (some ⟨r, 0, none⟩))).run Tryz.prog w' = .ok (.tuple #[.string k, .int .i64 c]) w' → wpList Tryz.prog ops Q rest (a.put o.dst (.tuple #[.bool true, .string k, .int .i64 c])) w') : wpList Tryz.prog ops Q (o :: rest) a w :=
 tabO_next ktStr w hg it hop hit h hDone hMore
theorem flat_rs (T : ByteArray → Option Int) : ∀ ks : List ByteArray, ks.flatMap (fun t => encRs ⟨t, (T t).getD 0⟩) = (ks.map fun t => (⟨t, (T t).getD 0⟩ : Rs)).flatMap encRs
 | [] => rfl
 | k :: ks => by rw [List.flatMap_cons, List.map_cons, List.flatMap_cons, flat_rs T ks]
theorem take_min_ {α : Type} (L : List α) (k : Nat) : L.take (min k L.length) = L.take k := by
 rcases Nat.le_total k L.length with h | h
 ·rw [Nat.min_eq_left h]
 ·rw [Nat.min_eq_right h, List.take_of_length_le (Nat.le_refl _), List.take_of_length_le h]
end Go.Proofs.YtfpnhgahkjglgaaGreat
namespace Go.Proofs.YtfpnhgahkjglgaaGreat
open Go List
def ChkP (s : Sc) (ti ta tb : ByteArray) (er : Int) : Prop :=
 (soundE s ≠ 0 ∧ ti = ByteArray.empty ∧ ta = ByteArray.empty ∧ tb = ByteArray.empty ∧ er = 20) ∨
 (soundE s = 0 ∧ FirstTo s none ∧ ti = ByteArray.empty ∧ ta = ByteArray.empty ∧ tb = ByteArray.empty ∧ er = 0) ∨
 (soundE s = 0 ∧ ∃ u, FirstTo s (some u) ∧ ((Big 2000 s (ba u) ∧ ti = ByteArray.empty ∧ ta = ByteArray.empty ∧ tb = ByteArray.empty ∧ er = 2) ∨
  (¬ Big 2000 s (ba u) ∧ ∃ x y l, bestL s (ba u) = x :: y :: l ∧ ti = ba u ∧ ta = x.tx ∧ tb = y.tx ∧ er = 80)))
theorem first_let {s : Sc} (hok : ScOK s) {u : List UInt8} (h : FirstTo s (some u)) : letB (ba u) = true := by
 obtain ⟨⟨h1, _⟩, h2⟩ := h
 obtain ⟨x, _, c, _, ⟨m, _, hw⟩, _⟩ := twice_iff.1 (show Twice (schA s) (bl (ba u)) from h1)
 exact letB_iff.2 ⟨h2, rte_small hok hw⟩
theorem first_best {s : Sc} {u : List UInt8} (hF : FlatS s (ba u)) (h : FirstTo s (some u)) : 2 ≤ (bestL s (ba u)).length := (twice_best hF).1 (show Twice (schA s) (bl (ba u)) from h.1.1)
theorem chk_best {s : Sc} (hE : soundE s = 0) (hfl : ScOK s → SoundP s → FlatR s) {u : List UInt8} (hu : FirstTo s (some u)) {l : List Rs} {er : Int} (hb : (l, er) = bestR s (ba u) 2) :
 (l = [] ∧ er = 2 ∧ Big 2000 s (ba u)) ∨ (∃ x y r, l = [x, y] ∧ er = 0 ∧ ¬ Big 2000 s (ba u) ∧ bestL s (ba u) = x :: y :: r) := by
 obtain ⟨hok, hsp⟩ := soundE_iff.1 hE
 have hk : soundE s = 0 ∧ letB (ba u) = true ∧ (1 : Int) ≤ 2 ∧ (2 : Int) ≤ 50 := ⟨hE, first_let hok hu, by decide, by decide⟩
 by_cases hbig : Big 2000 s (ba u)
 ·rw [bestR_big hk hbig] at hb
  injection hb with h1 h2
  exact .inl ⟨h1, h2, hbig⟩
 ·have h2 := first_best (pair_flat (hfl hok hsp) (bl (ba u))) hu
  cases hL : bestL s (ba u) with
  | nil => rw [hL] at h2; simp at h2
  | cons x l' => cases l' with
   | nil => rw [hL] at h2; simp at h2
   | cons y r =>
    rw [bestR_ok hk hbig (by rw [hL]; simp), hL] at hb
    injection hb with h3 h4
    exact .inr ⟨x, y, r, h3, h4, hbig, rfl⟩
theorem ChkP.ok {s : Sc} {ti ta tb : ByteArray} {er : Int} (h : ChkP s ti ta tb er) : er = 0 ↔ soundE s = 0 ∧ FirstTo s none := by
 rcases h with ⟨h1, _, _, _, rfl⟩ | ⟨h1, h2, _, _, _, rfl⟩ | ⟨h1, u, h2, ⟨_, _, _, _, rfl⟩ | ⟨_, _, _, _, _, _, _, _, rfl⟩⟩
 ·exact ⟨fun h => absurd h (by decide), fun h => absurd h.1 h1⟩
 ·exact ⟨fun _ => ⟨h1, h2⟩, fun _ => rfl⟩
 ·exact ⟨fun h => absurd h (by decide), fun h => by have := firstTo_unique h.2 h2; cases this⟩
 ·exact ⟨fun h => absurd h (by decide), fun h => by have := firstTo_unique h.2 h2; cases this⟩
def PrvP (s : Sc) (ti ta tb : ByteArray) : Prop := soundE s = 0 ∧ ta ≠ tb ∧ letB ti = true ∧ (∃ c, Whole s ti ta c) ∧ ∃ c, Whole s ti tb c
theorem cost_ge {s : Sc} {i o : ByteArray} {r : Int} (hr : CostOf s i o r) : 0 ≤ r ↔ soundE s = 0 ∧ letB i = true ∧ ∃ c, Whole s i o c := by
 by_cases h : soundE s = 0 ∧ letB i = true
 ·rcases hr.1 h with ⟨rfl, h1⟩ | ⟨h1, h2, h3⟩
  ·exact ⟨fun h => absurd h (by decide), fun ⟨_, _, c, hc⟩ => absurd hc (h1 c)⟩
  ·exact ⟨fun _ => ⟨h.1, h.2, _, h2⟩, fun _ => h1⟩
 ·rw [hr.2 h]
  exact ⟨fun h => absurd h (by decide), fun ⟨h1, h2, _⟩ => absurd ⟨h1, h2⟩ h⟩
end Go.Proofs.YtfpnhgahkjglgaaGreat
namespace Go.Proofs.YtfpnhgahkjglgaaGreat
open Go Go.RowKit Go.Maps
def slE (v : Value) : Option (DataW Unit × List MemPlace) := match v with
 | .slice none n c => some (.agg [.lit (.int .i64 (n : Int)), .lit (.int .i64 (c : Int))], [])
 | .slice (some ⟨b, 0, none⟩) n c => some (.agg [.lit (.int .i64 (b : Int)), .lit (.int .i64 (n : Int)), .lit (.int .i64 (c : Int))], [])
 | _ => none
theorem slE_inj {v v' : Value} {d : DataW Unit} {ps ps' : List MemPlace} (h : slE v = some (d, ps)) (h' : slE v' = some (d, ps')) : v = v' := by
 unfold slE at h h'
 split at h
 ·split at h'
  ·have h := Option.some.inj h; have h' := Option.some.inj h'
   have e := (congrArg Prod.fst h).trans (congrArg Prod.fst h').symm
   simp only [DataW.agg.injEq, List.cons.injEq, DataW.lit.injEq, Lit.int.injEq, true_and, and_true] at e
   have e1 : _ := e.1
   have e2 : _ := e.2
   congr 1 <;> omega
  ·have h := Option.some.inj h; have h' := Option.some.inj h'
   have e := (congrArg Prod.fst h).trans (congrArg Prod.fst h').symm
   simp at e
  ·cases h'
 ·split at h'
  ·have h := Option.some.inj h; have h' := Option.some.inj h'
   have e := (congrArg Prod.fst h).trans (congrArg Prod.fst h').symm
   simp at e
  ·have h := Option.some.inj h; have h' := Option.some.inj h'
   have e := (congrArg Prod.fst h).trans (congrArg Prod.fst h').symm
   simp only [DataW.agg.injEq, List.cons.injEq, DataW.lit.injEq, Lit.int.injEq, true_and, and_true] at e
   obtain ⟨e1, e2, e3⟩ := e
   have e1 := Int.ofNat.inj e1
   have e2 := Int.ofNat.inj e2
   have e3 := Int.ofNat.inj e3
   subst e1 e2 e3
   rfl
  ·cases h'
 ·cases h
def slD (v : Value) : DataW Unit := match slE v with
 | some y => y.1
 | none => .nil
theorem slE_own {w : World} {base : Nat} {e : TypeId} {s n : Nat} {v : Value} {xs : List Value} (h : w.ownsRow base e s v n xs) : slE v = some (slD v, []) := by
 rcases h.2 with ⟨rfl, _⟩ | ⟨g, cap, cur, rfl, _⟩
 ·rfl
 ·rfl
end Go.Proofs.YtfpnhgahkjglgaaGreat
namespace Go.Proofs.YtfpnhgahkjglgaaGreat
open Go Go.RowKit
def goodFromV (ops : Array Oper) (ts : List Nat) : Array Bool → List (Nat × Option Bool) → Bool
 | listed, [] => (Region.ready .any ops listed).isEmpty
 | listed, (i, some true) :: l => Region.ready .any ops listed == [i] && goodFromV ops ts (listed.setIfInBounds i true) l
 | listed, (i, some false) :: l => (Region.ready .any ops listed).contains i && Region.free .any ops listed i && ts.all (fun t => (waitsFor ops t i || ts.any (fun t' => waitsFor ops t t')) && !(listed.getD t true)) && goodFromV ops ts (listed.setIfInBounds i true) l
 | listed, (i, none) :: l => (Region.ready .any ops listed).contains i && Region.free .any ops listed i && goodFromV ops ts (listed.setIfInBounds i true) l
def goodOrdV (ops : Array Oper) (ts : List Nat) (l : List (Nat × Option Bool)) : Bool := decide (l.length ≤ ops.size) && goodFromV ops ts (Array.replicate ops.size false) l
section
variable {P : Program} {ops : Array Oper} {Q : Exit → Act → World → Prop} {S R : World → Prop} {ts : List Nat}
def wpAnyV (P : Program) (ops : Array Oper) (Q : Exit → Act → World → Prop) (S R : World → Prop) (ts : List Nat) : Nat → Array Bool → Act → World → Prop
 | 0, listed, a, w => Region.ready .any ops listed = [] ∧ Q .normal a w
 | fuel + 1, listed, a, w =>
  (Region.ready .any ops listed = [] → Q .normal a w) ∧
  ∀ i ∈ Region.ready .any ops listed, wpOp P ops Q i (fun a' w' => (R w' ∧ (S w → ts.contains i = false → S w')) ∧ wpAnyV P ops Q S R ts fuel (listed.setIfInBounds i true) a' w') a w
theorem wpAny_of_V : ∀ (fuel : Nat) (listed : Array Bool) (a : Act) (w : World), wpAnyV P ops Q S R ts fuel listed a w → wpAny P .any ops Q fuel listed a w
 | 0, _, _, _, h => h
 | fuel + 1, _, _, _, h => ⟨h.1, fun i hi => wpOp_mono (fun a' w' h' => wpAny_of_V fuel _ a' w' h'.2) (h.2 i hi)⟩
theorem firstV1 {i : Nat} {oi : Oper} {v : Value} (hi : ops[i]? = some oi) (hsel : ∀ (j : Nat) (o : Oper) cs b, ops[j]? = some o → o.op ≠ .select cs b)
 (hQ : ∀ c a w, Q (.panic c) (a.put oi.dst v) w → Q (.panic c) a w) (hts : ∀ t ∈ ts, waitsFor ops t i = true ∨ ∃ t' ∈ ts, waitsFor ops t t' = true) :
 ∀ (fuel : Nat) (listed : Array Bool) (a : Act) (w : World),
  (∀ j oj, ops[j]? = some oj → j ≠ i → listed.getD j true = false → (∀ e ∈ oj.after, Region.binds .any e = true → e.on ≠ i) → oi.apart ops oj = true) →
  (∀ t ∈ ts, listed.getD t true = false) → i ∈ Region.ready .any ops listed → YieldsIf P ops S oi v a → S w → R w →
  wpAnyV P ops Q S R ts fuel (listed.setIfInBounds i true) (a.put oi.dst v) w → wpAnyV P ops Q S R ts (fuel + 1) listed a w := by
 intro fuel
 induction fuel with
 | zero =>
  intro listed a w _ _ hr hy hS hR H
  refine ⟨fun h => (by rw [h] at hr; cases hr), fun j hj => ?_⟩
  by_cases hji : j = i
  ·subst hji; exact hy.wpOp hi hS ⟨⟨hR, fun h _ => h⟩, H⟩
  ·have h1 := ready_mono hj hji
   rw [H.1] at h1
   cases h1
 | succ fuel ih =>
  intro listed a w hfree hun0 hr hy hS hR H
  refine ⟨fun h => (by rw [h] at hr; cases hr), fun j hj => ?_⟩
  by_cases hji : j = i
  ·subst hji; exact hy.wpOp hi hS ⟨⟨hR, fun h _ => h⟩, H⟩
  ·obtain ⟨hjun, oj, hoj, hall⟩ := mem_ready.1 hj
   have hiun := (mem_ready.1 hr).1
   have hnot : ∀ e ∈ oj.after, Region.binds .any e = true → e.on ≠ i := fun e he hb heq => by
    have h2 := hall e he hb
    rw [heq] at h2
    rcases Nat.lt_or_ge i listed.size with h' | h'
    ·simp [h'] at hiun h2; rw [hiun] at h2; cases h2
    ·simp [Array.getElem?_eq_none h'] at h2
   have hjt : ts.contains j = false := by
    cases hc : ts.contains j
    ·rfl
    ·exfalso
     rcases hts j (by simpa using hc) with hw | ⟨t', ht', hw⟩
     ·unfold waitsFor at hw
      simp only [hoj] at hw
      obtain ⟨k, hk, he⟩ := Array.any_eq_true.1 hw
      simp only [Bool.and_eq_true, beq_iff_eq] at he
      exact absurd he.2 (hnot _ (Array.getElem_mem hk) he.1)
     ·unfold waitsFor at hw
      simp only [hoj] at hw
      obtain ⟨k, hk, he⟩ := Array.any_eq_true.1 hw
      simp only [Bool.and_eq_true, beq_iff_eq] at he
      have h2 := hall _ (Array.getElem_mem hk) he.1
      rw [he.2] at h2
      have h3 := hun0 t' ht'
      rcases Nat.lt_or_ge t' listed.size with h' | h'
      ·simp [h'] at h2 h3; rw [h3] at h2; cases h2
      ·simp [Array.getElem?_eq_none h'] at h2
   have h2 := wpOp_putIf hoj (hfree j oj hoj hji hjun hnot) (fun cs b => hsel i oi cs b hi) (fun cs b => hsel j oj cs b hoj) hQ hy (H.2 j (ready_mono hj hji))
   have hfree' : ∀ k ok, ops[k]? = some ok → k ≠ i → (listed.setIfInBounds j true).getD k true = false →
    (∀ e ∈ ok.after, Region.binds .any e = true → e.on ≠ i) → oi.apart ops ok = true := fun k ok hk hki hun hno => by
    refine hfree k ok hk hki ?_ hno
    by_cases hjk : j = k
    ·subst hjk; exact hjun
    ·rw [getD_set_ne true hjk] at hun; exact hun
   refine wpOp_mono (fun a' w' h3 => ?_) h2
   have hS' := h3.2.1.2 hS hjt
   have hR' := h3.2.1.1
   refine ⟨h3.2.1, ih (listed.setIfInBounds j true) a' w' hfree' (fun t ht => by rw [getD_set_ne true (fun e => by subst e; simp [ht] at hjt)]; exact hun0 t ht) (ready_mono hr (Ne.symm hji)) h3.1 hS' hR' ?_⟩
   rw [Array.setIfInBounds_comm _ _ hji]
   exact h3.2.2
theorem firstV2 {i : Nat} {oi : Oper} {v : Value} (hi : ops[i]? = some oi) (hsel : ∀ (j : Nat) (o : Oper) cs b, ops[j]? = some o → o.op ≠ .select cs b)
 (hQ : ∀ c a w, Q (.panic c) (a.put oi.dst v) w → Q (.panic c) a w) :
 ∀ (fuel : Nat) (listed : Array Bool) (a : Act) (w : World),
  (∀ j oj, ops[j]? = some oj → j ≠ i → listed.getD j true = false → (∀ e ∈ oj.after, Region.binds .any e = true → e.on ≠ i) → oi.apart ops oj = true) →
  i ∈ Region.ready .any ops listed → YieldsIf P ops R oi v a → R w →
  wpAnyV P ops Q S R ts fuel (listed.setIfInBounds i true) (a.put oi.dst v) w → wpAnyV P ops Q S R ts (fuel + 1) listed a w := by
 intro fuel
 induction fuel with
 | zero =>
  intro listed a w _ hr hy hR H
  refine ⟨fun h => (by rw [h] at hr; cases hr), fun j hj => ?_⟩
  by_cases hji : j = i
  ·subst hji; exact hy.wpOp hi hR ⟨⟨hR, fun h _ => h⟩, H⟩
  ·have h1 := ready_mono hj hji
   rw [H.1] at h1
   cases h1
 | succ fuel ih =>
  intro listed a w hfree hr hy hR H
  refine ⟨fun h => (by rw [h] at hr; cases hr), fun j hj => ?_⟩
  by_cases hji : j = i
  ·subst hji; exact hy.wpOp hi hR ⟨⟨hR, fun h _ => h⟩, H⟩
  ·obtain ⟨hjun, oj, hoj, hall⟩ := mem_ready.1 hj
   have hiun := (mem_ready.1 hr).1
   have hnot : ∀ e ∈ oj.after, Region.binds .any e = true → e.on ≠ i := fun e he hb heq => by
    have h2 := hall e he hb
    rw [heq] at h2
    rcases Nat.lt_or_ge i listed.size with h' | h'
    ·simp [h'] at hiun h2; rw [hiun] at h2; cases h2
    ·simp [Array.getElem?_eq_none h'] at h2
   have h2 := wpOp_putIf hoj (hfree j oj hoj hji hjun hnot) (fun cs b => hsel i oi cs b hi) (fun cs b => hsel j oj cs b hoj) hQ hy (H.2 j (ready_mono hj hji))
   have hfree' : ∀ k ok, ops[k]? = some ok → k ≠ i → (listed.setIfInBounds j true).getD k true = false →
    (∀ e ∈ ok.after, Region.binds .any e = true → e.on ≠ i) → oi.apart ops ok = true := fun k ok hk hki hun hno => by
    refine hfree k ok hk hki ?_ hno
    by_cases hjk : j = k
    ·subst hjk; exact hjun
    ·rw [getD_set_ne true hjk] at hun; exact hun
   refine wpOp_mono (fun a' w' h3 => ?_) h2
   have hR' := h3.2.1.1
   refine ⟨h3.2.1, ih (listed.setIfInBounds j true) a' w' hfree' (ready_mono hr (Ne.symm hji)) h3.1 hR' ?_⟩
   rw [Array.setIfInBounds_comm _ _ hji]
   exact h3.2.2
def wpOrdV (P : Program) (ops : Array Oper) (Q : Exit → Act → World → Prop) (S R : World → Prop) (ts : List Nat) : List (Nat × Option Bool) → Act → World → Prop
 | [], a, w => Q .normal a w
 | (i, some true) :: l, a, w => wpOp P ops Q i (fun a' w' => (R w' ∧ (S w → ts.contains i = false → S w')) ∧ wpOrdV P ops Q S R ts l a' w') a w
 | (i, some false) :: l, a, w => ∃ oi v, ops[i]? = some oi ∧ YieldsIf P ops S oi v a ∧ S w ∧ wpOrdV P ops Q S R ts l (a.put oi.dst v) w
 | (i, none) :: l, a, w => ∃ oi v, ops[i]? = some oi ∧ YieldsIf P ops R oi v a ∧ wpOrdV P ops Q S R ts l (a.put oi.dst v) w
theorem wpAnyV_of_ord (hs : Region.noSelect ops = true) (hQ : ∀ d v c a w, Q (.panic c) (Act.put a (some d) v) w → Q (.panic c) a w) :
 ∀ (l : List (Nat × Option Bool)) (fuel : Nat) (listed : Array Bool) (a : Act) (w : World), l.length ≤ fuel → goodFromV ops ts listed l = true → R w → wpOrdV P ops Q S R ts l a w →
  wpAnyV P ops Q S R ts fuel listed a w := by
 intro l
 induction l with
 | nil =>
  intro fuel listed a w _ hg _ h
  have hr : Region.ready .any ops listed = [] := by simpa [goodFromV] using hg
  cases fuel with
  | zero => exact ⟨hr, h⟩
  | succ fuel => exact ⟨fun _ => h, by rw [hr]; simp⟩
 | cons x l ih =>
  intro fuel listed a w hf hg hR h
  obtain ⟨fuel, rfl⟩ : ∃ f, fuel = f + 1 := ⟨fuel - 1, by simp at hf; omega⟩
  have hf' : l.length ≤ fuel := by simp at hf; omega
  obtain ⟨i, b⟩ := x
  rcases b with _ | _ | _
  ·simp only [goodFromV, Bool.and_eq_true] at hg
   obtain ⟨oi, v, hi, hy, h'⟩ := h
   refine firstV2 hi (Region.noSelect_spec hs) (fun c a w hh => ?_) fuel listed a w (Region.free_spec hi hg.1.2) (by simpa using hg.1.1) hy hR (ih fuel _ _ w hf' hg.2 hR h')
   cases hd : oi.dst with
   | none => rw [hd] at hh; exact hh
   | some d => rw [hd] at hh; exact hQ d v c a w hh
  ·simp only [goodFromV, Bool.and_eq_true, List.all_eq_true] at hg
   obtain ⟨oi, v, hi, hy, hS, h'⟩ := h
   refine firstV1 hi (Region.noSelect_spec hs) (fun c a w hh => ?_) (fun t ht => by have := (hg.1.2 t ht).1; simpa using this) fuel listed a w (Region.free_spec hi hg.1.1.2) (fun t ht => by have := (hg.1.2 t ht).2; simpa using this) (by simpa using hg.1.1.1) hy hS hR (ih fuel _ _ w hf' hg.2 hR h')
   cases hd : oi.dst with
   | none => rw [hd] at hh; exact hh
   | some d => rw [hd] at hh; exact hQ d v c a w hh
  ·simp only [goodFromV, Bool.and_eq_true, beq_iff_eq] at hg
   refine ⟨fun h0 => absurd (h0.symm.trans hg.1) (by simp), fun j hj => ?_⟩
   rw [hg.1] at hj
   obtain rfl : j = i := by simpa using hj
   exact wpOp_mono (fun a' w' h' => ⟨h'.1, ih fuel _ a' w' hf' hg.2 h'.1.1 h'.2⟩) h
theorem ordV_start {id : Nat} {a : Act} {w : World} (S R : World → Prop) (ts : List Nat) (l : List (Nat × Option Bool)) (hm : P.follows .mixedOrders = true) (hs : Region.noSelect ops = true) (hg : goodOrdV ops ts l = true)
 (hQ : ∀ d v c a w, Q (.panic c) (Act.put a (some d) v) w → Q (.panic c) a w) (hR : R w.drew) (h : wpOrdV P ops Q S R ts l a w.drew) : (Code.region id ops true).wp P Q a w := by
 unfold goodOrdV at hg
 simp only [Bool.and_eq_true, decide_eq_true_eq] at hg
 exact wp_region_any hm (wpAny_of_V _ _ _ _ (wpAnyV_of_ord hs hQ l _ _ a _ hg.1 hg.2 hR h))
theorem ordV_nil {a : Act} {w : World} (h : Q .normal a w) : wpOrdV P ops Q S R ts [] a w := h
theorem ordV_takeS {i : Nat} {o : Oper} {v : Value} {l : List (Nat × Option Bool)} {a : Act} {w : World} (ho' : nthO ops.toList i = some o) (hw : Region.wanted o (yielded ops a.tmps) = true) (hS : S w)
 (hy : ∀ W, S W → (execOp a.eval o).run P W = .ok (.value v) W)
 (h : wpOrdV P ops Q S R ts l (a.put o.dst v) w) : wpOrdV P ops Q S R ts ((i, some false) :: l) a w := ⟨o, v, nthO_spec ho', .inl ⟨hw, hy⟩, hS, h⟩
theorem ordV_takeR {i : Nat} {o : Oper} {v : Value} {l : List (Nat × Option Bool)} {a : Act} {w : World} (ho' : nthO ops.toList i = some o) (hw : Region.wanted o (yielded ops a.tmps) = true)
 (hy : ∀ W, R W → (execOp a.eval o).run P W = .ok (.value v) W)
 (h : wpOrdV P ops Q S R ts l (a.put o.dst v) w) : wpOrdV P ops Q S R ts ((i, none) :: l) a w := ⟨o, v, nthO_spec ho', .inl ⟨hw, hy⟩, h⟩
theorem ordV_call {i : Nat} {o : Oper} {l : List (Nat × Option Bool)} {a : Act} {w : World} (ho' : nthO ops.toList i = some o) (hw : Region.wanted o (yielded ops a.tmps) = true)
 (h : ∀ K' : Act → World → Prop, Shut (∀ a w', R w' → (S w → ts.contains i = false → S w') → wpOrdV P ops Q S R ts l a w' → K' a w') → Oper.wp P o a w K' Q) : wpOrdV P ops Q S R ts ((i, some true) :: l) a w := by
 have ho := nthO_spec ho'
 show wpOp P ops Q i _ a w
 refine wpOp_step ho fun K' hK => ?_
 rw [if_pos hw]
 exact h K' fun a w' hR hS hW => hK a w' ⟨⟨hR, hS⟩, hW⟩
end
section
variable {P : Program} {fn : Func} {p u : Tmp} {ty : TypeId} {R : Ending → World → Prop} {a : Act} {w : World} {g : Nat} {t : TypeId} {cs : Array Value} {d : TypeDesc}
theorem ret_cell (hB : Blk w g t cs) (h : fn.results = #[.cell p ty]) (hp : a.tmps.getD p undef = .pointer (some ⟨g, 0, none⟩))
 (hu : P.underlying ty = some d) (hd : (match d with | .struct _ | .array _ _ => true | _ => false) = true) (hi : (P.info? ty).map (·.size) = some cs.size) (hdf : a.defers = [])
 (hR : R (.returned (.agg cs)) w) : bodyPost P fn R .ret a w :=
 bodyPost_ret (results_cell_row h a.tmps w g t cs (0, 0) d hp hB hu hd hi) hdf hR
end
theorem info_parts {t : TypeId} {z : Value} {s b : Nat} (h : (Tryz.prog.info? t).map (fun i => (i.zero, i.size, i.bytes)) = some (some z, s, b)) : ∃ i, Tryz.prog.info? t = some i ∧ i.zero = some z ∧ i.size = s ∧ i.bytes = b := by
 cases hi : Tryz.prog.info? t with
 | none => rw [hi] at h; cases h
 | some i =>
  rw [hi] at h
  simp at h
  exact ⟨i, rfl, h.1, h.2.1, h.2.2⟩
structure ButOwn (v : Value) (w w' : World) : Prop where
 size : w.heap.size ≤ w'.heap.size
 block : ∀ b, b < w.heap.size → v.ownBlock ≠ some b → w'.heap[b]? = w.heap[b]?
theorem ButOwn.of_below {v : Value} {w w' : World} (h : Below w.heap.size w w') : ButOwn v w w' := ⟨h.size, fun b hb _ => h.block b hb⟩
theorem ButOwn.cell {v : Value} {w w' : World} (h : ButOwn v w w') : ∀ b o, b < w.heap.size → v.ownBlock ≠ some b → w'.cell? ⟨b, o, none⟩ = w.cell? ⟨b, o, none⟩ := fun b _ hb hv => World.cell?_of_block (h.block b hb hv)
theorem ButOwn.apps {v v' : Value} {w w1 w2 : World} (h : ButOwn v w w1) (hs : w1.heap.size ≤ w2.heap.size) (ha : Apps w1 w2 v v') : ButOwn v w w2 :=
 ⟨Nat.le_trans h.size hs, fun b hb hv => (ha.keep b (Nat.lt_of_lt_of_le hb h.size) hv).trans (h.block b hb hv)⟩
end Go.Proofs.YtfpnhgahkjglgaaGreat
namespace Go.Proofs.YtfpnhgahkjglgaaGreat
open Go Go.RowKit Go.Maps
end Go.Proofs.YtfpnhgahkjglgaaGreat
