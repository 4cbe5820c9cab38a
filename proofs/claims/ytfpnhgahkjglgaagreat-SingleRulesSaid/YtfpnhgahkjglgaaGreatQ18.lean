/-
  OuLvm, SiKey, SiMem, SiWalkA, joined. No conditions.
-/
import Derived.Test.YtfpnhgahkjglgaaGreatQ17
import Derived.Test.YtfpnhgahkjglgaaGreatQ14
import Derived.Test.YtfpnhgahkjglgaaGreatQ03
import Derived.Test.YtfpnhgahkjglgaaGreatQ04
import Derived.Test.YtfpnhgahkjglgaaGreatQ10
import Derived.Test.YtfpnhgahkjglgaaGreatQ07
/-
  Words for memory of layer 05: a map of the call's own from modes to lists of rules.
-/
namespace Go.Proofs.YtfpnhgahkjglgaaGreat
open Go Go.RowKit Go.Maps

/-- How a slice within a map reads: by its header. -/
def slE (v : Value) : Option (DataW Unit × List MemPlace) := match v with
  | .slice none n c => some (.agg [.lit (.int .i64 (n : Int)), .lit (.int .i64 (c : Int))], [])
  | .slice (some ⟨b, 0, none⟩) n c => some (.agg [.lit (.int .i64 (b : Int)), .lit (.int .i64 (n : Int)), .lit (.int .i64 (c : Int))], [])
  | _ => none
theorem slE_inj {v v' : Value} {d : DataW Unit} {ps ps' : List MemPlace} (h : slE v = some (d, ps)) (h' : slE v' = some (d, ps')) : v = v' := by
  unfold slE at h h'
  split at h
  · split at h'
    · have h := Option.some.inj h; have h' := Option.some.inj h'
      have e := (congrArg Prod.fst h).trans (congrArg Prod.fst h').symm
      simp only [DataW.agg.injEq, List.cons.injEq, DataW.lit.injEq, Lit.int.injEq, true_and, and_true] at e
      have e1 : _ := e.1
      have e2 : _ := e.2
      congr 1 <;> omega
    · have h := Option.some.inj h; have h' := Option.some.inj h'
      have e := (congrArg Prod.fst h).trans (congrArg Prod.fst h').symm
      simp at e
    · cases h'
  · split at h'
    · have h := Option.some.inj h; have h' := Option.some.inj h'
      have e := (congrArg Prod.fst h).trans (congrArg Prod.fst h').symm
      simp at e
    · have h := Option.some.inj h; have h' := Option.some.inj h'
      have e := (congrArg Prod.fst h).trans (congrArg Prod.fst h').symm
      simp only [DataW.agg.injEq, List.cons.injEq, DataW.lit.injEq, Lit.int.injEq, true_and, and_true] at e
      obtain ⟨e1, e2, e3⟩ := e
      have e1 := Int.ofNat.inj e1
      have e2 := Int.ofNat.inj e2
      have e3 := Int.ofNat.inj e3
      subst e1 e2 e3
      rfl
    · cases h'
  · cases h
/-- What a slice reads as. -/
def slD (v : Value) : DataW Unit := match slE v with
  | some y => y.1
  | none => .nil
theorem slE_own {w : World} {base : Nat} {e : TypeId} {s n : Nat} {v : Value} {xs : List Value} (h : w.ownsRow base e s v n xs) : slE v = some (slD v, []) := by
  rcases h.2 with ⟨rfl, _⟩ | ⟨g, cap, cur, rfl, _⟩
  · rfl
  · rfl
/-- What the map's types are good for. -/
structure LT (P : Program) (t kt et : TypeId) : Prop where
  law : Keyed P kt
  und : P.underlying t = some (.map kt et)
  kin : P.underlying kt = some (.int .i64)
  zero : ∀ w : World, (zeroValue et).run P w = .ok (.slice none 0 0) w
/-- The rules of each mode, as lists in rows of the call's own. -/
structure LvM (P : Program) (kt it : TypeId) (w : World) (b n N base : Nat) (V : Int → Value) (Ls : Int → List Int) (D : DataW Unit) : Prop where
  own : w.ownsMap P kt slE b n D
  at_ : ∀ m : Int, 0 ≤ m → m < (N : Int) → D.atKey (.int .i64 m) (slD (.slice none 0 0)) = slD (V m)
  row : ∀ m : Int, 0 ≤ m → m < (N : Int) → w.ownsRow base it 1 (V m) (Ls m).length ((Ls m).map (Value.int .i64))
  has_ : ∀ m : Int, Maps.has D (.int .i64 m) = true → 0 ≤ m ∧ m < (N : Int)
  put : ∀ m : Int, 0 ≤ m → m < (N : Int) → Ls m ≠ [] → Maps.has D (.int .i64 m) = true
  apart : ∀ m m' : Int, 0 ≤ m → m < (N : Int) → 0 ≤ m' → m' < (N : Int) → m ≠ m' → ∀ g, (V m).ownBlock = some g → (V m').ownBlock ≠ some g
  below : b < base
theorem mode_wf {m : Int} {N : Nat} (h0 : 0 ≤ m) (h1 : m < (N : Int)) (hN : N ≤ 8) : (Lit.int .i64 m).wf = true := wf_small h0 (by omega)
theorem mkey_ne {i j : Int} (h : i ≠ j) : (Lit.int .i64 i) ≠ .int .i64 j := fun e => by
  injection e with _ e
  exact h e
section
variable {P : Program} {t kt et it : TypeId} {w w' : World} {b n N base : Nat} {V : Int → Value} {Ls : Int → List Int} {D : DataW Unit}
theorem LvM.made (hb : w.heap.size < base) : LvM P kt it (w.alloc (.map #[] 0)) w.heap.size 0 N base (fun _ => .slice none 0 0) (fun _ => []) (.map []) :=
  ⟨World.ownsMap_made w _ _ _, fun _ _ _ => rfl, fun _ _ _ => own_nil _ _ _ _, fun _ h => (by cases h), fun _ _ _ h => absurd rfl h, fun _ _ _ _ _ _ _ _ h => (by cases h), hb⟩
theorem LvM.lt (h : LvM P kt it w b n N base V Ls D) : b < w.heap.size := h.own.lt
theorem LvM.keep (h : LvM P kt it w b n N base V Ls D) (hb : Below w.heap.size w w') : LvM P kt it w' b n N base V Ls D := by
  refine ⟨?_, h.at_, fun m h0 h1 => own_below (h.row m h0 h1) hb, h.has_, h.put, h.apart, h.below⟩
  obtain ⟨es, clock, h1, h2, h3, h4⟩ := h.own
  exact ⟨es, clock, (hb.block b h.lt).trans h1, h2, h3, h4⟩
/-- One rule more for a mode. -/
theorem LvM.more {w2 w3 : World} {m i : Int} {v' : Value} (hT : LT P t kt et) (h : LvM P kt it w b n N base V Ls D) (h0 : 0 ≤ m) (h1 : m < (N : Int)) (hN : N ≤ 8) (hown : w2.ownsRow base it 1 v' ((Ls m).length + 1) ((Ls m).map (Value.int .i64) ++ [.int .i64 i])) (ha : Apps w w2 (V m) v')
    (ho : w3.ownsMap P kt slE b (n + 1) (D.put (.int .i64 m) (slD v'))) (hg : w2.grownBy w3 (some b)) : LvM P kt it w3 b (n + 1) N base (fun x => if x = m then v' else V x) (fun x => if x = m then Ls x ++ [i] else Ls x) (D.put (.int .i64 m) (slD v')) := by
  have hkey := keyOf_int_mk hT.kin (mode_wf h0 h1 hN)
  have hD := h.own.tidy hT.law
  have hbb := h.below
  have hk3 : ∀ {v : Value} {k : Nat} {xs : List Value}, w2.ownsRow base it 1 v k xs → w3.ownsRow base it 1 v k xs := fun hr => hr.kept hg (by
    cases hv : Value.ownBlock _ with
    | none => exact .inl rfl
    | some g => exact .inr fun e => by have h5 := own_block_le hr _ hv; have := Option.some.inj e; omega)
  refine ⟨ho, fun x hx0 hx1 => ?_, fun x hx0 hx1 => ?_, fun x hx => ?_, fun x hx0 hx1 hx => ?_, fun x y hx0 hx1 hy0 hy1 hne g hg1 => ?_, hbb⟩
  · by_cases e : x = m
    · subst e
      rw [atKey_put_same hD.isMap (hT.law.key hkey), if_pos rfl]
    · rw [atKey_put_other (mkey_ne e), if_neg e]
      exact h.at_ x hx0 hx1
  · by_cases e : x = m
    · subst e
      rw [if_pos rfl, if_pos rfl]
      refine hk3 ?_
      rw [List.length_append, List.map_append]
      exact hown
    · rw [if_neg e, if_neg e]
      refine hk3 (own_keep (h.row x hx0 hx1) fun g hg1 hlt => ha.keep g hlt fun e2 => ?_)
      exact h.apart x m hx0 hx1 h0 h1 e g hg1 e2
  · by_cases e : x = m
    · subst e; exact ⟨h0, h1⟩
    · rw [has_put_other (mkey_ne e)] at hx
      exact h.has_ x hx
  · by_cases e : x = m
    · subst e; exact has_put_same hD.isMap (hT.law.key hkey) _
    · rw [if_neg e] at hx
      rw [has_put_other (mkey_ne e)]
      exact h.put x hx0 hx1 hx
  · have hfar : ∀ z, 0 ≤ z → z < (N : Int) → z ≠ m → v'.ownBlock = some g → (V z).ownBlock ≠ some g := fun z hz0 hz1 hz hv => by
      rcases ha.at_ with h5 | ⟨k, h5, h6⟩
      · rw [h5] at hv
        exact h.apart m z h0 h1 hz0 hz1 (fun e => hz e.symm) g hv
      · rw [h5] at hv
        have hv := Option.some.inj hv
        exact own_lt (h.row z hz0 hz1) (by omega)
    by_cases ex : x = m
    · rw [if_pos ex] at hg1
      rw [if_neg (fun e => hne (ex.trans e.symm))]
      exact hfar y hy0 hy1 (fun e => hne (ex.trans e.symm)) hg1
    · rw [if_neg ex] at hg1
      by_cases ey : y = m
      · rw [if_pos ey]
        intro hv
        exact hfar x hx0 hx1 ex hv hg1
      · rw [if_neg ey]
        exact h.apart x y hx0 hx1 hy0 hy1 hne g hg1
end
end Go.Proofs.YtfpnhgahkjglgaaGreat

/-
  The search of layer 08 in memory: how places, gaps and states read; pairs of places as keys of a map.
-/
namespace Go.Proofs.YtfpnhgahkjglgaaGreat
open Go Go.RowKit Go.Maps

def encGp (g : Gp) : List Value := [.string (ba g.a), .string (ba g.b), .bool g.p]
def encSt (x : St Pl) : List Value := [.int .i64 x.l.1, .string (ba x.l.2), .int .i64 x.r.1, .string (ba x.r.2), .string (ba x.g.a), .string (ba x.g.b), .bool x.g.p]
def vKey (k : Pl × Pl) : Value := .agg #[.int .i64 k.1.1, .string (ba k.1.2), .int .i64 k.2.1, .string (ba k.2.2)]
def RGp (_ : World) (g : Gp) (vs : List Value) : Prop := vs = [.string (ba g.a), .string (ba g.b), .bool g.p]
def RSt (_ : World) (x : St Pl) (vs : List Value) : Prop := vs = [.int .i64 x.l.1, .string (ba x.l.2), .int .i64 x.r.1, .string (ba x.r.2), .string (ba x.g.a), .string (ba x.g.b), .bool x.g.p]
theorem keeps_gp : Keeps RGp := fun _ _ _ _ _ h => h
theorem keeps_st : Keeps RSt := fun _ _ _ _ _ h => h
theorem ba_inj {a b : List UInt8} (h : ba a = ba b) : a = b := by
  have := congrArg bl h
  rwa [bl_ba, bl_ba] at this
theorem ba_size (l : List UInt8) : (ba l).size = l.length := rfl
theorem vKey_inj {k k' : Pl × Pl} (h : vKey k = vKey k') : k = k' := by
  have h2 := congrArg Array.toList (Value.agg.inj h)
  simp at h2
  obtain ⟨⟨a, b⟩, c, d⟩ := k
  obtain ⟨⟨a', b'⟩, c', d'⟩ := k'
  simp only at h2
  obtain ⟨rfl, h3, rfl, h4⟩ := h2
  rw [ba_inj h3, ba_inj h4]
set_option maxRecDepth 100000 in
theorem siPairRow : (118 : TypeId) < Tryz.prog.types.size := of_decide_eq_true (by kernel_rfl)
set_option maxRecDepth 100000 in
theorem siPairWide : (match Tryz.prog.underlying 118 with | some (.array _ _) | some (.struct _) => true | _ => false) = true := by kernel_rfl
set_option maxRecDepth 100000 in
theorem siPairLaw : Keyed Tryz.prog 118 := Keyed.of_law (deep_law_laid ouLaidOut (m := 3) (by omega) siPairRow (by kernel_rfl) siPairWide)
set_option maxRecDepth 100000 in
theorem litPl {n : Nat} {p : Pl} (h1 : (Lit.int .i64 p.1).wf = true) (h2 : p.2.length ≤ maxLen) : ∃ l, Program.keyLits Tryz.prog (n + 1 + 1) 116 [.int .i64 p.1, .string (ba p.2)] = some l := by
  have hc : Tryz.prog.cellsOf 3 = 1 := by kernel_rfl
  have hcs : Tryz.prog.cellsOf 9 = 1 := by kernel_rfl
  have hc2 : Tryz.prog.cellsOf 116 = 2 := by kernel_rfl
  have e1 := litInt (n := n) h1
  have e2 := litStr (n := n) (x := ba p.2) h2
  unfold Program.keyLits
  rw [Tryz.underlying116]
  simp [hc, hcs, hc2, e1, e2]
set_option maxRecDepth 100000 in
theorem keySt_ok {k : Pl × Pl} (h1 : (Lit.int .i64 k.1.1).wf = true) (h2 : k.1.2.length ≤ maxLen) (h3 : (Lit.int .i64 k.2.1).wf = true) (h4 : k.2.2.length ≤ maxLen) : ∃ kl, keyOf Tryz.prog 118 (vKey k) = some kl := by
  have hk : Tryz.prog.keyType 118 = true := by kernel_rfl
  have hf : ∀ c0 c1 c2 c3 : Value, (Value.agg #[c0, c1, c2, c3]).formed Tryz.prog 118 = true := fun c0 c1 c2 c3 => by
    unfold Value.formed
    rw [Tryz.underlying118]
    have : Tryz.prog.cellsOf 118 = 4 := by kernel_rfl
    simp [this]
  unfold keyOf
  rw [Tryz.underlying118]
  simp only [vKey, hk, hf, Bool.true_and, if_true]
  obtain ⟨n, hn⟩ : ∃ n, Tryz.prog.types.size = n + 1 + 1 := ⟨Tryz.prog.types.size - 2, by have h : 1 < Tryz.prog.types.size := of_decide_eq_true (by kernel_rfl); omega⟩
  rw [hn]
  have hc2 : Tryz.prog.cellsOf 116 = 2 := by kernel_rfl
  have hc4 : Tryz.prog.cellsOf 118 = 4 := by kernel_rfl
  obtain ⟨l1, e1⟩ := litPl (n := n) h1 h2
  obtain ⟨l2, e2⟩ := litPl (n := n) h3 h4
  have hl : ∃ l, Program.keyLits Tryz.prog (n + 1 + 1 + 1) 118 [.int .i64 k.1.1, .string (ba k.1.2), .int .i64 k.2.1, .string (ba k.2.2)] = some l := by
    unfold Program.keyLits
    rw [Tryz.underlying118]
    simp [hc2, hc4, e1, e2]
  obtain ⟨l, hl⟩ := hl
  show ∃ kl, Option.map _ (Program.keyLits Tryz.prog (n + 1 + 1 + 1) 118 [.int .i64 k.1.1, .string (ba k.1.2), .int .i64 k.2.1, .string (ba k.2.2)]) = some kl
  rw [hl]
  exact ⟨_, rfl⟩
/-- What the map's types are good for. -/
theorem siZero (w : World) : (zeroValue 173).run Tryz.prog w = .ok (.slice none 0 0) w := by kernel_rfl
theorem siGapInfo : (Tryz.prog.info? 120).map (fun i => (i.zero, i.size, i.bytes)) = some (some (.agg #[.string { data := #[] }, .string { data := #[] }, .bool false]), 3, 40) := by kernel_rfl
theorem siStInfo : (Tryz.prog.info? 122).map (fun i => (i.zero, i.size, i.bytes)) = some (some (.agg #[.int .i64 0, .string { data := #[] }, .int .i64 0, .string { data := #[] }, .string { data := #[] }, .string { data := #[] }, .bool false]), 7, 88) := by kernel_rfl
/-- A map is looked into. -/
theorem si_look {w : World} {b n : Nat} {D : DataW Unit} {k : Pl × Pl} {kl : Lit} {v : Value} (h : w.ownsMap Tryz.prog 118 slE b n D) (hk : keyOf Tryz.prog 118 (vKey k) = some kl) (ha : D.atKey kl (slD (.slice none 0 0)) = slD v) (hv : slE v = some (slD v, [])) :
    (Instr.lookup 107 (.map (some b)) (vKey k) false).run Tryz.prog w = .ok v w := by
  obtain ⟨es, clock, hb, FF, _, hD⟩ := h
  subst hD
  rcases Maps.fit_look false siPairLaw Tryz.underlying107 (siZero w) hb FF hk with ⟨hrun, _, hat⟩ | ⟨e0, y, _, _, hrun, hRv, hat, _⟩
  · rw [hat] at ha
    rw [hrun, slE_inj (v := v) hv (by rw [← ha]; rfl : slE (.slice none 0 0) = some (slD v, []))]
    rfl
  · rw [hat] at ha
    have : e0.val = v := slE_inj (ps := y.2) (by rw [hRv, ← ha]) hv
    rw [hrun, ← this]
    rfl
end Go.Proofs.YtfpnhgahkjglgaaGreat

/-
  The search of layer 08 in memory: the map of gaps, the groups, and what a step of the search leaves as it was.
-/
namespace Go.Proofs.YtfpnhgahkjglgaaGreat
open Go Go.RowKit Go.Maps

/-- A block that holds no gaps. -/
def NoGap (w : World) (k : Nat) : Prop := ∀ cs f, w.heap[k]? ≠ some (.cells cs 120 f)
theorem NoGap.of_blk {w : World} {g : Nat} {t : TypeId} {cs : Array Value} (h : Blk w g t cs) (ht : t ≠ 120) : NoGap w g := fun cs' f e => by
  unfold Blk at h
  rw [h] at e
  injection e with e
  injection e with _ e2 _
  exact ht e2
theorem NoGap.of_own {w : World} {base : Nat} {e : TypeId} {s n : Nat} {v : Value} {xs : List Value} (h : w.ownsRow base e s v n xs) (he : e ≠ 120) {g : Nat} (hg : v.ownBlock = some g) : NoGap w g := fun cs' f hh => by
  rcases h.2 with ⟨rfl, _⟩ | ⟨g', cap, cur, rfl, _, h2, _⟩
  · cases hg
  · obtain rfl := Option.some.inj hg
    rw [h2] at hh
    injection hh with hh
    injection hh with _ e2 _
    exact he e2
/-- All blocks below B are as they were, but those that X names, the map's, and those of gaps behind it. -/
structure BelS (gm : Nat) (X : Nat → Prop) (B : Nat) (w w' : World) : Prop where
  os : w'.os = w.os
  tape : w'.tape = w.tape
  output : w'.output = w.output
  size : w.heap.size ≤ w'.heap.size
  block : ∀ k, k < B → ¬ X k → (k < gm ∨ (k ≠ gm ∧ NoGap w k)) → w'.heap[k]? = w.heap[k]?
section
variable {gm B B' : Nat} {X X' : Nat → Prop} {w w' w2 : World}
theorem BelS.of_below (h : Below B w w') : BelS gm X B w w' := ⟨h.os, h.tape, h.output, h.size, fun k hk _ _ => h.block k hk⟩
theorem BelS.refl (gm : Nat) (X : Nat → Prop) (B : Nat) (w : World) : BelS gm X B w w := .of_below (Below.refl _ _)
theorem BelS.trans (h : BelS gm X B w w') (k : BelS gm X B w' w2) : BelS gm X B w w2 :=
  ⟨k.os.trans h.os, k.tape.trans h.tape, k.output.trans h.output, Nat.le_trans h.size k.size, fun i hi hx hg => by
    have e := h.block i hi hx hg
    refine (k.block i hi hx ?_).trans e
    rcases hg with hg | ⟨h1, h2⟩
    · exact .inl hg
    · exact .inr ⟨h1, fun cs f hh => h2 cs f (by rw [← e]; exact hh)⟩⟩
theorem BelS.mono (h : BelS gm X B w w') (hB : B' ≤ B) (hX : ∀ k, k < B' → X k → X' k) : BelS gm X' B' w w' :=
  ⟨h.os, h.tape, h.output, h.size, fun k hk hx hg => h.block k (Nat.lt_of_lt_of_le hk hB) (fun e => hx (hX k hk e)) hg⟩
theorem BelS.below (h : BelS gm X B w w') (hB : B' ≤ B) (hg : B' ≤ gm) (hX : ∀ k, k < B' → ¬ X k) : Below B' w w' :=
  ⟨h.os, h.tape, h.output, h.size, fun k hk => h.block k (Nat.lt_of_lt_of_le hk hB) (hX k hk) (.inl (Nat.lt_of_lt_of_le hk hg))⟩
theorem BelS.blk {g : Nat} {t : TypeId} {cs : Array Value} (h : BelS gm X B w w') (hk : Blk w g t cs) (hg : g < B) (hx : ¬ X g) (hn : g ≠ gm) (ht : t ≠ 120) : Blk w' g t cs :=
  (h.block g hg hx (.inr ⟨hn, .of_blk hk ht⟩)).trans hk
theorem BelS.own {base : Nat} {e : TypeId} {s n : Nat} {v : Value} {xs : List Value} (h : BelS gm X B w w') (ho : w.ownsRow base e s v n xs) (he : e ≠ 120) (hx : ∀ g, v.ownBlock = some g → g < B ∧ ¬ X g ∧ g ≠ gm) : w'.ownsRow base e s v n xs :=
  own_keep ho fun g hg _ => h.block g (hx g hg).1 (hx g hg).2.1 (.inr ⟨(hx g hg).2.2, .of_own ho he hg⟩)
theorem BelS.grown (hg : w.grownBy w' (some gm)) (hB : B ≤ w.heap.size) : BelS gm X B w w' :=
  ⟨hg.os, hg.tape, hg.output, hg.size, fun k hk _ hc => hg.block k (Nat.lt_of_lt_of_le hk hB) fun e => by
    have := Option.some.inj e
    rcases hc with hc | ⟨hc, _⟩
    · omega
    · exact hc this⟩
theorem BelS.set (a : Addr) (u : Value) (ha : X a.block) : BelS gm X B w (w.setCell a u) :=
  have h := (Below.refl a.block w).setCell (p := a) (Nat.le_refl _) u
  ⟨h.os, h.tape, h.output, h.size, fun k _ hx _ => Below.heap_setCell w a u k fun e => hx (by rw [e]; exact ha)⟩
theorem BelS.apps {e : TypeId} {s n B0 : Nat} {v v' : Value} {xs : List Value} (ho : w.ownsRow (gm + 1) e s v n xs) (hb : Below B0 w w') (ha : Apps w w' v v') (hB : B ≤ w.heap.size) (hx : e = 120 ∨ ∀ k, v.ownBlock = some k → X k) : BelS gm X B w w' :=
  ⟨hb.os, hb.tape, hb.output, hb.size, fun k hk hxk hc => ha.keep k (Nat.lt_of_lt_of_le hk hB) fun e => by
    rcases hx with rfl | hx
    · have h1 := own_block_le ho k e
      rcases hc with hc | ⟨_, hc⟩
      · omega
      · rcases ho.2 with ⟨rfl, _⟩ | ⟨g', cap, cur, rfl, _, h2, _⟩
        · cases e
        · obtain rfl := Option.some.inj e
          exact hc _ _ h2
    · exact hxk (hx k e)⟩
end
/-- The gaps that were met for each pair of places, in rows of the search's own. -/
structure GpM (w : World) (b n base : Nat) (V : Pl × Pl → Value) (G : Pl × Pl → List Gp) (D : DataW Unit) : Prop where
  own : w.ownsMap Tryz.prog 118 slE b n D
  at_ : ∀ k kl, keyOf Tryz.prog 118 (vKey k) = some kl → D.atKey kl (slD (.slice none 0 0)) = slD (V k)
  row : ∀ k, w.ownsRow base 120 3 (V k) (G k).length ((G k).flatMap encGp)
  apart : ∀ k k', k ≠ k' → ∀ g, (V k).ownBlock = some g → (V k').ownBlock ≠ some g
  below : b < base
section
variable {w w' : World} {b n base : Nat} {V : Pl × Pl → Value} {G : Pl × Pl → List Gp} {D : DataW Unit}
theorem GpM.made (hb : w.heap.size < base) : GpM (w.alloc (.map #[] 0)) w.heap.size 0 base (fun _ => .slice none 0 0) (fun _ => []) (.map []) :=
  ⟨World.ownsMap_made w _ _ _, fun _ _ _ => rfl, fun _ => own_nil _ _ _ _, fun _ _ _ _ h => (by cases h), hb⟩
theorem GpM.lt (h : GpM w b n base V G D) : b < w.heap.size := h.own.lt
theorem GpM.ne {g : Nat} {t : TypeId} {cs : Array Value} (h : GpM w b n base V G D) (hk : Blk w g t cs) : g ≠ b := by
  obtain ⟨es, clock, h1, _⟩ := h.own
  exact map_blk h1 hk
theorem GpM.keep (h : GpM w b n base V G D) (hb : w'.heap[b]? = w.heap[b]?) (hr : ∀ k g, (V k).ownBlock = some g → w'.heap[g]? = w.heap[g]?) : GpM w' b n base V G D := by
  refine ⟨?_, h.at_, fun k => own_keep (h.row k) fun g hg _ => hr k g hg, h.apart, h.below⟩
  obtain ⟨es, clock, h1, h2, h3, h4⟩ := h.own
  exact ⟨es, clock, hb.trans h1, h2, h3, h4⟩
theorem GpM.bel (h : GpM w b n base V G D) (hb : Below w.heap.size w w') : GpM w' b n base V G D :=
  h.keep (hb.block _ h.lt) fun k g hg => hb.block _ ((h.row k).lt g hg).2
/-- One gap more for a pair. -/
theorem GpM.more {w2 w3 : World} {k0 : Pl × Pl} {kl : Lit} {x : Gp} {v' : Value} (h : GpM w b n base V G D) (hk : keyOf Tryz.prog 118 (vKey k0) = some kl) (hown : w2.ownsRow base 120 3 v' ((G k0).length + 1) ((G k0).flatMap encGp ++ encGp x)) (ha : Apps w w2 (V k0) v')
    (ho : w3.ownsMap Tryz.prog 118 slE b (n + 1) (D.put kl (slD v'))) (hg : w2.grownBy w3 (some b)) : GpM w3 b (n + 1) base (fun k => if k = k0 then v' else V k) (fun k => if k = k0 then G k ++ [x] else G k) (D.put kl (slD v')) := by
  have hD := h.own.tidy siPairLaw
  have hbb := h.below
  have hk3 : ∀ {v : Value} {m : Nat} {xs : List Value}, w2.ownsRow base 120 3 v m xs → w3.ownsRow base 120 3 v m xs := fun hr => hr.kept hg (by
    cases hv : Value.ownBlock _ with
    | none => exact .inl rfl
    | some g => exact .inr fun e => by have h5 := own_block_le hr _ hv; have := Option.some.inj e; omega)
  have hkne : ∀ k kl', keyOf Tryz.prog 118 (vKey k) = some kl' → k ≠ k0 → kl' ≠ kl := fun k kl' h1 h2 e => by
    subst e
    exact h2 (vKey_inj (siPairLaw.inj h1 hk))
  refine ⟨ho, fun k kl' hk' => ?_, fun k => ?_, fun k k' hne g hg1 => ?_, hbb⟩
  · by_cases e : k = k0
    · subst e
      rw [hk] at hk'
      obtain rfl := Option.some.inj hk'
      rw [atKey_put_same hD.isMap (siPairLaw.key hk), if_pos rfl]
    · rw [atKey_put_other (hkne k kl' hk' e), if_neg e]
      exact h.at_ k kl' hk'
  · by_cases e : k = k0
    · subst e
      rw [if_pos rfl, if_pos rfl]
      refine hk3 ?_
      rw [List.length_append, List.flatMap_append]
      simpa using hown
    · rw [if_neg e, if_neg e]
      refine hk3 (own_keep (h.row k) fun g hg1 hlt => ha.keep g hlt fun e2 => ?_)
      exact h.apart k k0 e g hg1 e2
  · have hfar : ∀ z, z ≠ k0 → v'.ownBlock = some g → (V z).ownBlock ≠ some g := fun z hz hv => by
      rcases ha.at_ with h5 | ⟨j, h5, h6⟩
      · rw [h5] at hv
        exact h.apart k0 z (fun e => hz e.symm) g hv
      · rw [h5] at hv
        have hv := Option.some.inj hv
        exact own_lt (h.row z) (by omega)
    by_cases ex : k = k0
    · rw [if_pos ex] at hg1
      rw [if_neg (fun e => hne (ex.trans e.symm))]
      exact hfar k' (fun e => hne (ex.trans e.symm)) hg1
    · rw [if_neg ex] at hg1
      by_cases ey : k' = k0
      · rw [if_pos ey]
        intro hv
        exact hfar k ex hv hg1
      · rw [if_neg ey]
        exact h.apart k k' hne g hg1
end
/-- The search in memory. -/
structure SrI (w : World) (gf gm : Nat) (s : Sc) (A : Option Addr) (c : Nat) (H : Hst Pl) : Prop where
  blk : Blk w gf 109 #[.int .i64 s.n, .int .u8 s.acc, .slice A s.rs.length c, .map (some gm)]
  map : ∃ n V D, n ≤ H.length ∧ GpM w gm n (gm + 1) V (fun k => gapsAt H k.1 k.2) D
  lt : gm < gf
/-- A group in memory. -/
structure GrI (w : World) (gm gg : Nat) (u : List UInt8) (v : Value) (xs : List (St Pl)) : Prop where
  blk : Blk w gg 113 #[.string (ba u), v]
  row : w.ownsRow (gm + 1) 122 7 v xs.length (xs.flatMap encSt)
  lt : gm < gg
section
variable {w w' : World} {gf gm gg c B : Nat} {s : Sc} {A : Option Addr} {H : Hst Pl} {u : List UInt8} {v : Value} {xs : List (St Pl)} {X : Nat → Prop}
theorem SrI.below (h : SrI w gf gm s A c H) (hb : Below w.heap.size w w') : SrI w' gf gm s A c H := by
  obtain ⟨n, V, D, h1, h2⟩ := h.map
  exact ⟨h.blk.below hb h.blk.lt, ⟨n, V, D, h1, h2.bel hb⟩, h.lt⟩
theorem GrI.below (h : GrI w gm gg u v xs) (hb : Below w.heap.size w w') : GrI w' gm gg u v xs := ⟨h.blk.below hb h.blk.lt, own_below h.row hb, h.lt⟩
theorem GrI.belS (h : GrI w gm gg u v xs) (hb : BelS gm X B w w') (hg : gg < B) (hx : ¬ X gg) (ho : ∀ g, v.ownBlock = some g → g < B ∧ ¬ X g) : GrI w' gm gg u v xs :=
  ⟨hb.blk h.blk hg hx (by have := h.lt; omega) (by decide), hb.own h.row (by decide) fun g hv => ⟨(ho g hv).1, (ho g hv).2, by have := own_block_le h.row g hv; omega⟩, h.lt⟩
theorem blk_ne {w : World} {g g' : Nat} {t t' : TypeId} {cs cs' : Array Value} (h : Blk w g t cs) (h' : Blk w g' t' cs') (ht : t ≠ t') : g ≠ g' := fun e => by
  subst e
  unfold Blk at h h'
  rw [h] at h'
  have := Option.some.inj h'
  injection this with _ e2 _
  exact ht e2
theorem SrI.keepX (h : SrI w gf gm s A c H) (hX : ∀ k, X k → k ≠ gf ∧ k ≠ gm ∧ NoGap w k) (hr : ∀ k, k < w.heap.size → ¬ X k → w'.heap[k]? = w.heap[k]?) : SrI w' gf gm s A c H := by
  obtain ⟨n, V, D, h1, h2⟩ := h.map
  refine ⟨(hr gf h.blk.lt fun hx => (hX _ hx).1 rfl).trans h.blk, ⟨n, V, D, h1, h2.keep (hr gm h2.lt fun hx => (hX _ hx).2.1 rfl) fun k g hg => hr g ((h2.row k).lt g hg).2 fun hx => ?_⟩, h.lt⟩
  have hn := (hX _ hx).2.2
  rcases (h2.row k).2 with ⟨e, _⟩ | ⟨g', cap, cur, e, _, h4, _⟩
  · rw [e] at hg; cases hg
  · rw [e] at hg
    obtain rfl := Option.some.inj hg
    exact hn _ _ h4
theorem GrI.slr (h : GrI w gm gg u v xs) : ∃ B cap, v = .slice B xs.length cap ∧ xs.length ≤ cap ∧ cap ≤ maxLen ∧ SlR 7 RSt w B xs := own_slr h.row (fun _ => rfl) (fun _ => rfl) rfl
end
theorem own_sl {w : World} {base n k : Nat} {e : TypeId} {v : Value} {xs : List Value} (h : w.ownsRow base e k v n xs) : ∃ A c, v = .slice A n c := by
  rcases h.2 with ⟨rfl, rfl⟩ | ⟨g, cap, cur, rfl, _⟩
  · exact ⟨none, 0, rfl⟩
  · exact ⟨_, _, rfl⟩
theorem SlR.sts {w : World} {A : Option Addr} {k : Nat} {xs : List (St Pl)} (h : SlR 7 RSt w A xs) (hk : k < xs.length) : ∃ b off x, A = some ⟨b, off, none⟩ ∧ b < w.heap.size ∧ xs[k]? = some x ∧
    w.cell? ⟨b, off + k * 7, none⟩ = some (.int .i64 x.l.1) ∧ w.cell? ⟨b, off + k * 7 + 1, none⟩ = some (.string (ba x.l.2)) ∧ w.cell? ⟨b, off + k * 7 + 2, none⟩ = some (.int .i64 x.r.1) ∧ w.cell? ⟨b, off + k * 7 + 3, none⟩ = some (.string (ba x.r.2)) ∧
    w.cell? ⟨b, off + k * 7 + 4, none⟩ = some (.string (ba x.g.a)) ∧ w.cell? ⟨b, off + k * 7 + 5, none⟩ = some (.string (ba x.g.b)) ∧ w.cell? ⟨b, off + k * 7 + 6, none⟩ = some (.bool x.g.p) := by
  obtain ⟨b, off, x, vs, hA, hlt, hx, hr, _, hv⟩ := h.at_ hk
  exact ⟨b, off, x, hA, hlt, hx, hv 0 _ (by rw [hr]; rfl), hv 1 _ (by rw [hr]; rfl), hv 2 _ (by rw [hr]; rfl), hv 3 _ (by rw [hr]; rfl), hv 4 _ (by rw [hr]; rfl), hv 5 _ (by rw [hr]; rfl), hv 6 _ (by rw [hr]; rfl)⟩
theorem SlR.gps {w : World} {A : Option Addr} {k : Nat} {xs : List Gp} (h : SlR 3 RGp w A xs) (hk : k < xs.length) : ∃ b off x, A = some ⟨b, off, none⟩ ∧ b < w.heap.size ∧ xs[k]? = some x ∧
    w.cell? ⟨b, off + k * 3, none⟩ = some (.string (ba x.a)) ∧ w.cell? ⟨b, off + k * 3 + 1, none⟩ = some (.string (ba x.b)) ∧ w.cell? ⟨b, off + k * 3 + 2, none⟩ = some (.bool x.p) := by
  obtain ⟨b, off, x, vs, hA, hlt, hx, hr, _, hv⟩ := h.at_ hk
  exact ⟨b, off, x, hA, hlt, hx, hv 0 _ (by rw [hr]; rfl), hv 1 _ (by rw [hr]; rfl), hv 2 _ (by rw [hr]; rfl)⟩
end Go.Proofs.YtfpnhgahkjglgaaGreat

/-
  The walks of package single: gaps that differ, gaps in a list, places where a route may end.
-/
namespace Go.Proofs.YtfpnhgahkjglgaaGreat
open Go Go.RowKit Go.Maps

set_option maxRecDepth 100000 in
theorem run_eqGp (x y : Gp) (W : World) : (Op.equalIn 10000 120 (.agg #[.string (ba x.a), .string (ba x.b), .bool x.p]) (.agg #[.string (ba y.a), .string (ba y.b), .bool y.p])).run Tryz.prog W = .ok (decide (x = y)) W := by
  rw [run_equalIn_agg W 9999 _ _ _ (by kernel_rfl) (by kernel_rfl)]
  have hf : (Tryz.prog.fieldsOf 120).toList.map (fun f => (f.type, f.offset, f.name != "_")) = [(9, 0, true), (9, 1, true), (4, 2, true)] := by kernel_rfl
  obtain ⟨f0, l0, e0, h0, hf⟩ := List.map_eq_cons_iff.1 hf
  obtain ⟨f1, l1, e1, h1, hf⟩ := List.map_eq_cons_iff.1 hf
  obtain ⟨f2, l2, e2, h2, hf⟩ := List.map_eq_cons_iff.1 hf
  obtain rfl := List.map_eq_nil_iff.1 hf
  simp only [Prod.mk.injEq] at h0 h1 h2
  have hpb : Tryz.prog.plainKey 4 = true := by kernel_rfl
  have hps : Tryz.prog.plainKey 9 = true := by kernel_rfl
  have qb : ∀ a b : Bool, (Op.equalIn 9999 4 (.bool a) (.bool b)).run Tryz.prog W = .ok (a == b) W := fun a b => run_equalIn_bool W 9998 4 a b Tryz.underlying4
  have qs : ∀ a b : ByteArray, (Op.equalIn 9999 9 (.string a) (.string b)).run Tryz.prog W = .ok (a.toList == b.toList) W := fun a b => run_equalIn_string W 9998 9 a b Tryz.underlying9
  obtain ⟨X, hX⟩ : ∃ X : Array Value, X = #[.string (ba x.a), .string (ba x.b), .bool x.p] := ⟨_, rfl⟩
  obtain ⟨Y, hY⟩ : ∃ X : Array Value, X = #[.string (ba y.a), .string (ba y.b), .bool y.p] := ⟨_, rfl⟩
  rw [← hX, ← hY]
  have k5 : (Op.eqFields 9999 X Y []).run Tryz.prog W = .ok true W := by simp [Op.eqFields]
  have k2 := eqF_cons (f := f2) (xs := X) (ys := Y) h2.2.2 (by rw [h2.1]; exact hpb) (by rw [h2.2.1, hX]; rfl) (by rw [h2.2.1, hY]; rfl) (by rw [h2.1]; exact qb x.p y.p) k5
  rw [← e2] at k2
  have k1 := eqF_cons (f := f1) (xs := X) (ys := Y) h1.2.2 (by rw [h1.1]; exact hps) (by rw [h1.2.1, hX]; rfl) (by rw [h1.2.1, hY]; rfl) (by rw [h1.1]; exact qs (ba x.b) (ba y.b)) k2
  rw [← e1] at k1
  have key := eqF_cons (f := f0) (xs := X) (ys := Y) h0.2.2 (by rw [h0.1]; exact hps) (by rw [h0.2.1, hX]; rfl) (by rw [h0.2.1, hY]; rfl) (by rw [h0.1]; exact qs (ba x.a) (ba y.a)) k1
  rw [← e0] at key
  refine key.trans ?_
  congr 1
  rw [Bool.eq_iff_iff]
  simp only [Bool.and_eq_true, beq_iff_eq, decide_eq_true_iff, and_true]
  constructor
  · rintro ⟨h1, h2, h3⟩
    obtain ⟨a, b, p⟩ := x
    obtain ⟨a', b', p'⟩ := y
    have h1 := ba_inj (toL_inj h1)
    have h2 := ba_inj (toL_inj h2)
    simp only at h1 h2 h3
    rw [h1, h2, h3]
  · rintro rfl
    exact ⟨rfl, rfl, rfl⟩
theorem ba_emp (l : List UInt8) : (ba l).toList.isEmpty = l.isEmpty := by rw [Lib.toList_data]; rfl
set_option maxRecDepth 100000 in
set_option maxHeartbeats 4000000 in
theorem gdiffer_any (g : Gp) (w : World) : Calls Tryz.prog 94 #[.agg #[.string (ba g.a), .string (ba g.b), .bool g.p]] w fun e w' => e = .returned (.bool (!decide (g = Gp.none_))) ∧ Below w.heap.size w w' := by
  obtain ⟨w1, hw1⟩ : ∃ w1, w.alloc (.cells #[.string (ba g.a), .string (ba g.b), .bool g.p] 120) = w1 := ⟨_, rfl⟩
  have hb1 : Below w.heap.size w w1 := by rw [← hw1]; exact nw _ (Below.refl _ _)
  have hB : Blk w1 w.heap.size 120 #[.string (ba g.a), .string (ba g.b), .bool g.p] := by rw [← hw1]; exact Blk.new _ _ _
  have HW1 := Lib.hid hw1
  have HB1 := Lib.hid hb1
  have b0 := hB.cell 0
  have b1 := hB.cell 1
  have b2 := hB.cell 2
  have bl := hB.lt
  simp at b0 b1 b2
  have HEQ : ∀ W, (Op.equalIn 10000 120 (.agg #[.string (ba g.a), .string (ba g.b), .bool g.p]) (.agg #[.string { data := #[] }, .string { data := #[] }, .bool false])).run Tryz.prog W = .ok (decide (g = Gp.none_)) W := fun W => run_eqGp g Gp.none_ W
  obtain ⟨q, hq⟩ : ∃ q, decide (g = Gp.none_) = q := ⟨_, rfl⟩
  rw [hq] at HEQ ⊢
  clear hw1 hb1 hB hq
  go_enter Tryz.func94, Tryz.ntmps94
  go_upto_region 1 with fail
  rw [HW1.out]
  go_wp2_with fail
  go_ret
  exact ⟨rfl, HB1.out⟩
set_option maxRecDepth 100000 in
set_option maxHeartbeats 4000000 in
theorem gindex_any (A : Option Addr) (xs : List Gp) (c : Nat) (r : Gp) (w : World) (hx : SlR 3 RGp w A xs) (hl : xs.length ≤ 65536) :
    Calls Tryz.prog 115 #[.slice A xs.length c, .agg #[.string (ba r.a), .string (ba r.b), .bool r.p]] w fun e w' => (∃ i : Int, e = .returned (.int .i64 i) ∧ (0 ≤ i ↔ r ∈ xs)) ∧ Below w.heap.size w w' := by
  obtain ⟨w1, hw1⟩ : ∃ w1, w.alloc (.cells #[.string (ba r.a), .string (ba r.b), .bool r.p] 120) = w1 := ⟨_, rfl⟩
  have hb1 : Below w.heap.size w w1 := by rw [← hw1]; exact nw _ (Below.refl _ _)
  have hB : Blk w1 w.heap.size 120 #[.string (ba r.a), .string (ba r.b), .bool r.p] := by rw [← hw1]; exact Blk.new _ _ _
  have HW1 := Lib.hid hw1
  have HB1 := Lib.hid hb1
  clear hw1 hb1
  go_enter Tryz.func115, Tryz.ntmps115
  go_upto_region 1 with fail
  rw [HW1.out]
  go_wp2_with fail
  go_loopw [5, 8] (fun _ i wr => ∃ k : Nat, k ≤ xs.length ∧ Hid (∀ y ∈ xs.take k, y ≠ r) ∧ i = .int .i64 (k : Int) ∧ Below w1.heap.size w1 wr) (fun _ i _ => xs.length - (intOf i).toNat)
  case atStart => exact ⟨0, by omega, by show ∀ y ∈ xs.take 0, y ≠ r; simp, rfl, Below.refl _ _⟩
  case round =>
    obtain ⟨k, hk, HN, rfl, hb⟩ := hrel
    have HBE := Lib.hid (bthen HB1.out hb)
    have hBB := hB.below hb hB.lt
    have b0 := hBB.cell 0
    have b1 := hBB.cell 1
    have b2 := hBB.cell 2
    have bl := hBB.lt
    simp at b0 b1 b2
    have HBR := Lib.hid hb
    by_cases hlt : k < xs.length
    · obtain ⟨b, off, x, rfl, hbb, hxx, d0, d1, d2⟩ := (hx.below keeps_gp HBE.out).gps hlt
      have HX := Lib.hid hxx
      have hki : (k : Int) < (xs.length : Int) := by omega
      have hk0 : (0 : Int) ≤ (k : Int) := by omega
      clear hxx hb hBB
      by_cases he : r = x
      · have HE := Lib.hid he
        have HEQ := fun W => run_eqGp r x W
        rw [decide_eq_true he] at HEQ
        clear he
        go_wp2_with fail
        go_quiet (fail)
        go_wp2_with fail
        go_ret
        exact ⟨⟨_, rfl, ⟨fun _ => by rw [HE.out]; exact List.mem_of_getElem? HX.out, fun _ => by omega⟩⟩, below_drewN HBE.out _⟩
      · have HE := Lib.hid he
        have HEQ := fun W => run_eqGp r x W
        rw [decide_eq_false he] at HEQ
        clear he
        go_wp2_with fail
        go_quiet (fail)
        go_wp2_with fail
        go_roundw
        case rel => exact ⟨k + 1, by omega, (by
          show ∀ y ∈ xs.take (k + 1), y ≠ r
          rw [take_succ_of HX.out]
          intro y hy
          rcases List.mem_append.1 hy with hy | hy
          · exact HN.out y hy
          · rw [List.mem_singleton.1 hy]; exact fun e => HE.out e.symm), by go_num, below_drewN HBR.out _⟩
        case measure => simp [intOf]; omega
    · have HN2 : Hid (∀ y ∈ xs, y ≠ r) := by have := HN.out; rwa [List.take_of_length_le (by omega)] at this
      clear hb hBB
      go_wp2_with fail
      go_ret
      exact ⟨⟨-1, rfl, ⟨fun h => absurd h (by decide), fun h => absurd rfl (HN2.out r h)⟩⟩, HBE.out⟩
set_option maxRecDepth 100000 in
set_option maxHeartbeats 4000000 in
theorem gcont_any (A : Option Addr) (xs : List Gp) (c : Nat) (r : Gp) (w : World) (hx : SlR 3 RGp w A xs) (hl : xs.length ≤ 65536) :
    Calls Tryz.prog 90 #[.slice A xs.length c, .agg #[.string (ba r.a), .string (ba r.b), .bool r.p]] w fun e w' => e = .returned (.bool (xs.contains r)) ∧ Below w.heap.size w w' := by
  obtain ⟨w1, hw1⟩ : ∃ w1, w.alloc (.cells #[.string (ba r.a), .string (ba r.b), .bool r.p] 120) = w1 := ⟨_, rfl⟩
  have hb1 : Below w.heap.size w w1 := by rw [← hw1]; exact nw _ (Below.refl _ _)
  have hB : Blk w1 w.heap.size 120 #[.string (ba r.a), .string (ba r.b), .bool r.p] := by rw [← hw1]; exact Blk.new _ _ _
  have HW1 := Lib.hid hw1
  have HB1 := Lib.hid hb1
  have HX := Lib.hid (hx.below keeps_gp hb1)
  have b0 := hB.cell 0
  have b1 := hB.cell 1
  have b2 := hB.cell 2
  have bl := hB.lt
  simp at b0 b1 b2
  have hd : xs.contains r = decide (r ∈ xs) := by rw [Bool.eq_iff_iff]; simp
  rw [hd]
  clear hw1 hb1 hx hd
  go_enter Tryz.func90, Tryz.ntmps90
  go_upto_region 1 with fail
  rw [HW1.out]
  go_wp2_with (go_at_call 115; go_loud (refine (gindex_any A xs c r w1 HX.out hl).mono ?_; rintro e w2 ⟨⟨i, rfl, hi⟩, hb2⟩))
  have HI := Lib.hid hi
  clear hi
  go_wp2_with fail
  go_ret
  exact ⟨rfl, bthen HB1.out hb2⟩
set_option maxRecDepth 100000 in
set_option maxHeartbeats 8000000 in
theorem sended_any (s : Sc) (A : Option Addr) (c gf gm : Nat) (p : Pl) (w : World) (hS : Blk w gf 109 #[.int .i64 s.n, .int .u8 s.acc, .slice A s.rs.length c, .map (some gm)]) (hacc : 0 ≤ s.acc ∧ s.acc ≤ 255) (hm : 0 ≤ p.1 ∧ p.1 < 8) :
    Calls Tryz.prog 95 #[.pointer (some ⟨gf, 0, none⟩), .agg #[.int .i64 p.1, .string (ba p.2)]] w fun e w' => e = .returned (.bool ((schA s).acc p)) ∧ Below w.heap.size w w' := by
  obtain ⟨w1, hw1⟩ : ∃ w1, w.alloc (.cells #[.int .i64 p.1, .string (ba p.2)] 116) = w1 := ⟨_, rfl⟩
  have hb1 : Below w.heap.size w w1 := by rw [← hw1]; exact nw _ (Below.refl _ _)
  have hB : Blk w1 w.heap.size 116 #[.int .i64 p.1, .string (ba p.2)] := by rw [← hw1]; exact Blk.new _ _ _
  have hSB := hS.below hb1 hS.lt
  have HW1 := Lib.hid hw1
  have HB1 := Lib.hid hb1
  have b0 := hB.cell 0
  have b1 := hB.cell 1
  have bl := hB.lt
  have f1 := hSB.cell 1
  have fl := hSB.lt
  simp at b0 b1 f1
  obtain ⟨m, t⟩ := p
  simp only at b0 b1 hm
  have HM := Lib.hid hm
  obtain ⟨hm0, hm1⟩ := hm
  have hmin : min m.toNat 8 = m.toNat := by omega
  show Calls _ _ _ _ fun e w' => e = .returned (.bool (decide (t = []) && accB s.acc m)) ∧ _
  clear hw1 hb1 hB hS hSB
  cases t with
  | cons a t =>
    have h1 : (ba (a :: t)).toList.isEmpty = false := ba_emp _
    go_enter Tryz.func95, Tryz.ntmps95
    go_upto_region 1 with fail
    rw [HW1.out]
    refine ordB_below (.quiet 0 (.quiet 1 (.quiet 2 (.quiet 3 (.quiet 4 (.quiet 5 (.quiet 6 (.quiet 7 (.quiet 8 (.quiet 9 (.quiet 10 (.quiet 11 (.quiet 12 (.quiet 13 (.quiet 14 (.quiet 15 .done)))))))))))))))) (by kernel_rfl) (by kernel_rfl) (by kernel_rfl) (fun _ _ _ _ _ h => h) ?_
    intro V0 hV0
    iterate 16 (first
      | (refine ordB_skip rfl rfl ?_; simp only [Act.put, List.setIfInBounds_toArray, List.set_cons_zero, List.set_cons_succ])
      | (refine ordB_take (v := ?_) rfl rfl ?_ ?_
         rotate_left 1
         focus (intro W hW; obtain ⟨hcW, hfW⟩ := bcell hW; (go_simp <;> with_reducible rfl))
         simp only [Act.put, List.setIfInBounds_toArray, List.set_cons_zero, List.set_cons_succ]))
    refine ordB_nil ?_
    go_wp2_with fail
    go_ret
    exact ⟨by simp, bthen HB1.out hV0⟩
  | nil =>
    have h1 : (ba []).toList.isEmpty = true := ba_emp _
    go_enter Tryz.func95, Tryz.ntmps95
    go_upto_region 1 with fail
    rw [HW1.out]
    refine ordB_below (.quiet 0 (.quiet 1 (.quiet 2 (.quiet 3 (.quiet 4 (.quiet 5 (.quiet 6 (.quiet 7 (.quiet 8 (.quiet 9 (.quiet 10 (.quiet 11 (.quiet 12 (.quiet 13 (.quiet 14 (.quiet 15 .done)))))))))))))))) (by kernel_rfl) (by kernel_rfl) (by kernel_rfl) (fun _ _ _ _ _ h => h) ?_
    intro V0 hV0
    iterate 16 (first
      | (refine ordB_skip rfl rfl ?_; simp only [Act.put, List.setIfInBounds_toArray, List.set_cons_zero, List.set_cons_succ])
      | (refine ordB_take (v := ?_) rfl rfl ?_ ?_
         rotate_left 1
         focus (intro W hW; obtain ⟨hcW, hfW⟩ := bcell hW; (go_simp <;> with_reducible rfl))
         simp only [Act.put, List.setIfInBounds_toArray, List.set_cons_zero, List.set_cons_succ]))
    refine ordB_nil ?_
    go_wp2_with fail
    go_ret
    refine ⟨ret_bool ?_, bthen HB1.out hV0⟩
    have hp : (0 : Int) < 2 ^ m.toNat := Int.pow_pos (by omega)
    have hd0 : 0 ≤ s.acc / 2 ^ m.toNat := Int.ediv_nonneg hacc.1 (by omega)
    have hd1 : s.acc / 2 ^ m.toNat ≤ s.acc := Int.ediv_le_self _ hacc.1
    rw [(bits_u8 (s.acc / 2 ^ m.toNat) 1 (by omega) (by omega)).1]
    unfold accB
    rw [decide_eq_true hm0, Bool.true_and, Nat.testBit_eq_decide_div_mod_eq, show (1 : Int).toNat = 1 from rfl, Nat.and_one_is_mod]
    have e : (s.acc / 2 ^ m.toNat).toNat = s.acc.toNat / 2 ^ m.toNat := by
      have h1 : s.acc / 2 ^ m.toNat = ((s.acc.toNat / 2 ^ m.toNat : Nat) : Int) := by
        rw [Int.natCast_ediv, Int.toNat_of_nonneg hacc.1]
        congr 1
      rw [h1, Int.toNat_natCast]
    rw [e]
    by_cases h : s.acc.toNat / 2 ^ m.toNat % 2 = 1
    · rw [h]; rfl
    · have h0 : s.acc.toNat / 2 ^ m.toNat % 2 = 0 := by omega
      rw [h0]; rfl
end Go.Proofs.YtfpnhgahkjglgaaGreat
