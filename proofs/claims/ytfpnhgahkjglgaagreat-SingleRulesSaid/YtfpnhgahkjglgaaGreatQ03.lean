/-
  SiFirst, SiSch, SiLaw, OuScheme, SiBnd, OuRun, joined. No conditions.
-/
import Derived.Test.YtfpnhgahkjglgaaGreatQ02
/-
  The search goes through the inputs in their order, level by level: plain laws. No conditions.
-/
namespace Go.Proofs.YtfpnhgahkjglgaaGreat
open List

section
variable {P : Type} {A : Aut P} [DecidableEq P]
/-- All letters that routes take are small ones. -/
def SmallA (A : Aut P) : Prop := ∀ u p o c x q, Prt A u p o → A.let_ p c x q → 97 ≤ c.toNat ∧ c.toNat ≤ 122
omit [DecidableEq P] in
theorem sucT_letter (hL : SmallA A) {v : List UInt8} {x y : St P} (h : Two A v x.l x.r x.g) {c : UInt8} (hy : SucT A c x y) : 97 ≤ c.toNat ∧ c.toNat ≤ 122 := by
  obtain ⟨a, b, h1, _, _⟩ := h
  obtain ⟨o, _, h2, _⟩ := hy
  exact hL _ _ _ _ _ _ h1 h2
/-- The search within a level: the groups of the level, those of the next one so far, the group and the letter that come next. -/
structure LevI (A : Aut P) (H : Hst P) (n : Nat) (lv lg : List (List UInt8)) (i c : Nat) : Prop where
  two : ∀ x v, (x, v) ∈ H → Two A v x.l x.r x.g
  nodup : (H.map (·.1)).Nodup
  few : ∀ l r, (gapsAt H l r).length ≤ 2
  lvs : lv.Pairwise (fun a b => code a < code b)
  lvl : ∀ v ∈ lv, v.length = n
  lgl : ∀ v ∈ lg, v.length = n + 1
  lgs : lg.Pairwise (fun a b => code a < code b)
  lgb : ∀ u ∈ lg, ∃ j w, ∃ d : UInt8, u = w ++ [d] ∧ lv[j]? = some w ∧ (j < i ∨ j = i ∧ d.toNat < c)
  at_ : ∀ x v, (x, v) ∈ H → v.length < n ∨ v ∈ lv ∨ v ∈ lg
  start : (⟨A.st, A.st, Gp.none_⟩, []) ∈ H
  opn : ∀ x v, (x, v) ∈ H → ∀ y, SucO A x y → KnownAt H y v
  take : ∀ x v, (x, v) ∈ H → ∀ (d : UInt8) y, SucT A d x y → (v.length < n ∨ ∃ j, lv[j]? = some v ∧ (j < i ∨ j = i ∧ d.toNat < c)) → KnownAt H y (v ++ [d])
  noend : ∀ x v, (x, v) ∈ H → ends A x = false
section
variable {H H' : Hst P} {n i c : Nat} {lv lg lg' : List (List UInt8)} {v : List UInt8}
theorem code_lt_next {a b : List UInt8} (h : code a < code b) (d e : UInt8) : code (a ++ [d]) < code (b ++ [e]) := by
  rw [code_snoc, code_snoc]
  have := d.toNat_lt
  omega
theorem LevI.before (h : LevI A H n lv lg i c) (hi : lv[i]? = some v) {cu : UInt8} (hcu : cu.toNat = c) : ∀ u ∈ lg, code u < code (v ++ [cu]) := fun u hu => by
  obtain ⟨j, w, d, rfl, hj, hlt⟩ := h.lgb u hu
  rcases hlt with hlt | ⟨rfl, hlt⟩
  · have hl := h.lvs
    obtain ⟨h1, h2⟩ := List.getElem?_eq_some_iff.1 hj
    obtain ⟨h3, h4⟩ := List.getElem?_eq_some_iff.1 hi
    have := pairwise_iff_getElem.1 hl j i h1 h3 hlt
    rw [h2, h4] at this
    exact code_lt_next this d cu
  · obtain rfl : w = v := Option.some.inj (hj.symm.trans hi)
    rw [code_snoc, code_snoc]
    omega
theorem LevI.upto (h : LevI A H n lv lg i c) (hi : lv[i]? = some v) {cu : UInt8} (hcu : cu.toNat = c) : HInv A H (v ++ [cu]) := by
  have hv := h.lvl v (mem_of_getElem? hi)
  refine ⟨h.two, fun x w hw => ?_, h.nodup, h.few⟩
  rcases h.at_ x w hw with h1 | h1 | h1
  · exact Nat.le_of_lt (code_len (by rw [length_append, length_singleton]; omega))
  · have := h.lvl w h1
    exact Nat.le_of_lt (code_len (by rw [length_append, length_singleton]; omega))
  · exact Nat.le_of_lt (h.before hi hcu w h1)
theorem LevI.next (h : LevI A H n lv lg i c) (hi : lv[i]? = some v) {cu : UInt8} (hcu : cu.toNat = c) (hH : HInv A H' (v ++ [cu])) (hsub : ∀ p ∈ H, p ∈ H') (hnew : ∀ x w, (x, w) ∈ H' → (x, w) ∈ H ∨ w = v ++ [cu])
    (htake : ∀ x, (x, v) ∈ H → ∀ y, SucT A cu x y → KnownAt H' y (v ++ [cu])) (hopn : ∀ x, (x, v ++ [cu]) ∈ H' → ∀ y, SucO A x y → KnownAt H' y (v ++ [cu]))
    (hno : ∀ x, (x, v ++ [cu]) ∈ H' → ends A x = false) (hlg : lg' = lg ∧ (∀ x, (x, v ++ [cu]) ∉ H') ∨ lg' = lg ++ [v ++ [cu]]) : LevI A H' n lv lg' i (c + 1) := by
  have hv := h.lvl v (mem_of_getElem? hi)
  have hsl : ∀ u ∈ lg, u ∈ lg' := fun u hu => by
    rcases hlg with ⟨e, _⟩ | e
    · rw [e]; exact hu
    · rw [e]; exact mem_append_left _ hu
  have hlm : ∀ u ∈ lg', u ∈ lg ∨ u = v ++ [cu] := fun u hu => by
    rcases hlg with ⟨e, _⟩ | e
    · rw [e] at hu; exact .inl hu
    · rw [e] at hu
      rcases mem_append.1 hu with hu | hu
      · exact .inl hu
      · exact .inr (mem_singleton.1 hu)
  refine ⟨hH.two, hH.nodup, hH.few, h.lvs, h.lvl, fun u hu => ?_, ?_, fun u hu => ?_, fun x w hw => ?_, hsub _ h.start, fun x w hw y hy => ?_, fun x w hw d y hy hd => ?_, fun x w hw => ?_⟩
  · rcases hlm u hu with hu | rfl
    · exact h.lgl u hu
    · rw [length_append, length_singleton, hv]
  · rcases hlg with ⟨e, _⟩ | e
    · rw [e]; exact h.lgs
    · rw [e]
      exact pairwise_append.2 ⟨h.lgs, pairwise_singleton _ _, fun a ha b hb => by rw [mem_singleton.1 hb]; exact h.before hi hcu a ha⟩
  · rcases hlm u hu with hu | rfl
    · obtain ⟨j, w, d, h1, h2, h3⟩ := h.lgb u hu
      exact ⟨j, w, d, h1, h2, h3.imp id fun h3 => ⟨h3.1, by omega⟩⟩
    · exact ⟨i, v, cu, rfl, hi, .inr ⟨rfl, by omega⟩⟩
  · rcases hnew x w hw with hw' | rfl
    · exact (h.at_ x w hw').imp id fun h1 => h1.imp id (hsl w)
    · right; right
      rcases hlg with ⟨_, e⟩ | e
      · exact absurd hw (e x)
      · rw [e]; exact mem_append_right _ (mem_singleton.2 rfl)
  · rcases hnew x w hw with hw' | rfl
    · exact (h.opn x w hw' y hy).mono hsub
    · exact hopn x hw y hy
  · rcases hnew x w hw with hw' | rfl
    · rcases hd with hd | ⟨j, hj, hd⟩
      · exact (h.take x w hw' d y hy (.inl hd)).mono hsub
      · rcases hd with hd | ⟨rfl, hd⟩
        · exact (h.take x w hw' d y hy (.inr ⟨j, hj, .inl hd⟩)).mono hsub
        · obtain rfl : w = v := Option.some.inj (hj.symm.trans hi)
          by_cases e : d.toNat = c
          · obtain rfl : d = cu := UInt8.toNat_inj.1 (by omega)
            exact htake x hw' y hy
          · exact (h.take x w hw' d y hy (.inr ⟨j, hj, .inr ⟨rfl, by omega⟩⟩)).mono hsub
    · exfalso
      rcases hd with hd | ⟨j, hj, _⟩
      · rw [length_append, length_singleton] at hd; omega
      · have := h.lvl _ (mem_of_getElem? hj)
        rw [length_append, length_singleton] at this; omega
  · rcases hnew x w hw with hw' | rfl
    · exact h.noend x w hw'
    · exact hno x hw
theorem LevI.row (h : LevI A H n lv lg i 123) (hL : SmallA A) : LevI A H n lv lg (i + 1) 97 :=
  { h with
    lgb := fun u hu => by
      obtain ⟨j, w, d, h1, h2, h3⟩ := h.lgb u hu
      exact ⟨j, w, d, h1, h2, .inl (by omega)⟩
    take := fun x v hv d y hy hd => by
      refine h.take x v hv d y hy (hd.imp id ?_)
      rintro ⟨j, hj, h3⟩
      refine ⟨j, hj, ?_⟩
      have := sucT_letter hL (h.two _ _ hv) hy
      by_cases e : j = i
      · exact .inr ⟨e, by omega⟩
      · exact .inl (by omega) }
theorem LevI.level (h : LevI A H n lv lg lv.length 97) (hL : SmallA A) : LevI A H (n + 1) lg [] 0 97 :=
  { h with
    lvs := h.lgs
    lvl := h.lgl
    lgl := fun _ h => nomatch h
    lgs := Pairwise.nil
    lgb := fun _ h => nomatch h
    at_ := fun x v hv => by
      rcases h.at_ x v hv with h1 | h1 | h1
      · exact .inl (by omega)
      · have := h.lvl v h1; exact .inl (by omega)
      · exact .inr (.inl h1)
    take := fun x v hv d y hy hd => by
      rcases hd with hd | ⟨j, hj, hd⟩
      · refine h.take x v hv d y hy ?_
        rcases h.at_ x v hv with h1 | h1 | h1
        · exact .inl h1
        · obtain ⟨j, hj⟩ := getElem?_of_mem h1
          exact .inr ⟨j, hj, .inl (List.getElem?_eq_some_iff.1 hj).1⟩
        · have := h.lgl v h1; omega
      · exfalso
        have h2 := h.lgl v (mem_of_getElem? hj)
        rcases hd with hd | ⟨rfl, hd⟩
        · omega
        · have := sucT_letter hL (h.two _ _ hv) hy
          omega }
/-- What was met is followed up to each input before the next one. -/
theorem LevI.followed (h : LevI A H n lv lg i c) {V : List UInt8} (hV : ∀ x w, (x, w) ∈ H → ∀ d : UInt8, code (w ++ [d]) ≤ code V → w.length < n ∨ ∃ j, lv[j]? = some w ∧ (j < i ∨ j = i ∧ d.toNat < c)) : Followed A H V :=
  ⟨h.two, h.start, fun x w hw _ y hy _ => h.opn x w hw y hy, fun x w hw d hd y hy _ => h.take x w hw d y hy (hV x w hw d hd)⟩
/-- After a level no input up to its length has two outputs. -/
theorem LevI.none (h : LevI A H n lv [] 0 97) {U : List UInt8} (hU : U.length ≤ n) : ¬ Twice A U := by
  refine followed_none (h.followed (V := U) fun x w hw d hd => ?_) h.noend (code U) U (Nat.le_refl _) (Nat.le_refl _)
  have := len_of_code hd
  rw [length_append, length_singleton] at this
  exact .inl (by omega)
/-- An input at which a state shows two outputs is the first one. -/
theorem LevI.found (h : LevI A H n lv lg i c) (hi : lv[i]? = some v) {cu : UInt8} (hcu : cu.toNat = c) {V : List UInt8} (hV : code V < code (v ++ [cu])) : ¬ Twice A V := by
  have hv := h.lvl v (mem_of_getElem? hi)
  refine followed_none (h.followed (V := V) fun x w hw d hd => ?_) h.noend (code V) V (Nat.le_refl _) (Nat.le_refl _)
  have hlt : code (w ++ [d]) < code (v ++ [cu]) := by omega
  have hl := len_of_code (Nat.le_of_lt hlt)
  rw [length_append, length_append, length_singleton, length_singleton] at hl
  rcases h.at_ x w hw with h1 | h1 | h1
  · exact .inl h1
  · right
    obtain ⟨j, hj⟩ := getElem?_of_mem h1
    refine ⟨j, hj, ?_⟩
    rcases Nat.lt_trichotomy j i with e | e | e
    · exact .inl e
    · subst e
      obtain rfl : w = v := Option.some.inj (hj.symm.trans hi)
      rw [code_snoc, code_snoc] at hlt
      exact .inr ⟨rfl, by omega⟩
    · exfalso
      obtain ⟨a1, a2⟩ := List.getElem?_eq_some_iff.1 hj
      obtain ⟨b1, b2⟩ := List.getElem?_eq_some_iff.1 hi
      have := pairwise_iff_getElem.1 h.lvs i j b1 a1 e
      rw [a2, b2] at this
      have := code_lt_next this cu d
      omega
  · have := h.lgl w h1
    omega
end
end
end Go.Proofs.YtfpnhgahkjglgaaGreat

/-
  The machine of a scheme: its places, its outputs, inputs with two outputs: plain laws. No conditions.
-/
namespace Go.Proofs.YtfpnhgahkjglgaaGreat
open List

/-- A route has put out all of its rules, has still to take some letters, and leads to a mode then. -/
abbrev Pl := Int × List UInt8
def schA (s : Sc) : Aut Pl := ⟨(0, []), fun p x q => p.2 = [] ∧ ∃ r ∈ s.rs, r.fr = p.1 ∧ x = bl r.out ∧ q = (r.to, bl r.inp), fun p c x q => x = [] ∧ p.2 = c :: q.2 ∧ q.1 = p.1, fun p => decide (p.2 = []) && accB s.acc p.1⟩
def ba (l : List UInt8) : ByteArray := ⟨⟨l⟩⟩
theorem bl_ba (l : List UInt8) : bl (ba l) = l := rfl
theorem ba_bl (s : ByteArray) : ba (bl s) = s := bl_inj rfl
theorem prt_takes {s : Sc} {m : Int} {o : List UInt8} : ∀ (l : List UInt8) {u : List UInt8}, Prt (schA s) u (m, l) o → Prt (schA s) (u ++ l) (m, []) o
  | [], u, h => by rw [append_nil]; exact h
  | c :: l, u, h => by
    have h1 := Prt.take (c := c) (x := []) (q := (m, l)) h ⟨rfl, rfl, rfl⟩
    rw [append_nil] at h1
    have := prt_takes l h1
    rwa [append_assoc] at this
theorem prt_of_rte {s : Sc} {m : Int} {i o : ByteArray} {c : Int} (h : Rte s m i o c) : Prt (schA s) (bl i) (m, []) (bl o) := by
  induction h with
  | nil => exact .start
  | snoc _ h2 h3 ih =>
    rw [bl_app, bl_app]
    exact prt_takes _ (.opn ih ⟨rfl, _, h2, h3, rfl, rfl⟩)
theorem rte_of_prt {s : Sc} {u o : List UInt8} {p : Pl} (h : Prt (schA s) u p o) : ∃ c, Rte s p.1 (ba (u ++ p.2)) (ba o) c := by
  induction h with
  | start => exact ⟨0, .nil⟩
  | @opn u o x p q _ h2 ih =>
    obtain ⟨c, ih⟩ := ih
    obtain ⟨h1, r, h3, h4, rfl, rfl⟩ := h2
    have h5 := Rte.snoc ih h3 h4
    have e1 : ba (u ++ p.2) ++ r.inp = ba (u ++ bl r.inp) := bl_inj (by rw [bl_app, bl_ba, bl_ba, h1, append_nil])
    have e2 : ba o ++ r.out = ba (o ++ bl r.out) := bl_inj (by rw [bl_app, bl_ba, bl_ba])
    rw [e1, e2] at h5
    exact ⟨_, h5⟩
  | @take u o x p q c _ h2 ih =>
    obtain ⟨d, ih⟩ := ih
    obtain ⟨rfl, h3, h4⟩ := h2
    refine ⟨d, ?_⟩
    rw [append_nil, h4, append_assoc]
    rw [h3] at ih
    exact ih
theorem isOut_iff {s : Sc} {inp out : ByteArray} : IsOut (schA s) (bl inp) (bl out) ↔ ∃ c, Whole s inp out c := by
  constructor
  · rintro ⟨⟨m, l⟩, h1, h2⟩
    obtain ⟨c, h3⟩ := rte_of_prt h2
    have h1 : (decide (l = []) && accB s.acc m) = true := h1
    rw [Bool.and_eq_true, decide_eq_true_iff] at h1
    obtain ⟨rfl, h1⟩ := h1
    simp only [append_nil, ba_bl] at h3
    exact ⟨c, m, h1, h3⟩
  · rintro ⟨c, m, h1, h2⟩
    exact ⟨(m, []), by show (decide (([] : List UInt8) = []) && accB s.acc m) = true; simp [h1], prt_of_rte h2⟩
theorem twice_iff {s : Sc} {inp : ByteArray} : Twice (schA s) (bl inp) ↔ ∃ x y c d, Whole s inp x c ∧ Whole s inp y d ∧ x ≠ y := by
  constructor
  · rintro ⟨x, y, h1, h2, h3⟩
    obtain ⟨c, hc⟩ := isOut_iff.1 (show IsOut (schA s) (bl inp) (bl (ba x)) from h1)
    obtain ⟨d, hd⟩ := isOut_iff.1 (show IsOut (schA s) (bl inp) (bl (ba y)) from h2)
    exact ⟨ba x, ba y, c, d, hc, hd, fun e => h3 (by have := congrArg bl e; exact this)⟩
  · rintro ⟨x, y, c, d, h1, h2, h3⟩
    exact ⟨bl x, bl y, isOut_iff.2 ⟨c, h1⟩, isOut_iff.2 ⟨d, h2⟩, fun e => h3 (bl_inj e)⟩
theorem prt_more {s : Sc} {u o : List UInt8} {p : Pl} (h : Prt (schA s) u p o) : p.2 = [] ∨ ∃ r ∈ s.rs, ∃ k, p.2 = (bl r.inp).drop k := by
  induction h with
  | start => exact .inl rfl
  | opn _ h2 _ =>
    obtain ⟨_, r, h3, _, _, rfl⟩ := h2
    exact .inr ⟨r, h3, 0, rfl⟩
  | @take u o x p q c _ h2 ih =>
    obtain ⟨_, h3, _⟩ := h2
    rcases ih with ih | ⟨r, hr, k, hk⟩
    · rw [ih] at h3; cases h3
    · refine .inr ⟨r, hr, k + 1, ?_⟩
      rw [← tail_drop, ← hk, h3]
      rfl
theorem small_sch {s : Sc} (hL : ∀ r ∈ s.rs, ∀ a ∈ bl r.inp, 97 ≤ a.toNat ∧ a.toNat ≤ 122) : SmallA (schA s) := fun u p o c x q hp hl => by
  obtain ⟨_, h3, _⟩ := hl
  rcases prt_more hp with h | ⟨r, hr, k, hk⟩
  · rw [h] at h3; cases h3
  · refine hL r hr c (mem_of_mem_drop (i := k) ?_)
    rw [← hk, h3]
    exact mem_cons_self ..
/-- An input with two outputs has two results, and the other way round. -/
theorem twice_best {s : Sc} {inp : ByteArray} (hF : FlatS s inp) : Twice (schA s) (bl inp) ↔ 2 ≤ (bestL s inp).length := by
  have hI := best_is hF
  rw [twice_iff]
  constructor
  · rintro ⟨x, y, c, d, h1, h2, h3⟩
    obtain ⟨a, ha, ha1, _⟩ := hI.least _ _ h1
    obtain ⟨b, hb, hb1, _⟩ := hI.least _ _ h2
    cases hL : bestL s inp with
    | nil => rw [hL] at ha; cases ha
    | cons e l => cases l with
      | nil =>
        rw [hL] at ha hb
        have e1 := mem_singleton.1 ha
        have e2 := mem_singleton.1 hb
        exact absurd (by rw [← ha1, ← hb1, e1, e2]) h3
      | cons f l => simp only [length_cons]; omega
  · intro h
    have ht := hI.texts
    have hm := hI.is_
    cases hL : bestL s inp with
    | nil => rw [hL] at h; simp at h
    | cons e l => cases l with
      | nil => rw [hL] at h; simp at h
      | cons f l =>
        rw [hL] at ht hm
        exact ⟨e.tx, f.tx, e.co, f.co, hm e (by simp), hm f (by simp), (pairwise_cons.1 ht).1 f (by simp)⟩
end Go.Proofs.YtfpnhgahkjglgaaGreat

/-
  Schemes that differ in costs and order, or by a rule: plain laws. No conditions.
-/
namespace Go.Proofs.YtfpnhgahkjglgaaGreat
open List

/-- What the search finds: the first input of at most 40 letters with two outputs, or that there is none. -/
def FirstTo (s : Sc) : Option (List UInt8) → Prop
  | some u => IsFirst (schA s) u ∧ u.length ≤ 40
  | none => ∀ U, U.length ≤ 40 → ¬ Twice (schA s) U
theorem firstTo_unique {s : Sc} : ∀ {a b : Option (List UInt8)}, FirstTo s a → FirstTo s b → a = b
  | some _, some _, h1, h2 => by rw [isFirst_unique h1.1 h2.1]
  | none, none, _, _ => rfl
  | some _, none, h1, h2 => absurd h1.1.1 (h2 _ h1.2)
  | none, some _, h1, h2 => absurd h2.1.1 (h1 _ h2.2)
/-- Rules that differ in their cost alone. -/
def LikeR (a b : Ru) : Prop := a.fr = b.fr ∧ a.to = b.to ∧ a.inp = b.inp ∧ a.out = b.out
def SubL (s t : Sc) : Prop := ∀ r ∈ s.rs, ∃ r' ∈ t.rs, LikeR r r'
def Like (s t : Sc) : Prop := s.acc = t.acc ∧ SubL s t ∧ SubL t s
theorem LikeR.symm {a b : Ru} (h : LikeR a b) : LikeR b a := ⟨h.1.symm, h.2.1.symm, h.2.2.1.symm, h.2.2.2.symm⟩
theorem Like.symm {s t : Sc} (h : Like s t) : Like t s := ⟨h.1.symm, h.2.2, h.2.1⟩
theorem LikeR.mute {a b : Ru} (h : LikeR a b) : a.mute = b.mute := by unfold Ru.mute; rw [h.2.2.1]
theorem sub_rte {s t : Sc} (h : SubL s t) {m : Int} {i o : ByteArray} {c : Int} (hr : Rte s m i o c) : ∃ d, Rte t m i o d := by
  induction hr with
  | nil => exact ⟨0, .nil⟩
  | snoc _ h2 h3 ih =>
    obtain ⟨d, ih⟩ := ih
    obtain ⟨r', h4, h5, h6, h7, h8⟩ := h _ h2
    rw [h6, h7, h8]
    exact ⟨_, .snoc ih h4 (by rw [← h5]; exact h3)⟩
theorem sub_out {s t : Sc} (h : SubL s t) (ha : s.acc = t.acc) {u o : List UInt8} (ho : IsOut (schA s) u o) : IsOut (schA t) u o := by
  have h1 := isOut_iff.1 (show IsOut (schA s) (bl (ba u)) (bl (ba o)) from ho)
  obtain ⟨c, m, h2, h3⟩ := h1
  obtain ⟨d, h4⟩ := sub_rte h h3
  exact isOut_iff.2 ⟨d, m, by rw [← ha]; exact h2, h4⟩
theorem sub_twice {s t : Sc} (h : SubL s t) (ha : s.acc = t.acc) {u : List UInt8} (ht : Twice (schA s) u) : Twice (schA t) u := by
  obtain ⟨x, y, h1, h2, h3⟩ := ht
  exact ⟨x, y, sub_out h ha h1, sub_out h ha h2, h3⟩
theorem sub_pth {s t : Sc} (h : SubL s t) {F : Int → Prop} {m : Int} (hp : Pth s.edges F m) : Pth t.edges F m := by
  induction hp with
  | base h => exact .base h
  | step _ h2 ih =>
    obtain ⟨r, hr, rfl⟩ := mem_map.1 h2
    obtain ⟨r', h4, h5, h6, _, _⟩ := h r hr
    exact Pth.step (e := (r.fr, r.to)) ih (mem_map.2 ⟨r', h4, by rw [h5, h6]⟩)
/-! With a rule more that puts out something else there are two outputs. -/
theorem rm_two {s : Sc} (hr : ∀ r ∈ s.rs, (0 ≤ r.fr ∧ r.fr < 2) ∧ 0 ≤ r.to ∧ r.to < 2) {m : Int} (h : RM s m) : m = 0 ∨ ∃ r ∈ s.rs, r.fr = 0 ∧ r.to = m := by
  unfold RM at h
  induction h with
  | base h => exact .inl h
  | step _ h2 ih =>
    obtain ⟨r, h3, rfl⟩ := mem_map.1 h2
    have h4 := hr r h3
    by_cases e : r.fr = 0
    · exact .inr ⟨r, h3, e, rfl⟩
    · rcases ih with ih | ⟨r0, g1, g2, g3⟩
      · exact absurd ih e
      · by_cases e2 : r.to = 0
        · exact .inl e2
        · refine .inr ⟨r0, g1, g2, ?_⟩
          have g3 : r0.to = r.fr := g3
          show r0.to = r.to
          omega
theorem lv_two {s : Sc} (hr : ∀ r ∈ s.rs, (0 ≤ r.fr ∧ r.fr < 2) ∧ 0 ≤ r.to ∧ r.to < 2) {m : Int} (h : LV s m) : accB s.acc m = true ∨ ∃ r ∈ s.rs, r.fr = m ∧ accB s.acc r.to = true := by
  unfold LV at h
  induction h with
  | base h => exact .inl h
  | step _ h2 ih =>
    obtain ⟨r, h3, rfl⟩ := mem_map.1 h2
    have h4 := hr r h3
    rcases ih with ih | ⟨r1, g1, g2, g3⟩
    · exact .inr ⟨r, h3, rfl, ih⟩
    · have g2 : r1.fr = r.to := g2
      have h5 := hr r1 g1
      by_cases e : r.to = r.fr
      · exact .inr ⟨r1, g1, by rw [g2]; exact e, g3⟩
      · by_cases e2 : r1.to = r.fr
        · exact .inl (by rw [← e2]; exact g3)
        · exact .inr ⟨r, h3, rfl, by rw [show r.to = r1.to by omega]; exact g3⟩
theorem two_rules {s : Sc} (hr : ∀ r ∈ s.rs, (0 ≤ r.fr ∧ r.fr < 2) ∧ 0 ≤ r.to ∧ r.to < 2) (hi : ∀ r ∈ s.rs, r.inp.size ≤ 4) (hs : SoundP s) {a b : Ru} (ha : a ∈ s.rs) (hb : b ∈ s.rs) (h1 : a.fr = b.fr) (h2 : a.to = b.to) (h3 : a.inp = b.inp) (h4 : a.out ≠ b.out) (hm : RM s a.fr) :
    ∃ U, U.length ≤ 40 ∧ Twice (schA s) U := by
  obtain ⟨i, o, c, g1, g2⟩ : ∃ i o c, Rte s a.fr i o c ∧ i.size ≤ 4 := by
    rcases rm_two hr hm with e | ⟨r, r1, r2, r3⟩
    · exact ⟨_, _, _, by rw [e]; exact .nil, by decide⟩
    · have := Rte.snoc (s := s) .nil r1 r2
      rw [r3] at this
      exact ⟨_, _, _, this, by rw [ba_len]; have := hi r r1; have : ByteArray.empty.size = 0 := rfl; omega⟩
  have ra := Rte.snoc g1 ha rfl
  have rb := Rte.snoc g1 hb h1.symm
  rw [← h2, ← h3] at rb
  have hne : ∀ x : ByteArray, o ++ a.out ++ x ≠ o ++ b.out ++ x := fun x e => h4 (by
    have e := congrArg bl e
    simp only [bl_app] at e
    exact bl_inj (append_cancel_left (append_cancel_right e)))
  have hia := hi a ha
  rcases lv_two hr (hs.stuck _ (rm_step hm ha)) with e | ⟨r, r1, r2, r3⟩
  · refine ⟨bl (i ++ a.inp), by rw [bl_len, ba_len]; omega, twice_iff.2 ⟨_, _, _, _, ⟨_, e, ra⟩, ⟨_, e, rb⟩, fun e => ?_⟩⟩
    refine hne ByteArray.empty ?_
    rw [e]
  · have hir := hi r r1
    exact ⟨bl (i ++ a.inp ++ r.inp), by rw [bl_len, ba_len, ba_len]; omega, twice_iff.2 ⟨_, _, _, _, ⟨_, r3, .snoc ra r1 r2⟩, ⟨_, r3, .snoc rb r1 r2⟩, hne r.out⟩⟩
end Go.Proofs.YtfpnhgahkjglgaaGreat

/-
  Valid schemes, letters, and how long outputs get: plain laws. No conditions.
-/
namespace Go.Proofs.YtfpnhgahkjglgaaGreat
open List

def smallC (c : UInt8) : Bool := decide (97 ≤ c.toNat) && decide (c.toNat ≤ 122)
/-- All bytes are small letters. -/
def smallS (s : ByteArray) : Bool := (bl s).all smallC
def knownC (c : UInt8) : Bool := smallC c || (decide (65 ≤ c.toNat) && decide (c.toNat ≤ 90)) || (decide (48 ≤ c.toNat) && decide (c.toNat ≤ 57))
/-- All bytes are letters or digits. -/
def knownS (s : ByteArray) : Bool := (bl s).all knownC
/-- Letters as an input. -/
def LetS (s : ByteArray) : Prop := s.size ≤ 40 ∧ smallS s = true
instance (s : ByteArray) : Decidable (LetS s) := by unfold LetS; infer_instance
/-- A rule that is right. -/
def RuOK (n : Int) (r : Ru) : Prop := ((0 ≤ r.fr ∧ r.fr < n) ∧ 0 ≤ r.to ∧ r.to < n) ∧ (r.inp.size ≤ 4 ∧ smallS r.inp = true) ∧ (r.out.size ≤ 4 ∧ knownS r.out = true) ∧ 0 ≤ r.co ∧ r.co ≤ 1000
instance (n : Int) (r : Ru) : Decidable (RuOK n r) := by unfold RuOK; infer_instance
/-- A scheme that is valid. -/
def ScOK (s : Sc) : Prop := (1 ≤ s.n ∧ s.n ≤ 8) ∧ s.rs.length ≤ 64 ∧ (1 ≤ s.acc ∧ s.acc < 2 ^ s.n.toNat) ∧ (∀ r ∈ s.rs, RuOK s.n r) ∧ s.rs.Nodup
instance (s : Sc) : Decidable (ScOK s) := by unfold ScOK; infer_instance
theorem smallS_mem {s : ByteArray} (h : smallS s = true) : ∀ a ∈ bl s, 97 ≤ a.toNat ∧ a.toNat ≤ 122 := fun a ha => by
  have := all_eq_true.1 h a ha
  unfold smallC at this
  simpa using this
theorem scOK_small {s : Sc} (h : ScOK s) : ∀ r ∈ s.rs, ∀ a ∈ bl r.inp, 97 ≤ a.toNat ∧ a.toNat ≤ 122 := fun r hr => smallS_mem (h.2.2.2.1 r hr).2.1.2
theorem scOK_cost {s : Sc} (h : ScOK s) : ∀ r ∈ s.rs, 0 ≤ r.co := fun r hr => (h.2.2.2.1 r hr).2.2.2.1
theorem scOK_modes {s : Sc} (h : ScOK s) : ∀ r ∈ s.rs, (0 ≤ r.fr ∧ r.fr < s.n) ∧ 0 ≤ r.to ∧ r.to < s.n := fun r hr => (h.2.2.2.1 r hr).1
theorem smallS_app {a b : ByteArray} : smallS (a ++ b) = (smallS a && smallS b) := by unfold smallS; rw [bl_app, all_append]
theorem knownS_app {a b : ByteArray} : knownS (a ++ b) = (knownS a && knownS b) := by unfold knownS; rw [bl_app, all_append]
/-- What a route takes are small letters. -/
theorem rte_small {s : Sc} (h : ScOK s) {m : Int} {i o : ByteArray} {c : Int} (hr : Rte s m i o c) : smallS i = true := by
  induction hr with
  | nil => rfl
  | snoc _ h2 _ ih => rw [smallS_app, ih, (h.2.2.2.1 _ h2).2.1.2]; rfl
theorem rte_mode {s : Sc} (h : ScOK s) {m : Int} {i o : ByteArray} {c : Int} (hr : Rte s m i o c) : 0 ≤ m ∧ m < s.n := by
  cases hr with
  | nil => have := h.1; omega
  | snoc _ h2 _ => exact (scOK_modes h _ h2).2
section
variable {K : Type} {S : Sys K} {st : K} {inp : List UInt8}
/-- Some measure of states grows by at most so much a rule: it is bounded at each place. -/
theorem rch_meas (hF : Flat S st inp) (μ : K → Nat) (B : Nat) (h0 : μ st = 0) (hs : ∀ k r k', r ∈ S.rs → S.step k r = some k' → μ k' ≤ μ k + B) : ∀ (i : Nat) (k : K) (c : Int), Rch S st inp i k c → μ k ≤ 2 * B * i + B := by
  intro i
  induction i using Nat.strongRecOn with
  | _ i ih =>
    have harr : ∀ k c, Arr S st inp i i k c → μ k ≤ 2 * B * i := by
      rintro k c (⟨rfl, rfl, rfl⟩ | ⟨i', hi, k0, c0, r, h1, h2, h3, h4, h5, h6, h7, _⟩)
      · omega
      · have h8 := ih i' hi k0 c0 h1
        have h9 := hs k0 r k h2 h7
        have h10 : 2 * B * (i' + 1) ≤ 2 * B * i := Nat.mul_le_mul_left _ hi
        rw [Nat.mul_succ] at h10
        omega
    intro k c h
    rcases rch_split hF h with h | ⟨k0, c0, r, h1, h2, _, _, h5, _⟩
    · have := harr k c h; omega
    · have h6 := harr k0 c0 h1
      have h7 := hs k0 r k h2 h5
      omega
end
theorem pair_size {s : Sc} (h : ScOK s) {inp : ByteArray} (hF : FlatS s inp) {i : Nat} {k : Int × ByteArray} {c : Int} (hr : PairAt s inp i k c) : k.2.size ≤ 8 * i + 4 := by
  have := rch_meas hF (fun k => k.2.size) 4 rfl (fun k r k' h1 h2 => by
    obtain rfl := Option.some.inj h2
    show (k.2 ++ r.out).size ≤ _
    rw [ba_len]
    have := (h.2.2.2.1 r h1).2.2.1.1
    omega) i k c hr
  simpa using this
theorem pair_cost {s : Sc} (h : ScOK s) {inp : ByteArray} {i : Nat} {k : Int × ByteArray} {c : Int} (hr : PairAt s inp i k c) : 0 ≤ c := rch_cost (S := pairS s) (scOK_cost h) hr
/-- Costs grow by at most so much a place. -/
theorem rch_costB {K : Type} {S : Sys K} {st : K} {inp : List UInt8} (hF : Flat S st inp) (hc : ∀ r ∈ S.rs, 0 ≤ r.co ∧ r.co ≤ 1000) : ∀ (i : Nat) (k : K) (c : Int), Rch S st inp i k c → c ≤ 2000 * (i : Int) + 1000 := by
  intro i
  induction i using Nat.strongRecOn with
  | _ i ih =>
    have harr : ∀ k c, Arr S st inp i i k c → c ≤ 2000 * (i : Int) := by
      rintro k c (⟨rfl, rfl, rfl⟩ | ⟨i', hi, k0, c0, r, h1, h2, h3, h4, h5, h6, h7, rfl⟩)
      · omega
      · have h8 := ih i' hi k0 c0 h1
        have h9 := hc r h2
        omega
    intro k c h
    rcases rch_split hF h with h | ⟨k0, c0, r, h1, h2, _, _, h5, rfl⟩
    · have := harr k c h; omega
    · have h6 := harr k0 c0 h1
      have h7 := hc r h2
      omega
end Go.Proofs.YtfpnhgahkjglgaaGreat

/-
  The search for the first input with two outputs: what bounds it. Plain laws. No conditions.
-/
namespace Go.Proofs.YtfpnhgahkjglgaaGreat
open List

/-- All places of a scheme. -/
def plcs (s : Sc) : List Pl := (0, []) :: s.rs.flatMap fun r => (List.range (r.inp.size + 1)).map fun k => (r.to, (bl r.inp).drop k)
theorem prt_plcs {s : Sc} {u o : List UInt8} {p : Pl} (h : Prt (schA s) u p o) : p ∈ plcs s := by
  induction h with
  | start => exact mem_cons_self
  | opn _ h2 _ =>
    obtain ⟨_, r, hr, _, _, rfl⟩ := h2
    refine mem_cons_of_mem _ (mem_flatMap.2 ⟨r, hr, mem_map.2 ⟨0, mem_range.2 (by omega), ?_⟩⟩)
    rw [drop_zero]
  | @take u o x p q c _ h2 ih =>
    obtain ⟨_, h3, h4⟩ := h2
    have h3 : p.2 = c :: q.2 := h3
    rcases mem_cons.1 ih with e | hm
    · rw [e] at h3; cases h3
    · obtain ⟨r, hr, hm⟩ := mem_flatMap.1 hm
      obtain ⟨k, hk, rfl⟩ := mem_map.1 hm
      have h3 : (bl r.inp).drop k = c :: q.2 := h3
      have hlt : k < (bl r.inp).length := by
        rcases Nat.lt_or_ge k (bl r.inp).length with h | h
        · exact h
        · rw [drop_eq_nil_of_le h] at h3; cases h3
      rw [bl_len] at hlt
      refine mem_cons_of_mem _ (mem_flatMap.2 ⟨r, hr, mem_map.2 ⟨k + 1, mem_range.2 (by omega), ?_⟩⟩)
      have e : (bl r.inp).drop (k + 1) = q.2 := by
        have := congrArg tail h3
        rw [tail_drop] at this
        exact this
      rw [e]
      exact Prod.ext h4.symm rfl
theorem flat_len {α β : Type} {f : α → List β} {n : Nat} : ∀ (l : List α), (∀ x ∈ l, (f x).length ≤ n) → (l.flatMap f).length ≤ l.length * n
  | [], _ => by simp
  | x :: l, h => by
    have h1 := flat_len l fun y hy => h y (mem_cons_of_mem _ hy)
    have h2 := h x mem_cons_self
    rw [flatMap_cons, length_append, length_cons, Nat.add_mul]
    omega
theorem plcs_len {s : Sc} (h : ScOK s) : (plcs s).length ≤ 321 := by
  have h1 := flat_len (f := fun r : Ru => (List.range (r.inp.size + 1)).map fun k => (r.to, (bl r.inp).drop k)) (n := 5) s.rs fun r hr => by
    have := (h.2.2.2.1 r hr).2.1.1
    rw [length_map, length_range]
    omega
  have h2 := h.2.1
  unfold plcs
  rw [length_cons]
  omega
/-- All pairs of places. -/
def prs (s : Sc) : List (Pl × Pl) := (plcs s).flatMap fun a => (plcs s).map fun b => (a, b)
theorem mem_prs {s : Sc} {a b : Pl} (ha : a ∈ plcs s) (hb : b ∈ plcs s) : (a, b) ∈ prs s := mem_flatMap.2 ⟨a, ha, mem_map.2 ⟨b, hb, rfl⟩⟩
theorem prs_len {s : Sc} (h : ScOK s) : (prs s).length ≤ 103041 := by
  have h1 := flat_len (f := fun a : Pl => (plcs s).map fun b => (a, b)) (n := 321) (plcs s) fun a _ => by rw [length_map]; exact plcs_len h
  have h2 := plcs_len h
  have h3 := Nat.mul_le_mul_right 321 h2
  unfold prs
  omega
section
variable {P : Type} [DecidableEq P]
omit [DecidableEq P] in
theorem len_split {α : Type} (p : α → Bool) : ∀ l : List α, l.length = (l.filter p).length + (l.filter fun x => !p x).length
  | [] => rfl
  | x :: l => by
    have ih := len_split p l
    cases h : p x <;> simp [h] <;> omega
theorem hst_len : ∀ (ks : List (P × P)) (H : Hst P), (∀ p ∈ H, (p.1.l, p.1.r) ∈ ks) → (∀ l r, (gapsAt H l r).length ≤ 2) → H.length ≤ 2 * ks.length
  | [], H, h, _ => by
    cases H with
    | nil => simp
    | cons p H => exact absurd (h p mem_cons_self) (by simp)
  | k :: ks, H, h, hf => by
    have h1 := hst_len ks (H.filter fun p => !(decide (p.1.l = k.1) && decide (p.1.r = k.2))) (fun p hp => by
      obtain ⟨h1, h2⟩ := mem_filter.1 hp
      rcases mem_cons.1 (h p h1) with e | e
      · exfalso
        rw [← e] at h2
        simp at h2
      · exact e) (fun l r => by
      refine Nat.le_trans ?_ (hf l r)
      unfold gapsAt
      rw [length_map, length_map]
      exact (filter_sublist.filter _).length_le)
    have h2 := hf k.1 k.2
    unfold gapsAt at h2
    rw [length_map] at h2
    have h3 := len_split (fun p : St P × List UInt8 => decide (p.1.l = k.1) && decide (p.1.r = k.2)) H
    rw [length_cons]
    omega
end
/-- How much has been met. -/
theorem met_len {s : Sc} {H : Hst Pl} {u : List UInt8} (h : ScOK s) (hH : HInv (schA s) H u) : H.length ≤ 206082 := by
  have h1 := hst_len (prs s) H (fun p hp => by
    obtain ⟨⟨l, r, g⟩, v⟩ := p
    obtain ⟨x, y, hx, hy, _⟩ := hH.two _ _ hp
    exact mem_prs (prt_plcs hx) (prt_plcs hy)) hH.few
  have h2 := prs_len h
  omega
/-- What the texts of a gap come to. -/
def Gp.sz (g : Gp) : Nat := g.a.length + g.b.length
theorem gapOf_sz : ∀ (l m : List UInt8), (gapOf l m).a.length ≤ l.length ∧ (gapOf l m).b.length ≤ m.length
  | [], m => by rw [gapOf_nil_l]; exact ⟨Nat.le_refl _, Nat.le_refl _⟩
  | l, [] => by rw [gapOf_nil_r]; exact ⟨Nat.le_refl _, Nat.le_refl _⟩
  | a :: l, b :: m => by
    show (if a = b then gapOf l m else Gp.part).a.length ≤ _ ∧ (if a = b then gapOf l m else Gp.part).b.length ≤ _
    have := gapOf_sz l m
    simp only [length_cons]
    split
    · omega
    · exact ⟨Nat.zero_le _, Nat.zero_le _⟩
theorem widen_sz (g : Gp) (x y : List UInt8) : (widen g x y).sz ≤ g.sz + x.length + y.length := by
  unfold widen
  split
  · omega
  · have := gapOf_sz (g.a ++ x) (g.b ++ y)
    rw [length_append, length_append] at this
    unfold Gp.sz
    omega
/-- Gaps that were met are short. -/
def SzH {P : Type} (H : Hst P) : Prop := ∀ x v, (x, v) ∈ H → x.g.sz ≤ 8 * H.length
theorem SzH.add {P : Type} [DecidableEq P] {H : Hst P} (h : SzH H) {u : List UInt8} {x : St P} (hx : x.g.sz ≤ 8 * H.length + 8) : SzH (addH H u x) := by
  unfold addH
  split
  · exact h
  · intro y v hy
    rw [length_append, length_singleton]
    rcases mem_append.1 hy with hy | hy
    · have := h y v hy
      omega
    · obtain ⟨rfl, rfl⟩ := Prod.mk.inj (mem_singleton.1 hy)
      omega
theorem SzH.nil {P : Type} : SzH ([] : Hst P) := fun _ _ h => (nomatch h)
/-- The modes of places. -/
theorem prt_mode {s : Sc} (h : ScOK s) {u o : List UInt8} {p : Pl} (hp : Prt (schA s) u p o) : 0 ≤ p.1 ∧ p.1 < 8 ∧ p.2.length ≤ 4 := by
  have hn := h.1
  rcases mem_cons.1 (prt_plcs hp) with e | hm
  · rw [e]; exact ⟨Int.le_refl _, by decide, Nat.zero_le _⟩
  · obtain ⟨r, hr, hm⟩ := mem_flatMap.1 hm
    obtain ⟨k, _, rfl⟩ := mem_map.1 hm
    have h2 := h.2.2.2.1 r hr
    refine ⟨h2.1.2.1, by have := h2.1.2.2; show r.to < 8; omega, ?_⟩
    show ((bl r.inp).drop k).length ≤ 4
    rw [length_drop, bl_len]
    have := h2.2.1.1
    omega
theorem two_modes {s : Sc} (h : ScOK s) {u : List UInt8} {p q : Pl} {g : Gp} (ht : Two (schA s) u p q g) : (0 ≤ p.1 ∧ p.1 < 8 ∧ p.2.length ≤ 4) ∧ 0 ≤ q.1 ∧ q.1 < 8 ∧ q.2.length ≤ 4 := by
  obtain ⟨x, y, hx, hy, _⟩ := ht
  exact ⟨prt_mode h hx, prt_mode h hy⟩
end Go.Proofs.YtfpnhgahkjglgaaGreat

/-
  What one round over a table's states does: plain laws. No conditions.
-/
namespace Go.Proofs.YtfpnhgahkjglgaaGreat
open List

section
variable {K : Type} {S : Sys K} {st : K} {inp : List UInt8}
/-- The pairs of a table. -/
def Low (M : K → Option Int) (k : K) (c : Int) : Prop := M k = some c
theorem low_hop {M M' : K → Option Int} {A : K → Int → Prop} (h : Holds M A) (h' : Holds M' (fun k c => Low M k c ∨ Hop S (Low M) k c)) : Holds M' (fun k c => A k c ∨ Hop S A k c) := fun k => by
  obtain ⟨h1, h2⟩ := h' k
  have hop : ∀ c, Hop S A k c → ∃ d, Hop S (Low M) k d ∧ d ≤ c := by
    rintro c ⟨k0, c0, r, g1, g2, g3, g4, g5, rfl⟩
    obtain ⟨d, hd, hdc⟩ := h.some_ g1
    exact ⟨d + r.co, ⟨k0, d, r, hd, g2, g3, g4, g5, rfl⟩, by omega⟩
  have hop2 : ∀ c, Hop S (Low M) k c → Hop S A k c := by
    rintro c ⟨k0, c0, r, g1, g2⟩
    exact ⟨k0, c0, r, ((h k0).1 c0 g1).1, g2⟩
  refine ⟨fun c hc => ?_, fun hn c hc => ?_⟩
  · obtain ⟨h3, h4⟩ := h1 c hc
    refine ⟨h3.imp (fun h3 => ((h k).1 c h3).1) (hop2 c), fun c' hc' => ?_⟩
    rcases hc' with hc' | hc'
    · obtain ⟨d, hd, hdc⟩ := h.some_ hc'
      have := h4 d (.inl hd)
      omega
    · obtain ⟨d, hd, hdc⟩ := hop c' hc'
      have := h4 d (.inr hd)
      omega
  · rcases hc with hc | hc
    · obtain ⟨d, hd, _⟩ := h.some_ hc
      exact h2 hn d (.inl hd)
    · obtain ⟨d, hd, _⟩ := hop c hc
      exact h2 hn d (.inr hd)
theorem low_leap {M M' : K → Option Int} {A B : K → Int → Prop} {i j : Nat} (h : Holds M A) (h' : Holds M' (fun k c => B k c ∨ Leap S inp (Low M) i j k c)) : Holds M' (fun k c => B k c ∨ Leap S inp A i j k c) := fun k => by
  obtain ⟨h1, h2⟩ := h' k
  have hop : ∀ c, Leap S inp A i j k c → ∃ d, Leap S inp (Low M) i j k d ∧ d ≤ c := by
    rintro c ⟨k0, c0, r, g1, g2, g3, g4, g5, g6, g7, rfl⟩
    obtain ⟨d, hd, hdc⟩ := h.some_ g1
    exact ⟨d + r.co, ⟨k0, d, r, hd, g2, g3, g4, g5, g6, g7, rfl⟩, by omega⟩
  have hop2 : ∀ c, Leap S inp (Low M) i j k c → Leap S inp A i j k c := by
    rintro c ⟨k0, c0, r, g1, g2⟩
    exact ⟨k0, c0, r, ((h k0).1 c0 g1).1, g2⟩
  refine ⟨fun c hc => ?_, fun hn c hc => ?_⟩
  · obtain ⟨h3, h4⟩ := h1 c hc
    refine ⟨h3.imp id (hop2 c), fun c' hc' => ?_⟩
    rcases hc' with hc' | hc'
    · exact h4 c' (.inl hc')
    · obtain ⟨d, hd, hdc⟩ := hop c' hc'
      have := h4 d (.inr hd)
      omega
  · rcases hc with hc | hc
    · exact h2 hn c (.inl hc)
    · obtain ⟨d, hd, _⟩ := hop c hc
      exact h2 hn d (.inr hd)
/-- After the own steps of a place all is there that is reached at it. -/
theorem settled (hF : Flat S st inp) {M M' : K → Option Int} {i : Nat} (h : Holds M (Arr S st inp i i)) (h' : Holds M' (fun k c => Low M k c ∨ Hop S (Low M) k c)) : Holds M' (Rch S st inp i) :=
  holds_iff (low_hop h h') fun _ _ => (rch_iff hF).symm
/-- After a place's steps forward the later places hold what comes from it. -/
theorem leapt {M M' : K → Option Int} {i j : Nat} (h : Holds M (Rch S st inp i)) (h' : Holds M' (fun k c => Arr S st inp i j k c ∨ Leap S inp (Low M) i j k c)) : Holds M' (Arr S st inp (i + 1) j) :=
  holds_iff (low_leap h h') fun _ _ => arr_succ.symm
theorem arr_start {j : Nat} (hj : j ≠ 0) : ∀ (k : K) (c : Int), ¬ Arr S st inp 0 j k c := fun _ _ h => by
  rcases h with ⟨h1, _⟩ | ⟨i, h1, _⟩
  · exact hj h1
  · omega
variable [DecidableEq K]
/-- A hop is made: the table holds one pair more. -/
theorem holds_step {M : K → Option Int} {A : K → Int → Prop} (h : Holds M A) {k : K} {c : Int} {B : K → Int → Prop} (hB : ∀ x d, B x d ↔ A x d ∨ (x = k ∧ d = c)) : Holds (relaxT M k c) B := holds_iff (holds_relax h k c) fun x d => (hB x d).symm
/-- Pairs that lie higher need not be noted. -/
theorem keys_relax_new {M : K → Option Int} {l : List K} (h : KeysOf M l) {k : K} (hk : M k = none) (c : Int) : KeysOf (relaxT M k c) (l ++ [k]) := by
  refine ⟨nodup_append.2 ⟨h.1, pairwise_singleton _ _, fun a ha b hb e => ?_⟩, fun x => ?_⟩
  · obtain rfl := mem_singleton.1 hb
    subst e
    exact (h.2 _).1 ha hk
  · rw [mem_append, mem_singleton, h.2]
    unfold relaxT
    split
    · rename_i e; subst e; rw [hk]; simp
    · rename_i e; simp [e]
end
end Go.Proofs.YtfpnhgahkjglgaaGreat
