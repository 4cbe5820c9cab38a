/-
  OuSound, OuBest, OuRun, OuTab, joined. No conditions.
-/
import Derived.Test.YtkjfdjcagfkdhaaGreatP01
import Derived.Maps.RangeWalk
import Derived.Maps.Ext
/-
  Which modes are reached and live, and what a sound scheme is: plain laws. No conditions.
-/
namespace Go.Proofs.YtkjfdjcagfkdhaaGreat
open List

/-- What is reached by edges from a set. -/
inductive Pth (E : List (Int × Int)) (F : Int → Prop) : Int → Prop
  | base {a : Int} : F a → Pth E F a
  | step {e : Int × Int} : Pth E F e.1 → e ∈ E → Pth E F e.2
def addB (f : Int → Bool) (m : Int) : Int → Bool := fun x => decide (x = m) || f x
def hopB (f : Int → Bool) (e : Int × Int) : Int → Bool := if f e.1 = true then addB f e.2 else f
def cloB (E : List (Int × Int)) (f : Int → Bool) : Int → Bool := E.foldl hopB f
def cloN (E : List (Int × Int)) (f : Int → Bool) : Nat → Int → Bool
  | 0 => f
  | k + 1 => cloB E (cloN E f k)
theorem hopB_mono {f : Int → Bool} {e : Int × Int} {x : Int} (h : f x = true) : hopB f e x = true := by
  unfold hopB
  split
  · unfold addB; rw [h, Bool.or_true]
  · exact h
theorem fold_mono : ∀ {E : List (Int × Int)} {f : Int → Bool} {x : Int}, f x = true → E.foldl hopB f x = true
  | [], _, _, h => h
  | _ :: E, _, _, h => fold_mono (E := E) (hopB_mono h)
theorem fold_in : ∀ {E : List (Int × Int)} {f : Int → Bool} {e : Int × Int}, e ∈ E → f e.1 = true → E.foldl hopB f e.2 = true
  | [], _, _, h, _ => by cases h
  | a :: E, f, e, h, hf => by
    rcases mem_cons.1 h with rfl | h
    · refine fold_mono (E := E) ?_
      unfold hopB
      rw [if_pos hf]
      unfold addB
      simp
    · exact fold_in (E := E) h (hopB_mono hf)
theorem fold_pth {F : Int → Prop} {E0 : List (Int × Int)} : ∀ {E : List (Int × Int)} {f : Int → Bool}, (∀ e ∈ E, e ∈ E0) → (∀ x, f x = true → Pth E0 F x) → ∀ x, E.foldl hopB f x = true → Pth E0 F x
  | [], _, _, hf, x, h => hf x h
  | a :: E, f, hE, hf, x, h => by
    refine fold_pth (E := E) (f := hopB f a) (fun e he => hE e (mem_cons_of_mem _ he)) (fun y hy => ?_) x h
    unfold hopB at hy
    split at hy
    · rename_i h1
      unfold addB at hy
      rw [Bool.or_eq_true, decide_eq_true_iff] at hy
      rcases hy with rfl | hy
      · exact .step (hf _ h1) (hE a (mem_cons_self ..))
      · exact hf y hy
    · exact hf y hy
theorem cloN_pth {E : List (Int × Int)} {f : Int → Bool} : ∀ (k : Nat) (x : Int), cloN E f k x = true → Pth E (fun a => f a = true) x
  | 0, _, h => .base h
  | k + 1, x, h => fold_pth (E := E) (fun _ h => h) (cloN_pth k) x h
theorem cloN_mono {E : List (Int × Int)} {f : Int → Bool} {x : Int} (k : Nat) (h : cloN E f k x = true) : cloN E f (k + 1) x = true := fold_mono h
def cntB (n : Nat) (f : Int → Bool) : Nat := (range n).countP fun i : Nat => f (i : Int)
theorem cnt_lt {n : Nat} {f g : Int → Bool} (h : ∀ x, f x = true → g x = true) {m : Int} (hm : 0 ≤ m ∧ m < (n : Int)) (h1 : f m = false) (h2 : g m = true) : cntB n f < cntB n g := by
  induction n with
  | zero => omega
  | succ n ih =>
    unfold cntB at *
    rw [range_succ, countP_append, countP_append]
    by_cases e : m = (n : Int)
    · subst e
      have := countP_mono_left (l := range n) (p := fun i : Nat => f (i : Int)) (q := fun i : Nat => g (i : Int)) fun _ _ hi => h _ hi
      simp only [countP_cons, countP_nil, h1, h2]
      simp
      omega
    · have := ih (by omega)
      have h3 := countP_mono_left (l := [n]) (p := fun i : Nat => f (i : Int)) (q := fun i : Nat => g (i : Int)) fun _ _ hi => h _ hi
      omega
def Shut_ (E : List (Int × Int)) (f : Int → Bool) : Prop := ∀ e ∈ E, f e.1 = true → f e.2 = true
theorem shut_pth {E : List (Int × Int)} {f : Int → Bool} (h : Shut_ E f) {F : Int → Prop} (hF : ∀ x, F x → f x = true) {x : Int} (hx : Pth E F x) : f x = true := by
  induction hx with
  | base h => exact hF _ h
  | step _ h2 ih => exact h _ h2 ih
theorem clo_grow {E : List (Int × Int)} {f : Int → Bool} {n : Nat} (hE : ∀ e ∈ E, 0 ≤ e.2 ∧ e.2 < (n : Int)) : ∀ k, Shut_ E (cloN E f k) ∨ k + cntB n f ≤ cntB n (cloN E f k)
  | 0 => .inr (by rw [Nat.zero_add]; exact Nat.le_refl _)
  | k + 1 => by
    rcases Classical.em (Shut_ E (cloN E f k)) with h | h
    · left
      have key : ∀ (D : List (Int × Int)) (g : Int → Bool), (∀ e ∈ D, e ∈ E) → Shut_ E g → ∀ x, D.foldl hopB g x = g x := by
        intro D
        induction D with
        | nil => intro g _ _ x; rfl
        | cons a D ih =>
          intro g hD hg x
          have e : hopB g a = g := by
            funext y
            unfold hopB
            split
            · rename_i h1
              unfold addB
              by_cases e : y = a.2
              · subst e; rw [hg a (hD a (mem_cons_self ..)) h1]; simp
              · simp [e]
            · rfl
          rw [foldl_cons, e]
          exact ih g (fun e he => hD e (mem_cons_of_mem _ he)) hg x
      have e : cloN E f (k + 1) = cloN E f k := funext fun x => key E _ (fun _ h => h) h x
      rw [e]
      exact h
    · right
      have ⟨e, he, h1, h2⟩ : ∃ e, e ∈ E ∧ cloN E f k e.1 = true ∧ ¬ cloN E f k e.2 = true := by
        refine Classical.byContradiction fun hn => h fun e he h1 => Classical.byContradiction fun h2 => hn ⟨e, he, h1, h2⟩
      rcases clo_grow hE k with hk | hk
      · exact absurd (hk e he h1) h2
      · have := cnt_lt (f := cloN E f k) (g := cloN E f (k + 1)) (fun x hx => cloN_mono k hx) (hE e he) (by simpa using h2) (fold_in he h1)
        omega
theorem cnt_bound (n : Nat) (f : Int → Bool) : cntB n f ≤ n := by
  have := countP_le_length (l := range n) (p := fun i : Nat => f (i : Int))
  rw [length_range] at this
  exact this
theorem cnt_full {n : Nat} {f : Int → Bool} (h : n ≤ cntB n f) {m : Int} (hm : 0 ≤ m ∧ m < (n : Int)) : f m = true := by
  cases hf : f m with
  | true => rfl
  | false =>
    have h1 := cnt_lt (n := n) (f := f) (g := fun _ => true) (fun _ _ => rfl) hm hf rfl
    have h2 := cnt_bound n (fun _ => true)
    omega
/-- After as many rounds as there are modes all is found. -/
theorem cloN_iff {E : List (Int × Int)} {f : Int → Bool} {n : Nat} (hE : ∀ e ∈ E, 0 ≤ e.2 ∧ e.2 < (n : Int)) {x : Int} : cloN E f n x = true ↔ Pth E (fun a => f a = true) x := by
  refine ⟨cloN_pth n x, fun h => ?_⟩
  have hbase : ∀ k y, f y = true → cloN E f k y = true := by
    intro k
    induction k with
    | zero => exact fun y hy => hy
    | succ k ih => exact fun y hy => cloN_mono k (ih y hy)
  rcases clo_grow (f := f) hE n with h1 | h1
  · exact shut_pth h1 (hbase n) h
  · have hsh : Shut_ E (cloN E f n) := fun e he _ => cnt_full (by omega) (hE e he)
    exact shut_pth hsh (hbase n) h

def accB (acc : Int) (m : Int) : Bool := decide (0 ≤ m) && acc.toNat.testBit m.toNat
def Sc.edges (s : Sc) : List (Int × Int) := s.rs.map fun r => (r.fr, r.to)
def Sc.backs (s : Sc) : List (Int × Int) := s.rs.map fun r => (r.to, r.fr)
/-- The modes that are reached. -/
def RM (s : Sc) (m : Int) : Prop := Pth s.edges (fun a => a = 0) m
/-- The modes that are live. -/
def LV (s : Sc) (m : Int) : Prop := Pth s.backs (fun a => accB s.acc a = true) m
/-- A chain of rules that take nothing. -/
inductive Mt (s : Sc) (a : Int) : Int → Prop
  | one {r : Ru} : r ∈ s.rs → r.mute = true → r.fr = a → Mt s a r.to
  | more {b : Int} {r : Ru} : Mt s a b → r ∈ s.rs → r.mute = true → r.fr = b → Mt s a r.to
theorem rm_step {s : Sc} {r : Ru} (h : RM s r.fr) (hr : r ∈ s.rs) : RM s r.to := Pth.step (e := (r.fr, r.to)) h (mem_map.2 ⟨r, hr, rfl⟩)
theorem lv_step {s : Sc} {r : Ru} (h : LV s r.to) (hr : r ∈ s.rs) : LV s r.fr := Pth.step (e := (r.to, r.fr)) h (mem_map.2 ⟨r, hr, rfl⟩)
theorem lv_of_path {s : Sc} {m k : Int} (h : Pth s.edges (fun a => a = m) k) (hk : LV s k) : LV s m := by
  induction h with
  | base h => rw [h] at hk; exact hk
  | @step e _ h2 ih =>
    obtain ⟨r, hr, rfl⟩ := mem_map.1 h2
    exact ih (lv_step hk hr)
theorem path_cons {s : Sc} {r : Ru} (hr : r ∈ s.rs) {k : Int} (h : Pth s.edges (fun a => a = r.to) k) : Pth s.edges (fun a => a = r.fr) k := by
  induction h with
  | base h => rw [h]; exact Pth.step (e := (r.fr, r.to)) (.base rfl) (mem_map.2 ⟨r, hr, rfl⟩)
  | step _ h2 ih => exact .step ih h2
theorem lv_iff {s : Sc} {m : Int} : LV s m ↔ ∃ k, Pth s.edges (fun a => a = m) k ∧ accB s.acc k = true := by
  constructor
  · intro h
    unfold LV at h
    induction h with
    | @base a h => exact ⟨a, .base rfl, h⟩
    | @step e _ h2 ih =>
      obtain ⟨r, hr, rfl⟩ := mem_map.1 h2
      obtain ⟨k, h3, h4⟩ := ih
      exact ⟨k, path_cons hr h3, h4⟩
  · rintro ⟨k, h1, h2⟩
    exact lv_of_path h1 (.base h2)
/-- What a sound scheme is, beside being valid. -/
structure SoundP (s : Sc) : Prop where
  live : LV s 0
  stuck : ∀ m, RM s m → LV s m
  endl : ∀ m, RM s m → LV s m → ¬ Mt s m m
section
variable {K : Type} {S : Sys K} {st : K} {inp : List UInt8} {s : Sc}
/-- The modes of states are those to which their rules lead. -/
def Goes_ (S : Sys K) : Prop := ∀ k r k', S.step k r = some k' → S.mode k' = r.to
theorem rch_rm (hs : S.rs = s.rs) (hg : Goes_ S) (h0 : S.mode st = 0) {i : Nat} {k : K} {c : Int} (h : Rch S st inp i k c) : RM s (S.mode k) := by
  induction h with
  | start => rw [h0]; exact .base rfl
  | step _ h2 h3 _ h5 ih => rw [hg _ _ _ h5]; exact rm_step (by rw [h3]; exact ih) (by rw [← hs]; exact h2)
theorem flat_of (hs : S.rs = s.rs) (hg : Goes_ S) (h0 : S.mode st = 0) (hF : ∀ r r', r ∈ s.rs → r' ∈ s.rs → r.mute = true → r'.mute = true → RM s r.fr → r'.fr ≠ r.to) : Flat S st inp := fun i k c r k' r' h1 h2 h3 h4 h5 h6 h7 h8 => by
  rw [hs] at h2 h6
  exact hF r r' h2 h6 h3 h7 (by rw [h4]; exact rch_rm hs hg h0 h1) (by rw [h8, hg _ _ _ h5])
/-- In a sound scheme with at most two modes no rule that takes nothing follows another one. -/
theorem flat_two (h : SoundP s) (hn : s.n ≤ 2) (hr : ∀ r ∈ s.rs, (0 ≤ r.fr ∧ r.fr < s.n) ∧ 0 ≤ r.to ∧ r.to < s.n) : ∀ r r', r ∈ s.rs → r' ∈ s.rs → r.mute = true → r'.mute = true → RM s r.fr → r'.fr ≠ r.to := fun r r' h1 h2 h3 h4 h5 h6 => by
  have a := hr r h1
  have b := hr r' h2
  have no := fun m hm => h.endl m hm (h.stuck m hm)
  have hto := rm_step h5 h1
  have m1 := Mt.one h1 h3 rfl
  have m2 := Mt.more m1 h2 h4 h6
  by_cases e1 : r.to = r.fr
  · rw [e1] at m1; exact no _ h5 m1
  · by_cases e2 : r'.to = r'.fr
    · have m3 : Mt s r'.fr r'.to := Mt.one h2 h4 rfl
      rw [e2] at m3
      exact no _ (by rw [h6]; exact hto) m3
    · have : r'.to = r.fr := by omega
      rw [this] at m2
      exact no _ h5 m2
end
end Go.Proofs.YtkjfdjcagfkdhaaGreat

/-
  The results of an input, the cost of an output, and whether an input goes on: plain laws. No conditions.
-/
namespace Go.Proofs.YtkjfdjcagfkdhaaGreat
open Go List

/-- Pairs of a mode and what has been put out, at all places. -/
abbrev PairAt (s : Sc) (inp : ByteArray) (i : Nat) (k : Int × ByteArray) (c : Int) : Prop := Rch (pairS s) (0, ByteArray.empty) (bl inp) i k c
def FlatS (s : Sc) (inp : ByteArray) : Prop := Flat (pairS s) (0, ByteArray.empty) (bl inp)
def pairsL (s : Sc) (inp : ByteArray) (i : Nat) : List ((Int × ByteArray) × Int) := fullL (pairS s) (0, ByteArray.empty) (bl inp) i
def bestL (s : Sc) (inp : ByteArray) : List Rs := resL (((pairsL s inp inp.size).filter fun p => accB s.acc p.1.1).map fun p => ⟨p.1.2, p.2⟩)
/-- A whole route. -/
def Whole (s : Sc) (inp out : ByteArray) (c : Int) : Prop := ∃ m, accB s.acc m = true ∧ Rte s m inp out c
theorem best_is {s : Sc} {inp : ByteArray} (hF : FlatS s inp) : IsRes (Whole s inp) (bestL s inp) := by
  have key : ∀ t c, (⟨t, c⟩ : Rs) ∈ ((pairsL s inp inp.size).filter fun p => accB s.acc p.1.1).map (fun p => (⟨p.1.2, p.2⟩ : Rs)) ↔ Whole s inp t c := fun t c => by
    rw [mem_map]
    constructor
    · rintro ⟨⟨⟨m, o⟩, d⟩, h1, h2⟩
      obtain ⟨h3, h4⟩ := mem_filter.1 h1
      injection h2 with h2 h5
      subst h2 h5
      exact ⟨m, h4, pair_iff.1 ((mem_full hF _ _ _).1 h3)⟩
    · rintro ⟨m, h1, h2⟩
      exact ⟨((m, t), c), mem_filter.2 ⟨(mem_full hF _ _ _).2 (pair_iff.2 h2), h1⟩, rfl⟩
  exact (isRes_resL _).congr (fun t c h => (key t c).1 h) (fun t c h => ⟨c, (key t c).2 h, Int.le_refl _⟩)
def costL (s : Sc) (inp out : ByteArray) : Int := match (bestL s inp).find? (fun y => decide (y.tx = out)) with
  | some y => y.co
  | none => -1
theorem whole_cost {s : Sc} (hc : ∀ r ∈ s.rs, 0 ≤ r.co) {inp out : ByteArray} {c : Int} (h : Whole s inp out c) : 0 ≤ c := by
  obtain ⟨m, _, h⟩ := h
  exact rte_cost hc h
theorem costL_cases {s : Sc} {inp : ByteArray} (hF : FlatS s inp) (hc : ∀ r ∈ s.rs, 0 ≤ r.co) (out : ByteArray) :
    (costL s inp out = -1 ∧ ∀ c, ¬ Whole s inp out c) ∨ (0 ≤ costL s inp out ∧ (⟨out, costL s inp out⟩ : Rs) ∈ bestL s inp ∧ Whole s inp out (costL s inp out) ∧ ∀ c, Whole s inp out c → costL s inp out ≤ c) := by
  have hI := best_is hF
  unfold costL
  cases h : (bestL s inp).find? (fun y => decide (y.tx = out)) with
  | none =>
    refine .inl ⟨rfl, fun c hc => ?_⟩
    obtain ⟨y, hy, h1, _⟩ := hI.least _ _ hc
    have := find?_eq_none.1 h y hy
    exact this (decide_eq_true h1)
  | some y =>
    have h0 := find?_some h
    have h1 : y.tx = out := of_decide_eq_true h0
    have h2 := mem_of_find?_eq_some h
    obtain ⟨h3, h4⟩ := hI.mem.1 h2
    subst h1
    exact .inr ⟨whole_cost hc h3, h2, h3, h4⟩
/-- There are too many pairs at some place. -/
def Big (n : Nat) (s : Sc) (inp : ByteArray) : Prop := ∃ i, i ≤ inp.size ∧ TooMany n (PairAt s inp i)
/-- An input goes on. -/
def GoesP (s : Sc) (inp : ByteArray) : Prop := (∃ m o c, Rte s m inp o c) ∨ ∃ i t o c r, i < inp.size ∧ bl t = (bl inp).take i ∧ r ∈ s.rs ∧ Rte s r.fr t o c ∧ (bl inp).drop i <+: bl r.inp
theorem goes_mono {s t : Sc} (h : ∀ r ∈ s.rs, r ∈ t.rs) {inp : ByteArray} (hg : GoesP s inp) : GoesP t inp := by
  rcases hg with ⟨m, o, c, h1⟩ | ⟨i, u, o, c, r, h1, h2, h3, h4, h5⟩
  · exact .inl ⟨m, o, c, rte_mono h h1⟩
  · exact .inr ⟨i, u, o, c, r, h1, h2, h r h3, rte_mono h h4, h5⟩
def goesB (s : Sc) (inp : ByteArray) : Bool := !(pairsL s inp inp.size).isEmpty || (range inp.size).any fun i => (pairsL s inp i).any fun p => s.rs.any fun r => decide (r.fr = p.1.1) && ((bl inp).drop i).isPrefixOf (bl r.inp)
theorem goesB_iff {s : Sc} {inp : ByteArray} (hF : FlatS s inp) : goesB s inp = true ↔ GoesP s inp := by
  unfold goesB GoesP
  rw [Bool.or_eq_true]
  refine or_congr ?_ ?_
  · rw [Bool.not_eq_true', isEmpty_eq_false_iff_exists_mem]
    constructor
    · rintro ⟨⟨⟨m, o⟩, c⟩, h⟩
      exact ⟨m, o, c, pair_iff.1 ((mem_full hF _ _ _).1 h)⟩
    · rintro ⟨m, o, c, h⟩
      exact ⟨((m, o), c), (mem_full hF _ _ _).2 (pair_iff.2 h)⟩
  · simp only [any_eq_true, Bool.and_eq_true, decide_eq_true_iff, isPrefixOf_iff_prefix]
    constructor
    · rintro ⟨i, hi, ⟨⟨m, o⟩, c⟩, h1, r, h2, h3, h4⟩
      obtain ⟨t, h5, h6⟩ := pair_rte ((mem_full hF _ _ _).1 h1)
      exact ⟨i, t, o, c, r, mem_range.1 hi, h5, h2, by rw [h3]; exact h6, h4⟩
    · rintro ⟨i, t, o, c, r, h1, h2, h3, h4, h5⟩
      refine ⟨i, mem_range.2 h1, ((r.fr, o), c), ?_, r, h3, rfl, h5⟩
      have h6 := rte_pair h4 (inp := bl inp) (by rw [h2]; exact take_prefix _ _)
      have h7 : t.size = i := by rw [← bl_len, h2, length_take, bl_len]; omega
      rw [h7] at h6
      exact (mem_full hF _ _ _).2 h6
/-- The modes alone. -/
theorem mode_rch {s : Sc} {live : Int → Bool} (hl : ∀ r ∈ s.rs, RM s r.fr → live r.to = true) {inp : List UInt8} {i : Nat} {m c : Int} : Rch (modeS s live) 0 inp i m c ↔ ∃ o, Rch (pairS s) (0, ByteArray.empty) inp i (m, o) c := by
  constructor
  · intro h
    induction h with
    | start => exact ⟨_, .start⟩
    | @step i k k' c r h1 h2 h3 h4 h5 ih =>
      obtain ⟨o, ih⟩ := ih
      have h5 : (if live r.to then some r.to else none) = some k' := h5
      split at h5
      · obtain rfl := Option.some.inj h5
        exact ⟨o ++ r.out, .step (k := (k, o)) ih h2 h3 h4 rfl⟩
      · cases h5
  · rintro ⟨o, h⟩
    generalize hk : (m, o) = k at h
    induction h generalizing m o with
    | start => injection hk with h1 _; subst h1; exact .start
    | @step i k k' c r h1 h2 h3 h4 h5 ih =>
      have hrm : RM s r.fr := by
        rw [h3]
        exact rch_rm (S := pairS s) (s := s) rfl (fun k r k' h => by obtain rfl := Option.some.inj h; rfl) rfl h1
      obtain rfl := Option.some.inj h5
      injection hk with h6 _
      subst h6
      refine .step (k := k.1) (ih (m := k.1) (o := k.2) rfl) h2 h3 h4 ?_
      show (if live r.to then some r.to else none) = _
      rw [if_pos (hl r h2 hrm)]

/-! What the laws compare. -/
theorem whole_mono {s t : Sc} (h : ∀ r ∈ s.rs, r ∈ t.rs) (ha : s.acc = t.acc) {inp out : ByteArray} {c : Int} (hw : Whole s inp out c) : Whole t inp out c := by
  obtain ⟨m, h1, h2⟩ := hw
  exact ⟨m, by rw [← ha]; exact h1, rte_mono h h2⟩
theorem rte_one {s : Sc} (h1 : ∀ r ∈ s.rs, r.to = 0) {m : Int} {i o : ByteArray} {c : Int} (h : Rte s m i o c) : m = 0 := by
  cases h with
  | nil => rfl
  | snoc _ h2 _ => exact h1 _ h2
theorem whole_join {s : Sc} (h1 : ∀ r ∈ s.rs, r.to = 0) {i o i' o' : ByteArray} {c c' : Int} (h : Whole s i o c) (h' : Whole s i' o' c') : Whole s (i ++ i') (o ++ o') (c + c') := by
  obtain ⟨m, h2, h3⟩ := h
  obtain ⟨m', h4, h5⟩ := h'
  obtain rfl := rte_one h1 h3
  exact ⟨m', h4, rte_append h3 h5⟩
end Go.Proofs.YtkjfdjcagfkdhaaGreat

/-
  What one round over a table's states does: plain laws. No conditions.
-/
namespace Go.Proofs.YtkjfdjcagfkdhaaGreat
open List

section
variable {K : Type} {S : Sys K} {st : K} {inp : List UInt8}
/-- The pairs of a table. -/
def Low (M : K → Option Int) (k : K) (c : Int) : Prop := M k = some c
theorem low_hop {M M' : K → Option Int} {A : K → Int → Prop} (h : Holds M A) (h' : Holds M' (fun k c => Low M k c ∨ Hop S (Low M) k c)) : Holds M' (fun k c => A k c ∨ Hop S A k c) := fun k => by
  obtain ⟨h1, h2⟩ := h' k
  have hop : ∀ c, Hop S A k c → ∃ d, Hop S (Low M) k d ∧ d ≤ c := by
    rintro c ⟨k0, c0, r, g1, g2, g3, g4, g5, rfl⟩
    obtain ⟨d, hd, hdc⟩ := h.some_ g1
    exact ⟨d + r.co, ⟨k0, d, r, hd, g2, g3, g4, g5, rfl⟩, by omega⟩
  have hop2 : ∀ c, Hop S (Low M) k c → Hop S A k c := by
    rintro c ⟨k0, c0, r, g1, g2⟩
    exact ⟨k0, c0, r, ((h k0).1 c0 g1).1, g2⟩
  refine ⟨fun c hc => ?_, fun hn c hc => ?_⟩
  · obtain ⟨h3, h4⟩ := h1 c hc
    refine ⟨h3.imp (fun h3 => ((h k).1 c h3).1) (hop2 c), fun c' hc' => ?_⟩
    rcases hc' with hc' | hc'
    · obtain ⟨d, hd, hdc⟩ := h.some_ hc'
      have := h4 d (.inl hd)
      omega
    · obtain ⟨d, hd, hdc⟩ := hop c' hc'
      have := h4 d (.inr hd)
      omega
  · rcases hc with hc | hc
    · obtain ⟨d, hd, _⟩ := h.some_ hc
      exact h2 hn d (.inl hd)
    · obtain ⟨d, hd, _⟩ := hop c hc
      exact h2 hn d (.inr hd)
theorem low_leap {M M' : K → Option Int} {A B : K → Int → Prop} {i j : Nat} (h : Holds M A) (h' : Holds M' (fun k c => B k c ∨ Leap S inp (Low M) i j k c)) : Holds M' (fun k c => B k c ∨ Leap S inp A i j k c) := fun k => by
  obtain ⟨h1, h2⟩ := h' k
  have hop : ∀ c, Leap S inp A i j k c → ∃ d, Leap S inp (Low M) i j k d ∧ d ≤ c := by
    rintro c ⟨k0, c0, r, g1, g2, g3, g4, g5, g6, g7, rfl⟩
    obtain ⟨d, hd, hdc⟩ := h.some_ g1
    exact ⟨d + r.co, ⟨k0, d, r, hd, g2, g3, g4, g5, g6, g7, rfl⟩, by omega⟩
  have hop2 : ∀ c, Leap S inp (Low M) i j k c → Leap S inp A i j k c := by
    rintro c ⟨k0, c0, r, g1, g2⟩
    exact ⟨k0, c0, r, ((h k0).1 c0 g1).1, g2⟩
  refine ⟨fun c hc => ?_, fun hn c hc => ?_⟩
  · obtain ⟨h3, h4⟩ := h1 c hc
    refine ⟨h3.imp id (hop2 c), fun c' hc' => ?_⟩
    rcases hc' with hc' | hc'
    · exact h4 c' (.inl hc')
    · obtain ⟨d, hd, hdc⟩ := hop c' hc'
      have := h4 d (.inr hd)
      omega
  · rcases hc with hc | hc
    · exact h2 hn c (.inl hc)
    · obtain ⟨d, hd, _⟩ := hop c hc
      exact h2 hn d (.inr hd)
/-- After the own steps of a place all is there that is reached at it. -/
theorem settled (hF : Flat S st inp) {M M' : K → Option Int} {i : Nat} (h : Holds M (Arr S st inp i i)) (h' : Holds M' (fun k c => Low M k c ∨ Hop S (Low M) k c)) : Holds M' (Rch S st inp i) :=
  holds_iff (low_hop h h') fun _ _ => (rch_iff hF).symm
/-- After a place's steps forward the later places hold what comes from it. -/
theorem leapt {M M' : K → Option Int} {i j : Nat} (h : Holds M (Rch S st inp i)) (h' : Holds M' (fun k c => Arr S st inp i j k c ∨ Leap S inp (Low M) i j k c)) : Holds M' (Arr S st inp (i + 1) j) :=
  holds_iff (low_leap h h') fun _ _ => arr_succ.symm
theorem arr_start {j : Nat} (hj : j ≠ 0) : ∀ (k : K) (c : Int), ¬ Arr S st inp 0 j k c := fun _ _ h => by
  rcases h with ⟨h1, _⟩ | ⟨i, h1, _⟩
  · exact hj h1
  · omega
variable [DecidableEq K]
/-- A hop is made: the table holds one pair more. -/
theorem holds_step {M : K → Option Int} {A : K → Int → Prop} (h : Holds M A) {k : K} {c : Int} {B : K → Int → Prop} (hB : ∀ x d, B x d ↔ A x d ∨ (x = k ∧ d = c)) : Holds (relaxT M k c) B := holds_iff (holds_relax h k c) fun x d => (hB x d).symm
/-- Pairs that lie higher need not be noted. -/
theorem keys_relax_new {M : K → Option Int} {l : List K} (h : KeysOf M l) {k : K} (hk : M k = none) (c : Int) : KeysOf (relaxT M k c) (l ++ [k]) := by
  refine ⟨nodup_append.2 ⟨h.1, pairwise_singleton _ _, fun a ha b hb e => ?_⟩, fun x => ?_⟩
  · obtain rfl := mem_singleton.1 hb
    subst e
    exact (h.2 _).1 ha hk
  · rw [mem_append, mem_singleton, h.2]
    unfold relaxT
    split
    · rename_i e; subst e; rw [hk]; simp
    · rename_i e; simp [e]
end
end Go.Proofs.YtkjfdjcagfkdhaaGreat

/-
  Words for memory of layer 05: a map of the call's own from states to costs, as a plain table; and the loop over it in any order.
-/
namespace Go.Proofs.YtkjfdjcagfkdhaaGreat
open Go Go.RowKit Go.Maps

/-- What a map's types are good for: states as keys, numbers as elements. -/
structure KT {K : Type} (P : Program) (t kt et : TypeId) (enc : K → Value) : Prop where
  law : Keyed P kt
  und : P.underlying t = some (.map kt et)
  elt : P.underlying et = some (.int .i64)
  zero : ∀ w : World, (zeroValue et).run P w = .ok (.int .i64 0) w
  inj : ∀ k k', enc k = enc k' → k = k'
  inv : ∀ key kl, keyOf P kt key = some kl → ∃ k, key = enc k
section
variable {K : Type} [DecidableEq K] {P : Program} {t kt et : TypeId} {enc : K → Value}
/-- A state that may be a key. -/
def KOk (P : Program) (kt : TypeId) (enc : K → Value) (k : K) : Prop := ∃ kl, keyOf P kt (enc k) = some kl
/-- A datum reads as a table. -/
structure Reads (P : Program) (kt : TypeId) (enc : K → Value) (D : DataW Unit) (M : K → Option Int) : Prop where
  ok : ∀ k, M k ≠ none → KOk P kt enc k
  has_ : ∀ k kl, keyOf P kt (enc k) = some kl → Maps.has D kl = (M k).isSome
  at_ : ∀ k kl c, keyOf P kt (enc k) = some kl → M k = some c → ∀ z, D.atKey kl z = .lit (.int .i64 c)
  len : ∃ l, KeysOf M l ∧ l.length = Maps.size D
/-- A block is a map of the call's own that reads as a table. -/
def Tab (P : Program) (kt et : TypeId) (enc : K → Value) (w : World) (b n : Nat) (M : K → Option Int) : Prop := ∃ D : DataW Unit, w.ownsMap P kt (plainElem P et) b n D ∧ Reads P kt enc D M
omit [DecidableEq K] in
theorem Tab.made (w : World) : Tab P kt et enc (w.alloc (.map #[] 0)) w.heap.size 0 (fun _ : K => none) :=
  ⟨_, World.ownsMap_made w _ _ _, fun _ h => absurd rfl h, fun _ _ _ => rfl, fun _ _ _ _ h => (nomatch h), [], ⟨List.Pairwise.nil, fun _ => by simp⟩, rfl⟩
omit [DecidableEq K] in
theorem Tab.lt {w : World} {b n : Nat} {M : K → Option Int} (h : Tab P kt et enc w b n M) : b < w.heap.size := by
  obtain ⟨D, h1, _⟩ := h
  exact h1.lt
omit [DecidableEq K] in
theorem Tab.keep {w w' : World} {b n : Nat} {M : K → Option Int} (h : Tab P kt et enc w b n M) (hb : w'.heap[b]? = w.heap[b]?) : Tab P kt et enc w' b n M := by
  obtain ⟨D, ⟨es, clock, h1, h2, h3, h4⟩, h5⟩ := h
  exact ⟨D, ⟨es, clock, hb.trans h1, h2, h3, h4⟩, h5⟩
omit [DecidableEq K] in
theorem Tab.mono {w : World} {b n n' : Nat} {M : K → Option Int} (h : Tab P kt et enc w b n M) (hn : n ≤ n') : Tab P kt et enc w b n' M := by
  obtain ⟨D, h1, h2⟩ := h
  exact ⟨D, h1.mono hn, h2⟩
omit [DecidableEq K] in
theorem Tab.keys {w : World} {b n : Nat} {M : K → Option Int} (h : Tab P kt et enc w b n M) : ∃ l, KeysOf M l ∧ l.length ≤ n := by
  obtain ⟨D, h1, h2⟩ := h
  obtain ⟨l, h3, h4⟩ := h2.len
  exact ⟨l, h3, by rw [h4]; exact h1.size_le⟩
/-- A cost is put. -/
def putT (M : K → Option Int) (k : K) (c : Int) : K → Option Int := fun x => if x = k then some c else M x
theorem relaxT_new {M : K → Option Int} {k : K} {c : Int} (h : ∀ o, M k = some o → c < o) : relaxT M k c = putT M k c := relax_gt h
theorem Reads.put {D : DataW Unit} {M : K → Option Int} (hT : KT P t kt et enc) (h : Reads P kt enc D M) (hD : Tidy D) {k : K} {kl : Lit} (hk : keyOf P kt (enc k) = some kl) (c : Int) : Reads P kt enc (D.put kl (.lit (.int .i64 c))) (putT M k c) := by
  have hne : ∀ k' kl', keyOf P kt (enc k') = some kl' → k' ≠ k → kl' ≠ kl := fun k' kl' h1 h2 e => by
    subst e
    exact h2 (hT.inj _ _ (hT.law.inj h1 hk))
  refine ⟨fun k' hk' => ?_, fun k' kl' hk' => ?_, fun k' kl' c' hk' hc' z => ?_, ?_⟩
  · by_cases e : k' = k
    · subst e; exact ⟨kl, hk⟩
    · unfold putT at hk'; rw [if_neg e] at hk'; exact h.ok k' hk'
  · unfold putT
    by_cases e : k' = k
    · subst e
      rw [hk] at hk'
      obtain rfl := Option.some.inj hk'
      rw [if_pos rfl, has_put_same hD.isMap (hT.law.key hk)]
      rfl
    · rw [if_neg e, has_put_other (hne k' kl' hk' e)]
      exact h.has_ k' kl' hk'
  · unfold putT at hc'
    by_cases e : k' = k
    · subst e
      rw [hk] at hk'
      obtain rfl := Option.some.inj hk'
      rw [if_pos rfl] at hc'
      obtain rfl := Option.some.inj hc'
      exact atKey_put_same hD.isMap (hT.law.key hk) _ _
    · rw [if_neg e] at hc'
      rw [atKey_put_other (hne k' kl' hk' e)]
      exact h.at_ k' kl' c' hk' hc' z
  · obtain ⟨l, h1, h2⟩ := h.len
    rw [size_put hD, h.has_ k kl hk]
    cases hM : M k with
    | none =>
      refine ⟨l ++ [k], ?_, ?_⟩
      · have := keys_relax_new h1 hM c
        rwa [relaxT_new (by intro o ho; rw [hM] at ho; cases ho)] at this
      · simp [h2]
    | some o =>
      refine ⟨l, ⟨h1.1, fun x => ?_⟩, ?_⟩
      · rw [h1.2]
        unfold putT
        split
        · rename_i e; subst e; rw [hM]; simp
        · exact Iff.rfl
      · simp [h2]
/-- A loop over a table: which states are still to come. -/
def RTab (P : Program) (kt et : TypeId) (enc : K → Value) (w : World) (b r n : Nat) (M : K → Option Int) (L : K → Bool) (cnt : Nat) : Prop :=
  ∃ (D : DataW Unit) (left : Lit → Bool), w.ranges P kt (plainElem P et) b r n D left cnt ∧ Reads P kt enc D M ∧ ∀ k kl, keyOf P kt (enc k) = some kl → left kl = L k
omit [DecidableEq K] in
theorem RTab.tab {w : World} {b r n cnt : Nat} {M : K → Option Int} {L : K → Bool} (h : RTab P kt et enc w b r n M L cnt) : Tab P kt et enc w b n M := by
  obtain ⟨D, left, h1, h2, _⟩ := h
  exact ⟨D, h1.owns, h2⟩
omit [DecidableEq K] in
theorem RTab.left_eq {w : World} {b r n cnt : Nat} {M : K → Option Int} {L : K → Bool} (h : RTab P kt et enc w b r n M L cnt) : w.rangeLeft b r = cnt := by
  obtain ⟨D, left, h1, _⟩ := h
  exact h1.left_eq
omit [DecidableEq K] in
theorem RTab.keep {w w' : World} {b r n cnt : Nat} {M : K → Option Int} {L : K → Bool} (h : RTab P kt et enc w b r n M L cnt) (hb : w'.heap[b]? = w.heap[b]?) (hr : w'.heap[r]? = w.heap[r]?) : RTab P kt et enc w' b r n M L cnt := by
  obtain ⟨D, left, ⟨es, clock, since, seen, c0, h1, h2, h3, h4, h5, h6⟩, h7⟩ := h
  exact ⟨D, left, ⟨es, clock, since, seen, c0, hb.trans h1, h2, h3, h4, hr.trans h5, h6⟩, h7⟩
omit [DecidableEq K] in
theorem RTab.ne {w : World} {b r n cnt : Nat} {M : K → Option Int} {L : K → Bool} (h : RTab P kt et enc w b r n M L cnt) : r ≠ b ∧ b < w.heap.size ∧ r < w.heap.size := by
  obtain ⟨D, left, h1, _⟩ := h
  exact ⟨h1.ne, h1.owns.lt, h1.lt⟩
end
section
variable {K : Type} [DecidableEq K] {P : Program} {t kt et : TypeId} {enc : K → Value} (hT : KT P t kt et enc) (w : World) {ops : Array Oper} {rest : List Oper} {o : Oper} {a : Act} {Q : Exit → Act → World → Prop}
include hT
omit [DecidableEq K] in
/-- 'v, ok := m[k]'. -/
theorem tab_lookup_ok (hg : o.guard = none) (m x : Operand) (hop : o.op = Op.lookup t m x true) {b n : Nat} {M : K → Option Int} (hm : a.eval m = .map (some b)) (h : Tab P kt et enc w b n M) (k : K) (hx : a.eval x = enc k) (hk : KOk P kt enc k)
    (hK : wpList P ops Q rest (a.put o.dst (.tuple #[.int .i64 ((M k).getD 0), .bool (M k).isSome])) w) : wpList P ops Q (o :: rest) a w := by
  obtain ⟨D, h1, h2⟩ := h
  obtain ⟨kl, hk⟩ := hk
  refine wpList_lookup_own_ok_int w hg m x t hop kt et .i64 hT.law hT.und hT.elt (hT.zero w) b n D hm h1 (enc k) kl hx hk fun c hc _ => ?_
  have e : c = (M k).getD 0 := by
    cases hM : M k with
    | none =>
      have h3 := h2.has_ k kl hk
      rw [hM] at h3
      rw [atKey_of_not_has h3] at hc
      injection hc with hc
      injection hc with _ hc
      exact hc.symm
    | some d =>
      rw [h2.at_ k kl d hk hM] at hc
      injection hc with hc
      injection hc with _ hc
      exact hc.symm
  rw [e, h2.has_ k kl hk]
  exact hK
/-- 'm[k] = c'. -/
theorem tab_put (hg : o.guard = none) (m x v : Operand) (hop : o.op = Op.mapUpdate t m x v) {b n : Nat} {M : K → Option Int} (hm : a.eval m = .map (some b)) (h : Tab P kt et enc w b n M) (hn : n < maxLen) (k : K) (c : Int) (hx : a.eval x = enc k) (hv : a.eval v = .int .i64 c) (hk : KOk P kt enc k) (hc : (Lit.int .i64 c).wf = true)
    (hK : ∀ w', Tab P kt et enc w' b (n + 1) (putT M k c) → w.grownBy w' (some b) → w'.heap.size = w.heap.size → wpList P ops Q rest (a.put o.dst undef) w') : wpList P ops Q (o :: rest) a w := by
  obtain ⟨D, h1, h2⟩ := h
  obtain ⟨kl, hk⟩ := hk
  refine wpList_mapUpdate_in w hg m x v t hop kt et hT.law hT.und (plainElem P et) b n D hm h1 hn (enc k) (.int .i64 c) kl hx hv hk (.lit (.int .i64 c)) [] (plainElem_int hT.elt hc) fun w' h3 h4 => ?_
  refine hK w' ⟨_, h3, h2.put hT (h1.tidy hT.law) hk c⟩ h4.grown ?_
  obtain ⟨es, clock, es', clock', _, rfl⟩ := h4
  simp [ChangeMaps.setBlock]
omit [DecidableEq K] in
/-- 'len(m)'. -/
theorem tab_len (hg : o.guard = none) (m : Operand) (hop : o.op = Op.call { callee := Callee.builtin Builtin.len, args := #[m], argTypes := #[t] }) {b n : Nat} {M : K → Option Int} (hm : a.eval m = .map (some b)) (h : Tab P kt et enc w b n M)
    (hK : ∀ l, KeysOf M l → wpList P ops Q rest (a.put o.dst (.int .i64 (l.length : Nat))) w) : wpList P ops Q (o :: rest) a w := by
  obtain ⟨D, h1, h2⟩ := h
  obtain ⟨l, h3, h4⟩ := h2.len
  refine wpList_len_own w hg m t hop kt et hT.und (plainElem P et) b n D hm h1 ?_
  rw [← h4]
  exact hK l h3
omit [DecidableEq K] in
/-- 'range m'. -/
theorem tab_range (hg : o.guard = none) (m : Operand) (hop : o.op = Op.range t m) {b n : Nat} {M : K → Option Int} (hm : a.eval m = .map (some b)) (h : Tab P kt et enc w b n M)
    (hK : ∀ w' cnt, RTab P kt et enc w' b w.heap.size n M (fun k => (M k).isSome) cnt → w.grownBy w' none → w'.heap.size = w.heap.size + 1 → wpList P ops Q rest (a.put o.dst (.pointer (some ⟨w.heap.size, 0, none⟩))) w') : wpList P ops Q (o :: rest) a w := by
  obtain ⟨D, h1, h2⟩ := h
  refine wpList_range_own w hg m t hop kt et hT.law hT.und (plainElem P et) b n D hm h1 fun w' h3 h4 h5 => ?_
  exact hK w' _ ⟨D, _, h3, h2, fun k kl hk => h2.has_ k kl hk⟩ h4 h5
/-- The loop's step. -/
theorem tab_next (hg : o.guard = none) (it : Operand) (hop : o.op = Op.next it false) {b r n cnt : Nat} {M : K → Option Int} {L : K → Bool} (hit : a.eval it = .pointer (some ⟨r, 0, none⟩)) (h : RTab P kt et enc w b r n M L cnt)
    (hDone : (∀ k, KOk P kt enc k → L k = false) → wpList P ops Q rest (a.put o.dst (.tuple #[.bool false])) w)
    (hMore : ∀ (k : K) (c : Int) (w' : World) (cnt' : Nat), KOk P kt enc k → M k = some c → L k = true → RTab P kt et enc w' b r n M (fun x => L x && !decide (x = k)) cnt' → cnt' < cnt → w.grownBy w' (some r) → w'.heap.size = w.heap.size →
      (Instr.entry (.pointer (some ⟨r, 0, none⟩))).run P w' = .ok (.tuple #[enc k, .int .i64 c]) w' → wpList P ops Q rest (a.put o.dst (.tuple #[.bool true, enc k, .int .i64 c])) w') : wpList P ops Q (o :: rest) a w := by
  obtain ⟨D, left, h1, h2, h3⟩ := h
  refine wpList_next_ranges w hg it hop kt hT.law (plainElem P et) enc (Value.int .i64) hT.inv (fun v y hv => by obtain ⟨c, rfl, _⟩ := plainElem_int_inv hT.elt hv; exact ⟨c, rfl⟩) b r n D left cnt hit h1 (fun _ hl => hDone fun k ⟨kl, hk⟩ => by rw [← h3 k kl hk]; exact hl kl) ?_
  intro k c kl y w' cnt' hk hl hy hat hrg hlt hgr hsz hen
  obtain ⟨c', ec, hy2, _⟩ := plainElem_int_inv hT.elt hy
  cases ec
  have hM : M k = some c := by
    have hh : Maps.has D kl = true := has_true_of_atKey hat
    rw [h2.has_ k kl hk] at hh
    cases hM : M k with
    | none => rw [hM] at hh; cases hh
    | some d =>
      have h4 := h2.at_ k kl d hk hM (.lit (.int .i64 0))
      rw [hat, hy2] at h4
      injection h4 with h4
      injection h4 with _ h4
      rw [h4]
  refine hMore k c w' cnt' ⟨kl, hk⟩ hM (by rw [← h3 k kl hk]; exact hl) ⟨D, _, hrg, h2, fun x xl hx => ?_⟩ hlt hgr hsz hen
  by_cases e : x = k
  · subst e
    rw [hk] at hx
    obtain rfl := Option.some.inj hx
    have : kl.sameKey kl = true := WideAt.sameKey_self (hT.law.key hk)
    simp [this]
  · have hne : xl ≠ kl := fun e2 => by
      subst e2
      exact e (hT.inj _ _ (hT.law.inj hx hk))
    rw [sameKey_ne hne, h3 x xl hx]
    simp [e]
end
end Go.Proofs.YtkjfdjcagfkdhaaGreat
