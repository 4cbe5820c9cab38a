/-
  OuKeys, OuSet, OuScheme, OuLeap, OuResT, joined. No conditions.
-/
import Derived.Test.YtfpnhgahkjglgaaGreatF03
import Derived.DeepKeys4
import Derived.Test.YtfpnhgahkjglgaaGreatF02
set_option maxRecDepth 100000
namespace Go.Proofs.YtfpnhgahkjglgaaGreat
open Go Go.RowKit Go.Maps
theorem ouLaidOut : laidOutB Tryz.prog = true := by kernel_rfl
theorem ouPairRow : (85 : TypeId) < Tryz.prog.types.size := of_decide_eq_true (by kernel_rfl)
theorem ouPairWide : (match Tryz.prog.underlying 85 with | some (.array _ _) | some (.struct _) => true | _ => false) = true := by kernel_rfl
theorem ouPairLaw : Keyed Tryz.prog 85 := Keyed.of_law (deep_law_laid ouLaidOut (m := 2) (by omega) ouPairRow (by kernel_rfl) ouPairWide)
theorem ouSpotRow : (139 : TypeId) < Tryz.prog.types.size := of_decide_eq_true (by kernel_rfl)
theorem ouSpotWide : (match Tryz.prog.underlying 139 with | some (.array _ _) | some (.struct _) => true | _ => false) = true := by kernel_rfl
theorem ouSpotLaw : Keyed Tryz.prog 139 := Keyed.of_law (deep_law_laid ouLaidOut (m := 2) (by omega) ouSpotRow (by kernel_rfl) ouSpotWide)
theorem ouZero (w : World) : (zeroValue 3).run Tryz.prog w = .ok (.int .i64 0) w := by kernel_rfl
theorem litInt {n : Nat} {x : Int} (h : (Lit.int .i64 x).wf = true) : Program.keyLits Tryz.prog (n + 1) 3 [.int .i64 x] = some [.int .i64 x] := by
 unfold Program.keyLits
 rw [Tryz.underlying3]
 simp [h]
theorem litStr {n : Nat} {x : ByteArray} (h : x.size ≤ maxLen) : Program.keyLits Tryz.prog (n + 1) 9 [.string x] = some [.string x.data.toList] := by
 unfold Program.keyLits
 rw [Tryz.underlying9]
 simp [h]
theorem litInt_inv {n : Nat} {c : Value} {l : List Lit} (h : Program.keyLits Tryz.prog (n + 1) 3 [c] = some l) : ∃ x, c = .int .i64 x := by
 unfold Program.keyLits at h
 rw [Tryz.underlying3] at h
 cases c with
 | int q x =>
  simp only at h
  split at h
  ·rename_i h1
   exact ⟨x, by rw [h1.1]⟩
  ·cases h
 | _ => cases h
theorem litStr_inv {n : Nat} {c : Value} {l : List Lit} (h : Program.keyLits Tryz.prog (n + 1) 9 [c] = some l) : ∃ x, c = .string x := by
 unfold Program.keyLits at h
 rw [Tryz.underlying9] at h
 cases c with
 | string x => exact ⟨x, rfl⟩
 | _ => cases h
def vPair (k : Int × ByteArray) : Value := .agg #[.int .i64 k.1, .string k.2]
def vSpot (k : Int × Int) : Value := .agg #[.int .i64 k.1, .int .i64 k.2]
theorem keyPair_ok {k : Int × ByteArray} (h1 : (Lit.int .i64 k.1).wf = true) (h2 : k.2.size ≤ maxLen) : KOk Tryz.prog 85 vPair k := by
 have hk : Tryz.prog.keyType 85 = true := by kernel_rfl
 have hf : ∀ c0 c1 : Value, (Value.agg #[c0, c1]).formed Tryz.prog 85 = true := fun c0 c1 => by
  unfold Value.formed
  rw [Tryz.underlying85]
  have : Tryz.prog.cellsOf 85 = 2 := by kernel_rfl
  simp [this]
 unfold KOk keyOf
 rw [Tryz.underlying85]
 simp only [vPair, hk, hf, Bool.true_and, if_true]
 obtain ⟨n, hn⟩ : ∃ n, Tryz.prog.types.size = n + 1 := ⟨Tryz.prog.types.size - 1, by have h : 0 < Tryz.prog.types.size := Nat.lt_of_le_of_lt (Nat.zero_le _) ouPairRow; omega⟩
 rw [hn]
 have hc : Tryz.prog.cellsOf 3 = 1 := by kernel_rfl
 have hcs : Tryz.prog.cellsOf 9 = 1 := by kernel_rfl
 have hc2 : Tryz.prog.cellsOf 85 = 2 := by kernel_rfl
 have e1 := litInt (n := n) h1
 have e2 := litStr (n := n) h2
 have hl : ∃ l, Program.keyLits Tryz.prog (n + 1 + 1) 85 [.int .i64 k.1, (.string k.2 : Value)] = some l := by
  unfold Program.keyLits
  rw [Tryz.underlying85]
  simp [hc, hcs, hc2, e1, e2]
 obtain ⟨l, hl⟩ := hl
 show ∃ kl, Option.map _ (Program.keyLits Tryz.prog (n + 1 + 1) 85 [.int .i64 k.1, (.string k.2 : Value)]) = some kl
 rw [hl]
 exact ⟨_, rfl⟩
theorem keyPair_inv {key : Value} {kl : Lit} (h : keyOf Tryz.prog 85 key = some kl) : ∃ k, key = vPair k := by
 unfold keyOf at h
 rw [Tryz.underlying85] at h
 simp only at h
 split at h
 ·rename_i hf
  simp only [Bool.and_eq_true] at hf
  obtain ⟨_, hf⟩ := hf
  unfold Value.formed at hf
  rw [Tryz.underlying85] at hf
  have hc2 : Tryz.prog.cellsOf 85 = 2 := by kernel_rfl
  have hc : Tryz.prog.cellsOf 3 = 1 := by kernel_rfl
  have hcs : Tryz.prog.cellsOf 9 = 1 := by kernel_rfl
  cases key with
  | agg cs =>
   simp only [hc2, beq_iff_eq] at hf
   obtain ⟨l⟩ := cs
   match l, hf with
   | [c0, c1], _ =>
    obtain ⟨n, hn⟩ : ∃ n, Tryz.prog.types.size = n + 1 := ⟨Tryz.prog.types.size - 1, by have h : 0 < Tryz.prog.types.size := Nat.lt_of_le_of_lt (Nat.zero_le _) ouPairRow; omega⟩
    rw [hn] at h
    obtain ⟨ls, hls, _⟩ := Option.map_eq_some_iff.1 h
    have hls : Program.keyLits Tryz.prog (n + 1 + 1) 85 [c0, c1] = some ls := hls
    rw [Program.keyLits.eq_def] at hls
    simp only [Tryz.underlying85] at hls
    simp [hc, hcs, hc2, Option.bind_eq_some_iff] at hls
    obtain ⟨a, h1, a1, ⟨b1, h2, _⟩, _⟩ := hls
    obtain ⟨x, rfl⟩ := litInt_inv h1
    obtain ⟨y, rfl⟩ := litStr_inv h2
    exact ⟨(x, y), rfl⟩
  | _ => cases hf
 ·cases h
theorem keySpot_ok {k : Int × Int} (h1 : (Lit.int .i64 k.1).wf = true) (h2 : (Lit.int .i64 k.2).wf = true) : KOk Tryz.prog 139 vSpot k := by
 have hk : Tryz.prog.keyType 139 = true := by kernel_rfl
 have hf : ∀ c0 c1 : Value, (Value.agg #[c0, c1]).formed Tryz.prog 139 = true := fun c0 c1 => by
  unfold Value.formed
  rw [Tryz.underlying139]
  have : Tryz.prog.cellsOf 139 = 2 := by kernel_rfl
  simp [this]
 unfold KOk keyOf
 rw [Tryz.underlying139]
 simp only [vSpot, hk, hf, Bool.true_and, if_true]
 obtain ⟨n, hn⟩ : ∃ n, Tryz.prog.types.size = n + 1 := ⟨Tryz.prog.types.size - 1, by have h : 0 < Tryz.prog.types.size := Nat.lt_of_le_of_lt (Nat.zero_le _) ouSpotRow; omega⟩
 rw [hn]
 have hc : Tryz.prog.cellsOf 3 = 1 := by kernel_rfl
 have hcs : Tryz.prog.cellsOf 9 = 1 := by kernel_rfl
 have hc2 : Tryz.prog.cellsOf 139 = 2 := by kernel_rfl
 have e1 := litInt (n := n) h1
 have e2 := litInt (n := n) h2
 have hl : ∃ l, Program.keyLits Tryz.prog (n + 1 + 1) 139 [.int .i64 k.1, (.int .i64 k.2 : Value)] = some l := by
  unfold Program.keyLits
  rw [Tryz.underlying139]
  simp [hc, hc2, e1, e2]
 obtain ⟨l, hl⟩ := hl
 show ∃ kl, Option.map _ (Program.keyLits Tryz.prog (n + 1 + 1) 139 [.int .i64 k.1, (.int .i64 k.2 : Value)]) = some kl
 rw [hl]
 exact ⟨_, rfl⟩
theorem keySpot_inv {key : Value} {kl : Lit} (h : keyOf Tryz.prog 139 key = some kl) : ∃ k, key = vSpot k := by
 unfold keyOf at h
 rw [Tryz.underlying139] at h
 simp only at h
 split at h
 ·rename_i hf
  simp only [Bool.and_eq_true] at hf
  obtain ⟨_, hf⟩ := hf
  unfold Value.formed at hf
  rw [Tryz.underlying139] at hf
  have hc2 : Tryz.prog.cellsOf 139 = 2 := by kernel_rfl
  have hc : Tryz.prog.cellsOf 3 = 1 := by kernel_rfl
  have hcs : Tryz.prog.cellsOf 9 = 1 := by kernel_rfl
  cases key with
  | agg cs =>
   simp only [hc2, beq_iff_eq] at hf
   obtain ⟨l⟩ := cs
   match l, hf with
   | [c0, c1], _ =>
    obtain ⟨n, hn⟩ : ∃ n, Tryz.prog.types.size = n + 1 := ⟨Tryz.prog.types.size - 1, by have h : 0 < Tryz.prog.types.size := Nat.lt_of_le_of_lt (Nat.zero_le _) ouSpotRow; omega⟩
    rw [hn] at h
    obtain ⟨ls, hls, _⟩ := Option.map_eq_some_iff.1 h
    have hls : Program.keyLits Tryz.prog (n + 1 + 1) 139 [c0, c1] = some ls := hls
    rw [Program.keyLits.eq_def] at hls
    simp only [Tryz.underlying139] at hls
    simp [hc, hc2, Option.bind_eq_some_iff] at hls
    obtain ⟨a, h1, a1, ⟨b1, h2, _⟩, _⟩ := hls
    obtain ⟨x, rfl⟩ := litInt_inv h1
    obtain ⟨y, rfl⟩ := litInt_inv h2
    exact ⟨(x, y), rfl⟩
  | _ => cases hf
 ·cases h
theorem keyStr_ok {k : ByteArray} (h : k.size ≤ maxLen) : KOk Tryz.prog 9 (fun k : ByteArray => Value.string k) k := ⟨_, by unfold keyOf; rw [Tryz.underlying9]; simp only [mapKey, Tryz.underlying9]; exact if_pos h⟩
theorem ktStr : KT Tryz.prog 93 9 3 (fun k : ByteArray => Value.string k) where
 law := string_keyed Tryz.underlying9
 und := Tryz.underlying93
 elt := Tryz.underlying3
 zero := ouZero
 inj := fun _ _ h => by injection h
 inv := fun key kl h => by
  unfold keyOf at h
  rw [Tryz.underlying9] at h
  simp only [mapKey, Tryz.underlying9] at h
  cases key with
  | string x => exact ⟨x, rfl⟩
  | _ => cases h
theorem ktPair : KT Tryz.prog 90 85 3 vPair where
 law := ouPairLaw
 und := Tryz.underlying90
 elt := Tryz.underlying3
 zero := ouZero
 inj := fun k k' h => by
  have h2 := congrArg Array.toList (Value.agg.inj h)
  simp at h2
  exact Prod.ext h2.1 h2.2
 inv := fun _ _ h => keyPair_inv h
theorem ktSpot : KT Tryz.prog 145 139 3 vSpot where
 law := ouSpotLaw
 und := Tryz.underlying145
 elt := Tryz.underlying3
 zero := ouZero
 inj := fun k k' h => by
  have h2 := congrArg Array.toList (Value.agg.inj h)
  simp at h2
  exact Prod.ext h2.1 h2.2
 inv := fun _ _ h => keySpot_inv h
end Go.Proofs.YtfpnhgahkjglgaaGreat
namespace Go.Proofs.YtfpnhgahkjglgaaGreat
open List
section
variable {K : Type} [DecidableEq K] (S : Sys K)
def newsB (M : K → Option Int) (k : K) (c : Int) : Bool := match M k with
 | some o => decide (c < o)
 | none => true
theorem news_no {M : K → Option Int} {k : K} {c : Int} (h : newsB M k c = false) : relaxT M k c = M := by
 unfold newsB at h
 split at h
 ·rename_i o ho
  exact relax_le ho (by have := of_decide_eq_false h; omega)
 ·cases h
def setR (k : K) (p : (K → Option Int) × List K) (r : Ru) : (K → Option Int) × List K :=
 if r.mute = true ∧ r.fr = S.mode k then
  match S.step k r with
  | none => p
  | some k' => if newsB p.1 k' ((p.1 k).getD 0 + r.co) = true then (relaxT p.1 k' ((p.1 k).getD 0 + r.co), p.2 ++ [k']) else p
 else p
def setK (p : (K → Option Int) × List K) (k : K) : (K → Option Int) × List K := S.rs.foldl (setR S k) p
def setL (p : (K → Option Int) × List K) (L : List K) : (K → Option Int) × List K := L.foldl (setK S) p
variable {S}
theorem setR_skip {k : K} {p : (K → Option Int) × List K} {r : Ru} (h : ¬ (r.mute = true ∧ r.fr = S.mode k)) : setR S k p r = p := if_neg h
theorem setR_none {k : K} {p : (K → Option Int) × List K} {r : Ru} (h : S.step k r = none) : setR S k p r = p := by
 unfold setR
 split
 ·rw [h]
 ·rfl
theorem setR_old {k k' : K} {p : (K → Option Int) × List K} {r : Ru} (h : S.step k r = some k') (h2 : newsB p.1 k' ((p.1 k).getD 0 + r.co) = false) : setR S k p r = p := by
 unfold setR
 split
 ·rw [h]
  simp [h2]
 ·rfl
theorem setR_new {k k' : K} {p : (K → Option Int) × List K} {r : Ru} (h0 : r.mute = true ∧ r.fr = S.mode k) (h : S.step k r = some k') (h2 : newsB p.1 k' ((p.1 k).getD 0 + r.co) = true) :
 setR S k p r = (relaxT p.1 k' ((p.1 k).getD 0 + r.co), p.2 ++ [k']) := by
 unfold setR
 rw [if_pos h0, h]
 simp [h2]
theorem setR_tab {k k' : K} {p : (K → Option Int) × List K} {r : Ru} (h0 : r.mute = true ∧ r.fr = S.mode k) (h : S.step k r = some k') : (setR S k p r).1 = relaxT p.1 k' ((p.1 k).getD 0 + r.co) := by
 cases h2 : newsB p.1 k' ((p.1 k).getD 0 + r.co) with
 | true => rw [setR_new h0 h h2]
 | false => rw [setR_old h h2, news_no h2]
theorem setR_news {k : K} {p : (K → Option Int) × List K} {r : Ru} : ∀ x ∈ (setR S k p r).2, x ∈ p.2 ∨ ∃ k', S.step k r = some k' ∧ x = k' ∧ r.mute = true ∧ r.fr = S.mode k := by
 intro x hx
 by_cases h0 : r.mute = true ∧ r.fr = S.mode k
 ·cases h : S.step k r with
  | none => rw [setR_none h] at hx; exact .inl hx
  | some k' =>
   cases h2 : newsB p.1 k' ((p.1 k).getD 0 + r.co) with
   | false => rw [setR_old h h2] at hx; exact .inl hx
   | true =>
    rw [setR_new h0 h h2] at hx
    rcases mem_append.1 hx with hx | hx
    ·exact .inl hx
    ·exact .inr ⟨k', rfl, mem_singleton.1 hx, h0⟩
 ·rw [setR_skip h0] at hx; exact .inl hx
theorem relaxT_other {M : K → Option Int} {k x : K} {c : Int} (h : x ≠ k) : relaxT M k c x = M x := if_neg h
theorem relaxT_dom {M : K → Option Int} {k x : K} {c : Int} (h : M x ≠ none) : relaxT M k c x ≠ none := by
 unfold relaxT
 split
 ·split <;> simp
 ·exact h
theorem relaxT_in {M : K → Option Int} {k : K} {c : Int} : relaxT M k c k ≠ none := by
 unfold relaxT
 rw [if_pos rfl]
 split <;> simp
def SubR (S : Sys K) (st : K) (inp : List UInt8) (i : Nat) (M : K → Option Int) : Prop := ∀ k c, M k = some c → Rch S st inp i k c
section
variable {st : K} {inp : List UInt8} {i : Nat}
theorem SubR.relax {M : K → Option Int} (h : SubR S st inp i M) {k : K} {c : Int} (hc : Rch S st inp i k c) : SubR S st inp i (relaxT M k c) := by
 intro x d hd
 by_cases e : x = k
 ·subst e
  unfold relaxT at hd
  rw [if_pos rfl] at hd
  split at hd
  ·rename_i o ho
   obtain rfl := Option.some.inj hd
   rcases Int.le_total o c with h1 | h1
   ·rw [Int.min_eq_left h1]; exact h _ _ ho
   ·rw [Int.min_eq_right h1]; exact hc
  ·obtain rfl := Option.some.inj hd
   exact hc
 ·rw [relaxT_other e] at hd
  exact h _ _ hd
omit [DecidableEq K] in
theorem mute_rch {k k' : K} {c : Int} {r : Ru} (h : Rch S st inp i k c) (hr : r ∈ S.rs) (h0 : r.mute = true ∧ r.fr = S.mode k) (hs : S.step k r = some k') : Rch S st inp i k' (c + r.co) := by
 have := Rch.step h hr h0.2 (by rw [mute_bl.1 h0.1]; exact nil_prefix) hs
 rwa [mute_size h0.1, Nat.add_zero] at this
omit [DecidableEq K] in
theorem SubR.hop {p : (K → Option Int) × List K} {k k' : K} {r : Ru} (h : SubR S st inp i p.1) (hk : p.1 k ≠ none) (hr : r ∈ S.rs) (h0 : r.mute = true ∧ r.fr = S.mode k) (hs : S.step k r = some k') : Rch S st inp i k' ((p.1 k).getD 0 + r.co) := by
 cases hM : p.1 k with
 | none => exact absurd hM hk
 | some c => exact mute_rch (h k c hM) hr h0 hs
structure SetI (S : Sys K) (st : K) (inp : List UInt8) (i : Nat) (p : (K → Option Int) × List K) : Prop where
 sub : SubR S st inp i p.1
 news : ∀ k ∈ p.2, p.1 k ≠ none
theorem SetI.rule {p : (K → Option Int) × List K} {k : K} {r : Ru} (h : SetI S st inp i p) (hk : p.1 k ≠ none) (hr : r ∈ S.rs) : SetI S st inp i (setR S k p r) ∧ (∀ x, p.1 x ≠ none → (setR S k p r).1 x ≠ none) := by
 by_cases h0 : r.mute = true ∧ r.fr = S.mode k
 ·cases hs : S.step k r with
  | none => rw [setR_none hs]; exact ⟨h, fun _ h => h⟩
  | some k' =>
   cases h2 : newsB p.1 k' ((p.1 k).getD 0 + r.co) with
   | false => rw [setR_old hs h2]; exact ⟨h, fun _ h => h⟩
   | true =>
    rw [setR_new h0 hs h2]
    refine ⟨⟨h.sub.relax (h.sub.hop hk hr h0 hs), fun x hx => ?_⟩, fun x hx => relaxT_dom hx⟩
    rcases mem_append.1 hx with hx | hx
    ·exact relaxT_dom (h.news x hx)
    ·rw [mem_singleton.1 hx]; exact relaxT_in
 ·rw [setR_skip h0]; exact ⟨h, fun _ h => h⟩
theorem SetI.rules {k : K} : ∀ {l : List Ru} {p : (K → Option Int) × List K}, SetI S st inp i p → p.1 k ≠ none → (∀ r ∈ l, r ∈ S.rs) → SetI S st inp i (l.foldl (setR S k) p) ∧ (∀ x, p.1 x ≠ none → (l.foldl (setR S k) p).1 x ≠ none)
 | [], _, h, _, _ => ⟨h, fun _ h => h⟩
 | r :: l, p, h, hk, hl => by
  obtain ⟨h1, h2⟩ := h.rule hk (hl r (mem_cons_self ..))
  obtain ⟨h3, h4⟩ := SetI.rules h1 (h2 k hk) (fun x hx => hl x (mem_cons_of_mem _ hx))
  exact ⟨h3, fun x hx => h4 x (h2 x hx)⟩
theorem SetI.states : ∀ {L : List K} {p : (K → Option Int) × List K}, SetI S st inp i p → (∀ k ∈ L, p.1 k ≠ none) → SetI S st inp i (setL S p L) ∧ (∀ x, p.1 x ≠ none → (setL S p L).1 x ≠ none)
 | [], _, h, _ => ⟨h, fun _ h => h⟩
 | k :: L, p, h, hk => by
  obtain ⟨h1, h2⟩ := h.rules (hk k (mem_cons_self ..)) (fun _ h => h)
  obtain ⟨h3, h4⟩ := SetI.states (L := L) h1 (fun x hx => h2 x (hk x (mem_cons_of_mem _ hx)))
  exact ⟨h3, fun x hx => h4 x (h2 x hx)⟩
def EndK (S : Sys K) (k : K) : Prop := ∀ r ∈ S.rs, r.mute = true → r.fr ≠ S.mode k
omit [DecidableEq K] in
theorem setK_end [DecidableEq K] {k : K} (h : EndK S k) (p : (K → Option Int) × List K) : setK S p k = p := by
 unfold setK
 have : ∀ (l : List Ru) (q : (K → Option Int) × List K), (∀ r ∈ l, r ∈ S.rs) → l.foldl (setR S k) q = q := by
  intro l
  induction l with
  | nil => exact fun _ _ => rfl
  | cons r l ih =>
   intro q hl
   rw [foldl_cons, setR_skip (fun h0 => h r (hl r (mem_cons_self ..)) h0.1 h0.2)]
   exact ih q fun x hx => hl x (mem_cons_of_mem _ hx)
 exact this _ _ fun _ h => h
theorem setL_end : ∀ {L : List K} (_ : ∀ k ∈ L, EndK S k) (p : (K → Option Int) × List K), setL S p L = p
 | [], _, _ => rfl
 | k :: L, h, p => by
  show setL S (setK S p k) L = p
  rw [setK_end (h k (mem_cons_self ..))]
  exact setL_end (fun x hx => h x (mem_cons_of_mem _ hx)) p
structure RdI (S : Sys K) (M0 : K → Option Int) (H : K → Int → Prop) (p : (K → Option Int) × List K) : Prop where
 holds : Holds p.1 (fun k c => Low M0 k c ∨ H k c)
 same : ∀ k, ¬ EndK S k → p.1 k = M0 k
 ends : ∀ k ∈ p.2, EndK S k
theorem rdI_rule {M0 : K → Option Int} (hF : Flat S st inp) (hM : SubR S st inp i M0) {H : K → Int → Prop} {p : (K → Option Int) × List K} (h : RdI S M0 H p) {k : K} (hk : M0 k ≠ none) {r : Ru} (hr : r ∈ S.rs) :
 RdI S M0 (fun x d => H x d ∨ ∃ c, M0 k = some c ∧ r.mute = true ∧ r.fr = S.mode k ∧ S.step k r = some x ∧ d = c + r.co) (setR S k p r) := by
 by_cases h0 : r.mute = true ∧ r.fr = S.mode k
 ·cases hs : S.step k r with
  | none =>
   rw [setR_none hs]
   refine ⟨holds_iff h.holds fun x d => ⟨fun h => h.elim .inl fun h => .inr (.inl h), fun h => h.elim .inl fun h => h.elim .inr fun ⟨_, _, _, _, h, _⟩ => (nomatch h)⟩, h.same, h.ends⟩
  | some k' =>
   cases hc : M0 k with
   | none => exact absurd hc hk
   | some c =>
    have hend : EndK S k' := fun r' h1 h2 h3 => hF i k c r k' r' (hM k c hc) hr h0.1 h0.2 hs h1 h2 h3
    have hpk : p.1 k = some c := by rw [h.same k (fun he => he r hr h0.1 h0.2), hc]
    refine ⟨?_, fun x hx => ?_, fun x hx => ?_⟩
    ·rw [setR_tab h0 hs, hpk]
     refine holds_step h.holds fun x d => ?_
     constructor
     ·rintro (h1 | h1 | ⟨c', h1, _, _, h2, rfl⟩)
      ·exact .inl (.inl h1)
      ·exact .inl (.inr h1)
      ·obtain rfl := Option.some.inj h1
       obtain rfl := Option.some.inj h2
       exact .inr ⟨rfl, rfl⟩
     ·rintro ((h1 | h1) | ⟨rfl, rfl⟩)
      ·exact .inl h1
      ·exact .inr (.inl h1)
      ·exact .inr (.inr ⟨c, rfl, h0.1, h0.2, rfl, rfl⟩)
    ·rw [setR_tab h0 hs, relaxT_other (fun e => hx (by rw [e]; exact hend))]
     exact h.same x hx
    ·rcases setR_news x hx with h1 | ⟨k2, h1, rfl, _⟩
     ·exact h.ends x h1
     ·rw [hs] at h1
      obtain rfl := Option.some.inj h1
      exact hend
 ·rw [setR_skip h0]
  refine ⟨holds_iff h.holds fun x d => ⟨fun h => h.elim .inl fun h => .inr (.inl h), fun h => h.elim .inl fun h => h.elim .inr fun ⟨_, _, h1, h2, _⟩ => absurd ⟨h1, h2⟩ h0⟩, h.same, h.ends⟩
theorem rdI_rules {M0 : K → Option Int} (hF : Flat S st inp) (hM : SubR S st inp i M0) {k : K} (hk : M0 k ≠ none) : ∀ {l : List Ru} {H : K → Int → Prop} {p : (K → Option Int) × List K}, RdI S M0 H p → (∀ r ∈ l, r ∈ S.rs) →
 RdI S M0 (fun x d => H x d ∨ ∃ r ∈ l, ∃ c, M0 k = some c ∧ r.mute = true ∧ r.fr = S.mode k ∧ S.step k r = some x ∧ d = c + r.co) (l.foldl (setR S k) p)
 | [], H, p, h, _ => ⟨holds_iff h.holds fun x d => ⟨fun h => h.elim .inl fun h => .inr (.inl h), fun h => h.elim .inl fun h => h.elim .inr fun ⟨_, h, _⟩ => (nomatch h)⟩, h.same, h.ends⟩
 | r :: l, H, p, h, hl => by
  have h1 := rdI_rules hF hM hk (l := l) (rdI_rule hF hM h hk (hl r (mem_cons_self ..))) (fun x hx => hl x (mem_cons_of_mem _ hx))
  refine ⟨holds_iff h1.holds fun x d => ?_, h1.same, h1.ends⟩
  constructor
  ·rintro (h | (h | h) | ⟨r', h2, h3⟩)
   ·exact .inl h
   ·exact .inr (.inl h)
   ·exact .inr (.inr ⟨r, mem_cons_self .., h⟩)
   ·exact .inr (.inr ⟨r', mem_cons_of_mem _ h2, h3⟩)
  ·rintro (h | h | ⟨r', h2, h3⟩)
   ·exact .inl h
   ·exact .inr (.inl (.inl h))
   ·rcases mem_cons.1 h2 with rfl | h2
    ·exact .inr (.inl (.inr h3))
    ·exact .inr (.inr ⟨r', h2, h3⟩)
theorem rdI_states {M0 : K → Option Int} (hF : Flat S st inp) (hM : SubR S st inp i M0) : ∀ {L : List K} {H : K → Int → Prop} {p : (K → Option Int) × List K}, RdI S M0 H p → (∀ k ∈ L, M0 k ≠ none) →
 RdI S M0 (fun x d => H x d ∨ ∃ k ∈ L, ∃ r ∈ S.rs, ∃ c, M0 k = some c ∧ r.mute = true ∧ r.fr = S.mode k ∧ S.step k r = some x ∧ d = c + r.co) (setL S p L)
 | [], H, p, h, _ => ⟨holds_iff h.holds fun x d => ⟨fun h => h.elim .inl fun h => .inr (.inl h), fun h => h.elim .inl fun h => h.elim .inr fun ⟨_, h, _⟩ => (nomatch h)⟩, h.same, h.ends⟩
 | k :: L, H, p, h, hL => by
  have h1 := rdI_states hF hM (L := L) (rdI_rules hF hM (hL k (mem_cons_self ..)) h (fun _ h => h)) (fun x hx => hL x (mem_cons_of_mem _ hx))
  refine ⟨holds_iff h1.holds fun x d => ?_, h1.same, h1.ends⟩
  constructor
  ·rintro (h | (h | h) | ⟨k', h2, h3⟩)
   ·exact .inl h
   ·exact .inr (.inl h)
   ·exact .inr (.inr ⟨k, mem_cons_self .., h⟩)
   ·exact .inr (.inr ⟨k', mem_cons_of_mem _ h2, h3⟩)
  ·rintro (h | h | ⟨k', h2, h3⟩)
   ·exact .inl h
   ·exact .inr (.inl (.inl h))
   ·rcases mem_cons.1 h2 with rfl | h2
    ·exact .inr (.inl (.inr h3))
    ·exact .inr (.inr ⟨k', h2, h3⟩)
omit [DecidableEq K] in
theorem holds_low (M : K → Option Int) : Holds M (Low M) := fun k => ⟨fun c h => ⟨h, fun c' h' => by have : M k = some c' := h'; rw [h] at this; obtain rfl := Option.some.inj this; exact Int.le_refl _⟩, fun h c h' => by have : M k = some c := h'; rw [h] at this; cases this⟩
theorem settle_round {M0 : K → Option Int} (hF : Flat S st inp) (hM : SubR S st inp i M0) {L : List K} (hL : KeysOf M0 L) :
 Holds (setL S (M0, []) L).1 (fun k c => Low M0 k c ∨ Hop S (Low M0) k c) ∧ ∀ k ∈ (setL S (M0, []) L).2, EndK S k := by
 have h := rdI_states hF hM (L := L) (H := fun _ _ => False) (p := (M0, [])) ⟨holds_iff (holds_low M0) fun k c => ⟨.inl, fun h => h.elim id fun h => h.elim⟩, fun _ _ => rfl, fun _ h => (nomatch h)⟩ (fun k hk => (hL.2 k).1 hk)
 refine ⟨holds_iff h.holds fun x d => ?_, h.ends⟩
 constructor
 ·rintro (h | h | ⟨k, _, r, hr, c, h1, h2, h3, h4, rfl⟩)
  ·exact .inl h
  ·exact h.elim
  ·exact .inr ⟨k, c, r, h1, hr, h2, h3, h4, rfl⟩
 ·rintro (h | ⟨k, c, r, h1, hr, h2, h3, h4, rfl⟩)
  ·exact .inl h
  ·exact .inr (.inr ⟨k, (hL.2 k).2 (by have : M0 k = some c := h1; rw [this]; simp), r, hr, c, h1, h2, h3, h4, rfl⟩)
end
end
def smallC (c : UInt8) : Bool := decide (97 ≤ c.toNat) && decide (c.toNat ≤ 122)
def smallS (s : ByteArray) : Bool := (bl s).all smallC
def knownC (c : UInt8) : Bool := smallC c || (decide (65 ≤ c.toNat) && decide (c.toNat ≤ 90)) || (decide (48 ≤ c.toNat) && decide (c.toNat ≤ 57))
def knownS (s : ByteArray) : Bool := (bl s).all knownC
def LetS (s : ByteArray) : Prop := s.size ≤ 40 ∧ smallS s = true
instance (s : ByteArray) : Decidable (LetS s) := by unfold LetS; infer_instance
def RuOK (n : Int) (r : Ru) : Prop := ((0 ≤ r.fr ∧ r.fr < n) ∧ 0 ≤ r.to ∧ r.to < n) ∧ (r.inp.size ≤ 4 ∧ smallS r.inp = true) ∧ (r.out.size ≤ 4 ∧ knownS r.out = true) ∧ 0 ≤ r.co ∧ r.co ≤ 1000
instance (n : Int) (r : Ru) : Decidable (RuOK n r) := by unfold RuOK; infer_instance
def ScOK (s : Sc) : Prop := (1 ≤ s.n ∧ s.n ≤ 8) ∧ s.rs.length ≤ 64 ∧ (1 ≤ s.acc ∧ s.acc < 2 ^ s.n.toNat) ∧ (∀ r ∈ s.rs, RuOK s.n r) ∧ s.rs.Nodup
instance (s : Sc) : Decidable (ScOK s) := by unfold ScOK; infer_instance
theorem smallS_mem {s : ByteArray} (h : smallS s = true) : ∀ a ∈ bl s, 97 ≤ a.toNat ∧ a.toNat ≤ 122 := fun a ha => by
 have := all_eq_true.1 h a ha
 unfold smallC at this
 simpa using this
theorem scOK_small {s : Sc} (h : ScOK s) : ∀ r ∈ s.rs, ∀ a ∈ bl r.inp, 97 ≤ a.toNat ∧ a.toNat ≤ 122 := fun r hr => smallS_mem (h.2.2.2.1 r hr).2.1.2
theorem scOK_cost {s : Sc} (h : ScOK s) : ∀ r ∈ s.rs, 0 ≤ r.co := fun r hr => (h.2.2.2.1 r hr).2.2.2.1
theorem scOK_modes {s : Sc} (h : ScOK s) : ∀ r ∈ s.rs, (0 ≤ r.fr ∧ r.fr < s.n) ∧ 0 ≤ r.to ∧ r.to < s.n := fun r hr => (h.2.2.2.1 r hr).1
theorem smallS_app {a b : ByteArray} : smallS (a ++ b) = (smallS a && smallS b) := by unfold smallS; rw [bl_app, all_append]
theorem knownS_app {a b : ByteArray} : knownS (a ++ b) = (knownS a && knownS b) := by unfold knownS; rw [bl_app, all_append]
theorem rte_small {s : Sc} (h : ScOK s) {m : Int} {i o : ByteArray} {c : Int} (hr : Rte s m i o c) : smallS i = true := by
 induction hr with
 | nil => rfl
 | snoc _ h2 _ ih => rw [smallS_app, ih, (h.2.2.2.1 _ h2).2.1.2]; rfl
theorem rte_mode {s : Sc} (h : ScOK s) {m : Int} {i o : ByteArray} {c : Int} (hr : Rte s m i o c) : 0 ≤ m ∧ m < s.n := by
 cases hr with
 | nil => have := h.1; omega
 | snoc _ h2 _ => exact (scOK_modes h _ h2).2
section
variable {K : Type} {S : Sys K} {st : K} {inp : List UInt8}
theorem rch_meas (hF : Flat S st inp) (μ : K → Nat) (B : Nat) (h0 : μ st = 0) (hs : ∀ k r k', r ∈ S.rs → S.step k r = some k' → μ k' ≤ μ k + B) : ∀ (i : Nat) (k : K) (c : Int), Rch S st inp i k c → μ k ≤ 2 * B * i + B := by
 intro i
 induction i using Nat.strongRecOn with
 | _ i ih =>
  have harr : ∀ k c, Arr S st inp i i k c → μ k ≤ 2 * B * i := by
   rintro k c (⟨rfl, rfl, rfl⟩ | ⟨i', hi, k0, c0, r, h1, h2, h3, h4, h5, h6, h7, _⟩)
   ·omega
   ·have h8 := ih i' hi k0 c0 h1
    have h9 := hs k0 r k h2 h7
    have h10 : 2 * B * (i' + 1) ≤ 2 * B * i := Nat.mul_le_mul_left _ hi
    rw [Nat.mul_succ] at h10
    omega
  intro k c h
  rcases rch_split hF h with h | ⟨k0, c0, r, h1, h2, _, _, h5, _⟩
  ·have := harr k c h; omega
  ·have h6 := harr k0 c0 h1
   have h7 := hs k0 r k h2 h5
   omega
end
theorem pair_size {s : Sc} (h : ScOK s) {inp : ByteArray} (hF : FlatS s inp) {i : Nat} {k : Int × ByteArray} {c : Int} (hr : PairAt s inp i k c) : k.2.size ≤ 8 * i + 4 := by
 have := rch_meas hF (fun k => k.2.size) 4 rfl (fun k r k' h1 h2 => by
  obtain rfl := Option.some.inj h2
  show (k.2 ++ r.out).size ≤ _
  rw [ba_len]
  have := (h.2.2.2.1 r h1).2.2.1.1
  omega) i k c hr
 simpa using this
theorem pair_cost {s : Sc} (h : ScOK s) {inp : ByteArray} {i : Nat} {k : Int × ByteArray} {c : Int} (hr : PairAt s inp i k c) : 0 ≤ c := rch_cost (S := pairS s) (scOK_cost h) hr
theorem rch_costB {K : Type} {S : Sys K} {st : K} {inp : List UInt8} (hF : Flat S st inp) (hc : ∀ r ∈ S.rs, 0 ≤ r.co ∧ r.co ≤ 1000) : ∀ (i : Nat) (k : K) (c : Int), Rch S st inp i k c → c ≤ 2000 * (i : Int) + 1000 := by
 intro i
 induction i using Nat.strongRecOn with
 | _ i ih =>
  have harr : ∀ k c, Arr S st inp i i k c → c ≤ 2000 * (i : Int) := by
   rintro k c (⟨rfl, rfl, rfl⟩ | ⟨i', hi, k0, c0, r, h1, h2, h3, h4, h5, h6, h7, rfl⟩)
   ·omega
   ·have h8 := ih i' hi k0 c0 h1
    have h9 := hc r h2
    omega
  intro k c h
  rcases rch_split hF h with h | ⟨k0, c0, r, h1, h2, _, _, h5, rfl⟩
  ·have := harr k c h; omega
  ·have h6 := harr k0 c0 h1
   have h7 := hc r h2
   omega
section
variable {K : Type} {S : Sys K} {st : K} {inp : List UInt8}
def Jump (S : Sys K) (inp : List UInt8) (at_ : Nat) (k0 : K) (c0 : Int) (r : Ru) (j : Nat) (x : K) (d : Int) : Prop := r.mute = false ∧ r.fr = S.mode k0 ∧ bl r.inp <+: inp.drop at_ ∧ j = at_ + r.inp.size ∧ S.step k0 r = some x ∧ d = c0 + r.co
def Acc (S : Sys K) (st : K) (inp : List UInt8) (at_ : Nat) (M : K → Option Int) (done : K → Bool) (now : Option (K × Int × Nat)) (j : Nat) (x : K) (d : Int) : Prop :=
 Arr S st inp at_ j x d ∨ (∃ k c r, M k = some c ∧ done k = true ∧ r ∈ S.rs ∧ Jump S inp at_ k c r j x d) ∨ ∃ k c t r, now = some (k, c, t) ∧ r ∈ S.rs.take t ∧ Jump S inp at_ k c r j x d
theorem acc_now {at_ : Nat} {M : K → Option Int} {done : K → Bool} {k : K} {c : Int} {j : Nat} {x : K} {d : Int} : Acc S st inp at_ M done (some (k, c, 0)) j x d ↔ Acc S st inp at_ M done none j x d := by
 unfold Acc
 constructor
 ·rintro (h | h | ⟨_, _, _, _, h, h2, _⟩)
  ·exact .inl h
  ·exact .inr (.inl h)
  ·cases h; cases h2
 ·rintro (h | h | ⟨_, _, _, _, h, _⟩)
  ·exact .inl h
  ·exact .inr (.inl h)
  ·cases h
theorem acc_done [DecidableEq K] {at_ : Nat} {M : K → Option Int} {done : K → Bool} {k : K} {c : Int} {t : Nat} (hM : M k = some c) (ht : S.rs.length ≤ t) {j : Nat} {x : K} {d : Int} :
 Acc S st inp at_ M (fun y => done y || decide (y = k)) none j x d ↔ Acc S st inp at_ M done (some (k, c, t)) j x d := by
 unfold Acc
 constructor
 ·rintro (h | ⟨k', c', r, h1, h2, h3, h4⟩ | ⟨_, _, _, _, h, _⟩)
  ·exact .inl h
  ·simp only [Bool.or_eq_true, decide_eq_true_eq] at h2
   rcases h2 with h2 | rfl
   ·exact .inr (.inl ⟨k', c', r, h1, h2, h3, h4⟩)
   ·rw [hM] at h1
    obtain rfl := Option.some.inj h1
    exact .inr (.inr ⟨k', c, t, r, rfl, by rw [take_of_length_le ht]; exact h3, h4⟩)
  ·cases h
 ·rintro (h | ⟨k', c', r, h1, h2, h3, h4⟩ | ⟨_, _, _, r, h, h2, h3⟩)
  ·exact .inl h
  ·exact .inr (.inl ⟨k', c', r, h1, by simp [h2], h3, h4⟩)
  ·cases h
   exact .inr (.inl ⟨k, c, r, hM, by simp, mem_of_mem_take h2, h3⟩)
theorem acc_skip {at_ : Nat} {M : K → Option Int} {done : K → Bool} {k : K} {c : Int} {t : Nat} {r : Ru} (hr : S.rs[t]? = some r) {j : Nat} (hn : ∀ x d, ¬ Jump S inp at_ k c r j x d) {x : K} {d : Int} :
 Acc S st inp at_ M done (some (k, c, t + 1)) j x d ↔ Acc S st inp at_ M done (some (k, c, t)) j x d := by
 have e : S.rs.take (t + 1) = S.rs.take t ++ [r] := by rw [take_add_one, hr]; rfl
 unfold Acc
 constructor
 ·rintro (h | h | ⟨_, _, _, r', h, h2, h3⟩)
  ·exact .inl h
  ·exact .inr (.inl h)
  ·cases h
   rw [e] at h2
   rcases mem_append.1 h2 with h2 | h2
   ·exact .inr (.inr ⟨k, c, t, r', rfl, h2, h3⟩)
   ·rw [mem_singleton.1 h2] at h3
    exact absurd h3 (hn x d)
 ·rintro (h | h | ⟨_, _, _, r', h, h2, h3⟩)
  ·exact .inl h
  ·exact .inr (.inl h)
  ·cases h
   exact .inr (.inr ⟨k, c, t + 1, r', rfl, by rw [e]; exact mem_append_left _ h2, h3⟩)
theorem acc_step {at_ : Nat} {M : K → Option Int} {done : K → Bool} {k : K} {c : Int} {t : Nat} {r : Ru} (hr : S.rs[t]? = some r) {x0 : K} (h1 : r.mute = false) (h2 : r.fr = S.mode k) (h3 : bl r.inp <+: inp.drop at_) (h4 : S.step k r = some x0) {x : K} {d : Int} :
 Acc S st inp at_ M done (some (k, c, t + 1)) (at_ + r.inp.size) x d ↔ Acc S st inp at_ M done (some (k, c, t)) (at_ + r.inp.size) x d ∨ (x = x0 ∧ d = c + r.co) := by
 have e : S.rs.take (t + 1) = S.rs.take t ++ [r] := by rw [take_add_one, hr]; rfl
 unfold Acc
 constructor
 ·rintro (h | h | ⟨_, _, _, r', h, h5, h6⟩)
  ·exact .inl (.inl h)
  ·exact .inl (.inr (.inl h))
  ·cases h
   rw [e] at h5
   rcases mem_append.1 h5 with h5 | h5
   ·exact .inl (.inr (.inr ⟨k, c, t, r', rfl, h5, h6⟩))
   ·rw [mem_singleton.1 h5] at h6
    obtain ⟨_, _, _, _, h7, h8⟩ := h6
    rw [h4] at h7
    exact .inr ⟨(Option.some.inj h7).symm, h8⟩
 ·rintro ((h | h | ⟨_, _, _, r', h, h5, h6⟩) | ⟨rfl, rfl⟩)
  ·exact .inl h
  ·exact .inr (.inl h)
  ·cases h
   exact .inr (.inr ⟨k, c, t + 1, r', rfl, by rw [e]; exact mem_append_left _ h5, h6⟩)
  ·exact .inr (.inr ⟨k, c, t + 1, r, rfl, by rw [e]; exact mem_append_right _ (mem_singleton.2 rfl), h1, h2, h3, rfl, h4, rfl⟩)
theorem acc_rch {at_ : Nat} {M : K → Option Int} {done : K → Bool} {now : Option (K × Int × Nat)} (hM : ∀ k c, M k = some c → Rch S st inp at_ k c) (hn : ∀ k c t, now = some (k, c, t) → M k = some c) {j : Nat} {x : K} {d : Int} (h : Acc S st inp at_ M done now j x d) : Rch S st inp j x d := by
 have hj : ∀ k c r, M k = some c → r ∈ S.rs → Jump S inp at_ k c r j x d → Rch S st inp j x d := by
  rintro k c r h1 h2 ⟨_, h4, h5, rfl, h6, rfl⟩
  exact Rch.step (hM k c h1) h2 h4 h5 h6
 rcases h with h | ⟨k, c, r, h1, _, h2, h3⟩ | ⟨k, c, t, r, h1, h2, h3⟩
 ·exact arr_rch h
 ·exact hj k c r h1 h2 h3
 ·exact hj k c r (hn k c t h1) (mem_of_mem_take h2) h3
theorem acc_all {at_ : Nat} {M : K → Option Int} {done : K → Bool} (hd : ∀ k c, M k = some c → done k = true) {j : Nat} {x : K} {d : Int} : Acc S st inp at_ M done none j x d ↔ Arr S st inp at_ j x d ∨ Leap S inp (Low M) at_ j x d := by
 unfold Acc
 constructor
 ·rintro (h | ⟨k, c, r, h1, h2, h3, h4⟩ | ⟨_, _, _, _, h, _⟩)
  ·exact .inl h
  ·exact .inr ⟨k, c, r, h1, h3, h4⟩
  ·cases h
 ·rintro (h | ⟨k, c, r, h1, h3, h4⟩)
  ·exact .inl h
  ·exact .inr (.inl ⟨k, c, r, h1, hd k c h1, h3, h4⟩)
def freeN (F : Nat → Option Nat) (hi : Nat) : Nat := (range (hi + 1)).countP fun i => (F i).isNone
theorem freeN_put {F : Nat → Option Nat} {hi i g : Nat} (h1 : i ≤ hi) (h2 : F i = none) : freeN (fun j => if j = i then some g else F j) hi + 1 ≤ freeN F hi := by
 unfold freeN
 have hs : (range (hi + 1)).Nodup := nodup_range
 have hm : i ∈ range (hi + 1) := mem_range.2 (by omega)
 have key : ∀ l : List Nat, l.Nodup → (i ∈ l → (l.countP fun x => (if x = i then some g else F x).isNone) + 1 ≤ l.countP fun x => (F x).isNone) ∧ (i ∉ l → (l.countP fun x => (if x = i then some g else F x).isNone) ≤ l.countP fun x => (F x).isNone) := by
  intro l
  induction l with
  | nil => exact fun _ => ⟨fun h => (nomatch h), fun _ => Nat.le_refl _⟩
  | cons a l ih =>
   intro hn
   obtain ⟨hn1, hn2⟩ := nodup_cons.1 hn
   obtain ⟨i1, i2⟩ := ih hn2
   constructor
   ·intro hi
    by_cases e : a = i
    ·subst e
     have := i2 hn1
     rw [countP_cons, countP_cons]
     simp [h2]
     omega
    ·have hil : i ∈ l := (mem_cons.1 hi).elim (fun h => absurd h.symm e) id
     have := i1 hil
     rw [countP_cons, countP_cons]
     simp only [if_neg e]
     omega
   ·intro hi
    have e : a ≠ i := fun e => hi (e ▸ mem_cons_self ..)
    have hil : i ∉ l := fun h => hi (mem_cons_of_mem _ h)
    have := i2 hil
    rw [countP_cons, countP_cons]
    simp only [if_neg e]
    omega
 exact (key _ hs).1 hm
theorem freeN_le {F : Nat → Option Nat} {hi : Nat} : freeN F hi ≤ hi + 1 := by
 unfold freeN
 exact Nat.le_trans (countP_le_length ..) (by simp)
end
theorem isRes_table {A : ByteArray → Int → Prop} {T : ByteArray → Option Int} (h : Holds T A) {l : List ByteArray} (hl : KeysOf T l) {L : List Rs} (hp : L.Perm (l.map fun t => ⟨t, (T t).getD 0⟩)) (hs : L.Pairwise (fun a b => befR b a = false)) : IsRes A L := by
 have hm : ∀ y, y ∈ L ↔ ∃ t, t ∈ l ∧ y = ⟨t, (T t).getD 0⟩ := fun y => by rw [hp.mem_iff, mem_map]; exact ⟨fun ⟨t, h1, h2⟩ => ⟨t, h1, h2.symm⟩, fun ⟨t, h1, h2⟩ => ⟨t, h1, h2.symm⟩⟩
 have ht : L.Pairwise (fun a b => a.tx ≠ b.tx) := by
  refine (hp.pairwise_iff (fun {_ _} h e => h e.symm)).2 (pairwise_map.2 (hl.1.imp fun h e => h e))
 refine ⟨?_, ht, fun y hy => ?_, fun t c hc => ?_⟩
 ·refine (hs.and ht).imp fun {a b} ⟨h1, h2⟩ => ?_
  rcases befR_tri a b with h3 | rfl | h3
  ·exact h3
  ·exact absurd rfl h2
  ·rw [h3] at h1; cases h1
 ·obtain ⟨t, h1, rfl⟩ := (hm y).1 hy
  cases hT : T t with
  | none => exact absurd hT ((hl.2 t).1 h1)
  | some c => exact ((h t).1 c hT).1
 ·obtain ⟨d, hd, hdc⟩ := h.some_ hc
  exact ⟨⟨t, d⟩, (hm _).2 ⟨t, (hl.2 t).2 (by rw [hd]; simp), by rw [hd]; rfl⟩, rfl, hdc⟩
def IsCost (s : Sc) (inp out : ByteArray) (r : Int) : Prop := (r = -1 ∧ ∀ c, ¬ Whole s inp out c) ∨ (0 ≤ r ∧ Whole s inp out r ∧ ∀ c, Whole s inp out c → r ≤ c)
theorem isCost_costL {s : Sc} {inp : ByteArray} (hF : FlatS s inp) (hc : ∀ r ∈ s.rs, 0 ≤ r.co) (out : ByteArray) : IsCost s inp out (costL s inp out) := by
 rcases costL_cases hF hc out with h | ⟨h1, _, h2, h3⟩
 ·exact .inl h
 ·exact .inr ⟨h1, h2, h3⟩
def LeastOf {K : Type} (M : K → Option Int) (p : K → Bool) (L : K → Bool) (r : Int) : Prop :=
 (r = -1 ∧ ∀ k c, M k = some c → p k = true → L k = true) ∨ (0 ≤ r ∧ (∃ k, M k = some r ∧ p k = true) ∧ ∀ k c, M k = some c → p k = true → L k = false → r ≤ c)
theorem least_start {K : Type} {M : K → Option Int} {p : K → Bool} : LeastOf M p (fun k => (M k).isSome) (-1) := .inl ⟨rfl, fun k c h _ => by show (M k).isSome = true; rw [h]; rfl⟩
section
variable {K : Type} [DecidableEq K] {M : K → Option Int} {p L : K → Bool} {r : Int}
theorem least_skip (h : LeastOf M p L r) {k : K} (hk : p k = false) : LeastOf M p (fun x => L x && !decide (x = k)) r := by
 rcases h with ⟨h1, h2⟩ | ⟨h1, h2, h3⟩
 ·refine .inl ⟨h1, fun x c hx hp => ?_⟩
  have e : x ≠ k := fun e => by subst e; rw [hk] at hp; cases hp
  simp [h2 x c hx hp, e]
 ·refine .inr ⟨h1, h2, fun x c hx hp hL => ?_⟩
  have e : x ≠ k := fun e => by subst e; rw [hk] at hp; cases hp
  exact h3 x c hx hp (by simpa [e] using hL)
theorem least_take (h : LeastOf M p L r) {k : K} {c : Int} (hM : M k = some c) (hc : 0 ≤ c) (hk : p k = true) (hlt : r < 0 ∨ c < r) : LeastOf M p (fun x => L x && !decide (x = k)) c := by
 refine .inr ⟨hc, ⟨k, hM, hk⟩, fun x d hx hp hL => ?_⟩
 by_cases e : x = k
 ·subst e
  rw [hM] at hx
  obtain rfl := Option.some.inj hx
  exact Int.le_refl _
 ·have hL : L x = false := by simpa [e] using hL
  rcases h with ⟨h1, h2⟩ | ⟨h1, h2, h3⟩
  ·rw [h2 x d hx hp] at hL; cases hL
  ·have := h3 x d hx hp hL
   omega
theorem least_keep (h : LeastOf M p L r) {k : K} {c : Int} (hM : M k = some c) (hk : p k = true) (hlt : ¬ (r < 0 ∨ c < r)) : LeastOf M p (fun x => L x && !decide (x = k)) r := by
 rcases h with ⟨h1, h2⟩ | ⟨h1, h2, h3⟩
 ·exact absurd (.inl (by omega)) hlt
 ·refine .inr ⟨h1, h2, fun x d hx hp hL => ?_⟩
  by_cases e : x = k
  ·subst e
   rw [hM] at hx
   obtain rfl := Option.some.inj hx
   omega
  ·exact h3 x d hx hp (by simpa [e] using hL)
end
theorem cost_of_spots {s : Sc} {inp out : ByteArray} {M : Int × Int → Option Int} (h : Holds M (Rch (spotS s (bl out)) (0, 0) (bl inp) inp.size)) {L : Int × Int → Bool} {r : Int} (hL : ∀ k c, M k = some c → L k = false)
 (hr : LeastOf M (fun k => decide (k.2 = (out.size : Int)) && accB s.acc k.1) L r) : IsCost s inp out r := by
 have key : ∀ m c, M (m, (out.size : Int)) = some c → Rte s m inp out c := fun m c hm => spot_iff.1 ((h _).1 c hm).1
 have back : ∀ m c, Rte s m inp out c → ∃ d, M (m, (out.size : Int)) = some d ∧ d ≤ c := fun m c hm => h.some_ (spot_iff.2 hm)
 rcases hr with ⟨h1, h2⟩ | ⟨h1, ⟨k, h2, h3⟩, h4⟩
 ·refine .inl ⟨h1, fun c ⟨m, ha, hm⟩ => ?_⟩
  obtain ⟨d, hd, _⟩ := back m c hm
  have := h2 _ d hd (by simp [ha])
  rw [hL _ d hd] at this
  cases this
 ·obtain ⟨m, a⟩ := k
  simp only [Bool.and_eq_true, decide_eq_true_eq] at h3
  obtain ⟨rfl, h3⟩ := h3
  refine .inr ⟨h1, ⟨m, h3, key m r h2⟩, fun c ⟨m', ha, hm⟩ => ?_⟩
  obtain ⟨d, hd, hdc⟩ := back m' c hm
  exact Int.le_trans (h4 _ d hd (by simp [ha]) (hL _ d hd)) hdc
theorem few_of_list {K : Type} [DecidableEq K] {A : K → Int → Prop} (l : List K) (h : ∀ k c, A k c → k ∈ l) {n : Nat} (hn : l.length ≤ n) : ¬ TooMany n A := fun ⟨m, h1, h2, h3⟩ => by
 have := nodup_le (m := l) h1 fun k hk => by obtain ⟨c, hc⟩ := h3 k hk; exact h k c hc
 omega
theorem spots_few {s : Sc} (hs : ScOK s) {inp out : List UInt8} {i : Nat} : ¬ TooMany ((out.length + 1) * 8) (Rch (spotS s out) (0, 0) inp i) := by
 refine few_of_list ((range 8).flatMap fun m : Nat => (range (out.length + 1)).map fun a : Nat => ((m : Int), (a : Int))) (fun k c h => ?_) ?_
 ·obtain ⟨h1, h2, t, o, _, _, h3⟩ := spot_rte h
  have h4 := rte_mode hs h3
  have := hs.1
  refine mem_flatMap.2 ⟨k.1.toNat, mem_range.2 (by omega), mem_map.2 ⟨k.2.toNat, mem_range.2 (by omega), Prod.ext ?_ ?_⟩⟩
  ·show ((k.1.toNat : Nat) : Int) = k.1; omega
  ·show ((k.2.toNat : Nat) : Int) = k.2; omega
 ·rw [length_flatMap]
  have : ∀ (l : List Nat), (l.map fun m : Nat => ((range (out.length + 1)).map fun a : Nat => ((m : Int), (a : Int))).length).sum = l.length * (out.length + 1) := by
   intro l
   induction l with
   | nil => simp
   | cons a l ih => rw [map_cons, sum_cons, ih]; simp only [length_map, length_range, length_cons]; rw [Nat.add_mul]; omega
  rw [this, length_range]
  omega
end Go.Proofs.YtfpnhgahkjglgaaGreat
