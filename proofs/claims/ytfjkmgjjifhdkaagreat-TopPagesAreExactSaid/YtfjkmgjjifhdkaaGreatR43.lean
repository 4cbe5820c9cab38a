/-
  CxCostM, CxWay, CxMade, joined. No conditions.
-/
import Derived.Test.YtfjkmgjjifhdkaaGreatR40
/-
  The plain law of layer 20: the cost of a way through a lattice after a word. No program in sight; no conditions.
-/
namespace Go.Proofs.YtfjkmgjjifhdkaaGreat
open List

end Go.Proofs.YtfjkmgjjifhdkaaGreat

/-
  The plain law of layer 20: ways through a lattice, as lists of edges. No program in sight; no conditions.
-/
namespace Go.Proofs.YtfjkmgjjifhdkaaGreat
open List

/-- The edges of l lead from the place a to the place b. -/
def WayTo (x : La) : Int → List Int → Int → Prop
  | a, [], b => a = b
  | a, k :: l, b => ∃ e, 0 ≤ k ∧ x.es[k.toNat]? = some e ∧ e.fr = a ∧ WayTo x e.to l b
theorem WayTo.snoc {x : La} {k : Nat} {e : Ed} : ∀ {l : List Int} {a b : Int}, WayTo x a l b → x.es[k]? = some e → e.fr = b → WayTo x a (l ++ [(k : Int)]) e.to
  | [], a, b, h, he, hf => ⟨e, by omega, by rw [Int.toNat_natCast]; exact he, by rw [hf]; exact h.symm, rfl⟩
  | i :: l, a, b, ⟨e', h0, h1, h2, h3⟩, he, hf => ⟨e', h0, h1, h2, h3.snoc he hf⟩
/-- The cost of the edges of a way, each after the one before. -/
def wsum (x : La) (m : Mo) : Int → List Int → Int
  | _, [] => 0
  | p, k :: l => match x.es[k.toNat]? with
    | some e => e.co + pcost m p e.wd.toNat + wsum x m e.wd l
    | none => 0
theorem wsum_cons {x : La} {m : Mo} {p k : Int} {l : List Int} {e : Ed} (h : x.es[k.toNat]? = some e) : wsum x m p (k :: l) = e.co + pcost m p e.wd.toNat + wsum x m e.wd l := by
  show (match x.es[k.toNat]? with | some e => e.co + pcost m p e.wd.toNat + wsum x m e.wd l | none => 0) = _
  rw [h]
end Go.Proofs.YtfjkmgjjifhdkaaGreat

/-
  The plain law of layer 20: the lattices that the laws draw. No program in sight; no conditions.
-/
namespace Go.Proofs.YtfjkmgjjifhdkaaGreat
open List

/-- Ordered edges with one more. -/
def insE (e : Ed) : List Ed → List Ed
  | [] => [e]
  | y :: l => if lessE e y = true then e :: y :: l else y :: insE e l
theorem insE_no {e : Ed} : ∀ {l : List Ed}, (∀ y ∈ l, lessE e y = false) → insE e l = l ++ [e]
  | [], _ => rfl
  | y :: l, h => by
    unfold insE
    rw [if_neg (by rw [h y mem_cons_self]; decide), insE_no fun z hz => h z (mem_cons_of_mem _ hz)]
    rfl
theorem insE_hit {e y : Ed} : ∀ {l : List Ed}, (∀ z ∈ l, lessE e z = false) → lessE e y = true → insE e (l ++ [y]) = l ++ [e] ++ [y]
  | [], _, h => by
    show (if lessE e y = true then [e, y] else y :: insE e []) = [e, y]
    rw [if_pos h]
  | z :: l, hl, h => by
    rw [cons_append]
    unfold insE
    rw [if_neg (by rw [hl z mem_cons_self]; decide), insE_hit (fun u hu => hl u (mem_cons_of_mem _ hu)) h]
    rfl
theorem insE_past {e y : Ed} : ∀ {l : List Ed}, (∃ z ∈ l, lessE e z = true) → insE e (l ++ [y]) = insE e l ++ [y]
  | [], h => by obtain ⟨z, hz, _⟩ := h; cases hz
  | z :: l, h => by
    rw [cons_append]
    unfold insE
    by_cases hz : lessE e z = true
    · rw [if_pos hz, if_pos hz]; rfl
    · rw [if_neg hz, if_neg hz, insE_past]
      · rfl
      · obtain ⟨u, hu, h2⟩ := h
        rcases mem_cons.1 hu with rfl | hu
        · exact absurd h2 hz
        · exact ⟨u, hu, h2⟩
theorem insE_mem {e y : Ed} : ∀ {l : List Ed}, y ∈ insE e l ↔ y = e ∨ y ∈ l
  | [] => by simp [insE]
  | z :: l => by
    unfold insE
    split
    · simp
    · rw [mem_cons, insE_mem, mem_cons]
      constructor
      · rintro (h | h | h)
        · exact .inr (.inl h)
        · exact .inl h
        · exact .inr (.inr h)
      · rintro (h | h | h)
        · exact .inr (.inl h)
        · exact .inl h
        · exact .inr (.inr h)
theorem insE_len (e : Ed) : ∀ l : List Ed, (insE e l).length = l.length + 1
  | [] => rfl
  | z :: l => by
    unfold insE
    split
    · simp
    · simp [insE_len e l]
def sameK (a b : Ed) : Bool := a.fr == b.fr && (a.to == b.to && a.wd == b.wd)
theorem lessE_iff {a b : Ed} : lessE a b = true ↔ a.fr < b.fr ∨ a.fr = b.fr ∧ (a.to < b.to ∨ a.to = b.to ∧ a.wd < b.wd) := by simp [lessE]
theorem lessE_total {a b : Ed} (h : sameK a b = false) : lessE a b = true ∨ lessE b a = true := by
  rw [lessE_iff, lessE_iff]
  have : ¬ (a.fr = b.fr ∧ a.to = b.to ∧ a.wd = b.wd) := fun ⟨h1, h2, h3⟩ => by simp [sameK, h1, h2, h3] at h
  omega
theorem incE_cons {a : Ed} {l : List Ed} : incE (a :: l) = true ↔ (∀ y, l.head? = some y → lessE a y = true) ∧ incE l = true := by
  cases l with
  | nil => simp [incE]
  | cons b l => simp [incE]
theorem insE_head {e : Ed} {l : List Ed} {y : Ed} (h : (insE e l).head? = some y) : y = e ∨ l.head? = some y := by
  cases l with
  | nil => simp [insE] at h; exact .inl h.symm
  | cons z l =>
    unfold insE at h
    split at h
    · simp at h; exact .inl h.symm
    · simp at h; exact .inr (by simp [h])
theorem insE_inc {e : Ed} : ∀ {l : List Ed}, incE l = true → (∀ y ∈ l, sameK y e = false) → incE (insE e l) = true
  | [], _, _ => rfl
  | z :: l, h, hn => by
    obtain ⟨h1, h2⟩ := incE_cons.1 h
    unfold insE
    split
    · rename_i hz
      exact incE_cons.2 ⟨fun y hy => by simp at hy; rw [← hy]; exact hz, h⟩
    · rename_i hz
      refine incE_cons.2 ⟨fun y hy => ?_, insE_inc h2 fun y hy => hn y (mem_cons_of_mem _ hy)⟩
      rcases insE_head hy with rfl | hy
      · rcases lessE_total (hn z mem_cons_self) with h3 | h3
        · exact h3
        · exact absurd h3 hz
      · exact h1 y hy
/-- The index of an edge with these places and this word, or -1. -/
def findE (es : List Ed) (e : Ed) : Int := if (∀ y ∈ es, sameK y e = false) then -1 else (es.findIdx (fun y => sameK y e) : Int)
theorem findE_neg {es : List Ed} {e : Ed} (h : ∀ y ∈ es, sameK y e = false) : findE es e = -1 := if_pos h
theorem findE_at {es : List Ed} {e y : Ed} {k : Nat} (h : ∀ y ∈ es.take k, sameK y e = false) (hy : es[k]? = some y) (hs : sameK y e = true) : findE es e = (k : Int) := by
  obtain ⟨hk, rfl⟩ := List.getElem?_eq_some_iff.1 hy
  unfold findE
  rw [if_neg (fun h2 => by have := h2 _ (List.getElem_mem hk); rw [hs] at this; cases this)]
  congr 1
  rw [List.findIdx_eq hk]
  exact ⟨hs, fun j hj => h es[j] (List.mem_take_iff_getElem.2 ⟨j, by omega, rfl⟩)⟩
theorem findE_iff {es : List Ed} {e : Ed} : findE es e < 0 ↔ ∀ y ∈ es, sameK y e = false := by
  unfold findE
  split
  · rename_i h; simp; exact h
  · rename_i h; constructor
    · intro h2; omega
    · intro h2; exact absurd h2 h

/-! The drawn lattice. -/
structure R4 where
  a : Int
  b : Int
  c : Int
  d : Int
def R4OK (r : R4) : Prop := (0 ≤ r.a ∧ r.a ≤ 255) ∧ (0 ≤ r.b ∧ r.b ≤ 255) ∧ (0 ≤ r.c ∧ r.c ≤ 255) ∧ (0 ≤ r.d ∧ r.d ≤ 255)
def baseE (n : Int) (k : Nat) : List Ed := (List.range k).map fun i : Nat => ⟨(i : Int), (i : Int) + 1, (i : Int) % n, 3⟩
theorem baseE_succ (n : Int) (k : Nat) : baseE n (k + 1) = baseE n k ++ [⟨(k : Int), (k : Int) + 1, (k : Int) % n, 3⟩] := by
  unfold baseE; rw [List.range_succ, List.map_append]; rfl
def edR (N n : Int) (r : R4) : Ed := ⟨r.a % N, r.a % N + 1 + r.b % (N - r.a % N), r.c % n, r.d % 32⟩
def addE (N n : Int) (es : List Ed) (r : R4) : List Ed := if findE es (edR N n r) < 0 then insE (edR N n r) es else es
def latTo (N : Nat) (n : Int) (l : List R4) : Nat → List Ed
  | 0 => baseE n N
  | k + 1 => match l[k]? with
    | some r => addE N n (latTo N n l k) r
    | none => latTo N n l k
theorem latTo_succ {N : Nat} {n : Int} {l : List R4} {k : Nat} {r : R4} (h : l[k]? = some r) : latTo N n l (k + 1) = addE N n (latTo N n l k) r := by
  show (match l[k]? with | some r => addE N n (latTo N n l k) r | none => latTo N n l k) = _
  rw [h]
def latM (l : List R4) (places : Int) (n : Int) : La := ⟨places % 6, if places % 6 = 0 then [] else latTo (places % 6).toNat n l (min l.length 8)⟩
structure LatOK (N : Nat) (n : Int) (es : List Ed) : Prop where
  ok : ∀ e ∈ es, EdOK (N : Int) e ∧ e.wd < n ∧ e.co ≤ 31
  inc : incE es = true
  full : ∀ p : Nat, p < N → ∃ e ∈ es, e.fr = (p : Int)
theorem baseE_ok {N : Nat} {n : Int} (hn : 1 ≤ n) (hn2 : n ≤ 200) : LatOK N n (baseE n N) := by
  refine ⟨fun e he => ?_, ?_, fun p hp => ⟨_, mem_map.2 ⟨p, mem_range.2 hp, rfl⟩, rfl⟩⟩
  · obtain ⟨i, hi, rfl⟩ := mem_map.1 he
    have hi := mem_range.1 hi
    have h1 := Int.emod_nonneg (i : Int) (show n ≠ 0 by omega)
    have h2 := Int.emod_lt_of_pos (i : Int) (show 0 < n by omega)
    refine ⟨⟨⟨?_, ?_, ?_⟩, ⟨?_, ?_⟩, ?_, ?_⟩, h2, ?_⟩
    · show (0 : Int) ≤ (i : Int); omega
    · show (i : Int) < (i : Int) + 1; omega
    · show (i : Int) + 1 ≤ (N : Int); omega
    · exact h1
    · show (i : Int) % n < 200; omega
    · show (0 : Int) ≤ 3; omega
    · show (3 : Int) ≤ 1000000; omega
    · show (3 : Int) ≤ 31; omega
  · clear hn hn2
    induction N with
    | zero => rfl
    | succ k ih =>
      rw [baseE_succ, incE_snoc, ih]
      cases k with
      | zero => rfl
      | succ k =>
        rw [baseE_succ, getLast?_concat]
        show lessE _ _ = true
        rw [lessE_iff]
        left
        show (k : Int) < ((k + 1 : Nat) : Int)
        omega
theorem edR_ok {N : Nat} {n : Int} {r : R4} (hN : 1 ≤ N) (hn : 1 ≤ n) (hn2 : n ≤ 200) (_hr : R4OK r) : EdOK (N : Int) (edR N n r) ∧ (edR N n r).wd < n ∧ (edR N n r).co ≤ 31 := by
  have a1 := Int.emod_nonneg r.a (show (N : Int) ≠ 0 by omega)
  have a2 := Int.emod_lt_of_pos r.a (show (0 : Int) < N by omega)
  have b1 := Int.emod_nonneg r.b (show (N : Int) - r.a % N ≠ 0 by omega)
  have b2 := Int.emod_lt_of_pos r.b (show (0 : Int) < (N : Int) - r.a % N by omega)
  have c1 := Int.emod_nonneg r.c (show n ≠ 0 by omega)
  have c2 := Int.emod_lt_of_pos r.c (show 0 < n by omega)
  have d1 := Int.emod_nonneg r.d (show (32 : Int) ≠ 0 by omega)
  have d2 := Int.emod_lt_of_pos r.d (show (0 : Int) < 32 by omega)
  refine ⟨⟨⟨a1, ?_, ?_⟩, ⟨c1, ?_⟩, d1, ?_⟩, c2, ?_⟩
  · show r.a % N < r.a % N + 1 + r.b % (N - r.a % N); omega
  · show r.a % N + 1 + r.b % (N - r.a % N) ≤ N; omega
  · show r.c % n < 200; omega
  · show r.d % 32 ≤ 1000000; omega
  · show r.d % 32 ≤ 31; omega
theorem addE_ok {N : Nat} {n : Int} {es : List Ed} {r : R4} (h : LatOK N n es) (hN : 1 ≤ N) (hn : 1 ≤ n) (hn2 : n ≤ 200) (hr : R4OK r) : LatOK N n (addE N n es r) := by
  unfold addE
  split
  · rename_i hf
    have hno := findE_iff.1 hf
    refine ⟨fun e he => ?_, insE_inc h.inc hno, fun p hp => ?_⟩
    · rcases insE_mem.1 he with rfl | he
      · exact edR_ok hN hn hn2 hr
      · exact h.ok e he
    · obtain ⟨e, he, hp⟩ := h.full p hp
      exact ⟨e, insE_mem.2 (.inr he), hp⟩
  · exact h
theorem latTo_ok {N : Nat} {n : Int} {l : List R4} (hN : 1 ≤ N) (hn : 1 ≤ n) (hn2 : n ≤ 200) (hl : ∀ r ∈ l, R4OK r) : ∀ k, LatOK N n (latTo N n l k)
  | 0 => baseE_ok hn hn2
  | k + 1 => by
    have ih := latTo_ok hN hn hn2 hl k
    cases h : l[k]? with
    | none =>
      have : latTo N n l (k + 1) = latTo N n l k := by
        show (match l[k]? with | some r => addE N n (latTo N n l k) r | none => latTo N n l k) = _
        rw [h]
      rw [this]; exact ih
    | some r =>
      rw [latTo_succ h]
      exact addE_ok ih hN hn hn2 (hl r (mem_of_getElem? h))
theorem latTo_len (N : Nat) (n : Int) (l : List R4) : ∀ k, (latTo N n l k).length ≤ N + k
  | 0 => by show (baseE n N).length ≤ N; simp [baseE]
  | k + 1 => by
    have ih := latTo_len N n l k
    show (match l[k]? with | some r => addE N n (latTo N n l k) r | none => latTo N n l k).length ≤ _
    split
    · unfold addE
      split
      · rw [insE_len]; omega
      · omega
    · omega
/-- What the drawn lattice is like. -/
theorem latM_ok {l : List R4} {pl n : Int} (_hp : 0 ≤ pl) (hn : 1 ≤ n) (hn2 : n ≤ 200) (hl : ∀ r ∈ l, R4OK r) :
    LaOK (latM l pl n) ∧ (∀ e ∈ (latM l pl n).es, e.wd < n ∧ e.co ≤ 31) ∧ (latM l pl n).es.length ≤ 13 ∧ ((latM l pl n).n ≤ 5) ∧ ∀ p, 0 ≤ p → p < (latM l pl n).n → ∃ e ∈ (latM l pl n).es, e.fr = p := by
  have h1 := Int.emod_nonneg pl (show (6 : Int) ≠ 0 by omega)
  have h2 := Int.emod_lt_of_pos pl (show (0 : Int) < 6 by omega)
  unfold latM
  by_cases h0 : pl % 6 = 0
  · simp only [h0, if_true]
    refine ⟨⟨by show (0 : Int) ≤ 0 ∧ (0 : Int) ≤ 40; omega, by simp, by simp, rfl⟩, by simp, by simp, by omega, fun p h3 h4 => by omega⟩
  · simp only [h0, if_false]
    obtain ⟨N, hN⟩ : ∃ N : Nat, pl % 6 = (N : Int) := ⟨(pl % 6).toNat, by omega⟩
    rw [hN]
    simp only [Int.toNat_natCast]
    have hok := latTo_ok (N := N) (n := n) (l := l) (by omega) hn hn2 hl (min l.length 8)
    have hlen := latTo_len N n l (min l.length 8)
    refine ⟨⟨by show (0 : Int) ≤ (N : Int) ∧ (N : Int) ≤ 40; omega, Nat.le_trans hlen (by omega), fun e he => (hok.ok e he).1, hok.inc⟩, fun e he => (hok.ok e he).2, Nat.le_trans hlen (by omega), by omega, fun p h3 h4 => ?_⟩
    obtain ⟨e, he, hp⟩ := hok.full p.toNat (by omega)
    exact ⟨e, he, by rw [hp]; omega⟩
end Go.Proofs.YtfjkmgjjifhdkaaGreat
