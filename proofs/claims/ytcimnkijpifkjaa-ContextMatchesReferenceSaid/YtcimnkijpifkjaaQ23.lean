/-
  CostMB, CostPairs, CxCost, Ret2, joined. No conditions.
-/
import Derived.Test.YtcimnkijpifkjaaQ22
import Derived.Test.YtcimnkijpifkjaaQ16
import Derived.Test.YtcimnkijpifkjaaQ05
/-
  What the statements of layer 11 keep in memory: a model, in a variable of the call's own. What Learn returns, whether it refuses or not.
-/
namespace Go.Proofs.Ytcimnkijpifkjaa
open Go Go.RowKit

structure MB (m : Mo) (g : Nat) (B1 B2 B3 : Option Addr) (d1 d2 d3 : Nat) (W : World) : Prop where
  b : Blk W g 34 #[.slice B1 m.ws.length d1, .slice B2 m.cs.length d2, .slice B3 m.ps.length d3, .int .i64 m.back]
  r : MoR W m B1 B2 B3
  k : (m.ws.length ≤ d1 ∧ d1 ≤ maxLen) ∧ (m.cs.length ≤ d2 ∧ d2 ≤ maxLen) ∧ (m.ps.length ≤ d3 ∧ d3 ≤ maxLen)
section
variable {m : Mo} {g : Nat} {B1 B2 B3 : Option Addr} {d1 d2 d3 : Nat} {W W' : World}
theorem MB.below (h : MB m g B1 B2 B3 d1 d2 d3 W) (hb : Below W.heap.size W W') : MB m g B1 B2 B3 d1 d2 d3 W' := ⟨h.b.below hb h.b.lt, h.r.below hb, h.k⟩
theorem MB.alloc (h : MB m g B1 B2 B3 d1 d2 d3 W) (o : Obj) : MB m g B1 B2 B3 d1 d2 d3 (W.alloc o) := h.below ((Below.refl _ _).alloc (Nat.le_refl _) o)
theorem mb_new {w2 : World} (hm : MoR w2 m B1 B2 B3) (hc : (m.ws.length ≤ d1 ∧ d1 ≤ maxLen) ∧ (m.cs.length ≤ d2 ∧ d2 ≤ maxLen) ∧ (m.ps.length ≤ d3 ∧ d3 ≤ maxLen)) : MB m w2.heap.size B1 B2 B3 d1 d2 d3 (w2.alloc (.cells #[.slice B1 m.ws.length d1, .slice B2 m.cs.length d2, .slice B3 m.ps.length d3, .int .i64 m.back] 34)) :=
  ⟨Blk.new _ _ _, hm.below ((Below.refl _ _).alloc (Nat.le_refl _) _), hc⟩
end
/-- The model and the number that Learn returns. -/
def outM (l : Option Mo) : Mo := l.getD sanZ
def outC (l : Option Mo) : Int := if l.isSome then 0 else 110
def GivesU (l : Option Mo) (w : World) (e : Ending) (w' : World) : Prop :=
  ∃ (o : Mo) (B1 B2 B3 : Option Addr) (d1 d2 d3 : Nat), Hid (o = outM l) ∧ e = .returned (.tuple #[.agg #[.slice B1 o.ws.length d1, .slice B2 o.cs.length d2, .slice B3 o.ps.length d3, .int .i64 o.back], .int .i64 (outC l)]) ∧ MoR w' o B1 B2 B3 ∧
    ((o.ws.length ≤ d1 ∧ d1 ≤ maxLen) ∧ (o.cs.length ≤ d2 ∧ d2 ≤ maxLen) ∧ (o.ps.length ≤ d3 ∧ d3 ≤ maxLen)) ∧ Below w.heap.size w w'
def GivesV (l : Option Mo) (w : World) (e : Ending) (w' : World) : Prop :=
  ∃ (o : Mo) (B1 B2 B3 : Option Addr) (d1 d2 d3 : Nat), Hid (o = outM l) ∧ e = .returned (.tuple #[.agg #[.slice B1 o.ws.length d1, .slice B2 o.cs.length d2, .slice B3 o.ps.length d3, .int .i64 o.back], .int .i64 (outC l)]) ∧ MoR w' o B1 B2 B3 ∧ Below w.heap.size w w'
theorem mor_zero (W : World) : MoR W sanZ none none none := ⟨SlR.nil, SlR.nil, SlR.nil, by decide, by decide, by decide, by simp [sanZ], by simp [sanZ, Within]⟩
theorem givesU {l : Option Mo} {w w' : World} {e : Ending} (h : GivesL l w e w') : GivesU l w e w' := by
  cases l with
  | none => exact ⟨sanZ, none, none, none, 0, 0, 0, rfl, h.1, mor_zero _, by simp [sanZ], h.2⟩
  | some m => obtain ⟨B1, B2, B3, d1, d2, d3, h1, h2, h3, h4⟩ := h; exact ⟨m, B1, B2, B3, d1, d2, d3, rfl, h1, h2, h3, h4⟩
theorem givesV {l : Option Mo} {w w' : World} {e : Ending} (h : GivesR l w e w') : GivesV l w e w' := by
  cases l with
  | none => exact ⟨sanZ, none, none, none, 0, 0, 0, rfl, h.1, mor_zero _, h.2⟩
  | some m => obtain ⟨B1, B2, B3, d1, d2, d3, h1, h2, h4⟩ := h; exact ⟨m, B1, B2, B3, d1, d2, d3, rfl, h1, h2, h4⟩
theorem mem_le_total {l : List Int} (h : ∀ c ∈ l, 0 ≤ c) : ∀ x ∈ l, x ≤ total l := fun x hx => by
  obtain ⟨a, b, rfl⟩ := List.append_of_mem hx
  have h1 := total_nonneg (l := a) (fun x hx => h x (by simp [hx]))
  have h2 := total_nonneg (l := b) (fun x hx => h x (by simp [hx]))
  rw [total_append]
  simp only [total, List.foldr_cons] at *
  omega
theorem wcost_nonneg {m : Mo} (hok : MoOK m) (k : Nat) (hk : k < m.cs.length) : 0 ≤ wcost m k := by
  have hx := List.getElem?_eq_getElem hk
  rw [wcost_at hx]
  have h0 : ∀ c ∈ m.cs, 0 ≤ c := fun c hc => (hok.1.1.2.2.1 c hc).1
  have h1 := mem_le_total h0 _ (List.getElem_mem hk)
  have h2 : 1 ≤ m.ws.length := hok.1.1.1.1.1
  have := lg_mono (x := m.cs[k] + 1) (y := total m.cs + m.ws.length) (by omega)
  omega
theorem wcost_le {m : Mo} {i k : Nat} {x y : Int} (hx : m.cs[i]? = some x) (hy : m.cs[k]? = some y) (h : y ≤ x) : wcost m i ≤ wcost m k := by
  rw [wcost_at hx, wcost_at hy]
  have := lg_mono (x := y + 1) (y := x + 1) (by omega)
  omega
end Go.Proofs.Ytcimnkijpifkjaa

/-
  CostPairs: the plain law, the walk.
-/
namespace Go.Proofs.Ytcimnkijpifkjaa
open Go Go.RowKit

theorem known_of_mem : ∀ {ps : List Pr}, incP ps = true → ∀ p ∈ ps, known ps p.a p.b = p.n
  | [], _, p, hp => by simp at hp
  | q :: l, h, p, hp => by
    rw [known_cons h]
    rcases List.mem_cons.1 hp with rfl | hp
    · rw [if_pos ⟨rfl, rfl⟩]
    · have h1 := (incP_cons.1 h).1 p hp
      rw [lessP_iff] at h1
      rw [if_neg (by omega)]
      exact known_of_mem (incP_cons.1 h).2 p hp
theorem only_sum {ps : List Pr} {i : Nat} {p : Pr} (hp : ps[i]? = some p) (h : ∀ j q, j ≠ i → ps[j]? = some q → q.a ≠ p.a) : sumAt ps p.a = p.n := by
  obtain ⟨hi, he⟩ := List.getElem?_eq_some_iff.1 hp
  have e : ps = ps.take i ++ p :: ps.drop (i + 1) := by rw [← he]; simp
  rw [e, sumAt_append, sumAt_cons, if_pos rfl, sumAt_none (fun q hq => by
    obtain ⟨j, hj, hjq⟩ := mem_take_get hq
    exact h j q (by omega) hjq), sumAt_none (fun q hq => by
    obtain ⟨j, hj, hjq⟩ := mem_drop_get hq
    exact h j q (by omega) hjq)]
  omega
theorem pcost_known {m : Mo} (hok : MoOK m) {p : Pr} (hp : p ∈ m.ps) : pcost m p.a p.b.toNat = lg (sumAt m.ps p.a) - lg p.n := by
  have hr := (hok.1.2.2.1 p hp).1
  unfold PRange at hr
  have hk : known m.ps p.a ((p.b.toNat : Nat) : Int) = p.n := by
    rw [Int.toNat_of_nonneg (by omega)]; exact known_of_mem hok.1.2.2.2 p hp
  unfold pcost
  rw [if_neg (by omega), hk, if_neg (by omega)]
theorem n_le_sum {ps : List Pr} {n : Nat} (h : ∀ p ∈ ps, PRange n p) {p : Pr} (hp : p ∈ ps) : p.n ≤ sumAt ps p.a := by
  unfold sumAt
  refine mem_le_total (fun c hc => ?_) _ (List.mem_map.2 ⟨p, List.mem_filter.2 ⟨hp, by simp⟩, rfl⟩)
  obtain ⟨q, hq, rfl⟩ := List.mem_map.1 hc
  have := (h q (List.mem_filter.1 hq).1).2.2
  omega
theorem pcost_nonneg {m : Mo} (hok : MoOK m) {p : Pr} (hp : p ∈ m.ps) : 0 ≤ pcost m p.a p.b.toNat := by
  rw [pcost_known hok hp]
  have := lg_mono (n_le_sum (fun q hq => (hok.1.2.2.1 q hq).1) hp)
  omega
theorem pcost_le {m : Mo} (hok : MoOK m) {p q : Pr} (hp : p ∈ m.ps) (hq : q ∈ m.ps) (ha : q.a = p.a) (hn : q.n ≤ p.n) : pcost m p.a p.b.toNat ≤ pcost m q.a q.b.toNat := by
  rw [pcost_known hok hp, pcost_known hok hq, ha]
  have := lg_mono hn
  omega
theorem pair_anyI (m : Mo) (A1 A2 A3 : Option Addr) (c1 c2 c3 : Nat) (a b : Int) (w : World) (h : MoR w m A1 A2 A3) (hok : MoOK m) (hb0 : 0 ≤ b) (hb : b < m.cs.length) (ha : a < 65536) (hc3 : m.ps.length ≤ c3) (hm3 : c3 ≤ maxLen) :
    Calls Try.prog 41 #[.agg #[.slice A1 m.ws.length c1, .slice A2 m.cs.length c2, .slice A3 m.ps.length c3, .int .i64 m.back], .int .i64 a, .int .i64 b] w fun e w' => e = .returned (.int .i64 (pcost m a b.toNat)) ∧ Below w.heap.size w w' := by
  obtain ⟨k, rfl⟩ := Int.eq_ofNat_of_zero_le hb0
  exact pair_any m A1 A2 A3 c1 c2 c3 a k w h hok (by omega) ha hc3 hm3
theorem findI_cases (ps : List Pr) (a b : Int) : (findI ps a b < 0 ∧ known ps a b = 0) ∨ 0 ≤ findI ps a b := by
  unfold findI
  split
  · right; omega
  · rename_i h
    left
    refine ⟨by decide, known_none fun q hq he => ?_⟩
    rw [List.findIdx?_eq_none_iff] at h
    have := h q hq
    simp [he.1, he.2] at this
/-- What the inner loop over the pairs has seen: no other pair after the same word, if b is set. -/
def OnlyTo (ps : List Pr) (i : Nat) (p : Pr) (k : Nat) (b : Bool) : Prop := b = true → ∀ j q, j < k → j ≠ i → ps[j]? = some q → q.a ≠ p.a
theorem OnlyTo.skip {ps : List Pr} {i k : Nat} {p q : Pr} {b : Bool} (h : OnlyTo ps i p k b) (hq : ps[k]? = some q) (hn : k = i ∨ q.a ≠ p.a) : OnlyTo ps i p (k + 1) b := fun hb j z hj hji hz => by
  rcases Nat.lt_succ_iff_lt_or_eq.1 hj with hj | rfl
  · exact h hb j z hj hji hz
  · rw [hq] at hz; rw [← Option.some.inj hz]
    rcases hn with hn | hn
    · exact absurd hn hji
    · exact hn
theorem OnlyTo.no (ps : List Pr) (i k : Nat) (p : Pr) : OnlyTo ps i p k false := fun h => by cases h
theorem OnlyTo.all {m : Mo} {i : Nat} {p : Pr} (h : OnlyTo m.ps i p m.ps.length true) (hok : MoOK m) (hp : m.ps[i]? = some p) : pcost m p.a p.b.toNat = 0 := by
  rw [pcost_known hok (List.mem_of_getElem? hp), only_sum hp (fun j q hj hq => h rfl j q (List.getElem?_eq_some_iff.1 hq).1 hj hq)]
  omega
end Go.Proofs.Ytcimnkijpifkjaa

/-
  The plain law of layer 20: costs of words are small numbers. No program in sight; no conditions.
-/
namespace Go.Proofs.Ytcimnkijpifkjaa
open List

theorem pcost_in {m : Mo} (hok : MoOK m) (a : Int) {k : Nat} (hk : k < m.cs.length) : 0 ≤ pcost m a k ∧ pcost m a k ≤ 1512 := by
  have hw0 := wcost_nonneg hok k hk
  have hl : m.ws.length ≤ 200 := hok.1.1.1.1.2
  have hw1 := (wcost_bd m k hok.1.1.2 hk (by omega)).2
  have hb := hok.2
  unfold pcost
  split
  · omega
  · rename_i ha
    split
    · omega
    · rename_i hn
      rcases known_spec (a := a) (b := (k : Int)) hok.1.2 with ⟨i, p, hp, hpa, hpb, hkn, _⟩ | ⟨hz, _⟩
      · have hm : p ∈ m.ps := mem_of_getElem? hp
        have h1 := n_le_sum (fun q hq => (hok.1.2.2.1 q hq).1) hm
        rw [hpa] at h1
        rw [hkn]
        have h2 := lg_mono h1
        have h3 := (sumAt_ok (a := a) hok.1.2)
        have h4 := lg_bd (sumAt m.ps a) (by omega)
        have h5 := (hok.1.2.2.1 p hm).2.1
        have h6 := lg_bd p.n (by omega)
        omega
      · exact absurd hz hn
theorem cx_mkLk_ok {x : La} {m : Mo} {prev : Int} (hm : MoOK m) (hf : FitsL x m.ws.length) (hco : ∀ e ∈ x.es, e.co ≤ 1000) {i k : Nat} {p : Int × Int} {e : Ed} (hp : (nodesL x prev)[i]? = some p) (he : x.es[k]? = some e) (hfr : e.fr = p.1) :
    LkOK ((nodesL x prev).length : Int) (cx_mkLk x m prev i p.2 k) ∧ (cx_mkLk x m prev i p.2 k).cost = e.co + pcost m p.2 e.wd.toNat ∧ e.co ≤ (cx_mkLk x m prev i p.2 k).cost := by
  rw [cx_mkLk_at he]
  have hem := mem_of_getElem? he
  have hok := hf.1.2.2.1 e hem
  have hwd := hf.2 e hem
  have hcs : m.cs.length = m.ws.length := hm.1.1.2.1
  have hce := hco e hem
  have hc := pcost_in hm p.2 (k := e.wd.toNat) (by have := hok.2.1; omega)
  have hin := arr_in hf.1 prev hem
  have hg := ix_get hin
  obtain ⟨hil, _⟩ := List.getElem?_eq_some_iff.1 hg
  have hlt := node_lt hf.1 hp hg (by have := hok.1; unfold arrL; split <;> simp <;> omega)
  obtain ⟨hkl, _⟩ := List.getElem?_eq_some_iff.1 he
  have := hf.1.2.1
  have h3 := hok.2.2
  refine ⟨⟨?_, ?_, ?_, ?_, ?_⟩, rfl, ?_⟩
  · show (0 : Int) ≤ (i : Int); omega
  · show (i : Int) < (ixL (nodesL x prev) (arrL x.n e) : Int); omega
  · show (ixL (nodesL x prev) (arrL x.n e) : Int) < _; omega
  · show (0 : Int) ≤ (k : Int) ∧ (k : Int) ≤ 1000000; omega
  · show 0 ≤ e.co + pcost m p.2 e.wd.toNat ∧ e.co + pcost m p.2 e.wd.toNat ≤ 1000000; omega
  · show e.co ≤ e.co + pcost m p.2 e.wd.toNat; omega
end Go.Proofs.Ytcimnkijpifkjaa

/-
  Returns of a struct that lies in a block of the call's own, beside two other values.
-/
namespace Go.Proofs.Ytcimnkijpifkjaa
open Go Go.RowKit

section
variable {P : Program} {fn : Func} {p u v : Tmp} {ty : TypeId} {R : Ending → World → Prop} {a : Act} {w : World} {g : Nat} {t : TypeId} {cs : Array Value} {d : TypeDesc}
theorem results_cell_tmp2 (h : fn.results = #[.cell p ty, .tmp u, .tmp v]) (tmps : Array Value) (P : Program) (w : World) :
    (results fn tmps).run P w = ((asAddr (tmps.getD p undef)).run P w).andThen fun a w₁ => ((loadVar ty a).run P w₁).andThen fun x w₂ => .ok (.tuple #[x, tmps.getD u undef, tmps.getD v undef]) w₂ := by
  simp only [results, h]
  simp [Sem.run_bind, Result.andThen]
theorem ret_cell_tmp2 (hB : Blk w g t cs) (h : fn.results = #[.cell p ty, .tmp u, .tmp v]) (hp : a.tmps.getD p undef = .pointer (some ⟨g, 0, none⟩))
    (hu : P.underlying ty = some d) (hd : (match d with | .struct _ | .array _ _ => true | _ => false) = true) (hi : (P.info? ty).map (·.size) = some cs.size) (hdf : a.defers = [])
    (hR : R (.returned (.tuple #[.agg cs, a.tmps.getD u undef, a.tmps.getD v undef])) w) : bodyPost P fn R .ret a w := by
  refine bodyPost_ret ?_ hdf hR
  rw [results_cell_tmp2 h]
  have h1 : (loadVar ty ⟨g, 0, none⟩).run P w = .ok (.agg cs) w := run_loadVar_row w g t ty cs (0, 0) d hB hu hd hi
  rw [hp]
  show (((asAddr (.pointer (some ⟨g, 0, none⟩))).run P w).andThen _) = _
  simp only [asAddr, Sem.run_pure, Result.andThen_ok, h1]
end
end Go.Proofs.Ytcimnkijpifkjaa
