/-
  CxGr, CxLb, joined. No conditions.
-/
import Derived.Test.YtcimnkijpifkjaaQ23
import Derived.Test.YtcimnkijpifkjaaQ27
import Derived.Test.YtcimnkijpifkjaaQ01
import Derived.Test.YtcimnkijpifkjaaQ29
/-
  The plain law of layer 20: the ways through a lattice's graph are the ways through the lattice, with their costs. No program in sight; no conditions.
-/
namespace Go.Proofs.Ytcimnkijpifkjaa
open List

theorem grL_ok {x : La} {m : Mo} {prev : Int} (hm : MoOK m) (hf : FitsL x m.ws.length) (hco : ∀ e ∈ x.es, e.co ≤ 1000) (hl : x.es.length ≤ 100) : GrOK (grL x m prev) := by
  have h1 := nodesL_len x prev
  refine ⟨?_, ?_, fun l h => ?_⟩
  · show 1 ≤ ((nodesL x prev).length : Int) ∧ ((nodesL x prev).length : Int) ≤ 2000; omega
  · show (lksTo x m prev (nodesL x prev).length).length ≤ 20000
    have h2 := lksTo_len x m prev (nodesL x prev).length
    have h3 : (nodesL x prev).length * x.es.length ≤ 102 * 100 := Nat.mul_le_mul (by omega) hl
    omega
  · obtain ⟨i, k, p, e, h2, h3, h4, rfl⟩ := lksL_mem.1 h
    exact (cx_mkLk_ok hm hf hco h2 h3 h4).1
theorem lksTo_fr {x : La} {m : Mo} {prev : Int} {v : Nat} {p : Int × Int} (hv : (nodesL x prev)[v]? = some p) : ∀ j, j ≤ (nodesL x prev).length → (lksTo x m prev j).filter (fun l => decide (l.fr = (v : Int))) = if v < j then (frE x p.1).map (cx_mkLk x m prev v p.2) else []
  | 0, _ => by simp [lksTo]
  | j + 1, hj => by
    have hl : (nodesL x prev)[j]? = some (nodesL x prev)[j] := List.getElem?_eq_getElem (by omega)
    rw [lksTo_succ hl, filter_append, lksTo_fr hv j (by omega)]
    have hfr : ∀ l ∈ (frE x (nodesL x prev)[j].1).map (cx_mkLk x m prev j (nodesL x prev)[j].2), l.fr = (j : Int) := fun l h => by
      obtain ⟨k, hk, rfl⟩ := mem_map.1 h
      obtain ⟨e, he, _⟩ := frE_mem.1 hk
      rw [cx_mkLk_at he]
    by_cases h1 : v < j
    · rw [if_pos h1, if_pos (by omega), filter_eq_nil_iff.2 (fun l h => by rw [hfr l h]; simp; omega), append_nil]
    · by_cases h2 : v = j
      · subst h2
        rw [hv] at hl
        obtain rfl := Option.some.inj hl
        rw [if_neg h1, if_pos (by omega), nil_append, filter_eq_self.2 (fun l h => by rw [hfr l h]; simp)]
      · rw [if_neg h1, if_neg (by omega), nil_append, filter_eq_nil_iff.2 (fun l h => by rw [hfr l h]; simp; omega)]
theorem lvTo_map (ls : List Lk) (v : Int) : ∀ k, k ≤ ls.length → (lvTo ls v k).map (fun i : Int => ls.getD i.toNat default) = (ls.take k).filter (fun l => decide (l.fr = v))
  | 0, _ => by simp [lvTo]
  | k + 1, hk => by
    have hl : ls[k]? = some ls[k] := List.getElem?_eq_getElem (by omega)
    rw [lvTo_succ hl, take_snoc_of hl, filter_append, ← lvTo_map ls v k (by omega)]
    have hd : ls[k]?.getD default = ls[k] := by rw [hl]; rfl
    split
    · rename_i h
      rw [map_append]
      simp [h]
      exact hd
    · rename_i h
      simp [h]
theorem lvs_map (g : Gr) (v : Int) : (lvs g v).map (lkAt g) = g.ls.filter (fun l => decide (l.fr = v)) := by
  have := lvTo_map g.ls v g.ls.length (Nat.le_refl _)
  rw [take_length] at this
  exact this
theorem lvs_node {x : La} {m : Mo} {prev : Int} {v : Nat} {p : Int × Int} (hv : (nodesL x prev)[v]? = some p) : (lvs (grL x m prev) (v : Int)).map (lkAt (grL x m prev)) = (frE x p.1).map (cx_mkLk x m prev v p.2) := by
  rw [lvs_map]
  show (lksTo x m prev (nodesL x prev).length).filter _ = _
  rw [lksTo_fr hv _ (Nat.le_refl _), if_pos (List.getElem?_eq_some_iff.1 hv).1]
/-- The links are in order. -/
theorem lksTo_sorted {x : La} {m : Mo} {prev : Int} : ∀ j, j ≤ (nodesL x prev).length → (lksTo x m prev j).Pairwise (fun a b => a.fr < b.fr ∨ a.fr = b.fr ∧ a.lb < b.lb)
  | 0, _ => Pairwise.nil
  | j + 1, hj => by
    have hl : (nodesL x prev)[j]? = some (nodesL x prev)[j] := List.getElem?_eq_getElem (by omega)
    rw [lksTo_succ hl]
    refine pairwise_append.2 ⟨lksTo_sorted j (by omega), ?_, fun a ha b hb => .inl ?_⟩
    · rw [pairwise_map]
      refine (frTo_inc (v := (nodesL x prev)[j].1) x.es.length (Nat.le_refl _)).imp_of_mem fun {a b} ha hb hab => .inr ?_
      obtain ⟨e, he, _⟩ := frE_mem.1 ha
      obtain ⟨f, hf, _⟩ := frE_mem.1 hb
      rw [cx_mkLk_at he, cx_mkLk_at hf]
      exact ⟨rfl, by show (a : Int) < (b : Int); omega⟩
    · obtain ⟨i, k, p, e, h1, _, h3, _, rfl⟩ := (lksTo_mem j (by omega)).1 ha
      obtain ⟨k2, hk2, rfl⟩ := mem_map.1 hb
      obtain ⟨f, hf, _⟩ := frE_mem.1 hk2
      rw [cx_mkLk_at h3, cx_mkLk_at hf]
      show (i : Int) < (j : Int)
      omega
theorem lksL_sorted (x : La) (m : Mo) (prev : Int) : (lksL x m prev).Pairwise (fun a b => a.fr < b.fr ∨ a.fr = b.fr ∧ a.lb < b.lb) := lksTo_sorted _ (Nat.le_refl _)
/-- The edges of the links of a way. -/
def labL (g : Gr) (w : List Int) : List Int := w.map fun i => (lkAt g i).lb
theorem lks_one {x : La} {m : Mo} {prev a b : Int} (ha : 0 ≤ a ∧ a < (grL x m prev).ls.length) (hb : 0 ≤ b ∧ b < (grL x m prev).ls.length) (h1 : (lkAt (grL x m prev) a).fr = (lkAt (grL x m prev) b).fr) (h2 : (lkAt (grL x m prev) a).lb = (lkAt (grL x m prev) b).lb) : a = b := by
  have h3 := lkAt_mem ha
  have h4 := lkAt_mem hb
  obtain ⟨l1, e1⟩ := List.getElem?_eq_some_iff.1 h3
  obtain ⟨l2, e2⟩ := List.getElem?_eq_some_iff.1 h4
  have hs := pairwise_iff_getElem.1 (lksL_sorted x m prev)
  rcases Nat.lt_trichotomy a.toNat b.toNat with h | h | h
  · have := hs _ _ l1 l2 h
    have e3 : (lksL x m prev)[a.toNat] = lkAt (grL x m prev) a := e1
    have e4 : (lksL x m prev)[b.toNat] = lkAt (grL x m prev) b := e2
    rw [e3, e4] at this
    omega
  · omega
  · have := hs _ _ l2 l1 h
    have e3 : (lksL x m prev)[a.toNat] = lkAt (grL x m prev) a := e1
    have e4 : (lksL x m prev)[b.toNat] = lkAt (grL x m prev) b := e2
    rw [e3, e4] at this
    omega
/-- What a link at a node is. -/
theorem lk_node {x : La} {m : Mo} {prev : Int} {v : Nat} {p : Int × Int} (hv : (nodesL x prev)[v]? = some p) {i : Int} (hi : i ∈ lvs (grL x m prev) (v : Int)) : ∃ (k : Nat) (e : Ed), x.es[k]? = some e ∧ e.fr = p.1 ∧ lkAt (grL x m prev) i = ⟨v, ixL (nodesL x prev) (arrL x.n e), k, e.co + pcost m p.2 e.wd.toNat⟩ := by
  have h1 : lkAt (grL x m prev) i ∈ (lvs (grL x m prev) (v : Int)).map (lkAt (grL x m prev)) := mem_map.2 ⟨i, hi, rfl⟩
  rw [lvs_node hv] at h1
  obtain ⟨k, hk, h2⟩ := mem_map.1 h1
  obtain ⟨e, he, hf⟩ := frE_mem.1 hk
  exact ⟨k, e, he, hf, by rw [← h2, cx_mkLk_at he]⟩
theorem node_place {x : La} (hf : LaOK x) {prev : Int} {v : Nat} {p : Int × Int} (hv : (nodesL x prev)[v]? = some p) : p.1 = x.n ↔ (v : Int) = ((nodesL x prev).length : Int) - 1 := by
  obtain ⟨hlt, _⟩ := List.getElem?_eq_some_iff.1 hv
  by_cases hn : x.n = 0
  · have e : nodesL x prev = [(0, prev)] := by unfold nodesL tailL; rw [if_pos hn]
    rw [e] at hv hlt ⊢
    simp at hlt
    subst hlt
    simp at hv
    subst hv
    simp [hn]
  · have h0 := hf.1.1
    have hl := node_last hf prev (by omega)
    constructor
    · intro hp
      rcases Nat.lt_or_ge v ((nodesL x prev).length - 1) with h1 | h1
      · have hpm : p ∈ nodesL x prev := mem_of_getElem? hv
        exfalso
        have h2 : p = (x.n, -1) := by
          unfold nodesL tailL at hpm
          rw [if_neg hn] at hpm
          rcases mem_cons.1 hpm with rfl | h3
          · exact absurd hp.symm hn
          · rw [sortU_mem, arr_mem hf] at h3
            rcases h3 with h3 | h3
            · exact h3
            · have := h3.1; omega
        rw [h2] at hv
        have := ix_at (nodesL_nodup hf prev) hv
        have := ix_at (nodesL_nodup hf prev) hl
        omega
      · omega
    · intro hp
      rw [show v = (nodesL x prev).length - 1 by omega, hl] at hv
      rw [← Option.some.inj hv]
theorem arr_node {x : La} (hf : LaOK x) (prev : Int) {e : Ed} (he : e ∈ x.es) : ∃ q, (nodesL x prev)[ixL (nodesL x prev) (arrL x.n e)]? = some q ∧ q.1 = e.to ∧ (q.1 ≠ x.n → q.2 = e.wd) := by
  refine ⟨_, ix_get (arr_in hf prev he), ?_, ?_⟩
  · unfold arrL; split
    · rename_i h; exact h.symm
    · rfl
  · unfold arrL; split
    · intro h; exact absurd rfl h
    · intro _; rfl
/-- A way through the graph is a way through the lattice, and costs as much. -/
theorem way_lab {x : La} {m : Mo} {prev : Int} (hg : GrOK (grL x m prev)) (hf : LaOK x) : ∀ (w : List Int) (v : Nat) (p : Int × Int), (nodesL x prev)[v]? = some p → wayB (grL x m prev) (v : Int) w = true →
    WayTo x p.1 (labL (grL x m prev) w) x.n ∧ sumC (grL x m prev) w = wsum x m p.2 (labL (grL x m prev) w)
  | [], v, p, hv, hw => by
    have h1 : (v : Int) = ((nodesL x prev).length : Int) - 1 := of_decide_eq_true hw
    exact ⟨(node_place hf hv).2 h1, rfl⟩
  | i :: w, v, p, hv, hw => by
    obtain ⟨h1, h2⟩ := way_cons.1 hw
    obtain ⟨k, e, he, hfr, hl⟩ := lk_node hv h1
    obtain ⟨q, hq, hq1, hq2⟩ := arr_node hf prev (mem_of_getElem? he)
    rw [hl] at h2
    obtain ⟨h3, h4⟩ := way_lab hg hf w _ q hq h2
    have he' : x.es[(k : Int).toNat]? = some e := by rw [Int.toNat_natCast]; exact he
    have hlab : labL (grL x m prev) (i :: w) = (k : Int) :: labL (grL x m prev) w := by
      show (lkAt (grL x m prev) i).lb :: _ = _
      rw [hl]
      rfl
    rw [hlab]
    refine ⟨⟨e, by omega, he', hfr, hq1 ▸ h3⟩, ?_⟩
    show (lkAt (grL x m prev) i).cost + sumC (grL x m prev) w = _
    rw [hl, wsum_cons he', h4]
    show e.co + pcost m p.2 e.wd.toNat + _ = _
    by_cases hqn : q.1 = x.n
    · have hlast := (node_place hf hq).1 hqn
      cases w with
      | nil => rfl
      | cons j w =>
        obtain ⟨h5, _⟩ := way_cons.1 h2
        obtain ⟨a, b, c⟩ := lvs_iff.1 h5
        have c' : (lkAt (grL x m prev) j).fr = (ixL (nodesL x prev) (arrL x.n e) : Int) := c
        have := lkAt_ok hg ⟨a, b⟩
        have h6 := this.lt
        have h7 := this.to
        have hgn : (grL x m prev).n = ((nodesL x prev).length : Int) := rfl
        rw [hgn] at h7
        omega
    · rw [hq2 hqn]
theorem lab_inj {x : La} {m : Mo} {prev : Int} : ∀ (w w' : List Int) (v : Int), wayB (grL x m prev) v w = true → wayB (grL x m prev) v w' = true → labL (grL x m prev) w = labL (grL x m prev) w' → w = w'
  | [], [], _, _, _, _ => rfl
  | [], _ :: _, _, _, _, h => by simp [labL] at h
  | _ :: _, [], _, _, _, h => by simp [labL] at h
  | i :: w, j :: w', v, h1, h2, h => by
    obtain ⟨a1, a2⟩ := way_cons.1 h1
    obtain ⟨b1, b2⟩ := way_cons.1 h2
    simp only [labL, map_cons, cons.injEq] at h
    obtain ⟨a3, a4, a5⟩ := lvs_iff.1 a1
    obtain ⟨b3, b4, b5⟩ := lvs_iff.1 b1
    obtain rfl := lks_one ⟨a3, a4⟩ ⟨b3, b4⟩ (a5.trans b5.symm) h.1
    rw [lab_inj w w' _ a2 b2 h.2]
theorem lab_ex {x : La} {m : Mo} {prev : Int} (hf : LaOK x) : ∀ (l : List Int) (v : Nat) (p : Int × Int), (nodesL x prev)[v]? = some p → WayTo x p.1 l x.n → ∃ w, wayB (grL x m prev) (v : Int) w = true ∧ labL (grL x m prev) w = l
  | [], v, p, hv, hw => ⟨[], decide_eq_true ((node_place hf hv).1 hw), rfl⟩
  | k :: l, v, p, hv, ⟨e, h0, h1, h2, h3⟩ => by
    obtain ⟨q, hq, hq1, _⟩ := arr_node hf prev (mem_of_getElem? h1)
    obtain ⟨w, hw, hl⟩ := lab_ex hf l _ q hq (hq1 ▸ h3)
    have hm : cx_mkLk x m prev v p.2 k.toNat ∈ (lvs (grL x m prev) (v : Int)).map (lkAt (grL x m prev)) := by
      rw [lvs_node hv]
      exact mem_map.2 ⟨_, frE_mem.2 ⟨e, h1, h2⟩, rfl⟩
    obtain ⟨i, hi, hli⟩ := mem_map.1 hm
    rw [cx_mkLk_at h1] at hli
    refine ⟨i :: w, way_cons.2 ⟨hi, by rw [hli]; exact hw⟩, ?_⟩
    show (lkAt (grL x m prev) i).lb :: labL (grL x m prev) w = _
    rw [hli, hl]
    show (k.toNat : Int) :: l = _
    rw [Int.toNat_of_nonneg h0]
theorem lab_len (g : Gr) (w : List Int) : (labL g w).length = w.length := length_map _
/-- A way through the lattice takes edges of it. -/
theorem wayTo_mem {x : La} : ∀ {l : List Int} {a b : Int}, WayTo x a l b → ∀ k ∈ l, 0 ≤ k ∧ ∃ e, x.es[k.toNat]? = some e
  | k :: l, _, _, ⟨e, h0, h1, _, h3⟩, i, hi => by
    rcases mem_cons.1 hi with rfl | hi
    · exact ⟨h0, e, h1⟩
    · exact wayTo_mem h3 i hi
end Go.Proofs.Ytcimnkijpifkjaa

/-
  Layer 20: what the laws' build answers for lattices that fit. No conditions.
-/
namespace Go.Proofs.Ytcimnkijpifkjaa
open Go Go.RowKit

theorem own_ge {w : World} {base n k c : Nat} {e : TypeId} {s : Nat} {A : Option Addr} {xs : List Value} (h : w.ownsRow base e s (.slice A n c) k xs) : ∀ a, A = some a → base ≤ a.block := fun a ha => own_block_le h a.block (by rw [ha]; rfl)
theorem ed_any : ∀ (w w' : World) (x : Ed) (vs : List Value), REd w x vs → REd w' x vs := fun _ _ _ _ h => h
theorem buM_ok {x : La} {m : Mo} {prev : Int} (hm : MoOK m) (hf : FitsL x m.ws.length) (hp : -1 ≤ prev ∧ prev < (m.ws.length : Int)) : buM x m prev = ⟨grL x m prev, lastL x prev, 0⟩ := by
  unfold buM
  rw [if_pos hm, if_pos ⟨hp, hf⟩]
theorem lastL_len (x : La) (prev : Int) : (lastL x prev).length = (nodesL x prev).length := List.length_map _
theorem lawbuild_ok (x : La) (A : Option Addr) (c : Nat) (m : Mo) (A1 A2 A3 : Option Addr) (c1 c2 c3 : Nat) (prev : Int) (w : World) (hx : SlR 4 REd w A x.es) (hes : x.es.length ≤ 13) (hm : MoR w m A1 A2 A3) (hc3 : m.ps.length ≤ c3) (hm3 : c3 ≤ maxLen)
    (hok : MoOK m) (hf : FitsL x m.ws.length) (hp : -1 ≤ prev ∧ prev < (m.ws.length : Int)) {nl : Nat} (hnl : (nodesL x prev).length = nl) {G : List Lk} (hG : lksL x m prev = G) {L : List Int} (hL : lastL x prev = L) :
    Calls Try.prog 13 #[.agg #[.int .i64 x.n, .slice A x.es.length c], .agg #[.slice A1 m.ws.length c1, .slice A2 m.cs.length c2, .slice A3 m.ps.length c3, .int .i64 m.back], .int .i64 prev] w fun e w' => ∃ (LA LB : Option Addr) (cA cB : Nat), e = .returned (.agg #[.int .i64 (nl : Int), .slice LA G.length cA, .slice LB nl cB, .int .i64 0]) ∧ SlR 4 RLk w' LA G ∧ SlR 1 RInt w' LB L ∧ (G.length ≤ cA ∧ cA ≤ maxLen) ∧ Below w.heap.size w w' := by
  subst hnl hG hL
  have := lawbuild_any x A c m A1 A2 A3 c1 c2 c3 prev w hx (by omega) hm hc3 hm3
  rw [buM_ok hok hf hp] at this
  refine this.mono ?_
  rintro e w' ⟨LA, LB, cA, cB, he, h1, h2, h3, h4, _, _⟩
  refine ⟨LA, LB, cA, cB, ?_, h1, h2, h3, h4⟩
  rw [he]
  show Ending.returned (.agg #[.int .i64 (grL x m prev).n, .slice LA (lksL x m prev).length cA, .slice LB (lastL x prev).length cB, .int .i64 0]) = _
  rw [lastL_len]
  rfl
/-- What a link of a lattice's graph is. -/
structure LkFact (x : La) (nl : Nat) (L : List Int) (l : Lk) (q t : Nat) (e : Ed) : Prop where
  lb : l.lb = (q : Int)
  tq : l.to = (t : Int)
  ed : x.es[q]? = some e
  fr : 0 ≤ l.fr
  lt : l.fr < (t : Int)
  tl : t < nl
  co : e.co ≤ l.cost
  top : e.to ≤ x.n
  last : e.to = x.n ↔ (t : Int) = (nl : Int) - 1
  word : e.to < x.n → L[t]? = some e.wd
theorem lk_fact {x : La} {m : Mo} {prev : Int} (hm : MoOK m) (hf : FitsL x m.ws.length) (hco : ∀ e ∈ x.es, e.co ≤ 1000) {l : Lk} (h : l ∈ lksL x m prev) : ∃ q t e, LkFact x (nodesL x prev).length (lastL x prev) l q t e := by
  obtain ⟨i, k, p, e, h2, h3, h4, rfl⟩ := lksL_mem.1 h
  have h5 := cx_mkLk_ok hm hf hco h2 h3 h4
  obtain ⟨q, hq, hq1, hq2⟩ := arr_node hf.1 prev (List.mem_of_getElem? h3)
  rw [cx_mkLk_at h3] at h5 ⊢
  obtain ⟨hql, _⟩ := List.getElem?_eq_some_iff.1 hq
  have hek := hf.1.2.2.1 e (List.mem_of_getElem? h3)
  refine ⟨k, _, e, rfl, rfl, h3, h5.1.fr, h5.1.lt, hql, h5.2.2, hek.1.2.2, ?_, fun hlt => ?_⟩
  · rw [← hq1]
    exact node_place hf.1 hq
  · unfold lastL
    rw [List.getElem?_map, hq]
    show some q.2 = some e.wd
    rw [hq2 (by rw [hq1]; omega)]
theorem lastL_first (x : La) (prev : Int) : (lastL x prev)[0]? = some prev := by
  unfold lastL
  rw [List.getElem?_map, node_first]
  rfl
theorem lks_next {x : La} {m : Mo} {prev : Int} {j : Nat} {a b : Lk} (ha : (lksL x m prev)[j]? = some a) (hb : (lksL x m prev)[j + 1]? = some b) : a.fr < b.fr ∨ a.fr = b.fr ∧ a.lb < b.lb := by
  obtain ⟨l1, e1⟩ := List.getElem?_eq_some_iff.1 ha
  obtain ⟨l2, e2⟩ := List.getElem?_eq_some_iff.1 hb
  have := List.pairwise_iff_getElem.1 (lksL_sorted x m prev) j (j + 1) l1 l2 (by omega)
  rw [e1, e2] at this
  exact this
end Go.Proofs.Ytcimnkijpifkjaa
