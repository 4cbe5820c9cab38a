/-
  CxGr, CxLb, CxCnt, CxWalkS, CxWalkN, joined. No conditions.
-/
import Derived.Test.YtfjkmgjjifhdkaaZ34
import Derived.Test.YtfjkmgjjifhdkaaZ39
import Derived.Test.YtfjkmgjjifhdkaaZ01
import Derived.Test.YtfjkmgjjifhdkaaZ38
import Derived.Test.YtfjkmgjjifhdkaaZ41
import Derived.Test.YtfjkmgjjifhdkaaZ18
import Derived.Test.YtfjkmgjjifhdkaaZ07
import Derived.Test.YtfjkmgjjifhdkaaZ29
import Derived.Test.YtfjkmgjjifhdkaaZ03
import Derived.Test.YtfjkmgjjifhdkaaZ02
import Derived.Test.YtfjkmgjjifhdkaaZ35
import Derived.Deep.DeepCutAuto
/-
  The plain law of layer 20: the ways through a lattice's graph are the ways through the lattice, with their costs. No program in sight; no conditions.
-/
namespace Go.Proofs.Ytfjkmgjjifhdkaa
open List

theorem grL_ok {x : La} {m : Mo} {prev : Int} (hm : MoOK m) (hf : FitsL x m.ws.length) (hco : ∀ e ∈ x.es, e.co ≤ 1000) (hl : x.es.length ≤ 100) : GrOK (grL x m prev) := by
  have h1 := nodesL_len x prev
  refine ⟨?_, ?_, fun l h => ?_⟩
  · show 1 ≤ ((nodesL x prev).length : Int) ∧ ((nodesL x prev).length : Int) ≤ 2000; omega
  · show (lksTo x m prev (nodesL x prev).length).length ≤ 20000
    have h2 := lksTo_len x m prev (nodesL x prev).length
    have h3 : (nodesL x prev).length * x.es.length ≤ 102 * 100 := Nat.mul_le_mul (by omega) hl
    omega
  · obtain ⟨i, k, p, e, h2, h3, h4, rfl⟩ := lksL_mem.1 h
    exact (cx_mkLk_ok hm hf hco h2 h3 h4).1
theorem lksTo_fr {x : La} {m : Mo} {prev : Int} {v : Nat} {p : Int × Int} (hv : (nodesL x prev)[v]? = some p) : ∀ j, j ≤ (nodesL x prev).length → (lksTo x m prev j).filter (fun l => decide (l.fr = (v : Int))) = if v < j then (frE x p.1).map (cx_mkLk x m prev v p.2) else []
  | 0, _ => by simp [lksTo]
  | j + 1, hj => by
    have hl : (nodesL x prev)[j]? = some (nodesL x prev)[j] := List.getElem?_eq_getElem (by omega)
    rw [lksTo_succ hl, filter_append, lksTo_fr hv j (by omega)]
    have hfr : ∀ l ∈ (frE x (nodesL x prev)[j].1).map (cx_mkLk x m prev j (nodesL x prev)[j].2), l.fr = (j : Int) := fun l h => by
      obtain ⟨k, hk, rfl⟩ := mem_map.1 h
      obtain ⟨e, he, _⟩ := frE_mem.1 hk
      rw [cx_mkLk_at he]
    by_cases h1 : v < j
    · rw [if_pos h1, if_pos (by omega), filter_eq_nil_iff.2 (fun l h => by rw [hfr l h]; simp; omega), append_nil]
    · by_cases h2 : v = j
      · subst h2
        rw [hv] at hl
        obtain rfl := Option.some.inj hl
        rw [if_neg h1, if_pos (by omega), nil_append, filter_eq_self.2 (fun l h => by rw [hfr l h]; simp)]
      · rw [if_neg h1, if_neg (by omega), nil_append, filter_eq_nil_iff.2 (fun l h => by rw [hfr l h]; simp; omega)]
theorem lvTo_map (ls : List Lk) (v : Int) : ∀ k, k ≤ ls.length → (lvTo ls v k).map (fun i : Int => ls.getD i.toNat default) = (ls.take k).filter (fun l => decide (l.fr = v))
  | 0, _ => by simp [lvTo]
  | k + 1, hk => by
    have hl : ls[k]? = some ls[k] := List.getElem?_eq_getElem (by omega)
    rw [lvTo_succ hl, take_snoc_of hl, filter_append, ← lvTo_map ls v k (by omega)]
    have hd : ls[k]?.getD default = ls[k] := by rw [hl]; rfl
    split
    · rename_i h
      rw [map_append]
      simp [h]
      exact hd
    · rename_i h
      simp [h]
theorem lvs_map (g : Gr) (v : Int) : (lvs g v).map (lkAt g) = g.ls.filter (fun l => decide (l.fr = v)) := by
  have := lvTo_map g.ls v g.ls.length (Nat.le_refl _)
  rw [take_length] at this
  exact this
theorem lvs_node {x : La} {m : Mo} {prev : Int} {v : Nat} {p : Int × Int} (hv : (nodesL x prev)[v]? = some p) : (lvs (grL x m prev) (v : Int)).map (lkAt (grL x m prev)) = (frE x p.1).map (cx_mkLk x m prev v p.2) := by
  rw [lvs_map]
  show (lksTo x m prev (nodesL x prev).length).filter _ = _
  rw [lksTo_fr hv _ (Nat.le_refl _), if_pos (List.getElem?_eq_some_iff.1 hv).1]
/-- The links are in order. -/
theorem lksTo_sorted {x : La} {m : Mo} {prev : Int} : ∀ j, j ≤ (nodesL x prev).length → (lksTo x m prev j).Pairwise (fun a b => a.fr < b.fr ∨ a.fr = b.fr ∧ a.lb < b.lb)
  | 0, _ => Pairwise.nil
  | j + 1, hj => by
    have hl : (nodesL x prev)[j]? = some (nodesL x prev)[j] := List.getElem?_eq_getElem (by omega)
    rw [lksTo_succ hl]
    refine pairwise_append.2 ⟨lksTo_sorted j (by omega), ?_, fun a ha b hb => .inl ?_⟩
    · rw [pairwise_map]
      refine (frTo_inc (v := (nodesL x prev)[j].1) x.es.length (Nat.le_refl _)).imp_of_mem fun {a b} ha hb hab => .inr ?_
      obtain ⟨e, he, _⟩ := frE_mem.1 ha
      obtain ⟨f, hf, _⟩ := frE_mem.1 hb
      rw [cx_mkLk_at he, cx_mkLk_at hf]
      exact ⟨rfl, by show (a : Int) < (b : Int); omega⟩
    · obtain ⟨i, k, p, e, h1, _, h3, _, rfl⟩ := (lksTo_mem j (by omega)).1 ha
      obtain ⟨k2, hk2, rfl⟩ := mem_map.1 hb
      obtain ⟨f, hf, _⟩ := frE_mem.1 hk2
      rw [cx_mkLk_at h3, cx_mkLk_at hf]
      show (i : Int) < (j : Int)
      omega
theorem lksL_sorted (x : La) (m : Mo) (prev : Int) : (lksL x m prev).Pairwise (fun a b => a.fr < b.fr ∨ a.fr = b.fr ∧ a.lb < b.lb) := lksTo_sorted _ (Nat.le_refl _)
/-- The edges of the links of a way. -/
def labL (g : Gr) (w : List Int) : List Int := w.map fun i => (lkAt g i).lb
theorem lks_one {x : La} {m : Mo} {prev a b : Int} (ha : 0 ≤ a ∧ a < (grL x m prev).ls.length) (hb : 0 ≤ b ∧ b < (grL x m prev).ls.length) (h1 : (lkAt (grL x m prev) a).fr = (lkAt (grL x m prev) b).fr) (h2 : (lkAt (grL x m prev) a).lb = (lkAt (grL x m prev) b).lb) : a = b := by
  have h3 := lkAt_mem ha
  have h4 := lkAt_mem hb
  obtain ⟨l1, e1⟩ := List.getElem?_eq_some_iff.1 h3
  obtain ⟨l2, e2⟩ := List.getElem?_eq_some_iff.1 h4
  have hs := pairwise_iff_getElem.1 (lksL_sorted x m prev)
  rcases Nat.lt_trichotomy a.toNat b.toNat with h | h | h
  · have := hs _ _ l1 l2 h
    have e3 : (lksL x m prev)[a.toNat] = lkAt (grL x m prev) a := e1
    have e4 : (lksL x m prev)[b.toNat] = lkAt (grL x m prev) b := e2
    rw [e3, e4] at this
    omega
  · omega
  · have := hs _ _ l2 l1 h
    have e3 : (lksL x m prev)[a.toNat] = lkAt (grL x m prev) a := e1
    have e4 : (lksL x m prev)[b.toNat] = lkAt (grL x m prev) b := e2
    rw [e3, e4] at this
    omega
/-- What a link at a node is. -/
theorem lk_node {x : La} {m : Mo} {prev : Int} {v : Nat} {p : Int × Int} (hv : (nodesL x prev)[v]? = some p) {i : Int} (hi : i ∈ lvs (grL x m prev) (v : Int)) : ∃ (k : Nat) (e : Ed), x.es[k]? = some e ∧ e.fr = p.1 ∧ lkAt (grL x m prev) i = ⟨v, ixL (nodesL x prev) (arrL x.n e), k, e.co + pcost m p.2 e.wd.toNat⟩ := by
  have h1 : lkAt (grL x m prev) i ∈ (lvs (grL x m prev) (v : Int)).map (lkAt (grL x m prev)) := mem_map.2 ⟨i, hi, rfl⟩
  rw [lvs_node hv] at h1
  obtain ⟨k, hk, h2⟩ := mem_map.1 h1
  obtain ⟨e, he, hf⟩ := frE_mem.1 hk
  exact ⟨k, e, he, hf, by rw [← h2, cx_mkLk_at he]⟩
theorem node_place {x : La} (hf : LaOK x) {prev : Int} {v : Nat} {p : Int × Int} (hv : (nodesL x prev)[v]? = some p) : p.1 = x.n ↔ (v : Int) = ((nodesL x prev).length : Int) - 1 := by
  obtain ⟨hlt, _⟩ := List.getElem?_eq_some_iff.1 hv
  by_cases hn : x.n = 0
  · have e : nodesL x prev = [(0, prev)] := by unfold nodesL tailL; rw [if_pos hn]
    rw [e] at hv hlt ⊢
    simp at hlt
    subst hlt
    simp at hv
    subst hv
    simp [hn]
  · have h0 := hf.1.1
    have hl := node_last hf prev (by omega)
    constructor
    · intro hp
      rcases Nat.lt_or_ge v ((nodesL x prev).length - 1) with h1 | h1
      · have hpm : p ∈ nodesL x prev := mem_of_getElem? hv
        exfalso
        have h2 : p = (x.n, -1) := by
          unfold nodesL tailL at hpm
          rw [if_neg hn] at hpm
          rcases mem_cons.1 hpm with rfl | h3
          · exact absurd hp.symm hn
          · rw [sortU_mem, arr_mem hf] at h3
            rcases h3 with h3 | h3
            · exact h3
            · have := h3.1; omega
        rw [h2] at hv
        have := ix_at (nodesL_nodup hf prev) hv
        have := ix_at (nodesL_nodup hf prev) hl
        omega
      · omega
    · intro hp
      rw [show v = (nodesL x prev).length - 1 by omega, hl] at hv
      rw [← Option.some.inj hv]
theorem arr_node {x : La} (hf : LaOK x) (prev : Int) {e : Ed} (he : e ∈ x.es) : ∃ q, (nodesL x prev)[ixL (nodesL x prev) (arrL x.n e)]? = some q ∧ q.1 = e.to ∧ (q.1 ≠ x.n → q.2 = e.wd) := by
  refine ⟨_, ix_get (arr_in hf prev he), ?_, ?_⟩
  · unfold arrL; split
    · rename_i h; exact h.symm
    · rfl
  · unfold arrL; split
    · intro h; exact absurd rfl h
    · intro _; rfl
/-- A way through the graph is a way through the lattice, and costs as much. -/
theorem way_lab {x : La} {m : Mo} {prev : Int} (hg : GrOK (grL x m prev)) (hf : LaOK x) : ∀ (w : List Int) (v : Nat) (p : Int × Int), (nodesL x prev)[v]? = some p → wayB (grL x m prev) (v : Int) w = true →
    WayTo x p.1 (labL (grL x m prev) w) x.n ∧ sumC (grL x m prev) w = wsum x m p.2 (labL (grL x m prev) w)
  | [], v, p, hv, hw => by
    have h1 : (v : Int) = ((nodesL x prev).length : Int) - 1 := of_decide_eq_true hw
    exact ⟨(node_place hf hv).2 h1, rfl⟩
  | i :: w, v, p, hv, hw => by
    obtain ⟨h1, h2⟩ := way_cons.1 hw
    obtain ⟨k, e, he, hfr, hl⟩ := lk_node hv h1
    obtain ⟨q, hq, hq1, hq2⟩ := arr_node hf prev (mem_of_getElem? he)
    rw [hl] at h2
    obtain ⟨h3, h4⟩ := way_lab hg hf w _ q hq h2
    have he' : x.es[(k : Int).toNat]? = some e := by rw [Int.toNat_natCast]; exact he
    have hlab : labL (grL x m prev) (i :: w) = (k : Int) :: labL (grL x m prev) w := by
      show (lkAt (grL x m prev) i).lb :: _ = _
      rw [hl]
      rfl
    rw [hlab]
    refine ⟨⟨e, by omega, he', hfr, hq1 ▸ h3⟩, ?_⟩
    show (lkAt (grL x m prev) i).cost + sumC (grL x m prev) w = _
    rw [hl, wsum_cons he', h4]
    show e.co + pcost m p.2 e.wd.toNat + _ = _
    by_cases hqn : q.1 = x.n
    · have hlast := (node_place hf hq).1 hqn
      cases w with
      | nil => rfl
      | cons j w =>
        obtain ⟨h5, _⟩ := way_cons.1 h2
        obtain ⟨a, b, c⟩ := lvs_iff.1 h5
        have c' : (lkAt (grL x m prev) j).fr = (ixL (nodesL x prev) (arrL x.n e) : Int) := c
        have := lkAt_ok hg ⟨a, b⟩
        have h6 := this.lt
        have h7 := this.to
        have hgn : (grL x m prev).n = ((nodesL x prev).length : Int) := rfl
        rw [hgn] at h7
        omega
    · rw [hq2 hqn]
theorem lab_inj {x : La} {m : Mo} {prev : Int} : ∀ (w w' : List Int) (v : Int), wayB (grL x m prev) v w = true → wayB (grL x m prev) v w' = true → labL (grL x m prev) w = labL (grL x m prev) w' → w = w'
  | [], [], _, _, _, _ => rfl
  | [], _ :: _, _, _, _, h => by simp [labL] at h
  | _ :: _, [], _, _, _, h => by simp [labL] at h
  | i :: w, j :: w', v, h1, h2, h => by
    obtain ⟨a1, a2⟩ := way_cons.1 h1
    obtain ⟨b1, b2⟩ := way_cons.1 h2
    simp only [labL, map_cons, cons.injEq] at h
    obtain ⟨a3, a4, a5⟩ := lvs_iff.1 a1
    obtain ⟨b3, b4, b5⟩ := lvs_iff.1 b1
    obtain rfl := lks_one ⟨a3, a4⟩ ⟨b3, b4⟩ (a5.trans b5.symm) h.1
    rw [lab_inj w w' _ a2 b2 h.2]
theorem lab_ex {x : La} {m : Mo} {prev : Int} (hf : LaOK x) : ∀ (l : List Int) (v : Nat) (p : Int × Int), (nodesL x prev)[v]? = some p → WayTo x p.1 l x.n → ∃ w, wayB (grL x m prev) (v : Int) w = true ∧ labL (grL x m prev) w = l
  | [], v, p, hv, hw => ⟨[], decide_eq_true ((node_place hf hv).1 hw), rfl⟩
  | k :: l, v, p, hv, ⟨e, h0, h1, h2, h3⟩ => by
    obtain ⟨q, hq, hq1, _⟩ := arr_node hf prev (mem_of_getElem? h1)
    obtain ⟨w, hw, hl⟩ := lab_ex hf l _ q hq (hq1 ▸ h3)
    have hm : cx_mkLk x m prev v p.2 k.toNat ∈ (lvs (grL x m prev) (v : Int)).map (lkAt (grL x m prev)) := by
      rw [lvs_node hv]
      exact mem_map.2 ⟨_, frE_mem.2 ⟨e, h1, h2⟩, rfl⟩
    obtain ⟨i, hi, hli⟩ := mem_map.1 hm
    rw [cx_mkLk_at h1] at hli
    refine ⟨i :: w, way_cons.2 ⟨hi, by rw [hli]; exact hw⟩, ?_⟩
    show (lkAt (grL x m prev) i).lb :: labL (grL x m prev) w = _
    rw [hli, hl]
    show (k.toNat : Int) :: l = _
    rw [Int.toNat_of_nonneg h0]
theorem lab_len (g : Gr) (w : List Int) : (labL g w).length = w.length := length_map _
end Go.Proofs.Ytfjkmgjjifhdkaa

/-
  Layer 20: what the laws' build answers for lattices that fit. No conditions.
-/
namespace Go.Proofs.Ytfjkmgjjifhdkaa
open Go Go.RowKit

theorem own_ge {w : World} {base n k c : Nat} {e : TypeId} {s : Nat} {A : Option Addr} {xs : List Value} (h : w.ownsRow base e s (.slice A n c) k xs) : ∀ a, A = some a → base ≤ a.block := fun a ha => own_block_le h a.block (by rw [ha]; rfl)
theorem ed_any : ∀ (w w' : World) (x : Ed) (vs : List Value), REd w x vs → REd w' x vs := fun _ _ _ _ h => h
theorem buM_ok {x : La} {m : Mo} {prev : Int} (hm : MoOK m) (hf : FitsL x m.ws.length) (hp : -1 ≤ prev ∧ prev < (m.ws.length : Int)) : buM x m prev = ⟨grL x m prev, lastL x prev, 0⟩ := by
  unfold buM
  rw [if_pos hm, if_pos ⟨hp, hf⟩]
theorem lastL_len (x : La) (prev : Int) : (lastL x prev).length = (nodesL x prev).length := List.length_map _
theorem lawbuild_ok (x : La) (A : Option Addr) (c : Nat) (m : Mo) (A1 A2 A3 : Option Addr) (c1 c2 c3 : Nat) (prev : Int) (w : World) (hx : SlR 4 REd w A x.es) (hes : x.es.length ≤ 13) (hm : MoR w m A1 A2 A3) (hc3 : m.ps.length ≤ c3) (hm3 : c3 ≤ maxLen)
    (hok : MoOK m) (hf : FitsL x m.ws.length) (hp : -1 ≤ prev ∧ prev < (m.ws.length : Int)) {nl : Nat} (hnl : (nodesL x prev).length = nl) {G : List Lk} (hG : lksL x m prev = G) {L : List Int} (hL : lastL x prev = L) :
    Calls Try.prog 8 #[.agg #[.int .i64 x.n, .slice A x.es.length c], .agg #[.slice A1 m.ws.length c1, .slice A2 m.cs.length c2, .slice A3 m.ps.length c3, .int .i64 m.back], .int .i64 prev] w fun e w' => ∃ (LA LB : Option Addr) (cA cB : Nat), e = .returned (.agg #[.int .i64 (nl : Int), .slice LA G.length cA, .slice LB nl cB, .int .i64 0]) ∧ SlR 4 RLk w' LA G ∧ SlR 1 RInt w' LB L ∧ (G.length ≤ cA ∧ cA ≤ maxLen) ∧ Below w.heap.size w w' := by
  subst hnl hG hL
  have := lawbuild_any x A c m A1 A2 A3 c1 c2 c3 prev w hx (by omega) hm hc3 hm3
  rw [buM_ok hok hf hp] at this
  refine this.mono ?_
  rintro e w' ⟨LA, LB, cA, cB, he, h1, h2, h3, h4, _, _⟩
  refine ⟨LA, LB, cA, cB, ?_, h1, h2, h3, h4⟩
  rw [he]
  show Ending.returned (.agg #[.int .i64 (grL x m prev).n, .slice LA (lksL x m prev).length cA, .slice LB (lastL x prev).length cB, .int .i64 0]) = _
  rw [lastL_len]
  rfl
end Go.Proofs.Ytfjkmgjjifhdkaa

/-
  The plain law of layer 20: how many ways there are through a lattice. No program in sight; no conditions.
-/
namespace Go.Proofs.Ytfjkmgjjifhdkaa
open List

/-- The number of ways from the place v to the place n by edges of the list. -/
def waysE (n : Int) : List Ed → Int → Int
  | [], v => if v = n then 1 else 0
  | e :: es, v => waysE n es v + if e.fr = v then waysE n es e.to else 0
theorem waysE_none {n u : Int} {e : Ed} {es : List Ed} (h : e.fr ≠ u) : waysE n (e :: es) u = waysE n es u := by
  show waysE n es u + (if e.fr = u then waysE n es e.to else 0) = _
  rw [if_neg h]; omega
def SortF (es : List Ed) : Prop := es.Pairwise (fun a b => a.fr ≤ b.fr) ∧ ∀ e ∈ es, e.fr < e.to
theorem waysE_step {n : Int} : ∀ {es : List Ed}, SortF es → ∀ v, waysE n es v = (if v = n then 1 else 0) + ((es.filter (fun e => decide (e.fr = v))).map (fun e => waysE n es e.to)).sum
  | [], _, v => by simp [waysE]
  | e :: es, h, v => by
    have hs : SortF es := ⟨(pairwise_cons.1 h.1).2, fun a ha => h.2 a (mem_cons_of_mem _ ha)⟩
    have ih := waysE_step (n := n) hs v
    have hm : ∀ a ∈ e :: es, waysE n (e :: es) a.to = waysE n es a.to := fun a ha => waysE_none (by
      have h1 := h.2 a ha
      rcases mem_cons.1 ha with rfl | ha
      · omega
      · have := (pairwise_cons.1 h.1).1 a ha; omega)
    have e1 : (((e :: es).filter (fun e => decide (e.fr = v))).map (fun a => waysE n (e :: es) a.to)) = (((e :: es).filter (fun e => decide (e.fr = v))).map (fun a => waysE n es a.to)) := map_congr_left fun a ha => hm a (mem_filter.1 ha).1
    rw [e1]
    show waysE n es v + (if e.fr = v then waysE n es e.to else 0) = _
    rw [ih, filter_cons]
    by_cases hv : e.fr = v
    · simp [hv]; omega
    · simp [hv]
theorem incE_sort : ∀ {es : List Ed}, incE es = true → es.Pairwise (fun a b => a.fr ≤ b.fr)
  | [], _ => Pairwise.nil
  | a :: l, h => by
    obtain ⟨h1, h2⟩ := incE_cons.1 h
    have ih := incE_sort h2
    refine pairwise_cons.2 ⟨fun b hb => ?_, ih⟩
    cases l with
    | nil => cases hb
    | cons y l =>
      have h3 := lessE_iff.1 (h1 y rfl)
      rcases mem_cons.1 hb with rfl | hb
      · omega
      · have := (pairwise_cons.1 ih).1 b hb; omega
theorem la_sort {x : La} (h : LaOK x) : SortF x.es := ⟨incE_sort h.2.2.2, fun e he => (h.2.2.1 e he).1.2.1⟩
theorem frTo_map (es : List Ed) (v : Int) : ∀ k, k ≤ es.length → (frTo es v k).map (fun i : Nat => es.getD i ⟨0, 0, 0, 0⟩) = (es.take k).filter (fun e => decide (e.fr = v))
  | 0, _ => by simp [frTo]
  | k + 1, hk => by
    have hl : es[k]? = some es[k] := List.getElem?_eq_getElem (by omega)
    rw [frTo_succ hl, take_snoc_of hl, filter_append, ← frTo_map es v k (by omega)]
    have hd : es[k]?.getD ⟨0, 0, 0, 0⟩ = es[k] := by rw [hl]; rfl
    split
    · rename_i h
      rw [map_append]
      simp [h]
      exact hd
    · rename_i h
      simp [h]
theorem sum_cast (L : List Nat) : ((L.sum : Nat) : Int) = (L.map (fun i : Nat => (i : Int))).sum := by
  induction L with
  | nil => rfl
  | cons a L ih => simp [ih]
/-- As many ways from a node as from its place. -/
theorem nW_ways {x : La} {m : Mo} {prev : Int} (hg : GrOK (grL x m prev)) (hf : LaOK x) : ∀ (d v : Nat) (p : Int × Int), v + d = (nodesL x prev).length → (nodesL x prev)[v]? = some p → (nW (grL x m prev) (v : Int) : Int) = waysE x.n x.es p.1 := by
  intro d
  induction d using Nat.strongRecOn with
  | _ d ih =>
    intro v p hd hv
    obtain ⟨hlt, _⟩ := List.getElem?_eq_some_iff.1 hv
    have hgn : (grL x m prev).n = ((nodesL x prev).length : Int) := rfl
    by_cases hlast : p.1 = x.n
    · have hvl := (node_place hf hv).1 hlast
      rw [← hgn] at hvl
      rw [hvl, nW_last hg, hlast, waysE_step (la_sort hf), if_pos rfl]
      have : x.es.filter (fun e => decide (e.fr = x.n)) = [] := filter_eq_nil_iff.2 fun e he => by
        have := (hf.2.2.1 e he).1
        simp; omega
      rw [this]; rfl
    · have hne : (v : Int) < (grL x m prev).n - 1 := by
        have : ¬ (v : Int) = ((nodesL x prev).length : Int) - 1 := fun h => hlast ((node_place hf hv).2 h)
        rw [hgn]; omega
      rw [nW_step hg (by omega) hne, waysE_step (la_sort hf), if_neg hlast, Int.zero_add, sum_cast, map_map]
      have e1 : (lvs (grL x m prev) (v : Int)).map ((fun i : Nat => (i : Int)) ∘ fun i => nW (grL x m prev) (lkAt (grL x m prev) i).to) = ((lvs (grL x m prev) (v : Int)).map (lkAt (grL x m prev))).map (fun l => (nW (grL x m prev) l.to : Int)) := by
        rw [map_map]; rfl
      rw [e1, lvs_node hv, map_map]
      have e2 : x.es.filter (fun e => decide (e.fr = p.1)) = (frE x p.1).map (fun i : Nat => x.es.getD i ⟨0, 0, 0, 0⟩) := by
        have := frTo_map x.es p.1 x.es.length (Nat.le_refl _)
        rw [take_length] at this
        exact this.symm
      rw [e2, map_map]
      congr 1
      refine map_congr_left fun k hk => ?_
      obtain ⟨e, he, hfr⟩ := frE_mem.1 hk
      obtain ⟨q, hq, hq1, _⟩ := arr_node hf prev (mem_of_getElem? he)
      show (nW (grL x m prev) (cx_mkLk x m prev v p.2 k).to : Int) = waysE x.n x.es (x.es.getD k ⟨0, 0, 0, 0⟩).to
      rw [cx_mkLk_at he, getD_eq_getElem?_getD, he]
      show (nW (grL x m prev) (ixL (nodesL x prev) (arrL x.n e) : Int) : Int) = waysE x.n x.es e.to
      rw [← hq1]
      have hgt := node_lt hf hv hq (by rw [hq1, ← hfr]; exact (hf.2.2.1 e (mem_of_getElem? he)).1.2.1)
      obtain ⟨hql, _⟩ := List.getElem?_eq_some_iff.1 hq
      exact ih ((nodesL x prev).length - ixL (nodesL x prev) (arrL x.n e)) (by omega) _ q (by omega) hq
theorem nW_first {x : La} {m : Mo} {prev : Int} (hg : GrOK (grL x m prev)) (hf : LaOK x) : (nW (grL x m prev) 0 : Int) = waysE x.n x.es 0 :=
  nW_ways hg hf (nodesL x prev).length 0 (0, prev) (by omega) (node_first x prev)

/-! How the reference counts. -/
def cntStep (L : List Int) (e : Ed) : List Int := L.set e.to.toNat (L.getD e.to.toNat 0 + L.getD e.fr.toNat 0)
def cntL (x : La) (k : Nat) : List Int := (x.es.take k).foldl cntStep ((List.replicate (x.n.toNat + 1) 0).set 0 1)
def cntM (x : La) : Int := (cntL x x.es.length).getD x.n.toNat 0
theorem cntStep_len (L : List Int) (e : Ed) : (cntStep L e).length = L.length := length_set
theorem cntL_succ {x : La} {k : Nat} {e : Ed} (h : x.es[k]? = some e) : cntL x (k + 1) = cntStep (cntL x k) e := by
  unfold cntL
  rw [take_snoc_of h, foldl_append]
  rfl
theorem cntL_len (x : La) (k : Nat) : (cntL x k).length = x.n.toNat + 1 := by
  unfold cntL
  have : ∀ (es : List Ed) (L : List Int), (es.foldl cntStep L).length = L.length := fun es => by
    induction es with
    | nil => intro L; rfl
    | cons e es ih => intro L; rw [foldl_cons, ih, cntStep_len]
  rw [this]; simp
theorem getD_set (L : List Int) (i j : Nat) (a : Int) : (L.set i a).getD j 0 = if i = j ∧ j < L.length then a else L.getD j 0 := by
  rw [getD_eq_getElem?_getD, getD_eq_getElem?_getD, getElem?_set]
  by_cases h : i = j
  · subst h
    by_cases h2 : i < L.length
    · simp [h2]
    · simp [h2]
  · simp [h]
theorem cntL_bd (x : La) : ∀ (k : Nat), k ≤ x.es.length → ∀ j, 0 ≤ (cntL x k).getD j 0 ∧ (cntL x k).getD j 0 ≤ 2 ^ k
  | 0, _, j => by
    show 0 ≤ ((List.replicate (x.n.toNat + 1) 0).set 0 1).getD j 0 ∧ _
    rw [show cntL x 0 = (List.replicate (x.n.toNat + 1) 0).set 0 1 from rfl, getD_set]
    have : (List.replicate (x.n.toNat + 1) (0 : Int)).getD j 0 = 0 := by
      rw [getD_eq_getElem?_getD, getElem?_replicate]; split <;> rfl
    rw [this]
    split <;> simp
  | k + 1, hk, j => by
    have hl : x.es[k]? = some x.es[k] := List.getElem?_eq_getElem (by omega)
    have ih := cntL_bd x k (by omega)
    rw [cntL_succ hl]
    unfold cntStep
    rw [getD_set]
    have h1 := ih j
    have h2 := ih x.es[k].to.toNat
    have h3 := ih x.es[k].fr.toNat
    have h4 : (2 : Int) ^ (k + 1) = 2 * 2 ^ k := by rw [Int.pow_succ]; omega
    rw [h4]
    split
    · omega
    · omega
/-- The sum of the products. -/
def dotL : List Int → (Nat → Int) → Int
  | [], _ => 0
  | a :: A, f => a * f 0 + dotL A fun i => f (i + 1)
theorem dotL_add : ∀ (A : List Int) (f g : Nat → Int), dotL A (fun i => f i + g i) = dotL A f + dotL A g
  | [], _, _ => rfl
  | a :: A, f, g => by
    show a * (f 0 + g 0) + dotL A (fun i => f (i + 1) + g (i + 1)) = _
    rw [dotL_add A, Int.mul_add]
    show _ = a * f 0 + dotL A (fun i => f (i + 1)) + (a * g 0 + dotL A fun i => g (i + 1))
    omega
theorem dotL_zero : ∀ (A : List Int), dotL A (fun _ => 0) = 0
  | [] => rfl
  | a :: A => by show a * 0 + dotL A (fun _ => 0) = 0; rw [dotL_zero A]; omega
theorem dotL_one : ∀ (A : List Int) (j : Nat) (c : Int), dotL A (fun i => if i = j then c else 0) = A.getD j 0 * c
  | [], _, _ => by simp [dotL]
  | a :: A, 0, c => by
    show a * c + dotL A (fun i => if i + 1 = 0 then c else 0) = _
    have : (fun i : Nat => if i + 1 = 0 then c else 0) = fun _ => 0 := by funext i; rw [if_neg (by omega)]
    rw [this, dotL_zero]; simp
  | a :: A, j + 1, c => by
    show a * (if 0 = j + 1 then c else 0) + dotL A (fun i => if i + 1 = j + 1 then c else 0) = _
    rw [if_neg (by omega)]
    have : (fun i : Nat => if i + 1 = j + 1 then c else 0) = fun i => if i = j then c else 0 := by funext i; simp
    rw [this, dotL_one A j c]; simp
theorem dotL_set : ∀ (A : List Int) (j : Nat) (c : Int) (f : Nat → Int), j < A.length → dotL (A.set j (A.getD j 0 + c)) f = dotL A f + c * f j
  | [], _, _, _, h => by simp at h
  | a :: A, 0, c, f, _ => by
    show (a + c) * f 0 + dotL A (fun i => f (i + 1)) = a * f 0 + dotL A (fun i => f (i + 1)) + c * f 0
    rw [Int.add_mul]; omega
  | a :: A, j + 1, c, f, h => by
    have := dotL_set A j c (fun i => f (i + 1)) (by simp at h; omega)
    show a * f 0 + dotL (A.set j ((a :: A).getD (j + 1) 0 + c)) (fun i => f (i + 1)) = a * f 0 + dotL A (fun i => f (i + 1)) + c * f (j + 1)
    rw [show (a :: A).getD (j + 1) 0 = A.getD j 0 by simp, this]; omega
theorem cnt_fold {N : Nat} : ∀ (es : List Ed) (A : List Int), A.length = N + 1 → (∀ e ∈ es, 0 ≤ e.fr ∧ e.fr < e.to ∧ e.to ≤ (N : Int)) → (es.foldl cntStep A).getD N 0 = dotL A (fun v => waysE (N : Int) es (v : Int))
  | [], A, hA, _ => by
    have : (fun v : Nat => waysE (N : Int) [] (v : Int)) = fun v => if v = N then 1 else 0 := by
      funext v
      show (if (v : Int) = (N : Int) then (1 : Int) else 0) = _
      by_cases h : v = N
      · subst h; simp
      · rw [if_neg (by omega), if_neg h]
    rw [this, dotL_one]; simp
  | e :: es, A, hA, h => by
    have he := h e mem_cons_self
    rw [foldl_cons, cnt_fold es (cntStep A e) (by rw [cntStep_len, hA]) (fun a ha => h a (mem_cons_of_mem _ ha))]
    unfold cntStep
    rw [dotL_set _ _ _ _ (by omega)]
    have e1 : (fun v : Nat => waysE (N : Int) (e :: es) (v : Int)) = fun v : Nat => waysE (N : Int) es (v : Int) + (if v = e.fr.toNat then waysE (N : Int) es e.to else 0) := by
      funext v
      show waysE (N : Int) es (v : Int) + (if e.fr = (v : Int) then waysE (N : Int) es e.to else 0) = _
      by_cases h2 : v = e.fr.toNat
      · rw [if_pos (by omega), if_pos h2]
      · rw [if_neg (by omega), if_neg h2]
    rw [e1, dotL_add, dotL_one]
    show _ + A.getD e.fr.toNat 0 * waysE (N : Int) es (e.to.toNat : Int) = _
    rw [Int.toNat_of_nonneg (by omega)]
theorem cntM_ways {x : La} (h : LaOK x) : cntM x = waysE x.n x.es 0 := by
  obtain ⟨N, hN⟩ : ∃ N : Nat, x.n = (N : Int) := ⟨x.n.toNat, by have := h.1.1; omega⟩
  unfold cntM cntL
  rw [take_length, hN, Int.toNat_natCast, cnt_fold x.es _ (by simp) (fun e he => by have := (h.2.2.1 e he).1; omega)]
  have : (List.replicate (N + 1) (0 : Int)).set 0 1 = 1 :: List.replicate N 0 := by simp [List.replicate_succ]
  rw [this]
  show 1 * waysE (N : Int) x.es ((0 : Nat) : Int) + dotL (List.replicate N 0) _ = _
  have hz : ∀ (n : Nat) (f : Nat → Int), dotL (List.replicate n 0) f = 0 := fun n => by
    induction n with
    | zero => intro f; rfl
    | succ n ih => intro f; rw [List.replicate_succ]; show 0 * f 0 + dotL (List.replicate n 0) _ = 0; rw [ih]; omega
  rw [hz]
  simp
theorem nodup_len {α : Type} [DecidableEq α] : ∀ {A B : List α}, A.Nodup → (∀ a ∈ A, a ∈ B) → A.length ≤ B.length
  | [], _, _, _ => Nat.zero_le _
  | a :: A, B, h, hs => by
    obtain ⟨h1, h2⟩ := pairwise_cons.1 h
    have hm := hs a mem_cons_self
    have := nodup_len (A := A) (B := B.erase a) h2 fun b hb => (mem_erase_of_ne (fun e => h1 b hb e.symm)).2 (hs b (mem_cons_of_mem _ hb))
    rw [length_erase_of_mem hm] at this
    have : 0 < B.length := length_pos_of_mem hm
    rw [length_cons]
    omega
/-- A list of the first k ways has k of them, or all. -/
theorem isList_len {g : Gr} (hg : GrOK g) {k : Nat} {L : List Can} (h : IsList g k L) : L.length = min (nW g 0) k := by
  have hn := hg.n
  have hmem := waysF_mem hg g.n.toNat 0 (by omega) (by omega) (by omega)
  have h1 : L.length ≤ nW g 0 := nodup_len h.sorted.nodup fun c hc => (hmem c).2 (h.can c hc)
  have h2 := h.len
  rcases Nat.lt_or_ge L.length k with h3 | h3
  · have h4 : nW g 0 ≤ L.length := nodup_len (waysF_nodup g _ _) fun c hc => Classical.byContradiction fun hn => by
      have := (h.rest c ((hmem c).1 hc) hn).1
      omega
    omega
  · omega
end Go.Proofs.Ytfjkmgjjifhdkaa

/-
  The walks of layer 20: the number of ways through a lattice, as the reference counts them.
-/
namespace Go.Proofs.Ytfjkmgjjifhdkaa
open Go Go.RowKit

theorem ct_info : (Try.prog.info? 3).map (fun i => (i.zero, i.size, i.bytes)) = some (some (.int .i64 0), 1, 8) := by kernel_rfl
theorem getD_some {L : List Int} {j : Nat} (h : j < L.length) : L[j]? = some (L.getD j 0) := by
  rw [List.getD_eq_getElem?_getD, List.getElem?_eq_getElem h]; rfl
set_option maxRecDepth 100000 in
set_option maxHeartbeats 8000000 in
theorem count20_any (x : La) (A : Option Addr) (c : Nat) (w : World) (hx : SlR 4 REd w A x.es) (hok : LaOK x) (h20 : x.es.length ≤ 20) :
    Calls Try.prog 14 #[.agg #[.int .i64 x.n, .slice A x.es.length c]] w fun e w' => e = .returned (.int .i64 (cntM x)) ∧ Below w.heap.size w w' := by
  obtain ⟨i0, hi, hz0, hz1, hz2⟩ := info_parts ct_info
  obtain ⟨N, hN⟩ : ∃ N : Nat, x.n = (N : Int) := ⟨x.n.toNat, by have := hok.1.1; omega⟩
  have hN40 : N ≤ 40 := by have := hok.1.2; omega
  have HN := Lib.hid hN
  have HOK := Lib.hid hok
  obtain ⟨R, hR⟩ : ∃ R, cntM x = R := ⟨_, rfl⟩
  have HRR : Hid ((cntL x x.es.length).getD N 0 = R) := by show _ = _; rw [← hR]; unfold cntM; rw [hN, Int.toNat_natCast]
  have HC0 : Hid ((List.replicate (N + 1) (0 : Int)).set 0 1 = cntL x 0) := by show _ = _; unfold cntL; rw [hN, Int.toNat_natCast]; rfl
  rw [hR, hN]
  obtain ⟨w1, hw1⟩ : ∃ w1, w.alloc (.cells #[.int .i64 (N : Int), .slice A x.es.length c] 38) = w1 := ⟨_, rfl⟩
  have hb1 : Below w.heap.size w w1 := by rw [← hw1]; exact nw _ (Below.refl _ _)
  have hB1 : Blk w1 w.heap.size 38 #[.int .i64 (N : Int), .slice A x.es.length c] := by rw [← hw1]; exact Blk.new _ _ _
  have HW1 := Lib.hid hw1
  have l0 := hB1.cell 0
  have l1 := hB1.cell 1
  have ll := hB1.lt
  simp at l0 l1
  have hw0 : IntKind.i64.wrap ((N : Int) + 1) = ((N + 1 : Nat) : Int) := by rw [IntWalk.i64_in _ (by omega)]; omega
  clear hw1 hR hN hok
  go_enter Try.func14, Try.ntmps14
  go_upto_region 1 with fail
  rw [HW1.out]
  go_upto_region 2 with (at_make; go_loud (refine wpList_mk _ rfl _ _ 31 rfl 3 i0 (.int .i64 0) (.int .i64 0) Try.underlying31 hi hz0 hz1 (by omega) rfl (N + 1) rfl rfl (by omega) ?_))
  obtain ⟨W3, hW3⟩ : ∃ W, w1.alloc (.cells (Array.replicate (N + 1) (Value.int .i64 0)) 3) = W := ⟨_, rfl⟩
  have hb3 : Below w1.heap.size w1 W3 := by rw [← hW3]; exact nw _ (Below.refl _ _)
  have hR3 : Row W3 w1.heap.size (List.replicate (N + 1) 0) := by rw [← hW3, ← List.toArray_replicate]; exact Row.zeros _ _
  rw [hW3]
  clear hW3
  obtain ⟨gh, hgh⟩ : ∃ b, w1.heap.size = b := ⟨_, rfl⟩
  rw [hgh] at hR3 hb3 ⊢
  have hbgh : w.heap.size < gh := by omega
  have hghl := hR3.lt
  have hB4 := hB1.below hb3 hbgh
  have hbw4 : Below w.heap.size w W3 := hb1.trans (hb3.mono (by omega))
  clear hb3 l0 l1 ll hB1 hgh hb1
  have q0 := hR3.cell (k := 0) (x := 0) (by simp)
  have qf := hR3.frozen 0
  have hR4 := hR3.set_ 0 1
  rw [HC0.out] at hR4
  have HB4 : Hid (Below gh W3 (W3.setCell ⟨gh, 0, none⟩ (.int .i64 1))) := (Below.refl _ _).setCell (p := ⟨gh, 0, none⟩) (Nat.le_refl _) _
  have HR4 := Lib.hid hR4
  have hNp : (0 : Int) < (N : Int) + 1 := by omega
  clear hR3 hR4
  go_upto_region 3 with fail
  obtain ⟨W4, hW4⟩ : ∃ W, W3.setCell ⟨gh, 0, none⟩ (.int .i64 1) = W := ⟨_, rfl⟩
  rw [hW4] at HR4 HB4 ⊢
  clear hW4 q0 qf hw0 hNp
  go_wp2_with fail
  go_loopw [4] (fun i wr => ∃ k : Nat, k ≤ x.es.length ∧ i = .int .i64 k ∧ Row wr gh (cntL x k) ∧ Below gh W3 wr) (fun i _ => x.es.length - (intOf i).toNat)
  case atStart => exact ⟨0, by omega, rfl, HR4.out, HB4.out⟩
  case round =>
    obtain ⟨k, hk, rfl, hRw, hbr⟩ := hrel
    have hRl := hRw.lt
    have hB5 := hB4.below hbr hbgh
    have l0 := hB5.cell 0
    have l1 := hB5.cell 1
    have ll := hB5.lt
    simp at l0 l1
    have hbwv : Below w.heap.size w wr := hbw4.trans (hbr.mono (by omega))
    by_cases hlt : k < x.es.length
    · obtain ⟨b, off, e, rfl, hbb, hee, d0, d1, d2, d3⟩ := (hx.below keeps_ed hbwv).ed hlt
      have hek := HOK.out.2.2.1 e (List.mem_of_getElem? hee)
      have hbd := cntL_bd x k hk
      have HSU : Hid (cntL x (k + 1) = cntStep (cntL x k) e) := cntL_succ hee
      have hln : (cntL x k).length = N + 1 := by rw [cntL_len, HN.out, Int.toNat_natCast]
      obtain ⟨f, hf⟩ : ∃ f : Nat, e.fr = (f : Int) := ⟨e.fr.toNat, by have := hek.1.1; omega⟩
      obtain ⟨t, ht⟩ : ∃ t : Nat, e.to = (t : Int) := ⟨e.to.toNat, by have := hek.1; omega⟩
      have hfN : f < N + 1 := by have h1 := hek.1; rw [HN.out] at h1; omega
      have htN : t < N + 1 := by have h1 := hek.1; rw [HN.out] at h1; omega
      rw [hf] at d0
      rw [ht] at d1
      have HST : Hid (cntStep (cntL x k) e = (cntL x k).set t ((cntL x k).getD t 0 + (cntL x k).getD f 0)) := by
        show _ = _
        unfold cntStep
        rw [hf, ht, Int.toNat_natCast, Int.toNat_natCast]
      have p1 := hRw.cell (getD_some (L := cntL x k) (j := t) (by omega))
      have p2 := hRw.cell (getD_some (L := cntL x k) (j := f) (by omega))
      have pf := hRw.frozen t
      have hpw : (2 : Int) ^ k ≤ 2 ^ 20 := by have h : (2 : Nat) ^ k ≤ 2 ^ 20 := Nat.pow_le_pow_right (by decide) (by omega); exact_mod_cast h
      have hb1 := hbd t
      have hb2 := hbd f
      have hws : IntKind.i64.wrap ((cntL x k).getD t 0 + (cntL x k).getD f 0) = (cntL x k).getD t 0 + (cntL x k).getD f 0 := IntWalk.i64_in _ (by omega)
      have HRw := Lib.hid hRw
      have HBR := Lib.hid hbr
      generalize (cntL x k).getD t 0 = a1 at *
      generalize (cntL x k).getD f 0 = a2 at *
      have hkI : (k : Int) < (x.es.length : Int) := by omega
      have hk0 : (0 : Int) ≤ (k : Int) := by omega
      have hf0 : (0 : Int) ≤ (f : Int) := by omega
      have ht0 : (0 : Int) ≤ (t : Int) := by omega
      have hfI : (f : Int) < (N : Int) + 1 := by omega
      have htI : (t : Int) < (N : Int) + 1 := by omega
      clear hee hek hf ht hbd hln hpw hb1 hb2 hRw hbr
      go_upto_region 6 with fail
      refine ordT_below [20] [(0, false), (1, false), (2, false), (3, false), (4, false), (5, false), (6, false), (7, false), (8, false), (9, false), (10, false), (11, false), (12, false), (13, false), (14, false), (15, false), (16, false), (17, false), (18, false), (19, false), (20, true)] (by kernel_rfl) (by kernel_rfl) (by kernel_rfl) (fun _ _ _ _ _ h => h) ?_
      intro W0 hS0
      repeat (first
        | (refine ordT_skip rfl rfl (by assumption) ?_; simp only [Act.put, List.setIfInBounds_toArray, List.set_cons_zero, List.set_cons_succ])
        | (refine ordT_cskip rfl rfl (by assumption) ?_; simp only [Act.put, List.setIfInBounds_toArray, List.set_cons_zero, List.set_cons_succ])
        | (refine ordT_take (v := ?_) rfl rfl (by assumption) ?_ ?_
           rotate_left 1
           focus (intro W hW; obtain ⟨hcW, hfW⟩ := bcell hW; (go_simp <;> with_reducible rfl))
           simp only [Act.put, List.setIfInBounds_toArray, List.set_cons_zero, List.set_cons_succ])
        | (refine ordT_call rfl rfl (fun K hK => ?_)
           obtain ⟨hcS, hfS⟩ := bcell hS0
           go_simp
           first
             | (refine hK.out _ _ (fun h => by cases h) ?_)))
      refine ordT_nil ?_
      have hRn := (HRw.out.below hS0 hRl).set_ t (a1 + a2)
      rw [← HST.out, ← HSU.out] at hRn
      have HRN := Lib.hid hRn
      have HBE := Lib.hid ((HBR.out.trans (hS0.mono (Nat.le_of_lt hRl))).setCell (p := ⟨gh, t, none⟩) (Nat.le_refl _) (.int .i64 (a1 + a2)))
      clear hRn
      go_wp2_with fail
      go_roundw
      case rel => exact ⟨k + 1, by omega, by go_num, HRN.out, HBE.out⟩
      case measure => simp [intOf]; omega
    · obtain rfl : k = x.es.length := by omega
      have hln : (cntL x x.es.length).length = N + 1 := by rw [cntL_len, HN.out, Int.toNat_natCast]
      have p1 := hRw.cell (getD_some (L := cntL x x.es.length) (j := N) (by omega))
      rw [HRR.out] at p1
      have HBE := Lib.hid hbwv
      have hNI : (N : Int) < (N : Int) + 1 := by omega
      have hN0 : (0 : Int) ≤ (N : Int) := by omega
      clear hRw hbr hbwv hln
      go_wp2_with fail
      go_ret
      exact ⟨rfl, HBE.out⟩
end Go.Proofs.Ytfjkmgjjifhdkaa

/-
  The walks of layer 20: words of a candidate.
-/
namespace Go.Proofs.Ytfjkmgjjifhdkaa
open Go Go.RowKit

/-- 'make([]T, 0, n)' of elements of one cell: a row of the call's own. -/
theorem wpList_mk0 {P : Program} (w : World) {ops : Array Oper} {rest : List Oper} {o : Oper} {a : Act} {Q : Exit → Act → World → Prop}
    (hg : o.guard = none) (l c : Operand) (t : TypeId) (hop : o.op = Op.makeSlice t l c)
    (e : TypeId) (i : TypeInfo) (z : Value) (h1 : P.underlying t = some (.slice e)) (h2 : P.info? e = some i) (h3 : i.zero = some z) (h4 : i.size = 1) (h5 : i.bytes ≤ 1000)
    (n : Nat) (hl : a.eval l = .int .i64 0) (hc : a.eval c = .int .i64 (n : Int)) (hn : n ≤ 1000000)
    (hK : ∀ w', w'.ownsRow w.heap.size e 1 (.slice (some ⟨w.heap.size, 0, none⟩) 0 n) 0 [] → Below w.heap.size w w' → wpList P ops Q rest (a.put o.dst (.slice (some ⟨w.heap.size, 0, none⟩) 0 n)) w') :
    wpList P ops Q (o :: rest) a w := by
  refine wpList_plain hg fun K hK' => ?_
  have hb : i.bytes * n ≤ 281474976710656 := by
    have h : i.bytes * n ≤ 1000 * 1000000 := Nat.mul_le_mul h5 hn
    omega
  obtain ⟨w', hr, hO, hg'⟩ := run_make_own (P := P) w w.heap.size t e i z 1 h1 h2 h3 h4 .i64 .i64 n hb (by unfold maxLen; omega) (Nat.le_refl _)
  have hB : Below w.heap.size w w' := (Below.refl _ _).grown hg' (Nat.le_refl _) (fun k hk => by cases hk)
  unfold Oper.wp
  simp [execOp, hop, hl, hc, hr, Result.andThen]
  exact hK' _ _ (hK _ hO hB)

/-- The word of a link. -/
def wdAt (es : List Ed) (g : List Lk) (i : Int) : Int :=
  match g[i.toNat]? with
  | some l => match es[l.lb.toNat]? with
    | some e => e.wd
    | none => 0
  | none => 0
/-- The links lie in the graph, and the labels in the lattice. -/
def LkIn (es : List Ed) (g : List Lk) (i : Int) : Prop := ∃ (p : Nat) (l : Lk) (q : Nat) (e : Ed), i = (p : Int) ∧ g[p]? = some l ∧ l.lb = (q : Int) ∧ es[q]? = some e
def GivesIs (xs : List Int) (w : World) (r : Ending) (w' : World) : Prop := ∃ (B : Option Addr) (c : Nat), r = .returned (.slice B xs.length c) ∧ SlR 1 RInt w' B xs ∧ (xs.length ≤ c ∧ c ≤ maxLen) ∧ Below w.heap.size w w'
set_option maxRecDepth 100000 in
set_option maxHeartbeats 16000000 in
theorem cxwords_any (x : La) (A : Option Addr) (c : Nat) (gn : Int) (AG : Option Addr) (g : List Lk) (cG : Nat) (AC : Option Addr) (cl : List Int) (cC : Nat) (cost : Int) (w : World)
    (hx : SlR 4 REd w A x.es) (hg : SlR 4 RLk w AG g) (hc : SlR 1 RInt w AC cl) (hcl : cl.length ≤ 1000) (hI : ∀ i ∈ cl, LkIn x.es g i) :
    Calls Try.prog 16 #[.agg #[.int .i64 x.n, .slice A x.es.length c], .agg #[.int .i64 gn, .slice AG g.length cG], .agg #[.slice AC cl.length cC, .int .i64 cost]] w (GivesIs (cl.map (wdAt x.es g)) w) := by
  obtain ⟨j0, hj, hy0, hy1, hy2⟩ := info_parts bint_inf
  obtain ⟨w3, hw3⟩ : ∃ W, ((w.alloc (.cells #[.int .i64 x.n, .slice A x.es.length c] 38)).alloc (.cells #[.int .i64 gn, .slice AG g.length cG] 42)).alloc (.cells #[.slice AC cl.length cC, .int .i64 cost] 55) = W := ⟨_, rfl⟩
  have hb3 : Below w.heap.size w w3 := by rw [← hw3]; exact nw _ (nw _ (nw _ (Below.refl _ _)))
  have hLB : Blk w3 w.heap.size 38 #[.int .i64 x.n, .slice A x.es.length c] := by rw [← hw3]; exact ((Blk.new _ _ _).alloc _).alloc _
  have hGB : Blk w3 (w.heap.size + 1) 42 #[.int .i64 gn, .slice AG g.length cG] := by rw [← hw3]; exact (Blk.new_ (by simp)).alloc _
  have hCB : Blk w3 (w.heap.size + 2) 55 #[.slice AC cl.length cC, .int .i64 cost] := by rw [← hw3]; exact Blk.new_ (by simp)
  have HW3 := Lib.hid hw3
  have HBW := Lib.hid hb3
  have HCE : Hid (∀ W, Below w3.heap.size w3 W → W.cell? ⟨w.heap.size, 1, none⟩ = some (.slice A x.es.length c) ∧ W.cell? ⟨w.heap.size + 1, 1, none⟩ = some (.slice AG g.length cG) ∧ W.cell? ⟨w.heap.size + 2, 0, none⟩ = some (.slice AC cl.length cC) ∧ w.heap.size + 2 < W.heap.size) := fun W hW => by
    have e1 := hLB.below hW hLB.lt
    have e2 := hGB.below hW hGB.lt
    have e3 := hCB.below hW hCB.lt
    exact ⟨by rw [e1.cell]; rfl, by rw [e2.cell]; rfl, by rw [e3.cell]; rfl, e3.lt⟩
  have HXX : Hid (∀ W, Below w3.heap.size w3 W → SlR 4 REd W A x.es ∧ SlR 4 RLk W AG g ∧ SlR 1 RInt W AC cl) := fun W hW => by
    have h := HBW.out.trans (hW.mono HBW.out.size)
    exact ⟨hx.below keeps_ed h, hg.below keeps_lk h, hc.below keeps_int h⟩
  have HI := Lib.hid hI
  clear hw3 hb3 hLB hGB hCB hx hg hc hI
  go_enter Try.func16, Try.ntmps16
  go_upto_region 1 with fail
  rw [HW3.out]
  obtain ⟨l0, g0, q0, ll⟩ := HCE.out _ (Below.refl _ _)
  obtain ⟨b1, hb1⟩ : ∃ b, w3.heap.size = b := ⟨_, rfl⟩
  go_upto_region 2 with (at_make; refine wpList_mk0 _ rfl _ _ 31 rfl 3 j0 (.int .i64 0) Try.underlying31 hj hy0 hy1 (by omega) cl.length rfl rfl (by omega) ?_; intro w4 hO4 hB4)
  rw [hb1] at hO4 hB4
  have HB4 := Lib.hid hB4
  have HO4 := Lib.hid hO4
  rw [hb1] at HCE HXX
  have HBE := Lib.hid hb1
  clear l0 g0 q0 ll hO4 hB4 hb1
  obtain ⟨l0, g0, q0, ll⟩ := HCE.out _ HB4.out
  go_wp2_with fail
  clear l0 g0 q0 ll
  go_loopw [7, 18] (fun v i wr => ∃ (j : Nat) (V : Value), V = v ∧ i = .int .i64 j ∧ j ≤ cl.length ∧ Hid (wr.ownsRow b1 3 1 V j (((cl.take j).map (wdAt x.es g)).map (Value.int .i64))) ∧ Below b1 w3 wr) (fun _ i _ => cl.length - (intOf i).toNat)
  case atStart => exact ⟨0, _, rfl, rfl, by omega, HO4, HB4.out⟩
  case round =>
    obtain ⟨W0, rfl⟩ : ∃ V, V = wr := ⟨wr, rfl⟩
    obtain ⟨j, V, rfl, rfl, hj5, HOV, hbr⟩ := hrel
    have HBR := Lib.hid hbr
    have hbs : b1 ≤ W0.heap.size := by have := HBE.out; have := hbr.size; omega
    clear hbr
    by_cases hlt : j < cl.length
    · obtain ⟨⟨l0, g0, q0, ll⟩, hs1, hs2, hs3⟩ := And.intro (HCE.out _ HBR.out) (HXX.out _ HBR.out)
      obtain ⟨bC, oC, iv, hAC, hbC, hiv, dC⟩ := hs3.int hlt
      subst hAC
      obtain ⟨p, lk, q, e, hip, hlk, hlq, hee⟩ := HI.out iv (List.mem_of_getElem? hiv)
      subst hip
      have HWS : Hid ((cl.take (j + 1)).map (wdAt x.es g) = (cl.take j).map (wdAt x.es g) ++ [e.wd]) := by
        show _ = _
        rw [List.take_add_one, hiv]
        simp [wdAt, hlk, hlq, hee]
      have hpl := (List.getElem?_eq_some_iff.1 hlk).1
      have hql := (List.getElem?_eq_some_iff.1 hee).1
      obtain ⟨bG, oG, lk', hAG, hbG, hlk', g1, g2, g3, g4⟩ := hs2.lk hpl
      rw [hlk] at hlk'
      obtain rfl := Option.some.inj hlk'
      subst hAG
      rw [hlq] at g3
      obtain ⟨bE, oE, e', hAE, hbE, hee', f0, f1, f2, f3⟩ := hs1.ed hql
      rw [hee] at hee'
      obtain rfl := Option.some.inj hee'
      subst hAE
      obtain ⟨ef, et, ew, ec⟩ := e
      simp only at f0 f1 f2 f3 HWS
      have hpI : (p : Int) < (g.length : Int) := by omega
      have hqI : (q : Int) < (x.es.length : Int) := by omega
      have hp0 : ¬ (p : Int) < 0 := by omega
      have hq0 : ¬ (q : Int) < 0 := by omega
      have hp1 : ¬ (p : Int) ≥ (g.length : Int) := by omega
      have hq1 : ¬ (q : Int) ≥ (x.es.length : Int) := by omega
      have hjm : j ≤ 1000000 := by omega
      have hjI : (j : Int) < (cl.length : Int) := by omega
      have hj0 : (0 : Int) ≤ (j : Int) := by omega
      clear hiv hlk hlq hee hs1 hs2 hs3 g1 g2 g4 f0 f1 f3
      go_wp2_with (first | (at_builtin; refine wpList_app1 rfl _ _ 31 rfl (b1) 3 j0 _ 1 8 Try.underlying31 hj hy0 hy1 hy2 rfl (by decide) _ _ _ rfl W0 [.int .i64 ew] rfl HOV.out _ rfl (by simp) rfl (by simp [Value.oneCell']) hjm (by decide) hbs ?_; intro v5 w5 hown5 hb5 ha5))
      go_roundw
      case rel => exact ⟨j + 1, _, rfl, by go_num, by omega, (by show w5.ownsRow _ _ _ _ _ _; rw [HWS.out, List.map_append]; exact hown5), HBR.out.trans hb5⟩
      case measure => simp [intOf]; omega
    · obtain rfl : j = cl.length := by omega
      obtain ⟨AV, cV, hV, hcV, hcmV, hsV⟩ := own_ints (xs := cl.map (wdAt x.es g)) (by have := HOV.out; rwa [List.take_length] at this) (by simp)
      subst hV
      have HE := Lib.hid (And.intro hcV hcmV)
      have HSV := Lib.hid hsV
      clear hcV hcmV hsV
      go_wp2_with fail
      go_ret
      exact ⟨AV, cV, by simp, HSV.out, by simpa using HE.out, HBW.out.trans (HBR.out.mono (by have := HBE.out; have := HBW.out.size; omega))⟩
end Go.Proofs.Ytfjkmgjjifhdkaa
