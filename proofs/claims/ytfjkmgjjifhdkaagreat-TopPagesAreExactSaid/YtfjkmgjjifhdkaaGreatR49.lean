/-
  CxWy, TpShort, CxWalkK, CxPl, TpWays, TpWalkJ, TpMe, joined. No conditions.
-/
import Derived.Test.YtfjkmgjjifhdkaaGreatR47
import Derived.Test.YtfjkmgjjifhdkaaGreatR48
import Derived.Test.YtfjkmgjjifhdkaaGreatR19
import Derived.Test.YtfjkmgjjifhdkaaGreatR20
import Derived.Test.YtfjkmgjjifhdkaaGreatR41
import Derived.Test.YtfjkmgjjifhdkaaGreatR43
import Derived.Deep.DeepCutAuto
import Derived.Test.YtfjkmgjjifhdkaaGreatR46
import Derived.Test.YtfjkmgjjifhdkaaGreatR26
import Derived.Test.YtfjkmgjjifhdkaaGreatR40
import Derived.Test.YtfjkmgjjifhdkaaGreatR08
/-
  Layer 20: the first candidates of a lattice's graph, their edges, words and number. No conditions.
-/
namespace Go.Proofs.YtfjkmgjjifhdkaaGreat
open Go Go.RowKit

theorem grL_n (x : La) (m : Mo) (prev : Int) : (grL x m prev).n = ((nodesL x prev).length : Int) := rfl
theorem cnt_small {x : La} (_h : LaOK x) (h13 : x.es.length ≤ 13) : 0 ≤ cntM x ∧ cntM x ≤ 8192 := by
  have h1 := cntL_bd x x.es.length (Nat.le_refl _) x.n.toNat
  have h2 : (2 : Int) ^ x.es.length ≤ 2 ^ 13 := by have h : (2 : Nat) ^ x.es.length ≤ 2 ^ 13 := Nat.pow_le_pow_right (by decide) h13; exact_mod_cast h
  unfold cntM
  omega
theorem nW_cnt {x : La} {m : Mo} {prev : Int} (hg : GrOK (grL x m prev)) (hf : LaOK x) : (nW (grL x m prev) 0 : Int) = cntM x := by rw [nW_first hg hf, cntM_ways hf]
/-- What a candidate of a lattice's graph is. -/
structure CanF (x : La) (m : Mo) (prev : Int) (G : List Lk) (c : Can) (l : List Int) : Prop where
  way : WayTo x 0 l x.n
  cost : c.cost = wsum x m prev l
  len : c.links.length ≤ 200
  same : l.length = c.links.length
  lk : ∀ i ∈ c.links, LkIn x.es G i
  lab : c.links.map (lbAt G) = l
theorem way_in {x : La} {m : Mo} {prev : Int} (hg : GrOK (grL x m prev)) : ∀ (w : List Int) (v : Int), wayB (grL x m prev) v w = true → ∀ i ∈ w, LkIn x.es (lksL x m prev) i
  | i :: w, v, hw, j, hj => by
    obtain ⟨h1, h2⟩ := way_cons.1 hw
    rcases List.mem_cons.1 hj with rfl | hj
    · obtain ⟨a, b, _⟩ := lvs_iff.1 h1
      have h3 := lkAt_mem ⟨a, b⟩
      have h4 : lkAt (grL x m prev) j ∈ lksL x m prev := List.mem_of_getElem? h3
      obtain ⟨i', k, p, e, _, h6, _, h7⟩ := lksL_mem.1 h4
      refine ⟨j.toNat, _, k, e, by omega, h3, ?_, h6⟩
      rw [h7, cx_mkLk_at h6]
    · exact way_in hg w _ h2 j hj
theorem lbAt_lk (x : La) (m : Mo) (prev : Int) {i : Int} (h : LkIn x.es (lksL x m prev) i) : lbAt (lksL x m prev) i = (lkAt (grL x m prev) i).lb := by
  obtain ⟨p, l, q, e, rfl, h2, _, _⟩ := h
  unfold lbAt lkAt
  rw [Int.toNat_natCast, h2, List.getD_eq_getElem?_getD]
  show l.lb = ((lksL x m prev)[p]?.getD default).lb
  rw [h2]
  rfl
theorem canF {x : La} {m : Mo} {prev : Int} (hg : GrOK (grL x m prev)) (hf : LaOK x) (hn : (nodesL x prev).length ≤ 200) {c : Can} (hc : IsCan (grL x m prev) c) : CanF x m prev (lksL x m prev) c (labL (grL x m prev) c.links) := by
  obtain ⟨h1, h2⟩ := way_lab hg hf c.links 0 (0, prev) (node_first x prev) hc.1
  have h3 := way_bd hg hc.1
  rw [grL_n] at h3
  have h4 := way_in hg c.links 0 hc.1
  refine ⟨h1, hc.2.trans h2, by omega, lab_len _ _, h4, ?_⟩
  unfold labL
  exact List.map_congr_left fun i hi => lbAt_lk x m prev (h4 i hi)
end Go.Proofs.YtfjkmgjjifhdkaaGreat

/-
  Pages of a lattice's graph in context: what Build, Make, Check, More, Number, Prefix and Same answer. No conditions.
-/
namespace Go.Proofs.YtfjkmgjjifhdkaaGreat
open Go Go.RowKit

theorem buildL_any (x : La) (A : Option Addr) (c : Nat) (m : Mo) (A1 A2 A3 : Option Addr) (c1 c2 c3 : Nat) (prev : Int) (w : World) (hx : SlR 4 REd w A x.es) (hes : x.es.length ≤ 13) (hm : MoR w m A1 A2 A3) (hc3 : m.ps.length ≤ c3) (hm3 : c3 ≤ maxLen)
    (hok : MoOK m) (hf : FitsL x m.ws.length) (hp : -1 ≤ prev ∧ prev < (m.ws.length : Int)) {nl : Int} (hnl : (grL x m prev).n = nl) {GL : Nat} (hGL : (grL x m prev).ls.length = GL) :
    Calls Tryz.prog 13 #[.agg #[.int .i64 x.n, .slice A x.es.length c], .agg #[.slice A1 m.ws.length c1, .slice A2 m.cs.length c2, .slice A3 m.ps.length c3, .int .i64 m.back], .int .i64 prev] w fun e w' => ∃ (LA LB : Option Addr) (cA lB cB : Nat), e = .returned (.tuple #[.agg #[.int .i64 nl, .slice LA GL cA], .slice LB lB cB, .int .i64 0]) ∧ SlR 4 RLk w' LA (grL x m prev).ls ∧ Below w.heap.size w w' := by
  subst hnl hGL
  have := build_any x A c m A1 A2 A3 c1 c2 c3 prev w hx (by omega) hm hc3 hm3
  rw [buM_ok hok hf hp] at this
  refine this.mono ?_
  rintro e w' ⟨LA, LB, cA, cB, he, h1, _, _, h4, _, _⟩
  exact ⟨LA, LB, cA, _, cB, he, h1, h4⟩
theorem grL_small {x : La} {m : Mo} {prev : Int} (hg : GrOK (grL x m prev)) (hf : LaOK x) (h13 : x.es.length ≤ 13) : (grL x m prev).ls.length ≤ 20000 ∧ nW (grL x m prev) 0 ≤ 1000000 := by
  have h1 := nW_cnt hg hf
  have h2 := cnt_small hf h13
  exact ⟨hg.len, by omega⟩
theorem want_all {g : Gr} (hn : 1 ≤ g.n ∧ g.n ≤ 15) {k : Int} (hk : 0 ≤ k ∧ k ≤ 50) : wantN g k 100000 = k.toNat := by
  unfold wantN
  have h1 : 50 ≤ 100000 / g.n := by rw [Int.le_ediv_iff_mul_le (by omega)]; omega
  congr 1
  omega
theorem grL_nodes (x : La) (m : Mo) (prev : Int) (h13 : x.es.length ≤ 13) : 1 ≤ (grL x m prev).n ∧ (grL x m prev).n ≤ 15 := by
  have := nodesL_len x prev
  rw [grL_n]
  omega
section
variable {g : Gr} (hg : GrOK g) (h14 : g.ls.length ≤ 20000 ∧ nW g 0 ≤ 1000000) {gn : Int} (hgn : g.n = gn) {GL : Nat} (hGL : g.ls.length = GL) {lp : Nat} (hlp : (potL g).length = lp)
include hg h14 hgn hGL
include hlp in
theorem mkS_any {n : Nat} {L : List Can} (hL : pgL g n = L) {l : Nat} (hl : L.length = l) {wb : Bool} (hwb : pgWh g n = wb) {k b : Int} (hk : 0 ≤ k ∧ k ≤ 50) (hb : 0 ≤ b ∧ b ≤ 1000000) (hn : wantN g k b = n) (A : Option Addr) (c : Nat) (w : World) (hx : SlR 4 RLk w A g.ls) :
    Calls Tryz.prog 14 #[.agg #[.int .i64 gn, .slice A GL c], .int .i64 k, .int .i64 b] w fun e w' => ∃ A c B d, e = .returned (.tuple #[.agg #[.slice A l c, .bool wb], .slice B lp d, .int .i64 0]) ∧ PgIn w' A c L ∧ SlR 1 RInt w' B (potL g) ∧ Below w.heap.size w w' := by
  subst hgn hGL hlp hL hl hwb
  exact lmake_any A c g k b n w hx hg h14 hk hb hn
include hlp in
theorem ckS_any {n : Nat} {L : List Can} (hL : pgL g n = L) {l : Nat} (hl : L.length = l) {wb : Bool} (hwb : pgWh g n = wb) (A : Option Addr) (c : Nat) (B : Option Addr) (d : Nat) (C : Option Addr) (e : Nat) (w : World) (hx : SlR 4 RLk w A g.ls) (hh : SlR 1 RInt w B (potL g)) (hp : PgIn w C e L) :
    Calls Tryz.prog 15 #[.agg #[.int .i64 gn, .slice A GL c], .slice B lp d, .agg #[.slice C l e, .bool wb]] w fun r w' => r = .returned (.tuple #[.int .i64 (l : Int), .int .i64 0]) ∧ Below w.heap.size w w' := by
  subst hgn hGL hlp hL hl hwb
  have h := lcheck_any A c g B d C e n w hx hg h14 hh hp
  rw [← pgL_len] at h
  exact h
end
end Go.Proofs.YtfjkmgjjifhdkaaGreat

/-
  The walks of layer 20: ways that are chosen by numbers.
-/
namespace Go.Proofs.YtfjkmgjjifhdkaaGreat
open Go Go.RowKit

end Go.Proofs.YtfjkmgjjifhdkaaGreat

/-
  The plain law of layer 20: costs of ways without pairs, after learning; the reference's way. No program in sight; no conditions.
-/
namespace Go.Proofs.YtfjkmgjjifhdkaaGreat
open Go Go.RowKit

end Go.Proofs.YtfjkmgjjifhdkaaGreat

/-
  The plain law of pages in context: the costs of all ways through a lattice, sorted, are those of the candidates of its graph. No program in sight; no conditions.
-/
namespace Go.Proofs.YtfjkmgjjifhdkaaGreat
open List

/-- All ways from a place on, as lists of edges. -/
def waysAll (x : La) : Nat → Int → List (List Ed)
  | 0, _ => []
  | f + 1, v => if v = x.n then [[]] else x.es.flatMap fun e => if e.fr = v then (waysAll x f e.to).map (fun r => e :: r) else []
def addWay (out : List (List Ed)) (e : Ed) (rest : List (List Ed)) : List (List Ed) := out ++ (rest.take (300 - out.length)).map (fun r => e :: r)
/-- The same, at most 300. -/
def waysTo (x : La) : Nat → Int → List (List Ed)
  | 0, _ => []
  | f + 1, v => if v = x.n then [[]] else x.es.foldl (fun out e => if e.fr = v then addWay out e (waysTo x f e.to) else out) []
theorem addWay_take (A B : List (List Ed)) (e : Ed) : addWay (A.take 300) e (B.take 300) = (A ++ B.map (fun r => e :: r)).take 300 := by
  unfold addWay
  rw [take_append, take_take, length_take, map_take]
  congr 2
  omega
theorem waysTo_eq (x : La) : ∀ f v, waysTo x f v = (waysAll x f v).take 300
  | 0, _ => rfl
  | f + 1, v => by
    unfold waysTo waysAll
    by_cases hv : v = x.n
    · rw [if_pos hv, if_pos hv]; rfl
    · rw [if_neg hv, if_neg hv]
      have key : ∀ (es : List Ed) (A : List (List Ed)), es.foldl (fun out e => if e.fr = v then addWay out e (waysTo x f e.to) else out) (A.take 300) = (A ++ es.flatMap fun e => if e.fr = v then (waysAll x f e.to).map (fun r => e :: r) else []).take 300 := by
        intro es
        induction es with
        | nil => intro A; simp
        | cons e es ih =>
          intro A
          rw [foldl_cons, flatMap_cons]
          by_cases he : e.fr = v
          · rw [if_pos he, if_pos he, waysTo_eq x f e.to, addWay_take, ih, append_assoc]
          · rw [if_neg he, if_neg he, ih, nil_append]
      have := key x.es []
      rw [take_nil, nil_append] at this
      exact this
theorem waysTo_len (x : La) (f : Nat) (v : Int) : (waysTo x f v).length = min 300 (waysAll x f v).length := by rw [waysTo_eq, length_take]
theorem waysAll_mem {x : La} (hx : LaOK x) : ∀ (f : Nat) (v : Int), v ≤ x.n → x.n - v < (f : Int) → ∀ E, E ∈ waysAll x f v ↔ pathE x.n v E ∧ ∀ e ∈ E, e ∈ x.es
  | 0, v, h1, h2, _ => by exfalso; omega
  | f + 1, v, h1, h2, E => by
    unfold waysAll
    by_cases hv : v = x.n
    · rw [if_pos hv]
      constructor
      · intro h
        rw [mem_singleton] at h
        subst h
        exact ⟨hv, fun e he => (not_mem_nil he).elim⟩
      · rintro ⟨h3, h4⟩
        cases E with
        | nil => simp
        | cons e E =>
          exfalso
          have h5 := (hx.2.2.1 e (h4 e (by simp))).1
          have h6 := h3.1
          omega
    · rw [if_neg hv, mem_flatMap]
      constructor
      · rintro ⟨e, he, h⟩
        by_cases hf : e.fr = v
        · rw [if_pos hf] at h
          obtain ⟨r, hr, rfl⟩ := mem_map.1 h
          have h5 := (hx.2.2.1 e he).1
          obtain ⟨h6, h7⟩ := (waysAll_mem hx f e.to (by omega) (by omega) r).1 hr
          exact ⟨⟨hf, h6⟩, all_cons he h7⟩
        · rw [if_neg hf] at h
          exact (not_mem_nil h).elim
      · rintro ⟨h3, h4⟩
        cases E with
        | nil => exact absurd h3 hv
        | cons e E =>
          have he := h4 e (by simp)
          have h5 := (hx.2.2.1 e he).1
          have hf : e.fr = v := h3.1
          refine ⟨e, he, ?_⟩
          rw [if_pos hf]
          exact mem_map.2 ⟨E, (waysAll_mem hx f e.to (by omega) (by omega) E).2 ⟨h3.2, fun g hg => h4 g (by simp [hg])⟩, rfl⟩
theorem es_nodup {x : La} (hx : LaOK x) : x.es.Nodup := (incE_pair hx.2.2.2).imp fun {_ _} h e => by subst e; exact lessE_asym h h
theorem waysAll_nodup {x : La} (hx : LaOK x) : ∀ (f : Nat) (v : Int), (waysAll x f v).Nodup
  | 0, _ => Pairwise.nil
  | f + 1, v => by
    unfold waysAll
    split
    · exact pairwise_singleton _ _
    · refine pairwise_flatMap.2 ⟨fun e _ => ?_, (es_nodup hx).imp fun {a b} hab p hp q hq => ?_⟩
      · split
        · exact (waysAll_nodup hx f e.to).map _ fun {_ _} hne h => hne (cons.inj h).2
        · exact Pairwise.nil
      · rintro rfl
        split at hp
        · split at hq
          · obtain ⟨r, _, rfl⟩ := mem_map.1 hp
            obtain ⟨s, _, hs⟩ := mem_map.1 hq
            exact hab (cons.inj hs).1.symm
          · exact not_mem_nil hq
        · exact not_mem_nil hp

/-- What a way of edges costs after a word. -/
def ctxC (m : Mo) : Int → List Ed → Int
  | _, [] => 0
  | p, e :: r => e.co + pcost m p e.wd.toNat + ctxC m e.wd r
theorem edAt_of {x : La} {k : Int} {e : Ed} (h : x.es[k.toNat]? = some e) : edAt x k = e := by unfold edAt; rw [getD_eq_getElem?_getD, h]; rfl
theorem way_eds {x : La} {m : Mo} : ∀ (l : List Int) (a p : Int), WayTo x a l x.n → pathE x.n a (edsL x l) ∧ (∀ i ∈ l, 0 ≤ i ∧ i < (x.es.length : Int)) ∧ wsum x m p l = ctxC m p (edsL x l)
  | [], a, p, h => ⟨h, fun i hi => (not_mem_nil hi).elim, rfl⟩
  | k :: l, a, p, ⟨e, h0, h1, h2, h3⟩ => by
    obtain ⟨h4, h5, h6⟩ := way_eds (m := m) l e.to e.wd h3
    have hk := (List.getElem?_eq_some_iff.1 h1).1
    have he := edAt_of h1
    refine ⟨?_, all_cons ⟨h0, by omega⟩ h5, ?_⟩
    · show (edAt x k).fr = a ∧ pathE x.n (edAt x k).to (edsL x l)
      rw [he]
      exact ⟨h2, h4⟩
    · rw [wsum_cons h1, h6]
      show _ = (edAt x k).co + pcost m p (edAt x k).wd.toNat + ctxC m (edAt x k).wd (edsL x l)
      rw [he]
theorem path_way {x : La} : ∀ (l : List Int) (a : Int), (∀ i ∈ l, 0 ≤ i ∧ i < (x.es.length : Int)) → pathE x.n a (edsL x l) → WayTo x a l x.n
  | [], _, _, h => h
  | k :: l, a, hr, h => by
    have hk := hr k (by simp)
    exact ⟨edAt x k, hk.1, edAt_mem hk, h.1, path_way l _ (fun i hi => hr i (by simp [hi])) h.2⟩
theorem edAt_inj {x : La} (hx : LaOK x) {i j : Int} (hi : 0 ≤ i ∧ i < (x.es.length : Int)) (hj : 0 ≤ j ∧ j < (x.es.length : Int)) (h : edAt x i = edAt x j) : i = j := by
  rcases Int.lt_trichotomy i j with h1 | h1 | h1
  · have := ed_less hx hi hj h1
    rw [h] at this
    exact (lessE_asym this this).elim
  · exact h1
  · have := ed_less hx hj hi h1
    rw [h] at this
    exact (lessE_asym this this).elim
theorem edsL_inj {x : La} (hx : LaOK x) : ∀ {a b : List Int}, (∀ i ∈ a, 0 ≤ i ∧ i < (x.es.length : Int)) → (∀ i ∈ b, 0 ≤ i ∧ i < (x.es.length : Int)) → edsL x a = edsL x b → a = b
  | [], [], _, _, _ => rfl
  | [], _ :: _, _, _, h => by simp [edsL] at h
  | _ :: _, [], _, _, h => by simp [edsL] at h
  | i :: a, j :: b, ha, hb, h => by
    have h' : edAt x i :: edsL x a = edAt x j :: edsL x b := h
    rw [edAt_inj hx (ha i (by simp)) (hb j (by simp)) (cons.inj h').1, edsL_inj hx (fun k hk => ha k (by simp [hk])) (fun k hk => hb k (by simp [hk])) (cons.inj h').2]

/-- The edges of a candidate of the graph. -/
def canEds (x : La) (m : Mo) (prev : Int) (c : Can) : List Ed := edsL x (labL (grL x m prev) c.links)
theorem can_ways {x : La} {m : Mo} {prev : Int} (hg : GrOK (grL x m prev)) (hf : LaOK x) {f : Nat} (hfu : x.n < (f : Int)) : (allG (grL x m prev)).map (canEds x m prev) ~ waysAll x f 0 := by
  have hA := allG_is hg
  have hway : ∀ c, IsCan (grL x m prev) c → WayTo x 0 (labL (grL x m prev) c.links) x.n := fun c hc => (way_lab hg hf c.links 0 (0, prev) (node_first x prev) hc.1).1
  refine (perm_ext_iff_of_nodup ?_ (waysAll_nodup hf f 0)).2 fun E => ?_
  · unfold Nodup
    rw [pairwise_map]
    refine hA.1.nodup.imp_of_mem fun {c d} hc hd hne h => hne ?_
    have hc := (hA.2 c).1 hc
    have hd := (hA.2 d).1 hd
    have h1 := (way_eds (m := m) _ _ prev (hway c hc)).2.1
    have h2 := (way_eds (m := m) _ _ prev (hway d hd)).2.1
    have h3 := lab_inj c.links d.links 0 hc.1 hd.1 (edsL_inj hf h1 h2 h)
    have h4 := hc.2
    have h5 := hd.2
    rw [h3, ← h5] at h4
    cases c
    cases d
    simp only at h3 h4
    subst h3 h4
    rfl
  · have hn := hf.1
    rw [waysAll_mem hf f 0 (by omega) (by omega), mem_map]
    constructor
    · rintro ⟨c, hc, rfl⟩
      obtain ⟨h1, h2, _⟩ := way_eds (m := m) _ _ prev (hway c ((hA.2 c).1 hc))
      refine ⟨h1, fun e he => ?_⟩
      obtain ⟨i, hi, rfl⟩ := mem_map.1 he
      exact mem_of_getElem? (edAt_mem (h2 i hi))
    · rintro ⟨h1, h2⟩
      obtain ⟨l, h3, rfl⟩ := eds_ex E h2
      obtain ⟨w, hw, hl⟩ := lab_ex (m := m) (prev := prev) hf l 0 (0, prev) (node_first x prev) (path_way l 0 h3 h1)
      refine ⟨⟨w, sumC (grL x m prev) w⟩, (hA.2 _).2 ⟨hw, rfl⟩, ?_⟩
      unfold canEds
      rw [hl]
theorem can_cost {x : La} {m : Mo} {prev : Int} (hg : GrOK (grL x m prev)) (hf : LaOK x) {c : Can} (hc : c ∈ allG (grL x m prev)) : c.cost = ctxC m prev (canEds x m prev c) := by
  obtain ⟨h1, h2⟩ := ((allG_is hg).2 c).1 hc
  obtain ⟨h3, h4⟩ := way_lab hg hf c.links 0 (0, prev) (node_first x prev) h1
  rw [h2, h4]
  exact (way_eds _ _ _ h3).2.2

/-- A cost put at its place. -/
def insC_ (l : List Int) (c : Int) : List Int := l.takeWhile (fun a => decide (a ≤ c)) ++ c :: l.drop (l.takeWhile (fun a => decide (a ≤ c))).length
def sortS (l : List Int) : List Int := l.foldl insC_ []
theorem insC__perm (l : List Int) (c : Int) : insC_ l c ~ c :: l := by
  have h := takeWhile_append_dropWhile (p := fun a => decide (a ≤ c)) (l := l)
  have h2 : l.drop (l.takeWhile (fun a => decide (a ≤ c))).length = l.dropWhile (fun a => decide (a ≤ c)) := by
    have := congrArg (List.drop (l.takeWhile (fun a => decide (a ≤ c))).length) h
    rw [drop_left] at this
    exact this.symm
  unfold insC_
  rw [h2]
  refine perm_middle.trans ?_
  rw [h]
theorem insC__sorted {c : Int} : ∀ {l : List Int}, l.Pairwise (fun a b => a ≤ b) → (insC_ l c).Pairwise (fun a b => a ≤ b)
  | [], _ => pairwise_singleton _ _
  | a :: l, h => by
    obtain ⟨h1, h2⟩ := pairwise_cons.1 h
    by_cases ha : a ≤ c
    · have e : insC_ (a :: l) c = a :: insC_ l c := by
        unfold insC_
        rw [takeWhile_cons_of_pos (by simpa using ha)]
        simp
      rw [e]
      refine pairwise_cons.2 ⟨fun b hb => ?_, insC__sorted h2⟩
      rcases mem_cons.1 ((insC__perm l c).mem_iff.1 hb) with rfl | hb
      · exact ha
      · exact h1 b hb
    · have e : insC_ (a :: l) c = c :: a :: l := by
        unfold insC_
        rw [takeWhile_cons_of_neg (by simpa using ha)]
        simp
      rw [e]
      refine pairwise_cons.2 ⟨fun b hb => ?_, h⟩
      rcases mem_cons.1 hb with rfl | hb
      · omega
      · have := h1 b hb
        omega
theorem sortS_spec (l : List Int) : (sortS l).Pairwise (fun a b => a ≤ b) ∧ sortS l ~ l := by
  have key : ∀ (l acc : List Int), acc.Pairwise (fun a b => a ≤ b) → (l.foldl insC_ acc).Pairwise (fun a b => a ≤ b) ∧ l.foldl insC_ acc ~ acc ++ l := by
    intro l
    induction l with
    | nil => intro acc h; exact ⟨h, by simp⟩
    | cons c l ih =>
      intro acc h
      obtain ⟨h1, h2⟩ := ih (insC_ acc c) (insC__sorted h)
      exact ⟨h1, h2.trans (((insC__perm acc c).append_right l).trans (by rw [cons_append]; exact perm_middle.symm))⟩
  have h := key l [] Pairwise.nil
  rwa [nil_append] at h
theorem sortS_snoc (l : List Int) (c : Int) : sortS (l ++ [c]) = insC_ (sortS l) c := by unfold sortS; rw [foldl_append]; rfl
/-- The costs of all ways, sorted, are those of the candidates. -/
theorem costs_all {x : La} {m : Mo} {prev : Int} (hg : GrOK (grL x m prev)) (hf : LaOK x) {f : Nat} (hfu : x.n < (f : Int)) : sortS ((waysAll x f 0).map (ctxC m prev)) = (allG (grL x m prev)).map (·.cost) := by
  obtain ⟨h1, h2⟩ := sortS_spec ((waysAll x f 0).map (ctxC m prev))
  have h3 := (can_ways (prev := prev) hg hf hfu).map (ctxC m prev)
  rw [map_map] at h3
  have h4 : (allG (grL x m prev)).map (ctxC m prev ∘ canEds x m prev) = (allG (grL x m prev)).map (·.cost) := map_congr_left fun c hc => (can_cost hg hf hc).symm
  rw [h4] at h3
  refine (h2.trans h3.symm).eq_of_pairwise (fun a b _ _ h5 h6 => Int.le_antisymm h5 h6) h1 ?_
  rw [pairwise_map]
  exact (allG_is hg).1.imp fun {a b} h => by rw [canLt_iff] at h; omega
theorem ways_len {x : La} {m : Mo} {prev : Int} (hg : GrOK (grL x m prev)) (hf : LaOK x) {f : Nat} (hfu : x.n < (f : Int)) : (waysAll x f 0).length = (allG (grL x m prev)).length := by
  have := (can_ways (prev := prev) hg hf hfu).length_eq
  rw [length_map] at this
  exact this.symm
end Go.Proofs.YtfjkmgjjifhdkaaGreat

/-
  The walk of contextCost: what a way of edges costs after a word.
-/
namespace Go.Proofs.YtfjkmgjjifhdkaaGreat
open Go Go.RowKit

/-- The last word of some edges, or the word before. -/
def lastW (p : Int) (l : List Ed) : Int := match l.getLast? with
  | some e => e.wd
  | none => p
theorem lastW_cons (p : Int) (e : Ed) (l : List Ed) : lastW p (e :: l) = lastW e.wd l := by
  cases l with
  | nil => rfl
  | cons f l =>
    unfold lastW
    rw [List.getLast?_cons_cons]
    cases h : (f :: l).getLast? with
    | none => simp at h
    | some g => rfl
theorem ctxC_snoc (m : Mo) (e : Ed) : ∀ (l : List Ed) (p : Int), ctxC m p (l ++ [e]) = ctxC m p l + (e.co + pcost m (lastW p l) e.wd.toNat)
  | [], p => by show e.co + _ + 0 = 0 + _; unfold lastW; simp
  | f :: l, p => by
    show f.co + _ + ctxC m f.wd (l ++ [e]) = f.co + _ + ctxC m f.wd l + _
    rw [ctxC_snoc m e l f.wd, lastW_cons]
    omega
theorem lastW_take {p : Int} {l : List Ed} {k : Nat} {e : Ed} (h : l[k]? = some e) : lastW p (l.take (k + 1)) = e.wd := by
  unfold lastW
  rw [getLast_take h]
theorem lastW_in {m : Mo} {p : Int} {l : List Ed} (hp : -1 ≤ p ∧ p < (m.ws.length : Int)) (hl : ∀ e ∈ l, 0 ≤ e.wd ∧ e.wd < (m.ws.length : Int)) : -1 ≤ lastW p l ∧ lastW p l < (m.ws.length : Int) := by
  unfold lastW
  cases h : l.getLast? with
  | none => exact hp
  | some e =>
    have h2 := hl e (List.mem_of_getLast? h)
    exact ⟨by show -1 ≤ e.wd; omega, h2.2⟩
set_option maxRecDepth 100000 in
set_option maxHeartbeats 8000000 in
theorem ctxcost_any (A : Option Addr) (es : List Ed) (c : Nat) (m : Mo) (A1 A2 A3 : Option Addr) (c1 c2 c3 : Nat) (prev : Int) (w : World) (hx : SlR 4 REd w A es) (hes : es.length ≤ 100) (hm : MoR w m A1 A2 A3) (hok : MoOK m) (hc3 : m.ps.length ≤ c3) (hm3 : c3 ≤ maxLen)
    (hpv : -1 ≤ prev ∧ prev < (m.ws.length : Int)) (hE : ∀ e ∈ es, (0 ≤ e.wd ∧ e.wd < (m.ws.length : Int)) ∧ 0 ≤ e.co ∧ e.co ≤ 1000000) :
    Calls Tryz.prog 17 #[.slice A es.length c, .agg #[.slice A1 m.ws.length c1, .slice A2 m.cs.length c2, .slice A3 m.ps.length c3, .int .i64 m.back], .int .i64 prev] w fun e w' => e = .returned (.int .i64 (ctxC m prev es)) ∧ Below w.heap.size w w' := by
  have HCL : Hid (m.cs.length = m.ws.length) := hok.1.1.2.1
  have hnw : m.ws.length ≤ 200 := hok.1.1.1.1.2
  obtain ⟨w1, hw1⟩ : ∃ w1, w.alloc (.cells #[.slice A1 m.ws.length c1, .slice A2 m.cs.length c2, .slice A3 m.ps.length c3, .int .i64 m.back] 56) = w1 := ⟨_, rfl⟩
  have hb1 : Below w.heap.size w w1 := by rw [← hw1]; exact nw _ (Below.refl _ _)
  have hMB : Blk w1 w.heap.size 56 #[.slice A1 m.ws.length c1, .slice A2 m.cs.length c2, .slice A3 m.ps.length c3, .int .i64 m.back] := by rw [← hw1]; exact Blk.new _ _ _
  have HW1 := Lib.hid hw1
  have HB1 := Lib.hid hb1
  have HC : Hid (∀ W, Below w1.heap.size w1 W → W.cell? ⟨w.heap.size, 0, none⟩ = some (.slice A1 m.ws.length c1) ∧ W.cell? ⟨w.heap.size, 1, none⟩ = some (.slice A2 m.cs.length c2) ∧ W.cell? ⟨w.heap.size, 2, none⟩ = some (.slice A3 m.ps.length c3) ∧ W.cell? ⟨w.heap.size, 3, none⟩ = some (.int .i64 m.back) ∧ w.heap.size < W.heap.size) := fun W hW => by
    have e2 := hMB.below hW hMB.lt
    exact ⟨by rw [e2.cell]; rfl, by rw [e2.cell]; rfl, by rw [e2.cell]; rfl, by rw [e2.cell]; rfl, e2.lt⟩
  clear hw1 hb1 hMB
  have HX : Hid (∀ W, Below w1.heap.size w1 W → SlR 4 REd W A es) := fun W hW => hx.below keeps_ed (bthen HB1.out hW)
  have HPA : Hid (∀ W (a : Int) (k : Nat), Below w1.heap.size w1 W → a < 65536 → k < m.cs.length → Calls Tryz.prog 49 #[.agg #[.slice A1 m.ws.length c1, .slice A2 m.cs.length c2, .slice A3 m.ps.length c3, .int .i64 m.back], .int .i64 a, .int .i64 (k : Int)] W fun e w' => e = .returned (.int .i64 (pcost m a k)) ∧ Below W.heap.size W w') := fun W a k hW ha hk => pair_any m A1 A2 A3 c1 c2 c3 a k W (hm.below (bthen HB1.out hW)) hok hk ha hc3 hm3
  have HOK := Lib.hid hok
  have HE := Lib.hid hE
  have HPV := Lib.hid hpv
  clear hx hm hok hE hpv hc3 hm3
  go_enter Tryz.func17, Tryz.ntmps17
  go_upto_region 1 with fail
  rw [HW1.out]
  go_wp2_with fail
  go_loopw [2, 7, 8] (fun pv sv iv wr => ∃ (k : Nat) (p s : Int), k ≤ es.length ∧ Hid (p = lastW prev (es.take k)) ∧ Hid (s = ctxC m prev (es.take k)) ∧ (0 ≤ s ∧ s ≤ (k : Int) * 1001512) ∧ pv = .int .i64 p ∧ sv = .int .i64 s ∧ iv = .int .i64 (k : Int) ∧ Below w1.heap.size w1 wr) (fun _ _ iv _ => es.length - (intOf iv).toNat)
  case atStart => exact ⟨0, prev, 0, by omega, (by show prev = _; rfl), (by show 0 = _; rfl), by omega, rfl, rfl, rfl, Below.refl _ _⟩
  case round =>
    obtain ⟨k, p, s, hk, HP, HS, hsb, rfl, rfl, rfl, hbr⟩ := hrel
    have HBR := Lib.hid hbr
    by_cases hlt : k < es.length
    · obtain ⟨b, off, e, hA, hbb, hee, d0, d1, d2, d3⟩ := (HX.out _ hbr).ed hlt
      subst hA
      obtain ⟨⟨hw0, hw1'⟩, hc0, hc1⟩ := HE.out e (List.mem_of_getElem? hee)
      have hpi : -1 ≤ p ∧ p < (m.ws.length : Int) := by rw [HP.out]; exact lastW_in HPV.out fun f hf => (HE.out f (List.mem_of_mem_take hf)).1
      obtain ⟨q, hq⟩ : ∃ q : Nat, e.wd = (q : Int) := ⟨e.wd.toNat, by omega⟩
      have hql : q < m.cs.length := by have := HCL.out; omega
      obtain ⟨pb0, pb1⟩ := pcost_in HOK.out p hql
      have HPC := Lib.hid (fun W hW => HPA.out W p q hW (by omega) hql)
      have HSN : Hid (ctxC m prev (es.take (k + 1)) = s + (e.co + pcost m p q)) := by show _ = _; rw [take_snoc_of hee, ctxC_snoc, HS.out, HP.out, hq, Int.toNat_natCast]
      have HLN : Hid ((q : Int) = lastW prev (es.take (k + 1))) := by show _ = _; rw [lastW_take hee, hq]
      obtain ⟨pc, hpc⟩ : ∃ v, pcost m p q = v := ⟨_, rfl⟩
      rw [hpc] at HPC HSN pb0 pb1
      have hwa : IntKind.i64.wrap (e.co + pc) = e.co + pc := IntWalk.i64_in _ (by omega)
      have hwb : IntKind.i64.wrap (s + (e.co + pc)) = s + (e.co + pc) := IntWalk.i64_in _ (by omega)
      have hsn : 0 ≤ s + (e.co + pc) ∧ s + (e.co + pc) ≤ ((k + 1 : Nat) : Int) * 1001512 := by omega
      rw [hq] at d2
      have hkI : (k : Int) < (es.length : Int) := by omega
      have hk0 : (0 : Int) ≤ (k : Int) := by omega
      have HD2 : Hid (∀ W, Below wr.heap.size wr W → W.cell? ⟨b, off + k * 4 + 2, none⟩ = some (.int .i64 (q : Int))) := fun W hW => (hW.cell (p := ⟨b, _, none⟩) hbb).trans d2
      obtain ⟨m0, m1, m2, m3, ml⟩ := HC.out _ hbr
      clear hee hpc hq hbr d0 d1
      go_upto_region 5 with fail
      refine ordB_below (.quiet 0 (.quiet 1 (.quiet 2 (.quiet 3 (.quiet 4 (.quiet 5 (.quiet 6 (.quiet 7 (.quiet 8 (.quiet 9 (.quiet 10 (.quiet 11 (.quiet 12 (.only 13 (.quiet 14 (.quiet 15 (.quiet 16 .done))))))))))))))))) (by kernel_rfl) (by kernel_rfl) (by kernel_rfl) (fun _ _ _ _ _ h => h) ?_
      intro V0 hV0
      iterate 13 (first
        | (refine ordB_skip rfl rfl ?_; simp only [Act.put, List.setIfInBounds_toArray, List.set_cons_zero, List.set_cons_succ])
        | (refine ordB_take (v := ?_) rfl rfl ?_ ?_
           rotate_left 1
           focus (intro W hW; obtain ⟨hcW, hfW⟩ := bcell hW; (go_simp <;> with_reducible rfl))
           simp only [Act.put, List.setIfInBounds_toArray, List.set_cons_zero, List.set_cons_succ]))
      refine ordB_only (opB_call rfl rfl (fun K hK => ?_))
      go_simp
      go_at_call 49
      refine (HPC.out V0 (bthen HBR.out hV0)).mono ?_
      rintro e V0_1 ⟨rfl, hx9⟩
      refine hK.out _ _ (hV0.trans (hx9.mono hV0.size)) (fun hV0_1 => ?_)
      iterate 3 (first
        | (refine ordB_skip rfl rfl ?_; simp only [Act.put, List.setIfInBounds_toArray, List.set_cons_zero, List.set_cons_succ])
        | (refine ordB_take (v := ?_) rfl rfl ?_ ?_
           rotate_left 1
           focus (intro W hW; obtain ⟨hcW, hfW⟩ := bcell hW; (go_simp <;> with_reducible rfl))
           simp only [Act.put, List.setIfInBounds_toArray, List.set_cons_zero, List.set_cons_succ]))
      refine ordB_nil ?_
      have HBE := Lib.hid (bthen HBR.out hV0_1)
      have d2 := HD2.out _ hV0_1
      have hbb := Nat.lt_of_lt_of_le hbb hV0_1.size
      clear d3 m0 m1 m2 m3 ml
      go_wp2_with fail
      go_roundw
      case rel => exact ⟨k + 1, (q : Int), s + (e.co + pc), by omega, HLN.out, HSN.out.symm, hsn, rfl, rfl, by go_num, HBE.out⟩
      case measure => simp [intOf]; omega
    · obtain rfl : k = es.length := by omega
      have HR : Hid (s = ctxC m prev es) := by show _ = _; rw [HS.out, List.take_length]
      go_wp2_with fail
      go_ret
      exact ⟨by rw [← HR.out]; rfl, bthen HB1.out hbr⟩
end Go.Proofs.YtfjkmgjjifhdkaaGreat

/-
  Words for memory of the laws on pages in context: ways of edges in rows of the call's own.
-/
namespace Go.Proofs.YtfjkmgjjifhdkaaGreat
open Go Go.RowKit

/-- A slice of edges in a block of edges. -/
def SlTE (w : World) (A : Option Addr) (xs : List Ed) : Prop := xs ≠ [] → ∃ b off cs, A = some ⟨b, off, none⟩ ∧ Blk w b 44 cs ∧ ∀ (k : Nat) (x : Ed), xs[k]? = some x → ∀ (j : Nat) (u : Value), (encEd x)[j]? = some u → cs[off + k * 4 + j]? = some u
section
variable {w w' : World} {A : Option Addr} {xs : List Ed}
theorem SlTE.nil : SlTE w A [] := fun h => absurd rfl h
theorem SlTE.slr (h : SlTE w A xs) : SlR 4 REd w A xs := fun hne => by
  obtain ⟨b, off, cs, hA, hb, hc⟩ := h hne
  exact ⟨b, off, hA, hb.lt, fun k x hk => ⟨encEd x, rfl, rfl, fun j v hj => by rw [hb.cell]; exact hc k x hk j v hj⟩⟩
theorem SlTE.below (h : SlTE w A xs) (hb : Below w.heap.size w w') : SlTE w' A xs := fun hne => by
  obtain ⟨b, off, cs, hA, hB, hc⟩ := h hne
  exact ⟨b, off, cs, hA, hB.below hb hB.lt, hc⟩
theorem SlTE.apps {base : Nat} {e : TypeId} {s n : Nat} {v v' : Value} {ys : List Value} (h : SlTE w A xs) (ho : w.ownsRow base e s v n ys) (hne : e ≠ 44) (ha : Apps w w' v v') : SlTE w' A xs := fun hn => by
  obtain ⟨b, off, cs, hA, hB, hc⟩ := h hn
  exact ⟨b, off, cs, hA, hB.apps ha (own_blk_ne ho hB hne), hc⟩
theorem flat_getW : ∀ (l : List Ed) (k : Nat) (x : Ed), l[k]? = some x → ∀ j u, (encEd x)[j]? = some u → (l.flatMap encEd)[k * 4 + j]? = some u
  | [], k, x, h => by simp at h
  | y :: l, 0, x, h => fun j u hu => by
    simp at h
    subst h
    rw [List.flatMap_cons, Nat.zero_mul, Nat.zero_add, List.getElem?_append_left (List.getElem?_eq_some_iff.1 hu).1]
    exact hu
  | y :: l, k + 1, x, h => fun j u hu => by
    rw [List.flatMap_cons, List.getElem?_append_right (by show 4 ≤ _; omega)]
    show (l.flatMap encEd)[(k + 1) * 4 + j - 4]? = _
    rw [show (k + 1) * 4 + j - 4 = k * 4 + j by omega]
    exact flat_getW l k x (by simpa using h) j u hu
/-- A row of edges of the call's own. -/
theorem own_slte {base n : Nat} {v : Value} (h : w.ownsRow base 44 4 v n (xs.flatMap encEd)) (hn : n = xs.length) : ∃ B cap, v = .slice B n cap ∧ n ≤ cap ∧ cap ≤ maxLen ∧ SlTE w B xs := by
  rcases h.2 with ⟨rfl, h0⟩ | ⟨g, cap, cur, rfl, hg, hh, hnc, hcm, hcs, htk⟩
  · subst h0
    have : xs = [] := List.length_eq_zero_iff.1 hn.symm
    subst this
    exact ⟨none, 0, rfl, Nat.le_refl _, Nat.zero_le _, SlTE.nil⟩
  · refine ⟨some ⟨g, 0, none⟩, cap, rfl, hnc, hcm, fun _ => ⟨g, 0, cur, rfl, hh, fun k x hk j u hu => ?_⟩⟩
    have h1 := flat_getW xs k x hk j u hu
    rw [← htk, List.getElem?_take] at h1
    split at h1
    · simpa using h1
    · cases h1
end
/-- A way of edges as it lies in memory. -/
structure WyM where
  A : Option Addr
  c : Nat
  E : List Ed
def encWy (m : WyM) : List Value := [.slice m.A m.E.length m.c]
def RWy (_ : World) (m : WyM) (vs : List Value) : Prop := vs = encWy m
theorem keeps_wy : Keeps RWy := fun _ _ _ _ _ h => h
def WyOK (w : World) (ms : List WyM) : Prop := ∀ m ∈ ms, SlTE w m.A m.E ∧ m.E.length ≤ m.c ∧ m.c ≤ maxLen
section
variable {w w' : World} {ms : List WyM}
theorem WyOK.nil : WyOK w [] := fun _ h => by cases h
theorem WyOK.below (h : WyOK w ms) (hb : Below w.heap.size w w') : WyOK w' ms := fun m hm => ⟨(h m hm).1.below hb, (h m hm).2⟩
theorem WyOK.apps {base : Nat} {e : TypeId} {s n : Nat} {v v' : Value} {ys : List Value} (h : WyOK w ms) (ho : w.ownsRow base e s v n ys) (hne : e ≠ 44) (ha : Apps w w' v v') : WyOK w' ms := fun m hm => ⟨(h m hm).1.apps ho hne ha, (h m hm).2⟩
theorem WyOK.app {ns : List WyM} (h : WyOK w ms) (h' : WyOK w ns) : WyOK w (ms ++ ns) := fun m hm => (List.mem_append.1 hm).elim (h m) (h' m)
end
theorem SlR.wy {w : World} {A : Option Addr} {xs : List WyM} (h : SlR 1 RWy w A xs) {k : Nat} (hk : k < xs.length) : ∃ b off m, A = some ⟨b, off, none⟩ ∧ b < w.heap.size ∧ xs[k]? = some m ∧ w.cell? ⟨b, off + k, none⟩ = some (.slice m.A m.E.length m.c) := by
  obtain ⟨b, off, x, vs, hA, hlt, hx, hr, _, hv⟩ := h.at_ hk
  refine ⟨b, off, x, hA, hlt, hx, ?_⟩
  have := hv 0 _ (by rw [hr]; rfl)
  simpa using this
end Go.Proofs.YtfjkmgjjifhdkaaGreat
