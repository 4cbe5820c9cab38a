/-
  BsWalkE, BsHeapW, joined. No conditions.
-/
import Derived.Test.YtfjkmgjjifhdkaaGreatR14
/-
  The walks of layer 15: a way finished by the first ways from its end.
-/
namespace Go.Proofs.YtfjkmgjjifhdkaaGreat
open Go Go.RowKit

/-- A table in memory, whatever lies beside it. -/
structure TabW (g : Gr) (N : Nat) (A : Option Addr) (c bt gl gf : Nat) (W : World) : Prop where
  t : Blk W bt 93 #[.int .i64 (N : Int), .slice A g.ls.length c, .slice (some ⟨gl, 0, none⟩) N N, .slice (some ⟨gf, 0, none⟩) N N]
  ls : SlR 4 RLk W A g.ls
  l : Row W gl (potL g)
  f : SlR 1 RSl W (some ⟨gf, 0, none⟩) (frAll g N)
section
variable {g : Gr} {N : Nat} {A : Option Addr} {c bt gl gf : Nat} {w W : World}
theorem TabW.below (h : TabW g N A c bt gl gf w) (hb : Below w.heap.size w W) : TabW g N A c bt gl gf W := ⟨h.t.below hb h.t.lt, h.ls.below keeps_lk hb, Row.below h.l hb h.l.lt, h.f.below keeps_sl hb⟩
/-- The links of a node, in order. -/
theorem TabW.at_ (h : TabW g N A c bt gl gf w) {v : Nat} (hv : v < N) : ∃ B k, w.cell? ⟨gf, v, none⟩ = some (.slice B (frL g (v : Int)).length k) ∧ gf < w.heap.size ∧ SlR 1 RInt w B (frL g (v : Int)) ∧ (frL g (v : Int)).length ≤ k ∧ k ≤ maxLen := by
  obtain ⟨b, o, x, B, k, he, hb, hx, hc, hs, h1, h2⟩ := h.f.sl (k := v) (by rw [frAll_len]; exact hv)
  rw [frAll_at g hv] at hx
  obtain rfl := Option.some.inj hx
  obtain ⟨rfl, rfl⟩ : gf = b ∧ 0 = o := by injection he with he; injection he with h1 h2; exact ⟨h1, h2⟩
  rw [Nat.zero_add] at hc
  exact ⟨B, k, hc, hb, hs, h1, h2⟩
end
theorem frL_lenb {g : Gr} (hg : GrOK g) (v : Int) : (frL g v).length ≤ 20000 := Nat.le_trans frL_len (lvs_len hg v)
set_option maxRecDepth 100000 in
set_option maxHeartbeats 8000000 in
theorem finish_any (A : Option Addr) (c N bt gl gf B nd : Nat) (g : Gr) (hg : GrOK g) (hN : g.n = (N : Int)) (v : Value) (hd : List Int) (w : World) (hB : B ≤ w.heap.size)
    (HT : Hid (∀ W, Below B w W → TabW g N A c bt gl gf W)) (hown : w.ownsRow B 3 1 v hd.length (hd.map (Value.int .i64))) (hnd : nd < N) (hh : 0 ≤ hAt g (nd : Int)) (hlen : hd.length ≤ nd) :
    Calls Tryz.prog 36 #[.pointer (some ⟨bt, 0, none⟩), v, .int .i64 (nd : Int)] w fun e w' => ∃ v', e = .returned v' ∧ w'.ownsRow B 3 1 v' (hd ++ bw g (nd : Int)).length ((hd ++ bw g (nd : Int)).map (Value.int .i64)) ∧ Below B w w' := by
  obtain ⟨i0, hi, hz0, hz1, hz2⟩ := info_parts bint_inf
  have hn := hg.n
  rw [hN] at hn
  have HO : Hid (w.ownsRow B 3 1 v hd.length (hd.map (Value.int .i64))) := hown
  have HG := Lib.hid hg
  have HN := Lib.hid hN
  clear hg hN hown
  go_enter Tryz.func36, Tryz.ntmps36
  go_wp2_with fail
  go_loopw [1, 2] (fun hv nv wr => ∃ (dn : List Int) (k : Nat), nv = .int .i64 (k : Int) ∧ Hid (wr.ownsRow B 3 1 hv dn.length (dn.map (Value.int .i64))) ∧ Hid (hd ++ bw g (nd : Int) = dn ++ bw g (k : Int)) ∧ k < N ∧ Hid (0 ≤ hAt g (k : Int)) ∧ dn.length ≤ k ∧ Below B w wr) (fun _ nv _ => N - (intOf nv).toNat)
  case atStart => exact ⟨hd, nd, rfl, HO, rfl, hnd, hh, hlen, Below.refl _ _⟩
  case round =>
    obtain ⟨dn, k, rfl, HOr, HE, hkN, HH, hdk, hbr⟩ := hrel
    have hT := HT.out wr hbr
    have t0 := hT.t.cell 0
    have t1 := hT.t.cell 1
    have t3 := hT.t.cell 3
    simp at t0 t1 t3
    have tl := hT.t.lt
    by_cases hlt : k + 1 < N
    · have hk1 : (k : Int) < g.n - 1 := by have := HN.out; omega
      obtain ⟨x0, r0, hfr⟩ : ∃ x r, frL g (k : Int) = x :: r := by
        cases h : frL g (k : Int) with
        | nil => have := (frL_nil HG.out (by omega) hk1).1 h; have := HH.out; omega
        | cons x r => exact ⟨x, r, rfl⟩
      obtain ⟨Bk, ck, f0, fl, hs, hl1, hl2⟩ := hT.at_ hkN
      have hlpos : 0 < (frL g (k : Int)).length := by rw [hfr]; simp
      have hlpos' : (0 : Int) < ((frL g (k : Int)).length : Int) := by omega
      obtain ⟨bx, ox, x0', rfl, hbx, hxx, hcx⟩ := hs.int (k := 0) hlpos
      have e0 : x0 = x0' := by rw [hfr] at hxx; simpa using hxx
      subst e0
      rw [Nat.add_zero] at hcx
      have hlk := frL_link HG.out (show x0 ∈ frL g (k : Int) by rw [hfr]; simp)
      have hbw := bw_step HG.out (by omega) hk1 hfr
      obtain ⟨h0, h1, _, h3, h4, _, _, h7⟩ := hlk
      obtain ⟨xn, rfl⟩ : ∃ xn : Nat, x0 = (xn : Int) := ⟨x0.toNat, by omega⟩
      obtain ⟨tn, htn⟩ : ∃ tn : Nat, (lkAt g (xn : Int)).to = (tn : Int) := ⟨(lkAt g (xn : Int)).to.toNat, by omega⟩
      rw [htn] at hbw h3 h4 h7
      have HE2 : Hid (hd ++ bw g (nd : Int) = (dn ++ [(xn : Int)]) ++ bw g (tn : Int)) := by show _ = _; rw [HE.out, hbw]; simp
      have HH2 := Lib.hid h7
      have hxnl : xn < g.ls.length := by omega
      have htN : tn < N := by have := HN.out; omega
      have hkt : k < tn := by omega
      have htm := lkAt_mem (g := g) (i := (xn : Int)) ⟨by omega, by omega⟩
      rw [Int.toNat_natCast] at htm
      have hne : (k : Int) ≠ (N : Int) - 1 := by omega
      have hwN : IntKind.i64.wrap ((N : Int) - 1) = (N : Int) - 1 := IntWalk.i64_in _ (by omega)
      have HTM := Lib.hid htm
      have HTN := Lib.hid htn
      have hxn' : (xn : Int) < (g.ls.length : Int) := by omega
      clear hfr hxx hs hbw h7 htm htn h1 hk1
      go_upto_region 4 with (at_builtin; go_loud (refine wpList_app1 rfl _ _ 40 rfl B 3 i0 _ 1 8 Tryz.underlying40 hi hz0 hz1 hz2 rfl (by decide) u1 _ _ rfl _ [.int .i64 (xn : Int)] rfl HOr.out _ rfl (by simp) rfl (by simp [Value.oneCell']) (by omega) (by decide) (by have := hbr.size; omega) ?_; intro v4 w4 hown4 hb4 ha4))
      have hO4 : w4.ownsRow B 3 1 v4 (dn ++ [(xn : Int)]).length ((dn ++ [(xn : Int)]).map (Value.int .i64)) := by rw [List.length_append, List.map_append]; exact hown4
      have HO4 := Lib.hid hO4
      have hbw4 := hbr.trans hb4
      have hT4 := HT.out w4 hbw4
      have t1 := hT4.t.cell 1
      simp at t1
      have tl := hT4.t.lt
      obtain ⟨b, off, l, hA, hbb, hll, d0, d1, d2, d3⟩ := hT4.ls.lk hxnl
      have e1 : l = lkAt g (xn : Int) := by rw [HTM.out] at hll; exact (Option.some.inj hll).symm
      rw [e1, HTN.out] at d1
      clear hll e1 d0 d2 d3 hO4 hown4
      subst hA
      go_wp2_with fail
      go_roundw
      case rel => exact ⟨dn ++ [(xn : Int)], tn, rfl, HO4, HE2, htN, HH2, by simp; omega, hbw4⟩
      case measure => simp [intOf]; omega
    · have hk : k = N - 1 := by omega
      have HR : Hid (hd ++ bw g (nd : Int) = dn) := by
        show _ = _
        rw [HE.out, show (k : Int) = g.n - 1 by have := HN.out; omega, bw_last]
        simp
      have he : (k : Int) = (N : Int) - 1 := by omega
      have hwN : IntKind.i64.wrap ((N : Int) - 1) = (N : Int) - 1 := IntWalk.i64_in _ (by omega)
      have z1 : ((k : Int) != (N : Int) - 1) = false := by simp [he]
      clear he hk
      go_wp2_with fail
      go_ret
      exact ⟨u1, rfl, by rw [HR.out]; exact HOr.out, hbr⟩
end Go.Proofs.YtfjkmgjjifhdkaaGreat

/-
  Words for the heap of groups in memory: its rows, its frame.
-/
namespace Go.Proofs.YtfjkmgjjifhdkaaGreat
open Go Go.RowKit

def ltG (a b : MG) : Bool := earlierM a.G b.G
theorem getD_mapG (l : List MG) (i : Nat) : (l.map (·.G)).getD i default = (l.getD i default).G := by
  simp only [List.getD_eq_getElem?_getD, List.getElem?_map]
  cases l[i]? <;> rfl
theorem swp_mapG (l : List MG) (i j : Nat) : (swp l i j).map (·.G) = swp (l.map (·.G)) i j := by
  unfold swp
  rw [getD_mapG, getD_mapG, List.map_set, List.map_set]
theorem upM_mapG : ∀ (f : Nat) (l : List MG) (i : Nat), (upM ltG f l i).map (·.G) = upM earlierM f (l.map (·.G)) i := by
  intro f
  induction f with
  | zero => intros; rfl
  | succ f ih =>
    intro l i
    unfold upM
    rw [getD_mapG, getD_mapG, ← swp_mapG]
    by_cases h0 : i = 0
    · rw [if_pos h0, if_pos h0]
    · rw [if_neg h0, if_neg h0]
      by_cases h1 : ltG (l.getD i default) (l.getD ((i - 1) / 2) default) = true
      · rw [if_pos h1, if_pos (show earlierM _ _ = true from h1), ih]
      · rw [if_neg h1, if_neg (show ¬ earlierM _ _ = true from h1)]
theorem pushM_mapG (l : List MG) (x : MG) : (pushM ltG l x).map (·.G) = pushM earlierM (l.map (·.G)) x.G := by
  unfold pushM
  rw [upM_mapG, List.map_append, List.length_map]
  rfl
theorem lsA_mapG (l : List MG) (i : Nat) : lsA earlierM (l.map (·.G)) i = lsA ltG l i := by
  unfold lsA
  rw [getD_mapG, getD_mapG, List.length_map]
  rfl
theorem lsM_mapG (l : List MG) (i : Nat) : lsM earlierM (l.map (·.G)) i = lsM ltG l i := by
  unfold lsM
  rw [lsA_mapG, getD_mapG, getD_mapG, List.length_map]
  rfl
theorem dnM_mapG : ∀ (f : Nat) (l : List MG) (i : Nat), (dnM ltG f l i).map (·.G) = dnM earlierM f (l.map (·.G)) i := by
  intro f
  induction f with
  | zero => intros; rfl
  | succ f ih =>
    intro l i
    unfold dnM
    rw [lsM_mapG, ← swp_mapG]
    by_cases h0 : lsM ltG l i = i
    · rw [if_pos h0, if_pos h0]
    · rw [if_neg h0, if_neg h0, ih]
theorem popM_mapG (l : List MG) : (popM ltG l).map (·.G) = popM earlierM (l.map (·.G)) := by
  unfold popM
  rw [dnM_mapG, List.map_take, List.map_set, getD_mapG, List.length_map]
theorem upM_memG : ∀ (f : Nat) (l : List MG) (i : Nat), i < l.length → (upM ltG f l i).length = l.length ∧ ∀ x ∈ upM ltG f l i, x ∈ l := by
  intro f
  induction f with
  | zero => intro l i _; exact ⟨rfl, fun _ h => h⟩
  | succ f ih =>
    intro l i hi
    unfold upM
    by_cases h0 : i = 0
    · rw [if_pos h0]; exact ⟨rfl, fun _ h => h⟩
    · rw [if_neg h0]
      by_cases h1 : ltG (l.getD i default) (l.getD ((i - 1) / 2) default) = true
      · rw [if_pos h1]
        have hp : (i - 1) / 2 < l.length := by omega
        obtain ⟨h2, h3⟩ := ih (swp l i ((i - 1) / 2)) ((i - 1) / 2) (by rw [swp_len]; exact hp)
        exact ⟨by rw [h2, swp_len], fun x hx => (swp_perm hi hp).mem_iff.1 (h3 x hx)⟩
      · rw [if_neg h1]; exact ⟨rfl, fun _ h => h⟩

section
variable {α : Type} {enc : α → List Value}
theorem flat_get {s : Nat} (hl : ∀ x, (enc x).length = s) : ∀ (l : List α) (k : Nat) (x : α), l[k]? = some x → ∀ j u, (enc x)[j]? = some u → (l.flatMap enc)[k * s + j]? = some u := by
  intro l
  induction l with
  | nil => intro k x h; simp at h
  | cons y l ih =>
    intro k x hx j u hu
    cases k with
    | zero =>
      simp at hx; subst hx
      obtain ⟨hj, _⟩ := List.getElem?_eq_some_iff.1 hu
      rw [List.flatMap_cons, Nat.zero_mul, Nat.zero_add, List.getElem?_append_left hj]
      exact hu
    | succ k =>
      rw [List.flatMap_cons, List.getElem?_append_right (by rw [hl, Nat.succ_mul]; omega)]
      rw [hl, show (k + 1) * s + j - s = k * s + j by rw [Nat.succ_mul]; omega]
      exact ih k x (by simpa using hx) j u hu
/-- An element of four cells is stored. -/
theorem flat_set4 (hl : ∀ x, (enc x).length = 4) {x : α} {a b c d : Value} (he : enc x = [a, b, c, d]) : ∀ (l : List α) (k : Nat), k < l.length →
    (l.set k x).flatMap enc = ((((l.flatMap enc).set (k * 4) a).set (k * 4 + 1) b).set (k * 4 + 2) c).set (k * 4 + 3) d := by
  intro l
  induction l with
  | nil => intro k h; simp at h
  | cons y l ih =>
    intro k hk
    obtain ⟨p, q, r, s, hy⟩ : ∃ p q r s, enc y = [p, q, r, s] := by
      have := hl y
      match enc y, this with
      | [p, q, r, s], _ => exact ⟨p, q, r, s, rfl⟩
    cases k with
    | zero => simp [List.flatMap_cons, he, hy]
    | succ k =>
      have := ih k (by simpa using hk)
      rw [List.set_cons_succ, List.flatMap_cons, List.flatMap_cons, this, hy]
      have e0 : (k + 1) * 4 = k * 4 + 4 := by omega
      rw [e0]
      simp [List.set_cons_succ]
end
section
variable {w w' : World} {B : Nat} {n : Nat} {v : Value} {L : List MG}
theorem encMg_len (x : MG) : (encMg x).length = 4 := rfl
/-- A row of groups: its block, its cells. -/
theorem ownG (h : w.ownsRow B 100 4 v n (L.flatMap encMg)) (hn : n = L.length) (h0 : 0 < n) : ∃ gb cap cur, v = .slice (some ⟨gb, 0, none⟩) n cap ∧ B ≤ gb ∧ Blk w gb 100 cur ∧ n ≤ cap ∧ cap ≤ maxLen ∧ cur.size = cap * 4 ∧
    cur.toList.take (n * 4) = L.flatMap encMg ∧ ∀ k x, L[k]? = some x → cur[k * 4]? = some ((Value.slice x.A x.G.head.length x.G.head.length)) ∧ cur[k * 4 + 1]? = some (.int .i64 (x.G.rank : Int)) ∧ cur[k * 4 + 2]? = some (.int .i64 x.G.link) ∧ cur[k * 4 + 3]? = some (.int .i64 x.G.cost) := by
  rcases h.2 with ⟨rfl, h1⟩ | ⟨gb, cap, cur, rfl, hg, hh, hnc, hcm, hcs, htk⟩
  · omega
  · refine ⟨gb, cap, cur, rfl, hg, hh, hnc, hcm, hcs, htk, fun k x hx => ?_⟩
    have key : ∀ j u, (encMg x)[j]? = some u → cur[k * 4 + j]? = some u := fun j u hu => by
      have := flat_get encMg_len L k x hx j u hu
      rw [← htk, List.getElem?_take] at this
      split at this
      · simpa using this
      · cases this
    exact ⟨key 0 _ rfl, key 1 _ rfl, key 2 _ rfl, key 3 _ rfl⟩
theorem ownG_mk {gb cap : Nat} {cur : Array Value} (hB : B ≤ gb) (hb : Blk w gb 100 cur) (hn : n = L.length) (h1 : n ≤ cap) (h2 : cap ≤ maxLen) (h3 : cur.size = cap * 4) (h4 : cur.toList.take (n * 4) = L.flatMap encMg) :
    w.ownsRow B 100 4 (.slice (some ⟨gb, 0, none⟩) n cap) n (L.flatMap encMg) :=
  ⟨by rw [flatMap_len_ encMg_len, hn], .inr ⟨gb, cap, cur, rfl, hB, hb, h1, h2, h3, h4⟩⟩
def set4 (cur : Array Value) (o : Nat) (x : MG) : Array Value := (((cur.setIfInBounds o ((Value.slice x.A x.G.head.length x.G.head.length))).setIfInBounds (o + 1) (.int .i64 (x.G.rank : Int))).setIfInBounds (o + 2) (.int .i64 x.G.link)).setIfInBounds (o + 3) (.int .i64 x.G.cost)
def setW4 (w : World) (gb o : Nat) (x : MG) : World := (((w.setCell ⟨gb, o, none⟩ ((Value.slice x.A x.G.head.length x.G.head.length))).setCell ⟨gb, o + 1, none⟩ (.int .i64 (x.G.rank : Int))).setCell ⟨gb, o + 2, none⟩ (.int .i64 x.G.link)).setCell ⟨gb, o + 3, none⟩ (.int .i64 x.G.cost)
theorem Blk.set4 {gb : Nat} {cur : Array Value} (h : Blk w gb 100 cur) (o : Nat) (x : MG) : Blk (setW4 w gb o x) gb 100 (set4 cur o x) := (((h.set_ o _).set_ (o + 1) _).set_ (o + 2) _).set_ (o + 3) _
theorem set4_size (cur : Array Value) (o : Nat) (x : MG) : (set4 cur o x).size = cur.size := by unfold Go.Proofs.YtfjkmgjjifhdkaaGreat.set4; simp
theorem set4_take {cur : Array Value} {n k : Nat} {x : MG} (hn : n = L.length) (hk : k < n) (h : cur.toList.take (n * 4) = L.flatMap encMg) : (set4 cur (k * 4) x).toList.take (n * 4) = (L.set k x).flatMap encMg := by
  rw [flat_set4 encMg_len (x := x) (a := (Value.slice x.A x.G.head.length x.G.head.length)) (b := .int .i64 (x.G.rank : Int)) (c := .int .i64 x.G.link) (d := .int .i64 x.G.cost) rfl L k (by omega), ← h]
  unfold Go.Proofs.YtfjkmgjjifhdkaaGreat.set4
  simp only [Array.toList_setIfInBounds, List.take_set]
end
/-- What the heap's methods leave alone: the blocks below B but the heap's own, and all that hold no groups. -/
structure HFr (bh B : Nat) (w w' : World) : Prop where
  os : w'.os = w.os
  tape : w'.tape = w.tape
  output : w'.output = w.output
  size : w.heap.size ≤ w'.heap.size
  low : ∀ b, b < B → b ≠ bh → w'.heap[b]? = w.heap[b]?
  typ : ∀ b t cs, b ≠ bh → Blk w b t cs → t ≠ 100 → Blk w' b t cs
section
variable {bh B : Nat} {w w' w2 : World}
theorem HFr.refl : HFr bh B w w := ⟨rfl, rfl, rfl, Nat.le_refl _, fun _ _ _ => rfl, fun _ _ _ _ h _ => h⟩
theorem HFr.trans (h : HFr bh B w w') (h2 : HFr bh B w' w2) : HFr bh B w w2 :=
  ⟨h2.os.trans h.os, h2.tape.trans h.tape, h2.output.trans h.output, Nat.le_trans h.size h2.size, fun b h3 h4 => (h2.low b h3 h4).trans (h.low b h3 h4), fun b t cs h3 h4 h5 => h2.typ b t cs h3 (h.typ b t cs h3 h4 h5) h5⟩
theorem HFr.of_below (hB : B ≤ w.heap.size) (h : Below w.heap.size w w') : HFr bh B w w' :=
  ⟨h.os, h.tape, h.output, h.size, fun b hb _ => h.block b (Nat.lt_of_lt_of_le hb hB), fun _ _ _ _ hb _ => hb.below h hb.lt⟩
theorem HFr.setH (o : Nat) (u : Value) : HFr bh B w (w.setCell ⟨bh, o, none⟩ u) :=
  ⟨rfl, rfl, rfl, by simp, fun b _ h => Below.heap_setCell w ⟨bh, o, none⟩ u b h, fun _ _ _ h hb _ => hb.far (p := ⟨bh, o, none⟩) h u⟩
theorem HFr.apps {n : Nat} {v v' : Value} {xs : List Value} (ho : w.ownsRow B 100 4 v n xs) (hb : Below B w w') (ha : Apps w w' v v') : HFr bh B w w' :=
  ⟨hb.os, hb.tape, hb.output, hb.size, fun b h _ => hb.block b h, fun _ _ _ _ h ht => h.apps ha (own_blk_ne ho h (Ne.symm ht))⟩
theorem HFr.setG {gb : Nat} {cur : Array Value} (hg : B ≤ gb) (hb : Blk w gb 100 cur) (o : Nat) (u : Value) : HFr bh B w (w.setCell ⟨gb, o, none⟩ u) :=
  ⟨rfl, rfl, rfl, by simp, fun b h _ => Below.heap_setCell w ⟨gb, o, none⟩ u b (by show b ≠ gb; omega), fun b t cs _ h ht => h.far (p := ⟨gb, o, none⟩) (fun e => by
    have e : b = gb := e
    subst e
    unfold Blk at h hb
    rw [h] at hb
    injection hb with hb
    injection hb with _ hb
    exact ht hb) u⟩
theorem HFr.setG4 {gb : Nat} {cur : Array Value} (hg : B ≤ gb) (hb : Blk w gb 100 cur) (o : Nat) (x : MG) : HFr bh B w (setW4 w gb o x) :=
  (((HFr.setG hg hb o _).trans (HFr.setG hg (hb.set_ o _) (o + 1) _)).trans (HFr.setG hg ((hb.set_ o _).set_ (o + 1) _) (o + 2) _)).trans (HFr.setG hg (((hb.set_ o _).set_ (o + 1) _).set_ (o + 2) _) (o + 3) _)
theorem HFr.slt {A : Option Addr} {xs : List Int} (h : HFr bh B w w') (hh : ∀ t cs, Blk w bh t cs → t = 98) (hs : SlT w A xs) : SlT w' A xs := fun hn => by
  obtain ⟨b, o, cs, hA, hb, hc⟩ := hs hn
  exact ⟨b, o, cs, hA, h.typ b _ cs (fun e => by subst e; have := hh _ _ hb; cases this) hb (by decide), hc⟩
theorem HFr.gm {m : MG} (h : HFr bh B w w') (hh : ∀ t cs, Blk w bh t cs → t = 98) (hm : GMOK w m) : GMOK w' m := ⟨h.slt hh hm.s, hm.len⟩
theorem HFr.below (h : HFr bh B w w') (hb : B ≤ bh) : Below B w w' := ⟨h.os, h.tape, h.output, h.size, fun k hk => h.low k hk (by omega)⟩
/-- What is kept below the heap's own block. -/
theorem HFr.below2 (h : HFr bh B w w') {C : Nat} (h1 : C ≤ B) (h2 : C ≤ bh) : Below C w w' := ⟨h.os, h.tape, h.output, h.size, fun k hk => h.low k (by omega) (by omega)⟩
end
/-- Blocks beside the heap's own and the row's stay. -/
def HKp (bh : Nat) (w : World) (v : Value) (w' : World) (v' : Value) : Prop := ∀ b t cs, b ≠ bh → v.ownBlock ≠ some b → Blk w b t cs → Blk w' b t cs ∧ v'.ownBlock ≠ some b
theorem HKp.refl (bh : Nat) (w : World) (v : Value) : HKp bh w v w v := fun _ _ _ _ h2 h3 => ⟨h3, h2⟩
theorem HKp.trans {bh : Nat} {w w' w2 : World} {v v' v2 : Value} (h : HKp bh w v w' v') (h' : HKp bh w' v' w2 v2) : HKp bh w v w2 v2 := fun b t cs h1 h2 h3 => by
  obtain ⟨h4, h5⟩ := h b t cs h1 h2 h3
  exact h' b t cs h1 h5 h4
theorem HKp.of_below {bh : Nat} {w w' : World} {v : Value} (h : Below w.heap.size w w') : HKp bh w v w' v := fun _ _ _ _ h2 h3 => ⟨h3.below h h3.lt, h2⟩
theorem blk_typ {w : World} {b : Nat} {t t' : TypeId} {cs cs' : Array Value} (h : Blk w b t cs) (h' : Blk w b t' cs') : t' = t := by
  unfold Blk at h h'
  rw [h] at h'
  injection h' with h'
  injection h' with _ h'
  exact h'.symm
def earlV : Value := .func (.func 35) #[] #[]
/-- A heap of groups in memory. -/
structure HeapW (bh B : Nat) (w : World) (vH : Value) (H : List MG) : Prop where
  h : Blk w bh 98 #[earlV, vH]
  own : w.ownsRow B 100 4 vH H.length (H.flatMap encMg)
  ok : MGsOK w H
theorem HeapW.typ {bh B : Nat} {w : World} {vH : Value} {H : List MG} (h : HeapW bh B w vH H) : ∀ t cs, Blk w bh t cs → t = 98 := fun _ _ hb => blk_typ h.h hb
theorem HeapW.below {bh B : Nat} {w w' : World} {vH : Value} {H : List MG} (h : HeapW bh B w vH H) (hb : Below w.heap.size w w') : HeapW bh B w' vH H := ⟨h.h.below hb h.h.lt, own_below h.own hb, fun m hm => (h.ok m hm).below hb⟩
end Go.Proofs.YtfjkmgjjifhdkaaGreat
