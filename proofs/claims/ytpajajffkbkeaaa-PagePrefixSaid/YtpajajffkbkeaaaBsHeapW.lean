/-
  Words for the heap of groups in memory: its rows, its frame.
-/
import Derived.Test.YtpajajffkbkeaaaBsWalkE
namespace Go.Proofs.Ytpajajffkbkeaaa
open Go Go.RowKit

def ltG (a b : MG) : Bool := earlierM a.G b.G
theorem getD_mapG (l : List MG) (i : Nat) : (l.map (·.G)).getD i default = (l.getD i default).G := by
  simp only [List.getD_eq_getElem?_getD, List.getElem?_map]
  cases l[i]? <;> rfl
theorem swp_mapG (l : List MG) (i j : Nat) : (swp l i j).map (·.G) = swp (l.map (·.G)) i j := by
  unfold swp
  rw [getD_mapG, getD_mapG, List.map_set, List.map_set]
theorem upM_mapG : ∀ (f : Nat) (l : List MG) (i : Nat), (upM ltG f l i).map (·.G) = upM earlierM f (l.map (·.G)) i := by
  intro f
  induction f with
  | zero => intros; rfl
  | succ f ih =>
    intro l i
    unfold upM
    rw [getD_mapG, getD_mapG, ← swp_mapG]
    by_cases h0 : i = 0
    · rw [if_pos h0, if_pos h0]
    · rw [if_neg h0, if_neg h0]
      by_cases h1 : ltG (l.getD i default) (l.getD ((i - 1) / 2) default) = true
      · rw [if_pos h1, if_pos (show earlierM _ _ = true from h1), ih]
      · rw [if_neg h1, if_neg (show ¬ earlierM _ _ = true from h1)]
theorem pushM_mapG (l : List MG) (x : MG) : (pushM ltG l x).map (·.G) = pushM earlierM (l.map (·.G)) x.G := by
  unfold pushM
  rw [upM_mapG, List.map_append, List.length_map]
  rfl
theorem lsA_mapG (l : List MG) (i : Nat) : lsA earlierM (l.map (·.G)) i = lsA ltG l i := by
  unfold lsA
  rw [getD_mapG, getD_mapG, List.length_map]
  rfl
theorem lsM_mapG (l : List MG) (i : Nat) : lsM earlierM (l.map (·.G)) i = lsM ltG l i := by
  unfold lsM
  rw [lsA_mapG, getD_mapG, getD_mapG, List.length_map]
  rfl
theorem dnM_mapG : ∀ (f : Nat) (l : List MG) (i : Nat), (dnM ltG f l i).map (·.G) = dnM earlierM f (l.map (·.G)) i := by
  intro f
  induction f with
  | zero => intros; rfl
  | succ f ih =>
    intro l i
    unfold dnM
    rw [lsM_mapG, ← swp_mapG]
    by_cases h0 : lsM ltG l i = i
    · rw [if_pos h0, if_pos h0]
    · rw [if_neg h0, if_neg h0, ih]
theorem popM_mapG (l : List MG) : (popM ltG l).map (·.G) = popM earlierM (l.map (·.G)) := by
  unfold popM
  rw [dnM_mapG, List.map_take, List.map_set, getD_mapG, List.length_map]
theorem upM_memG : ∀ (f : Nat) (l : List MG) (i : Nat), i < l.length → (upM ltG f l i).length = l.length ∧ ∀ x ∈ upM ltG f l i, x ∈ l := by
  intro f
  induction f with
  | zero => intro l i _; exact ⟨rfl, fun _ h => h⟩
  | succ f ih =>
    intro l i hi
    unfold upM
    by_cases h0 : i = 0
    · rw [if_pos h0]; exact ⟨rfl, fun _ h => h⟩
    · rw [if_neg h0]
      by_cases h1 : ltG (l.getD i default) (l.getD ((i - 1) / 2) default) = true
      · rw [if_pos h1]
        have hp : (i - 1) / 2 < l.length := by omega
        obtain ⟨h2, h3⟩ := ih (swp l i ((i - 1) / 2)) ((i - 1) / 2) (by rw [swp_len]; exact hp)
        exact ⟨by rw [h2, swp_len], fun x hx => (swp_perm hi hp).mem_iff.1 (h3 x hx)⟩
      · rw [if_neg h1]; exact ⟨rfl, fun _ h => h⟩

section
variable {α : Type} {enc : α → List Value}
theorem flat_get {s : Nat} (hl : ∀ x, (enc x).length = s) : ∀ (l : List α) (k : Nat) (x : α), l[k]? = some x → ∀ j u, (enc x)[j]? = some u → (l.flatMap enc)[k * s + j]? = some u := by
  intro l
  induction l with
  | nil => intro k x h; simp at h
  | cons y l ih =>
    intro k x hx j u hu
    cases k with
    | zero =>
      simp at hx; subst hx
      obtain ⟨hj, _⟩ := List.getElem?_eq_some_iff.1 hu
      rw [List.flatMap_cons, Nat.zero_mul, Nat.zero_add, List.getElem?_append_left hj]
      exact hu
    | succ k =>
      rw [List.flatMap_cons, List.getElem?_append_right (by rw [hl, Nat.succ_mul]; omega)]
      rw [hl, show (k + 1) * s + j - s = k * s + j by rw [Nat.succ_mul]; omega]
      exact ih k x (by simpa using hx) j u hu
/-- An element of four cells is stored. -/
theorem flat_set4 (hl : ∀ x, (enc x).length = 4) {x : α} {a b c d : Value} (he : enc x = [a, b, c, d]) : ∀ (l : List α) (k : Nat), k < l.length →
    (l.set k x).flatMap enc = ((((l.flatMap enc).set (k * 4) a).set (k * 4 + 1) b).set (k * 4 + 2) c).set (k * 4 + 3) d := by
  intro l
  induction l with
  | nil => intro k h; simp at h
  | cons y l ih =>
    intro k hk
    obtain ⟨p, q, r, s, hy⟩ : ∃ p q r s, enc y = [p, q, r, s] := by
      have := hl y
      match enc y, this with
      | [p, q, r, s], _ => exact ⟨p, q, r, s, rfl⟩
    cases k with
    | zero => simp [List.flatMap_cons, he, hy]
    | succ k =>
      have := ih k (by simpa using hk)
      rw [List.set_cons_succ, List.flatMap_cons, List.flatMap_cons, this, hy]
      have e0 : (k + 1) * 4 = k * 4 + 4 := by omega
      rw [e0]
      simp [List.set_cons_succ]
end
section
variable {w w' : World} {B : Nat} {n : Nat} {v : Value} {L : List MG}
theorem encMg_len (x : MG) : (encMg x).length = 4 := rfl
/-- A row of groups: its block, its cells. -/
theorem ownG (h : w.ownsRow B 106 4 v n (L.flatMap encMg)) (hn : n = L.length) (h0 : 0 < n) : ∃ gb cap cur, v = .slice (some ⟨gb, 0, none⟩) n cap ∧ B ≤ gb ∧ Blk w gb 106 cur ∧ n ≤ cap ∧ cap ≤ maxLen ∧ cur.size = cap * 4 ∧
    cur.toList.take (n * 4) = L.flatMap encMg ∧ ∀ k x, L[k]? = some x → cur[k * 4]? = some ((Value.slice x.A x.G.head.length x.G.head.length)) ∧ cur[k * 4 + 1]? = some (.int .i64 (x.G.rank : Int)) ∧ cur[k * 4 + 2]? = some (.int .i64 x.G.link) ∧ cur[k * 4 + 3]? = some (.int .i64 x.G.cost) := by
  rcases h.2 with ⟨rfl, h1⟩ | ⟨gb, cap, cur, rfl, hg, hh, hnc, hcm, hcs, htk⟩
  · omega
  · refine ⟨gb, cap, cur, rfl, hg, hh, hnc, hcm, hcs, htk, fun k x hx => ?_⟩
    have key : ∀ j u, (encMg x)[j]? = some u → cur[k * 4 + j]? = some u := fun j u hu => by
      have := flat_get encMg_len L k x hx j u hu
      rw [← htk, List.getElem?_take] at this
      split at this
      · simpa using this
      · cases this
    exact ⟨key 0 _ rfl, key 1 _ rfl, key 2 _ rfl, key 3 _ rfl⟩
theorem ownG_mk {gb cap : Nat} {cur : Array Value} (hB : B ≤ gb) (hb : Blk w gb 106 cur) (hn : n = L.length) (h1 : n ≤ cap) (h2 : cap ≤ maxLen) (h3 : cur.size = cap * 4) (h4 : cur.toList.take (n * 4) = L.flatMap encMg) :
    w.ownsRow B 106 4 (.slice (some ⟨gb, 0, none⟩) n cap) n (L.flatMap encMg) :=
  ⟨by rw [flatMap_len_ encMg_len, hn], .inr ⟨gb, cap, cur, rfl, hB, hb, h1, h2, h3, h4⟩⟩
def set4 (cur : Array Value) (o : Nat) (x : MG) : Array Value := (((cur.setIfInBounds o ((Value.slice x.A x.G.head.length x.G.head.length))).setIfInBounds (o + 1) (.int .i64 (x.G.rank : Int))).setIfInBounds (o + 2) (.int .i64 x.G.link)).setIfInBounds (o + 3) (.int .i64 x.G.cost)
def setW4 (w : World) (gb o : Nat) (x : MG) : World := (((w.setCell ⟨gb, o, none⟩ ((Value.slice x.A x.G.head.length x.G.head.length))).setCell ⟨gb, o + 1, none⟩ (.int .i64 (x.G.rank : Int))).setCell ⟨gb, o + 2, none⟩ (.int .i64 x.G.link)).setCell ⟨gb, o + 3, none⟩ (.int .i64 x.G.cost)
theorem Blk.set4 {gb : Nat} {cur : Array Value} (h : Blk w gb 106 cur) (o : Nat) (x : MG) : Blk (setW4 w gb o x) gb 106 (set4 cur o x) := (((h.set_ o _).set_ (o + 1) _).set_ (o + 2) _).set_ (o + 3) _
theorem set4_size (cur : Array Value) (o : Nat) (x : MG) : (set4 cur o x).size = cur.size := by unfold Go.Proofs.Ytpajajffkbkeaaa.set4; simp
theorem set4_take {cur : Array Value} {n k : Nat} {x : MG} (hn : n = L.length) (hk : k < n) (h : cur.toList.take (n * 4) = L.flatMap encMg) : (set4 cur (k * 4) x).toList.take (n * 4) = (L.set k x).flatMap encMg := by
  rw [flat_set4 encMg_len (x := x) (a := (Value.slice x.A x.G.head.length x.G.head.length)) (b := .int .i64 (x.G.rank : Int)) (c := .int .i64 x.G.link) (d := .int .i64 x.G.cost) rfl L k (by omega), ← h]
  unfold Go.Proofs.Ytpajajffkbkeaaa.set4
  simp only [Array.toList_setIfInBounds, List.take_set]
end
/-- What the heap's methods leave alone: the blocks below B but the heap's own, and all that hold no groups. -/
structure HFr (bh B : Nat) (w w' : World) : Prop where
  os : w'.os = w.os
  tape : w'.tape = w.tape
  output : w'.output = w.output
  size : w.heap.size ≤ w'.heap.size
  low : ∀ b, b < B → b ≠ bh → w'.heap[b]? = w.heap[b]?
  typ : ∀ b t cs, b ≠ bh → Blk w b t cs → t ≠ 106 → Blk w' b t cs
section
variable {bh B : Nat} {w w' w2 : World}
theorem HFr.refl : HFr bh B w w := ⟨rfl, rfl, rfl, Nat.le_refl _, fun _ _ _ => rfl, fun _ _ _ _ h _ => h⟩
theorem HFr.trans (h : HFr bh B w w') (h2 : HFr bh B w' w2) : HFr bh B w w2 :=
  ⟨h2.os.trans h.os, h2.tape.trans h.tape, h2.output.trans h.output, Nat.le_trans h.size h2.size, fun b h3 h4 => (h2.low b h3 h4).trans (h.low b h3 h4), fun b t cs h3 h4 h5 => h2.typ b t cs h3 (h.typ b t cs h3 h4 h5) h5⟩
theorem HFr.of_below (hB : B ≤ w.heap.size) (h : Below w.heap.size w w') : HFr bh B w w' :=
  ⟨h.os, h.tape, h.output, h.size, fun b hb _ => h.block b (Nat.lt_of_lt_of_le hb hB), fun _ _ _ _ hb _ => hb.below h hb.lt⟩
theorem HFr.setH (o : Nat) (u : Value) : HFr bh B w (w.setCell ⟨bh, o, none⟩ u) :=
  ⟨rfl, rfl, rfl, by simp, fun b _ h => Below.heap_setCell w ⟨bh, o, none⟩ u b h, fun _ _ _ h hb _ => hb.far (p := ⟨bh, o, none⟩) h u⟩
theorem HFr.apps {n : Nat} {v v' : Value} {xs : List Value} (ho : w.ownsRow B 106 4 v n xs) (hb : Below B w w') (ha : Apps w w' v v') : HFr bh B w w' :=
  ⟨hb.os, hb.tape, hb.output, hb.size, fun b h _ => hb.block b h, fun _ _ _ _ h ht => h.apps ha (own_blk_ne ho h (Ne.symm ht))⟩
theorem HFr.setG {gb : Nat} {cur : Array Value} (hg : B ≤ gb) (hb : Blk w gb 106 cur) (o : Nat) (u : Value) : HFr bh B w (w.setCell ⟨gb, o, none⟩ u) :=
  ⟨rfl, rfl, rfl, by simp, fun b h _ => Below.heap_setCell w ⟨gb, o, none⟩ u b (by show b ≠ gb; omega), fun b t cs _ h ht => h.far (p := ⟨gb, o, none⟩) (fun e => by
    have e : b = gb := e
    subst e
    unfold Blk at h hb
    rw [h] at hb
    injection hb with hb
    injection hb with _ hb
    exact ht hb) u⟩
theorem HFr.setG4 {gb : Nat} {cur : Array Value} (hg : B ≤ gb) (hb : Blk w gb 106 cur) (o : Nat) (x : MG) : HFr bh B w (setW4 w gb o x) :=
  (((HFr.setG hg hb o _).trans (HFr.setG hg (hb.set_ o _) (o + 1) _)).trans (HFr.setG hg ((hb.set_ o _).set_ (o + 1) _) (o + 2) _)).trans (HFr.setG hg (((hb.set_ o _).set_ (o + 1) _).set_ (o + 2) _) (o + 3) _)
theorem HFr.slt {A : Option Addr} {xs : List Int} (h : HFr bh B w w') (hh : ∀ t cs, Blk w bh t cs → t = 104) (hs : SlT w A xs) : SlT w' A xs := fun hn => by
  obtain ⟨b, o, cs, hA, hb, hc⟩ := hs hn
  exact ⟨b, o, cs, hA, h.typ b _ cs (fun e => by subst e; have := hh _ _ hb; cases this) hb (by decide), hc⟩
theorem HFr.gm {m : MG} (h : HFr bh B w w') (hh : ∀ t cs, Blk w bh t cs → t = 104) (hm : GMOK w m) : GMOK w' m := ⟨h.slt hh hm.s, hm.len⟩
theorem HFr.below (h : HFr bh B w w') (hb : B ≤ bh) : Below B w w' := ⟨h.os, h.tape, h.output, h.size, fun k hk => h.low k hk (by omega)⟩
/-- What is kept below the heap's own block. -/
theorem HFr.below2 (h : HFr bh B w w') {C : Nat} (h1 : C ≤ B) (h2 : C ≤ bh) : Below C w w' := ⟨h.os, h.tape, h.output, h.size, fun k hk => h.low k (by omega) (by omega)⟩
end
/-- Blocks beside the heap's own and the row's stay. -/
def HKp (bh : Nat) (w : World) (v : Value) (w' : World) (v' : Value) : Prop := ∀ b t cs, b ≠ bh → v.ownBlock ≠ some b → Blk w b t cs → Blk w' b t cs ∧ v'.ownBlock ≠ some b
theorem HKp.refl (bh : Nat) (w : World) (v : Value) : HKp bh w v w v := fun _ _ _ _ h2 h3 => ⟨h3, h2⟩
theorem HKp.trans {bh : Nat} {w w' w2 : World} {v v' v2 : Value} (h : HKp bh w v w' v') (h' : HKp bh w' v' w2 v2) : HKp bh w v w2 v2 := fun b t cs h1 h2 h3 => by
  obtain ⟨h4, h5⟩ := h b t cs h1 h2 h3
  exact h' b t cs h1 h5 h4
theorem HKp.of_below {bh : Nat} {w w' : World} {v : Value} (h : Below w.heap.size w w') : HKp bh w v w' v := fun _ _ _ _ h2 h3 => ⟨h3.below h h3.lt, h2⟩
theorem blk_typ {w : World} {b : Nat} {t t' : TypeId} {cs cs' : Array Value} (h : Blk w b t cs) (h' : Blk w b t' cs') : t' = t := by
  unfold Blk at h h'
  rw [h] at h'
  injection h' with h'
  injection h' with _ h'
  exact h'.symm
def earlV : Value := .func (.func 53) #[] #[]
/-- A heap of groups in memory. -/
structure HeapW (bh B : Nat) (w : World) (vH : Value) (H : List MG) : Prop where
  h : Blk w bh 104 #[earlV, vH]
  own : w.ownsRow B 106 4 vH H.length (H.flatMap encMg)
  ok : MGsOK w H
theorem HeapW.typ {bh B : Nat} {w : World} {vH : Value} {H : List MG} (h : HeapW bh B w vH H) : ∀ t cs, Blk w bh t cs → t = 104 := fun _ _ hb => blk_typ h.h hb
theorem HeapW.below {bh B : Nat} {w w' : World} {vH : Value} {H : List MG} (h : HeapW bh B w vH H) (hb : Below w.heap.size w w') : HeapW bh B w' vH H := ⟨h.h.below hb h.h.lt, own_below h.own hb, fun m hm => (h.ok m hm).below hb⟩
end Go.Proofs.Ytpajajffkbkeaaa
