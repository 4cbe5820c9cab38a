/-
  OuMem, OuWalkF, OrdU, joined. No conditions.
-/
import Derived.Test.YtfpnhgahkjglgaaGreatF09
import Derived.Test.YtfpnhgahkjglgaaGreatF13
import Derived.Test.YtfpnhgahkjglgaaGreatF14
import Derived.Conc.LoneSelectN
import Derived.Test.YtfpnhgahkjglgaaGreatF05
set_option maxRecDepth 100000
namespace Go.Proofs.YtfpnhgahkjglgaaGreat
open Go Go.RowKit
section
variable {P : Program} {Q : Exit → Act → World → Prop} {a : Act} {w : World}
theorem wpN_seq_k {x y : Code} (h : ∀ K : Act → World → Prop, (∀ a w, wpN P y Q a w → K a w) → wpN P x (Exit.then K Q) a w) : wpN P (.seq x y) Q a w := wpN_seq (h _ fun _ _ h => h)
theorem wpN_loopN {c : Code} (I : Nat → Act → World → Prop) (n : Nat) (h0 : I n a w)
 (hr : ∀ n a w, I n a w → wpN P c (Exit.then (fun a' w' => ∃ n', n' < n ∧ I n' a' w') Q) a w) : wpN P (.loop c) Q a w := fun b k cs hb => by
 have key : ∀ n a w, I n a w → ∃ e a' w', Q e a' w' ∧ Arrives P (lone (b.at a (.code c :: .inLoop c :: k)) cs w) b k cs e a' w' := by
  intro n
  induction n using Nat.strongRecOn with
  | _ n ih =>
   intro a w hI
   obtain ⟨e, a₁, w₁, h1, h2⟩ := hr n a w hI b (.inLoop c :: k) cs hb
   cases e with
   | normal =>
    obtain ⟨n', hn', hI'⟩ := h1
    obtain ⟨e₂, a₂, w₂, h3, h4⟩ := ih n' hn' a₁ w₁ hI'
    exact ⟨e₂, a₂, w₂, h3, .of_steps (Steps.trans h2 (.one step_inLoop)) h4⟩
   | exit id => exact ⟨_, _, _, h1, arrives_on (.refl _ _) rfl (by simp) h2⟩
   | goto l => exact ⟨_, _, _, h1, arrives_on (.refl _ _) rfl (by simp) h2⟩
   | ret => exact ⟨_, _, _, h1, arrives_on (.refl _ _) rfl (by simp) h2⟩
   | panic c => exact ⟨_, _, _, h1, arrives_on (.refl _ _) rfl (by simp) h2⟩
   | outgrown => exact ⟨_, _, _, h1, arrives_on (.refl _ _) rfl (by simp) h2⟩
 obtain ⟨e, a', w', h1, h2⟩ := key n a w h0
 exact ⟨e, a', w', h1, .of_steps (.one step_loop) h2⟩
end
def QuIn (W : World) (C : Nat) (q : List Int) : Prop := ∃ sn rn, W.heap[C]? = some (.chan 8 (q.map (Value.int .i64)).toArray false sn rn false)
structure Chn where
 A : Option Addr
 L : List Int
 c : Nat
def vCh (x : Chn) : Value := .slice x.A x.L.length x.c
structure ChIn (W : World) (D : Nat) (ch : List Chn) (n : Nat) : Prop where
 blk : Blk W D 99 (ch.map vCh).toArray
 len : ch.length = 8
 ok : ∀ x ∈ ch, SlT W x.A x.L ∧ (x.L.length ≤ x.c ∧ x.c ≤ maxLen) ∧ x.L.length + 1 ≤ n
theorem QuIn.below {W W' : World} {C : Nat} {q : List Int} (h : QuIn W C q) (hC : C < W.heap.size) (hb : Below W.heap.size W W') : QuIn W' C q := by
 obtain ⟨a, b, h⟩ := h
 exact ⟨a, b, (hb.block C hC).trans h⟩
theorem QuIn.lt {W : World} {C : Nat} {q : List Int} (h : QuIn W C q) : C < W.heap.size := by
 obtain ⟨a, b, h⟩ := h
 exact (Array.getElem?_eq_some_iff.1 h).1
theorem ChIn.below {W W' : World} {D n : Nat} {ch : List Chn} (h : ChIn W D ch n) (hb : Below W.heap.size W W') : ChIn W' D ch n := ⟨h.blk.below hb h.blk.lt, h.len, fun x hx => ⟨(h.ok x hx).1.below hb, (h.ok x hx).2⟩⟩
theorem ChIn.mono {W : World} {D n n' : Nat} {ch : List Chn} (h : ChIn W D ch n) (hn : n ≤ n') : ChIn W D ch n' := ⟨h.blk, h.len, fun x hx => ⟨(h.ok x hx).1, (h.ok x hx).2.1, by have := (h.ok x hx).2.2; omega⟩⟩
theorem slt_chan {W W' : World} {C : Nat} {q : List Int} {A : Option Addr} {L : List Int} (h : SlT W A L) (hq : QuIn W C q) (hb : ∀ b, b ≠ C → W'.heap[b]? = W.heap[b]?) : SlT W' A L := fun hn => by
 obtain ⟨b, off, cs, hA, hB, hc⟩ := h hn
 obtain ⟨sn, rn, hq⟩ := hq
 refine ⟨b, off, cs, hA, ?_, hc⟩
 unfold Blk at hB ⊢
 rw [hb b (fun e => by rw [e, hq] at hB; injection hB with hB; cases hB)]
 exact hB
theorem chin_chan {W W' : World} {C D n : Nat} {q : List Int} {ch : List Chn} (h : ChIn W D ch n) (hq : QuIn W C q) (hb : ∀ b, b ≠ C → W'.heap[b]? = W.heap[b]?) : ChIn W' D ch n := by
 refine ⟨?_, h.len, fun x hx => ⟨slt_chan (h.ok x hx).1 hq hb, (h.ok x hx).2⟩⟩
 have hB := h.blk
 obtain ⟨sn, rn, hq⟩ := hq
 unfold Blk at hB ⊢
 rw [hb D (fun e => by rw [e, hq] at hB; injection hB with hB; cases hB)]
 exact hB
theorem setChan_far (W : World) (c cap : Nat) (buf : Array Value) (cl : Bool) (s r : Nat) (tm : Bool) : ∀ b, b ≠ c → (W.setChan c cap buf cl s r tm).heap[b]? = W.heap[b]? := fun b hb => by
 simp only [World.setChan]
 rw [Array.getElem?_setIfInBounds_ne (by omega)]
theorem setChan_own (W : World) (c cap : Nat) (buf : Array Value) (cl : Bool) (s r : Nat) (tm : Bool) (h : c < W.heap.size) : (W.setChan c cap buf cl s r tm).heap[c]? = some (.chan cap buf cl s r tm) := by
 simp only [World.setChan]
 rw [Array.getElem?_setIfInBounds_self_of_lt h]
theorem setChan_below {W W' : World} {B c cap : Nat} {buf : Array Value} {cl : Bool} {s r : Nat} {tm : Bool} (h : Below B W W') (hc : B ≤ c) : Below B W (W'.setChan c cap buf cl s r tm) :=
 h.trans ⟨rfl, rfl, rfl, by simp [World.setChan], fun b hb => setChan_far _ _ _ _ _ _ _ _ b (by omega)⟩
theorem chin_set {W : World} {D n : Nat} {ch : List Chn} (h : ChIn W D ch n) {k : Nat} (x : Chn) (hx : SlT W x.A x.L) (hc : x.L.length ≤ x.c ∧ x.c ≤ maxLen) (hn : x.L.length + 1 ≤ n) : ChIn (W.setCell ⟨D, k, none⟩ (vCh x)) D (ch.set k x) n := by
 refine ⟨?_, by rw [List.length_set]; exact h.len, fun y hy => ?_⟩
 ·have := h.blk.set_ k (vCh x)
  rw [List.map_set]
  simpa using this
 ·rcases List.mem_or_eq_of_mem_set hy with hy | rfl
  ·exact ⟨(h.ok y hy).1.set_ (p := ⟨D, k, none⟩) h.blk (by decide) _, (h.ok y hy).2⟩
  ·exact ⟨hx.set_ (p := ⟨D, k, none⟩) h.blk (by decide) _, hc, hn⟩
def IsChn (s : Sc) (m : Int) (w : World) (e : Ending) (w' : World) : Prop :=
 ((∃ (g : Addr) (L : List Int) (d : Nat), e = .returned (.slice (some g) L.length d) ∧ (1 ≤ L.length ∧ L.length ≤ 9) ∧ (L.length ≤ d ∧ d ≤ maxLen) ∧ SlR 1 RInt w' (some g) L ∧ Mt s m m) ∨ (e = .returned (.slice none 0 0) ∧ ¬ Mt s m m)) ∧ Below w.heap.size w w'
structure FI (s : Sc) (m : Int) (w1 : World) (C D : Nat) (P : Int → Ru → Prop) (v : Int) (f : Int → Bool) (q : List Int) (ch : List Chn) (W : World) : Prop where
 b : IsB v f
 bf : BF s m f q
 cl : Cl s m f q P
 qi : QuIn W C q
 ci : ChIn W D ch (cntB 8 f)
 bel : Below w1.heap.size w1 W
 hC : w1.heap.size ≤ C
 hD : w1.heap.size ≤ D
 ne : D ≠ C
section
variable {s : Sc} {m : Int} {w1 : World} {C D : Nat} {P : Int → Ru → Prop} {v : Int} {f : Int → Bool} {q : List Int} {ch : List Chn} {W : World}
theorem FI.grow (h : FI s m w1 C D P v f q ch W) {W' : World} (hb : Below W.heap.size W W') : FI s m w1 C D P v f q ch W' := ⟨h.b, h.bf, h.cl, h.qi.below h.qi.lt hb, h.ci.below hb, bthen h.bel hb, h.hC, h.hD, h.ne⟩
theorem FI.pred (h : FI s m w1 C D P v f q ch W) {P' : Int → Ru → Prop} (hc : Cl s m f q P') : FI s m w1 C D P' v f q ch W := ⟨h.b, h.bf, hc, h.qi, h.ci, h.bel, h.hC, h.hD, h.ne⟩
theorem FI.pop {x : Int} (h : FI s m w1 C D (fun _ _ => True) v f (x :: q) ch W) {sn rn : Nat} : FI s m w1 C D (fun k r => k = x → r ∈ s.rs.take 0) v f q ch (W.setChan C 8 (q.map (Value.int .i64)).toArray false sn rn false) :=
 ⟨h.b, bf_pop h.bf, cl_pop h.cl, ⟨sn, rn, setChan_own _ _ _ _ _ _ _ _ h.qi.lt⟩, chin_chan h.ci h.qi (setChan_far _ _ _ _ _ _ _ _), setChan_below h.bel h.hC, h.hC, h.hD, h.ne⟩
theorem FI.push {x : Int} {r : Ru} (h : FI s m w1 C D P v f q ch W) (hr : r ∈ s.rs) (hm : r.mute = true) (hf : r.fr = x) (h8 : 0 ≤ x ∧ x < 8) (hx : f x = true) (hn : f r.to = false) (ht : 0 ≤ r.to ∧ r.to < 8)
 {y : Chn} (hy : SlT W y.A y.L) (hc : y.L.length ≤ y.c ∧ y.c ≤ maxLen) (hl : y.L.length ≤ cntB 8 f) {sn rn : Nat} :
 FI s m w1 C D P ((v.toNat ||| 2 ^ r.to.toNat : Nat) : Int) (addB f r.to) (q ++ [r.to]) (ch.set r.to.toNat y) ((W.setCell ⟨D, r.to.toNat, none⟩ (vCh y)).setChan C 8 (((q ++ [r.to]).map (Value.int .i64)).toArray) false sn rn false) := by
 have hlt := cnt_add (f := f) ht hn
 have h1 := chin_set (h.ci.mono (show cntB 8 f ≤ cntB 8 (addB f r.to) by omega)) (k := r.to.toNat) y hy hc (by omega)
 have h2 : QuIn (W.setCell ⟨D, r.to.toNat, none⟩ (vCh y)) C q := by
  obtain ⟨a, b, hq⟩ := h.qi
  exact ⟨a, b, (Below.heap_setCell _ _ _ _ (fun e => h.ne e.symm)).trans hq⟩
 exact ⟨h.b.add ht, bf_push h.bf hr hm hf h8 hx hn ht, cl_push h.cl, ⟨sn, rn, setChan_own _ _ _ _ _ _ _ _ h2.lt⟩, chin_chan h1 h2 (setChan_far _ _ _ _ _ _ _ _), setChan_below (h.bel.setCell (by exact h.hD) _) h.hC, h.hC, h.hD, h.ne⟩
end
theorem cnt_le8 (f : Int → Bool) : cntB 8 f ≤ 8 := by
 unfold cntB
 exact Nat.le_trans List.countP_le_length (by rw [List.length_range]; exact Nat.le_refl _)
theorem isB_one {m : Int} (h : 0 ≤ m ∧ m < 8) : IsB (2 ^ m.toNat) (fun k => decide (k = m)) := by
 have : m = 0 ∨ m = 1 ∨ m = 2 ∨ m = 3 ∨ m = 4 ∨ m = 5 ∨ m = 6 ∨ m = 7 := by omega
 refine ⟨by have := pow8 h; omega, fun k h1 h2 => ?_⟩
 have : k = 0 ∨ k = 1 ∨ k = 2 ∨ k = 3 ∨ k = 4 ∨ k = 5 ∨ k = 6 ∨ k = 7 := by omega
 rw [pow_toNat, Nat.testBit_two_pow, decide_eq_decide]
 omega
theorem cnt_start {m : Int} (h : 0 ≤ m ∧ m < 8) : 1 ≤ cntB 8 (fun k => decide (k = m)) := by
 have : m = 0 ∨ m = 1 ∨ m = 2 ∨ m = 3 ∨ m = 4 ∨ m = 5 ∨ m = 6 ∨ m = 7 := by omega
 rcases this with rfl | rfl | rfl | rfl | rfl | rfl | rfl | rfl <;> decide
theorem FI.start {s : Sc} {m : Int} {w1 w2 : World} (h8 : 0 ≤ m ∧ m < 8) (hq : w2.heap[w1.heap.size]? = some (.chan 8 #[] false 0 0 false)) (hb : Below w1.heap.size w1 w2) (hs : w2.heap.size = w1.heap.size + 1) :
 FI s m w1 w1.heap.size w2.heap.size (fun _ _ => True) (2 ^ m.toNat) (fun k => decide (k = m)) [m] (List.replicate 8 ⟨none, [], 0⟩)
  ((w2.alloc (.cells #[.slice none 0 0, .slice none 0 0, .slice none 0 0, .slice none 0 0, .slice none 0 0, .slice none 0 0, .slice none 0 0, .slice none 0 0] 99)).setChan w1.heap.size 8 #[.int .i64 m] false (0 + 1) 0 false) := by
 have h1 : QuIn (w2.alloc (.cells #[.slice none 0 0, .slice none 0 0, .slice none 0 0, .slice none 0 0, .slice none 0 0, .slice none 0 0, .slice none 0 0, .slice none 0 0] 99)) w1.heap.size [] := ⟨0, 0, (Below.heap_alloc _ _ _ (by omega)).trans hq⟩
 have h2 : ChIn (w2.alloc (.cells #[.slice none 0 0, .slice none 0 0, .slice none 0 0, .slice none 0 0, .slice none 0 0, .slice none 0 0, .slice none 0 0, .slice none 0 0] 99)) w2.heap.size (List.replicate 8 ⟨none, [], 0⟩) (cntB 8 (fun k => decide (k = m))) :=
  ⟨Blk.new _ _ _, by simp, fun x hx => by
   rw [(List.mem_replicate.1 hx).2]
   exact ⟨SlT.nil, ⟨Nat.le_refl _, Nat.zero_le _⟩, cnt_start h8⟩⟩
 exact ⟨isB_one h8, bf_start h8, cl_start, ⟨1, 0, setChan_own _ _ _ _ _ _ _ _ h1.lt⟩, chin_chan h2 h1 (setChan_far _ _ _ _ _ _ _ _), setChan_below (hb.alloc (by omega) _) (Nat.le_refl _), Nat.le_refl _, by omega, by omega⟩
def frF (sv fn bx : Value) (m g : Int) (C D : Nat) (v : Int) (u : Nat → Value) : Act := { tmps := #[sv, .int .i64 m, .int .u8 g, fn, bx, u 0, u 1, u 2, .slice none 0 0, .chan (some C), .slice (some ⟨D, 0, none⟩) 8 8, .int .u8 v, u 3, u 4, u 5, u 6, u 7, u 8, u 9, u 10, u 11, u 12, u 13, u 14, u 15, u 16, u 17, u 18, u 19, u 20, u 21, u 22, u 23, u 24, u 25, u 26, u 27, u 28, u 29, u 30, u 31, u 32, u 33, u 34, u 35, u 36, u 37, u 38, u 39, u 40, u 41, u 42, u 43, u 44, u 45, u 46, u 47, u 48, u 49, u 50, u 51, u 52, u 53, u 54, u 55, u 56, u 57, u 58, u 59, u 60, u 61, u 62, u 63, u 64, u 65, u 66, u 67], defers := [] }
theorem frF_lit (sv fn bx : Value) (m g : Int) (C D : Nat) (v : Int) (v0 v1 v2 v3 v4 v5 v6 v7 v8 v9 v10 v11 v12 v13 v14 v15 v16 v17 v18 v19 v20 v21 v22 v23 v24 v25 v26 v27 v28 v29 v30 v31 v32 v33 v34 v35 v36 v37 v38 v39 v40 v41 v42 v43 v44 v45 v46 v47 v48 v49 v50 v51 v52 v53 v54 v55 v56 v57 v58 v59 v60 v61 v62 v63 v64 v65 v66 v67 : Value) : ({ tmps := #[sv, .int .i64 m, .int .u8 g, fn, bx, v0, v1, v2, .slice none 0 0, .chan (some C), .slice (some ⟨D, 0, none⟩) 8 8, .int .u8 v, v3, v4, v5, v6, v7, v8, v9, v10, v11, v12, v13, v14, v15, v16, v17, v18, v19, v20, v21, v22, v23, v24, v25, v26, v27, v28, v29, v30, v31, v32, v33, v34, v35, v36, v37, v38, v39, v40, v41, v42, v43, v44, v45, v46, v47, v48, v49, v50, v51, v52, v53, v54, v55, v56, v57, v58, v59, v60, v61, v62, v63, v64, v65, v66, v67], defers := [] } : Act) = frF sv fn bx m g C D v (fun i => [v0, v1, v2, v3, v4, v5, v6, v7, v8, v9, v10, v11, v12, v13, v14, v15, v16, v17, v18, v19, v20, v21, v22, v23, v24, v25, v26, v27, v28, v29, v30, v31, v32, v33, v34, v35, v36, v37, v38, v39, v40, v41, v42, v43, v44, v45, v46, v47, v48, v49, v50, v51, v52, v53, v54, v55, v56, v57, v58, v59, v60, v61, v62, v63, v64, v65, v66, v67].getD i undef) := rfl
def frG (sv fn bx : Value) (m g : Int) (C D : Nat) (rs : Value) (n x v k : Int) (u : Nat → Value) : Act := { tmps := #[sv, .int .i64 m, .int .u8 g, fn, bx, u 0, u 1, u 2, .slice none 0 0, .chan (some C), .slice (some ⟨D, 0, none⟩) 8 8, .int .u8 v, .int .i64 x, u 3, u 4, u 5, u 6, u 7, u 8, u 9, u 10, u 11, u 12, u 13, u 14, u 15, u 16, u 17, rs, .int .i64 n, .int .i64 k, u 18, u 19, u 20, u 21, u 22, u 23, u 24, u 25, u 26, u 27, u 28, u 29, u 30, u 31, u 32, u 33, u 34, u 35, u 36, u 37, u 38, u 39, u 40, u 41, u 42, u 43, u 44, u 45, u 46, u 47, u 48, u 49, u 50, u 51, u 52, u 53, u 54, u 55, u 56, u 57, u 58, u 59, u 60, u 61, u 62, u 63], defers := [] }
theorem frG_lit (sv fn bx : Value) (m g : Int) (C D : Nat) (rs : Value) (n x v k : Int) (v0 v1 v2 v3 v4 v5 v6 v7 v8 v9 v10 v11 v12 v13 v14 v15 v16 v17 v18 v19 v20 v21 v22 v23 v24 v25 v26 v27 v28 v29 v30 v31 v32 v33 v34 v35 v36 v37 v38 v39 v40 v41 v42 v43 v44 v45 v46 v47 v48 v49 v50 v51 v52 v53 v54 v55 v56 v57 v58 v59 v60 v61 v62 v63 : Value) : ({ tmps := #[sv, .int .i64 m, .int .u8 g, fn, bx, v0, v1, v2, .slice none 0 0, .chan (some C), .slice (some ⟨D, 0, none⟩) 8 8, .int .u8 v, .int .i64 x, v3, v4, v5, v6, v7, v8, v9, v10, v11, v12, v13, v14, v15, v16, v17, rs, .int .i64 n, .int .i64 k, v18, v19, v20, v21, v22, v23, v24, v25, v26, v27, v28, v29, v30, v31, v32, v33, v34, v35, v36, v37, v38, v39, v40, v41, v42, v43, v44, v45, v46, v47, v48, v49, v50, v51, v52, v53, v54, v55, v56, v57, v58, v59, v60, v61, v62, v63], defers := [] } : Act) = frG sv fn bx m g C D rs n x v k (fun i => [v0, v1, v2, v3, v4, v5, v6, v7, v8, v9, v10, v11, v12, v13, v14, v15, v16, v17, v18, v19, v20, v21, v22, v23, v24, v25, v26, v27, v28, v29, v30, v31, v32, v33, v34, v35, v36, v37, v38, v39, v40, v41, v42, v43, v44, v45, v46, v47, v48, v49, v50, v51, v52, v53, v54, v55, v56, v57, v58, v59, v60, v61, v62, v63].getD i undef) := rfl
def outR (s : Sc) (w1 : World) (sv fn bx : Value) (m g : Int) (C D : Nat) (n : Nat) (a : Act) (W : World) : Prop :=
 ∃ u v f q ch, a = frF sv fn bx m g C D v u ∧ FI s m w1 C D (fun _ _ => True) v f q ch W ∧ q.length + 2 * (8 - cntB 8 f) = n
def innR (s : Sc) (w1 : World) (sv fn bx : Value) (m g : Int) (C D : Nat) (rs : Value) (x : Int) (N : Nat) (n : Nat) (a : Act) (W : World) : Prop :=
 ∃ (k : Nat) (u : Nat → Value) (v : Int) (f : Int → Bool) (q : List Int) (ch : List Chn), a = frG sv fn bx m g C D rs s.rs.length x v k u ∧ FI s m w1 C D (fun y r => y = x → r ∈ s.rs.take k) v f q ch W ∧ (k ≤ s.rs.length ∧ f x = true ∧ q.length + 2 * (8 - cntB 8 f) < N) ∧ s.rs.length - k = n
set_option maxHeartbeats 4000000 in
theorem emptyRule_any (r : Ru) (w : World) : Calls Tryz.prog 88 #[.agg #[.int .i64 r.fr, .int .i64 r.to, .string r.inp, .string r.out, .int .i64 r.co]] w fun e w' => e = .returned (.bool r.mute) ∧ Below w.heap.size w w' := by
 by_cases h : r.inp.size = 0
 ·have HM := Lib.hid (show r.mute = true from decide_eq_true h)
  have h1 : r.inp.toList = [] := by rw [Lib.toList_data]; exact List.length_eq_zero_iff.1 h
  go_enter Tryz.func88, Tryz.ntmps88
  go_wp2_with fail
  go_ret
  exact ⟨ret_bool (by rw [HM.out]), nw _ (Below.refl _ _)⟩
 ·have HM := Lib.hid (show r.mute = false from decide_eq_false h)
  have h1 : ¬ r.inp.toList = [] := fun e => h (by rw [Lib.toList_data] at e; have := congrArg List.length e; exact this)
  have h2 : r.inp.toList.isEmpty = false := by simpa using h1
  go_enter Tryz.func88, Tryz.ntmps88
  go_wp2_with fail
  go_ret
  exact ⟨ret_bool (by rw [HM.out]), nw _ (Below.refl _ _)⟩
theorem ou_flat : ∀ (l : List Int), l.flatMap (fun x => [Value.int .i64 x]) = l.map (Value.int .i64)
 | [] => rfl
 | x :: l => by rw [List.flatMap_cons, ou_flat l]; rfl
theorem chan_info : (Tryz.prog.info? 3).map (fun i => i.bytes) = some 8 := by kernel_rfl
theorem mkQ (w : World) : (Instr.makeChan 194 (.int .i64 8)).run Tryz.prog w = .ok (.chan (some w.heap.size)) (w.alloc (.chan 8 #[] false 0 0 false)) := by
 obtain ⟨i, hi, hb⟩ := Option.map_eq_some_iff.1 chan_info
 simpa using Conc.run_makeChan (P := Tryz.prog) (w := w) Tryz.underlying194 hi .i64 8 (by omega) (by rw [hb]; omega)
theorem ints_info : (Tryz.prog.info? 99).map (fun i => (i.zero, i.size, i.bytes)) = some (some (.slice none 0 0), 1, 24) := by kernel_rfl
set_option maxHeartbeats 8000000 in
theorem first05_any (s : Sc) (A : Option Addr) (c : Nat) (m : Int) (w : World) (hs : ScIn w s A c) (hok : ScOK s) (hm : 0 ≤ m ∧ m < s.n) :
 Calls Tryz.prog 87 #[.agg #[.int .i64 s.n, .int .u8 s.acc, .slice A s.rs.length c], .int .i64 m, .int .u8 (2 ^ m.toNat), .func (.func 88) #[] #[]] w (IsChn s m w) := by
 obtain ⟨i0, hi, hy0, hy1, hy2⟩ := info_parts cloneI_info
 obtain ⟨j0, hj0, hz0, hz1, hz2⟩ := info_parts ints_info
 obtain ⟨w1, hw1⟩ : ∃ w1, w.alloc (.cells #[.int .i64 s.n, .int .u8 s.acc, .slice A s.rs.length c] 30) = w1 := ⟨_, rfl⟩
 have hb1 : Below w.heap.size w w1 := by rw [← hw1]; exact nw _ (Below.refl _ _)
 have hB : Blk w1 w.heap.size 30 #[.int .i64 s.n, .int .u8 s.acc, .slice A s.rs.length c] := by rw [← hw1]; exact Blk.new _ _ _
 have HW1 := Lib.hid hw1
 have HB1 := Lib.hid hb1
 have HCE : Hid (∀ W, Below w1.heap.size w1 W → W.cell? ⟨w.heap.size, 0, none⟩ = some (.int .i64 s.n) ∧ W.cell? ⟨w.heap.size, 1, none⟩ = some (.int .u8 s.acc) ∧ W.cell? ⟨w.heap.size, 2, none⟩ = some (.slice A s.rs.length c) ∧ w.heap.size < W.heap.size) := fun W hW => by
  have e1 := hB.below hW hB.lt
  exact ⟨by rw [e1.cell]; rfl, by rw [e1.cell]; rfl, by rw [e1.cell]; rfl, e1.lt⟩
 obtain ⟨b0, b1, b2, bl⟩ := HCE.out _ (Below.refl _ _)
 clear hw1 hb1 hB
 have hn := hok.1
 have hm8 : 0 ≤ m ∧ m < 8 := by omega
 obtain ⟨G, hG⟩ : ∃ G, (2 : Int) ^ m.toNat = G := ⟨_, rfl⟩
 have HONE : Hid (∀ W : World, Calls Tryz.prog 86 #[.int .i64 m] W fun e w' => e = .returned (.int .u8 G) ∧ W = w') := fun W => by rw [← hG]; exact one_any m W hm8
 rw [hG]
 have HG := Lib.hid hG
 have HS := Lib.hid hs
 have hl := hs.len
 have HOK := Lib.hid hok
 clear hs hok
 have hmc := mkQ
 clear hG
 refine calls_of_wpN Tryz.func87 rfl ?_
 simp only [Tryz.ntmps87, List.size_toArray, List.length_cons, List.length_nil, Nat.reduceAdd, Nat.reduceSub, Array.replicate_succ, Array.replicate_zero, List.push_toArray, List.append_toArray, List.nil_append, List.cons_append]
 refine wpN_seq_k ?_
 intro K1 hK1
 refine wpN_of ?_
 go_wp2_with fail
 rw [HW1.out]
 refine wpN_seq_k ?_
 intro K2 hK2
 refine wpN_of ?_
 go_wp2_with fail
 obtain ⟨w2, hw2⟩ : ∃ W, w1.alloc (.chan 8 #[] false 0 0 false) = W := ⟨_, rfl⟩
 have hb2 : Below w1.heap.size w1 w2 := by rw [← hw2]; exact nw _ (Below.refl _ _)
 rw [hw2]
 refine wpN_seq_k ?_
 intro K3 hK3
 refine wpN_of ?_
 go_wp2_with (refine wpList_mk _ rfl _ _ 195 rfl 99 j0 (.slice none 0 0) (.slice none 0 0) Tryz.underlying195 hj0 hz0 hz1 (by rw [hz2]; omega) rfl 8 rfl rfl (by omega) ?_)
 refine wpN_seq_k ?_
 intro K4 hK4
 refine wpN_of ?_
 go_wp2_with (go_at_call 86; go_loud (refine (HONE.out _).mono ?_; rintro e w' ⟨rfl, rfl⟩))
 refine wpN_seq_k ?_
 intro K5 hK5
 refine wpN_region ?_
 show InR _ _ _ [0, 1, 2] _ _
 refine inR_value (v := .chan (some w1.heap.size)) rfl rfl rfl ?_
 refine inR_value (v := .int .i64 m) rfl rfl rfl ?_
 simp only [Act.put, List.getElem_toArray, List.getElem_cons_zero, List.getElem_cons_succ, List.setIfInBounds_toArray, List.set_cons_succ, List.set_cons_zero]
 have hq2 : w2.heap[w1.heap.size]? = some (.chan 8 #[] false 0 0 false) := by rw [← hw2]; show (w1.heap.push _)[w1.heap.size]? = _; simp
 have hc2 : w2.heap.size = w1.heap.size + 1 := by rw [← hw2]; simp
 refine inR_send (c := w1.heap.size) (cap := 8) (s := 0) (r := 0) (buf := #[]) (tm := false) (v := .int .i64 m) (z := .tuple #[]) rfl rfl rfl ((Below.heap_alloc _ _ _ (by omega)).trans hq2) (by simp) ?_
 refine inR_nil ?_
 refine hK5 _ _ ?_
 simp only [Act.put, List.getElem_toArray, List.getElem_cons_zero, List.getElem_cons_succ, List.setIfInBounds_toArray, List.set_cons_succ, List.set_cons_zero, List.push_toArray, List.nil_append]
 clear hK5
 refine wpN_seq_k ?_
 intro K6 hK6
 refine wpN_block ?_
 refine wpN_loopN (outR s w1 (.agg #[.int .i64 s.n, .int .u8 s.acc, .slice A s.rs.length c]) (.func (.func 88) #[] #[]) (.pointer (some ⟨w.heap.size, 0, none⟩)) m G w1.heap.size w2.heap.size) _ ⟨_, _, _, _, _, frF_lit .., by rw [← HG.out]; exact FI.start hm8 hq2 hb2 hc2, rfl⟩ ?_
 clear hq2 hc2 hw2
 rintro N _ W ⟨u, v, f, q, ch, rfl, hI, hN⟩
 obtain ⟨b0, b1, b2, bl⟩ := HCE.out _ hI.bel
 have HI := Lib.hid hI
 clear hI
 unfold frF
 refine wpN_seq_k ?_
 intro K7 hK7
 refine wpN_of ?_
 have hlen : (Builtin.len_ #[194] 3 #[.chan (some w1.heap.size)]).run Tryz.prog W = .ok (.int .i64 (q.length : Int)) W := by
  obtain ⟨sn, rn, hq⟩ := HI.out.qi
  have := Conc.run_len_chan (P := Tryz.prog) 194 3 Tryz.underlying194 hq
  rw [this]
  show Result.ok (Value.int .i64 _) W = _
  simp
 rcases q with _ | ⟨x, q⟩
 ·have hl0 : (([] : List Int).length : Int) = 0 := rfl
  rw [hl0] at hlen
  go_wp2_with fail
  refine wpN_of ?_
  go_wp2_with fail
  go_ret
  exact ⟨.inr ⟨rfl, bf_done HI.out.bf HI.out.cl fun r hr => by have := HOK.out.2.2.2.1 r hr; have := this.1; omega⟩, bthen HB1.out HI.out.bel⟩
 ·have hl0 : (0 : Int) < (((x :: q).length : Nat) : Int) := by simp
  obtain ⟨n0, hn0⟩ : ∃ n : Nat, (x :: q).length = n := ⟨_, rfl⟩
  rw [hn0] at hl0 hlen
  go_wp2_with fail
  clear hl0 hlen
  refine wpN_block ?_
  refine wpN_seq_k ?_
  intro K8 hK8
  refine wpN_region ?_
  show InR _ _ _ [0, 1, 2] _ _
  refine inR_value (v := .chan (some w1.heap.size)) rfl rfl rfl ?_
  simp only [Act.put, List.getElem_toArray, List.getElem_cons_zero, List.getElem_cons_succ, List.setIfInBounds_toArray, List.set_cons_succ, List.set_cons_zero]
  obtain ⟨sn, rn, hq⟩ := HI.out.qi
  refine inR_recv (c := w1.heap.size) (cap := 8) (s := sn) (r := rn) (tm := false) (closed := false) (z := .int .i64 0) rfl rfl rfl hq (by simp) ?_
  refine inR_value (v := .int .i64 x) rfl rfl rfl ?_
  refine inR_nil ?_
  refine hK8 _ _ ?_
  simp only [Act.put, List.getElem_toArray, List.getElem_cons_zero, List.getElem_cons_succ, List.setIfInBounds_toArray, List.set_cons_succ, List.set_cons_zero]
  have hex : ((List.map (Value.int .i64) (x :: q)).toArray.extract 1) = (q.map (Value.int .i64)).toArray := by
   simp
   exact List.take_of_length_le (by simp)
  rw [hex]
  obtain ⟨W1, hW1⟩ : ∃ W', W.setChan w1.heap.size 8 (q.map (Value.int .i64)).toArray false sn (rn + 1) false = W' := ⟨_, rfl⟩
  have HI1 := Lib.hid (show FI _ _ _ _ _ _ _ _ _ _ W1 from hW1 ▸ HI.out.pop (sn := sn) (rn := rn + 1))
  rw [hW1]
  have hx8 := (HI.out.bf.ins x List.mem_cons_self).1
  have hfx := (HI.out.bf.ins x List.mem_cons_self).2
  clear hq hW1 hex hK8 HI b0 b1 b2 bl
  obtain ⟨b0, b1, b2, bl⟩ := HCE.out _ HI1.out.bel
  refine wpN_seq_k ?_
  intro K9 hK9
  refine wpN_of ?_
  go_wp2_with fail
  refine wpN_block ?_
  refine wpN_loopN (innR s w1 (.agg #[.int .i64 s.n, .int .u8 s.acc, .slice A s.rs.length c]) (.func (.func 88) #[] #[]) (.pointer (some ⟨w.heap.size, 0, none⟩)) m G w1.heap.size w2.heap.size (.slice A s.rs.length c) x N) _ ⟨0, _, _, _, _, _, frG_lit .., HI1.out, ⟨Nat.zero_le _, hfx, by rw [← hN]; simp only [List.length_cons]; omega⟩, rfl⟩ ?_
  clear hn0 hN hfx HI1 b0 b1 b2 bl
  clear v f q ch u
  rintro j _ WJ ⟨k, u, v, f, q, ch, rfl, hI, ⟨hk, hfx, hlt⟩, hj⟩
  have HI := Lib.hid hI
  have HFX := Lib.hid hfx
  clear hI hfx
  obtain ⟨b0, b1, b2, bl⟩ := HCE.out _ HI.out.bel
  unfold frG
  refine wpN_seq_k ?_
  intro K10 hK10
  refine wpN_of ?_
  by_cases hkl : k < s.rs.length
  ·have hki : (k : Int) < (s.rs.length : Int) := by omega
   have hk0 : (0 : Int) ≤ (k : Int) := by omega
   go_wp2_with fail
   refine wpN_seq_k ?_
   intro K11 hK11
   refine wpN_of ?_
   go_wp2_with fail
   obtain ⟨b, off, t, rfl, hbb, hxx, d0, d1, d2, d3, d4⟩ := ((HS.out.below (bthen HB1.out HI.out.bel)).sl).ru hkl
   have htm := List.mem_of_getElem? hxx
   have hru := HOK.out.2.2.2.1 t htm
   have hm1 : 0 ≤ t.fr ∧ t.fr < 8 := by have := hru.1; omega
   have hm2 : 0 ≤ t.to ∧ t.to < 8 := by have := hru.1; omega
   have hub := HI.out.b.1
   have HT := Lib.hid (And.intro hxx htm)
   clear hxx htm hru
   refine wpN_seq_k ?_
   intro K12 hK12
   refine wpN_block ?_
   refine wpN_seq_k ?_
   intro K13 hK13
   refine wpN_of ?_
   go_wp2_with fail
   obtain ⟨k1, hk1⟩ : ∃ k1 : Nat, k1 = k + 1 := ⟨_, rfl⟩
   have HK1 := Lib.hid hk1
   have hki1 : (k : Int) + 1 = (k1 : Int) := by omega
   clear hk1
   obtain ⟨W2, hW2⟩ : ∃ W', WJ.alloc (.cells #[.int .i64 t.fr, .int .i64 t.to, .string t.inp, .string t.out, .int .i64 t.co] 61) = W' := ⟨_, rfl⟩
   have hbj : Below WJ.heap.size WJ W2 := by rw [← hW2]; exact nw _ (Below.refl _ _)
   have hX : Blk W2 WJ.heap.size 61 #[.int .i64 t.fr, .int .i64 t.to, .string t.inp, .string t.out, .int .i64 t.co] := by rw [← hW2]; exact Blk.new _ _ _
   rw [hW2]
   obtain ⟨g0, hg⟩ : ∃ b, WJ.heap.size = b := ⟨_, rfl⟩
   have HI2 := Lib.hid (HI.out.grow hbj)
   rw [hg] at hX ⊢
   have HX := Lib.hid hX
   have x0 := hX.cell 0
   have x1 := hX.cell 1
   have x2 := hX.cell 2
   have x3 := hX.cell 3
   have x4 := hX.cell 4
   have xl := hX.lt
   simp at x0 x1 x2 x3 x4
   have HBJ := Lib.hid hbj
   clear hW2 hbj hX hg d0 d1 d2 d3 d4 hbb b0 b1 b2 bl HI
   by_cases he : t.fr = x
   ·subst he
    by_cases hmu : t.mute = true
    ·refine wpN_seq_k ?_
     intro K14 hK14
     refine wpN_of ?_
     go_wp2_with (go_at_call 88; go_loud (refine (emptyRule_any t _).mono ?_; rintro e W3 ⟨rfl, hb3⟩))
     have HI3 := Lib.hid (HI2.out.grow hb3)
     have HX3 := Lib.hid (HX.out.below hb3 HX.out.lt)
     have HB3 := Lib.hid hb3
     clear x0 x1 x2 x3 x4 xl hb3
     have hcl := HI3.out.ci.len
     obtain ⟨y, hy⟩ : ∃ y, ch[t.fr.toNat]? = some y := ⟨_, List.getElem?_eq_getElem (by omega)⟩
     clear hcl
     have yc : W3.cell? ⟨w2.heap.size, t.fr.toNat, none⟩ = some (.slice y.A y.L.length y.c) := by
      rw [HI3.out.ci.blk.cell]
      simp [hy, vCh]
     have yl := HI3.out.ci.blk.lt
     obtain ⟨hyS, hyC, hyL⟩ := HI3.out.ci.ok y (List.mem_of_getElem? hy)
     have hc8 := cnt_le8 f
     have HYL := Lib.hid hyL
     have hyl : y.L.length ≤ 7 := by omega
     have HYS := Lib.hid hyS
     clear hy hyS hyL hc8
     refine wpN_seq_k ?_
     intro K15 hK15
     refine wpN_of ?_
     go_wp2_with (first | (go_at_call 113; go_loud (refine (cloneI_any y.A y.L y.c _ HYS.out.slr (by omega)).mono ?_; rintro e W4 ⟨v4, rfl, hown4, hb4⟩; have HO4 := Lib.hid hown4; have HB4 := Lib.hid hb4; clear hown4 hb4)) | (at_builtin; go_loud (refine wpList_app1 rfl _ _ 99 rfl W3.heap.size 3 i0 _ 1 8 Tryz.underlying99 hi hy0 hy1 hy2 rfl (by decide) v4 _ _ rfl _ [.int .i64 (k : Int)] rfl HO4.out _ rfl (by simp) rfl (by simp [Value.oneCell']) (by omega) (by decide) (by exact HB4.out.size) ?_; intro v5 W5 hown5 hb5 ha5)))
     have hfm : y.L.flatMap (fun x => [Value.int .i64 x]) ++ [Value.int .i64 (k : Int)] = (y.L ++ [(k : Int)]).map (Value.int .i64) := by
      rw [List.map_append, ou_flat]
      rfl
     rw [hfm] at hown5
     obtain ⟨B5, c5, rfl, hc5a, hc5b, hS5⟩ := own_slt hown5 (by simp)
     obtain ⟨g5, hg5⟩ : ∃ g, B5 = some g := by
      obtain ⟨b, o, cs, h, _⟩ := hS5 (by simp)
      exact ⟨_, h⟩
     subst hg5
     have hb45 : Below W3.heap.size W3 W5 := HB4.out.trans hb5
     have HI5 := Lib.hid (HI3.out.grow hb45)
     have hX5 := HX3.out.below hb45 HX3.out.lt
     have HX5 := Lib.hid hX5
     have x0 := hX5.cell 0
     have x1 := hX5.cell 1
     have x2 := hX5.cell 2
     have x3 := hX5.cell 3
     have x4 := hX5.cell 4
     have xl := hX5.lt
     simp at x0 x1 x2 x3 x4
     have HS5 := Lib.hid hS5
     obtain ⟨c9, hc9⟩ : ∃ n : Nat, y.L.length + 1 = n := ⟨_, rfl⟩
     have HC9 := Lib.hid hc9
     have HC5 := Lib.hid (And.intro hc5a hc5b)
     rw [hc9] at hown5 ⊢
     clear hfm hown5 hb5 ha5 hb45 hX5 HI3 HX3 HO4 HB4 HYS yc yl hS5 hc9 hc5a hc5b
     have hGb := (isB_one hm8).1
     rw [HG.out] at hGb
     refine wpN_seq_k ?_
     intro K16 hK16
     refine wpN_of ?_
     by_cases hto : t.to = m
     ·have hbt : G.toNat.testBit t.to.toNat = true := by
       have := (isB_one hm8).2 t.to hm2.1 hm2.2
       rw [HG.out] at this
       rw [this]
       exact decide_eq_true hto
      have HTO := Lib.hid hto
      clear hto
      go_wp2_with (go_at_call 54; go_loud (refine (has_any G t.to _ hGb hm2).mono ?_; rintro e w' ⟨rfl, rfl⟩))
      go_ret
      exact ⟨.inl ⟨g5, y.L ++ [(k : Int)], c5, by rw [List.length_append, ← HC9.out]; rfl, by rw [List.length_append]; show 1 ≤ y.L.length + 1 ∧ y.L.length + 1 ≤ 9; omega, by rw [List.length_append]; exact HC5.out, HS5.out.slr, bf_found HI5.out.bf HT.out.2 hmu rfl hm1 HFX.out HTO.out⟩, bthen HB1.out HI5.out.bel⟩
     ·have hbt : G.toNat.testBit t.to.toNat = false := by
       have := (isB_one hm8).2 t.to hm2.1 hm2.2
       rw [HG.out] at this
       rw [this]
       exact decide_eq_false hto
      have HTO := Lib.hid hto
      clear hto
      go_wp2_with (go_at_call 54; go_loud (refine (has_any G t.to _ hGb hm2).mono ?_; rintro e w' ⟨rfl, rfl⟩))
      refine wpN_seq_k ?_
      intro K17 hK17
      refine wpN_of ?_
      by_cases hfs : f t.to = true
      ·have hvb : v.toNat.testBit t.to.toNat = true := (HI5.out.b.2 t.to hm2.1 hm2.2).trans hfs
       have HFS := Lib.hid hfs
       clear hfs
       go_wp2_with (go_at_call 54; go_loud (refine (has_any v t.to _ hub hm2).mono ?_; rintro e w' ⟨rfl, rfl⟩))
       refine wpN_of ?_
       go_wp2_with fail
       refine wpN_of ?_
       go_wp2_with fail
       exact ⟨_, by have := HK1.out; omega, k1, _, v, f, q, ch, frG_lit .., HI5.out.pred (by rw [HK1.out]; exact cl_next HI5.out.cl HT.out.1 (fun _ _ => ⟨HFS.out, HTO.out⟩)), ⟨by have := HK1.out; omega, HFX.out, hlt⟩, rfl⟩
      ·have hff : f t.to = false := by simpa using hfs
       have hvb : v.toNat.testBit t.to.toNat = false := (HI5.out.b.2 t.to hm2.1 hm2.2).trans hff
       have HFF := Lib.hid hff
       clear hfs hff
       go_wp2_with (go_at_call 54; go_loud (refine (has_any v t.to _ hub hm2).mono ?_; rintro e w' ⟨rfl, rfl⟩))
       refine wpN_cond (t := true) rfl ?_
       show wpN _ (.seq _ _) _ _ _
       refine wpN_seq_k ?_
       intro K18 hK18
       refine wpN_of ?_
       go_wp2_with (go_at_call 86; go_loud (refine (one_any t.to _ hm2).mono ?_; rintro e w' ⟨rfl, rfl⟩))
       rw [or_pow hub hm2]
       have hblk := HI5.out.ci.blk
       have yfz : W5.frozen? ⟨w2.heap.size, t.to.toNat, none⟩ = false := hblk.frozen _
       have hdl := hblk.lt
       have yc : ∃ z, W5.cell? ⟨w2.heap.size, t.to.toNat, none⟩ = some z := by
        have hcl := HI5.out.ci.len
        obtain ⟨z0, hz0⟩ : ∃ z0, ch[t.to.toNat]? = some z0 := ⟨_, List.getElem?_eq_getElem (by omega)⟩
        exact ⟨vCh z0, by rw [hblk.cell]; simp [hz0]⟩
       obtain ⟨z, yc⟩ := yc
       clear hblk
       refine wpN_seq_k ?_
       intro K19 hK19
       refine wpN_of ?_
       go_wp2_with fail
       refine wpN_region ?_
       show InR _ _ _ [0, 1, 2, 3] _ _
       obtain ⟨W6, hW6⟩ : ∃ W', W5.setCell ⟨w2.heap.size, t.to.toNat, none⟩ (.slice (some g5) c9 c5) = W' := ⟨_, rfl⟩
       rw [hW6]
       have hne : g0 ≠ w2.heap.size := fun e => by
        have h1 := HX5.out
        have h2 := HI5.out.ci.blk
        unfold Blk at h1 h2
        rw [e, h2] at h1
        injection h1 with h1
        injection h1 with _ h1
        revert h1
        decide
       have y1 : W6.cell? ⟨g0, 1, none⟩ = some (.int .i64 t.to) := by
        rw [← hW6, ((HX5.out).far (p := ⟨w2.heap.size, t.to.toNat, none⟩) hne _).cell]
        rfl
       refine inR_value (v := .chan (some w1.heap.size)) rfl rfl rfl ?_
       simp only [Act.put, List.getElem_toArray, List.getElem_cons_zero, List.getElem_cons_succ, List.setIfInBounds_toArray, List.set_cons_succ, List.set_cons_zero]
       refine inR_value (v := .pointer (some ⟨g0, 1, none⟩)) (w' := W6) rfl rfl (by first | rfl | (simp [execOp, Act.eval]; done)) ?_
       simp only [Act.put, List.getElem_toArray, List.getElem_cons_zero, List.getElem_cons_succ, List.setIfInBounds_toArray, List.set_cons_succ, List.set_cons_zero]
       refine inR_value (v := .int .i64 t.to) (w' := W6) rfl rfl (by simp [execOp, Act.eval, y1, Instr.loadAt, Instr.sureAddr, loadVar, isAgg, run_underlying Tryz.underlying3]) ?_
       simp only [Act.put, List.getElem_toArray, List.getElem_cons_zero, List.getElem_cons_succ, List.setIfInBounds_toArray, List.set_cons_succ, List.set_cons_zero]
       obtain ⟨sn6, rn6, hq6⟩ := HI5.out.qi
       have hqc : q.length < 8 := by
        have h1 := bf_len HI5.out.bf
        have h2 := cnt_add (f := f) hm2 HFF.out
        have h3 := cnt_le8 (addB f t.to)
        omega
       have hq7 : W6.heap[w1.heap.size]? = some (.chan 8 (q.map (Value.int .i64)).toArray false sn6 rn6 false) := by
        rw [← hW6]
        exact (Below.heap_setCell _ _ _ _ (fun e => HI5.out.ne e.symm)).trans hq6
       refine inR_send (c := w1.heap.size) (cap := 8) (s := sn6) (r := rn6) (tm := false) (v := .int .i64 t.to) (z := .tuple #[]) rfl rfl rfl hq7 (by simpa using hqc) ?_
       refine inR_nil ?_
       refine hK12 _ _ ?_
       simp only [Act.put, List.getElem_toArray, List.getElem_cons_zero, List.getElem_cons_succ]
       have hq8 : (q.map (Value.int .i64)).toArray.push (.int .i64 t.to) = ((q ++ [t.to]).map (Value.int .i64)).toArray := by simp
       rw [hq8]
       have HI6 := Lib.hid (HI5.out.push (y := ⟨some g5, y.L ++ [(k : Int)], c5⟩) HT.out.2 hmu rfl hm1 HFX.out HFF.out hm2 HS5.out (by rw [List.length_append]; exact HC5.out) (by rw [List.length_append]; have := HYL.out; exact this) (sn := sn6 + 1) (rn := rn6))
       have hv6 : vCh ⟨some g5, y.L ++ [(k : Int)], c5⟩ = .slice (some g5) c9 c5 := by
        show Value.slice (some g5) (y.L ++ [(k : Int)]).length c5 = _
        rw [List.length_append, ← HC9.out]
        rfl
       rw [hv6, hW6] at HI6
       have hlt6 : (q ++ [t.to]).length + 2 * (8 - cntB 8 (addB f t.to)) < N := by
        have h2 := cnt_add (f := f) hm2 HFF.out
        have h3 := cnt_le8 (addB f t.to)
        rw [List.length_append]
        show q.length + 1 + _ < N
        omega
       have HLT6 := Lib.hid hlt6
       have HFX6 := Lib.hid (show addB f t.to t.fr = true by unfold addB; rw [HFX.out, Bool.or_true])
       obtain ⟨W7, hW7⟩ : ∃ W', W6.setChan w1.heap.size 8 ((q ++ [t.to]).map (Value.int .i64)).toArray false (sn6 + 1) rn6 false = W' := ⟨_, rfl⟩
       rw [hW7] at HI6 ⊢
       clear hlt6 hq8 hv6 hW7 hW6 hq6 hq7 hqc y1 yc yfz hdl x0 x1 x2 x3 x4 xl hne
       refine wpN_of ?_
       go_wp2_with fail
       exact ⟨_, by have := HK1.out; omega, k1, _, _, _, _, _, frG_lit .., HI6.out.pred (by rw [HK1.out]; exact cl_next HI6.out.cl HT.out.1 (fun _ _ => ⟨by unfold addB; simp, HTO.out⟩)), ⟨by have := HK1.out; omega, HFX6.out, HLT6.out⟩, rfl⟩
    ·have hmf : t.mute = false := by simpa using hmu
     clear hmu
     refine wpN_seq_k ?_
     intro K14 hK14
     refine wpN_of ?_
     go_wp2_with (go_at_call 88; go_loud (refine (emptyRule_any t _).mono ?_; rintro e W3 ⟨rfl, hb3⟩))
     refine wpN_of ?_
     go_wp2_with fail
     exact ⟨_, by have := HK1.out; omega, k1, _, v, f, q, ch, frG_lit .., (HI2.out.grow hb3).pred (by rw [HK1.out]; exact cl_next HI2.out.cl HT.out.1 (fun _ h => by rw [hmf] at h; cases h)), ⟨by have := HK1.out; omega, HFX.out, hlt⟩, rfl⟩
   ·refine wpN_seq_k ?_
    intro K14 hK14
    refine wpN_of ?_
    go_wp2_with fail
    refine wpN_of ?_
    go_wp2_with fail
    exact ⟨_, by have := HK1.out; omega, k1, _, v, f, q, ch, frG_lit .., HI2.out.pred (by rw [HK1.out]; exact cl_next HI2.out.cl HT.out.1 (fun h => absurd h he)), ⟨by have := HK1.out; omega, HFX.out, hlt⟩, rfl⟩
  ·have hki : ¬ (k : Int) < (s.rs.length : Int) := by omega
   go_wp2_with fail
   refine wpN_seq_k ?_
   intro K11 hK11
   refine wpN_of ?_
   go_wp2_with fail
   obtain rfl : k = s.rs.length := by omega
   exact ⟨_, hlt, _, _, _, _, _, frF_lit .., HI.out.pred (cl_all HI.out.cl), rfl⟩
end Go.Proofs.YtfpnhgahkjglgaaGreat
