/-
  Words for memory of layer 05: all old blocks but a map's are as they were; slices of states.
-/
import Derived.Test.YtfpnhgahkjglgaaGreatF09
import Derived.OwnWalk
namespace Go.Proofs.YtfpnhgahkjglgaaGreat
open Go Go.RowKit Go.Maps
structure BelB (b B : Nat) (w w' : World) : Prop where
 os : w'.os = w.os
 tape : w'.tape = w.tape
 output : w'.output = w.output
 size : w.heap.size ≤ w'.heap.size
 block : ∀ k, k < B → k ≠ b → w'.heap[k]? = w.heap[k]?
section
variable {b B B' : Nat} {w w' w2 : World}
theorem BelB.refl (b B : Nat) (w : World) : BelB b B w w := ⟨rfl, rfl, rfl, Nat.le_refl _, fun _ _ _ => rfl⟩
theorem BelB.trans (h : BelB b B w w') (k : BelB b B w' w2) : BelB b B w w2 :=
 ⟨k.os.trans h.os, k.tape.trans h.tape, k.output.trans h.output, Nat.le_trans h.size k.size, fun i hi hn => (k.block i hi hn).trans (h.block i hi hn)⟩
theorem BelB.mono (h : BelB b B w w') (hB : B' ≤ B) : BelB b B' w w' := ⟨h.os, h.tape, h.output, h.size, fun i hi hn => h.block i (Nat.lt_of_lt_of_le hi hB) hn⟩
theorem BelB.of_below (h : Below B w w') : BelB b B w w' := ⟨h.os, h.tape, h.output, h.size, fun i hi _ => h.block i hi⟩
theorem BelB.of_grown (h : w.grownBy w' (some b)) (hB : B ≤ w.heap.size) : BelB b B w w' := ⟨h.os, h.tape, h.output, h.size, fun i hi hn => h.block i (Nat.lt_of_lt_of_le hi hB) (fun e => hn (Option.some.inj e))⟩
theorem BelB.below (h : BelB b B w w') (hB : B' ≤ B) (hb : B' ≤ b) : Below B' w w' := ⟨h.os, h.tape, h.output, h.size, fun i hi => h.block i (by omega) (by omega)⟩
theorem BelB.grown (h : BelB b w.heap.size w w') : w.grownBy w' (some b) := ⟨h.os, h.tape, h.output, h.size, fun i hi hn => h.block i hi fun e => hn (by rw [e])⟩
theorem BelB.blk {g : Nat} {t : TypeId} {cs : Array Value} (h : BelB b B w w') (hk : Blk w g t cs) (hg : g < B) (hn : g ≠ b) : Blk w' g t cs := (h.block g hg hn).trans hk
theorem map_cell {es : Array MapEntry} {clock : Nat} (h : w.heap[b]? = some (.map es clock)) (o : Nat) : w.cell? ⟨b, o, none⟩ = none := by
 simp [World.cell?, h]
theorem map_blk {es : Array MapEntry} {clock g : Nat} {t : TypeId} {cs : Array Value} (h : w.heap[b]? = some (.map es clock)) (hk : Blk w g t cs) : g ≠ b := fun e => by
 subst e
 unfold Blk at hk
 rw [hk] at h
 cases h
theorem SlR.belB {α : Type} {s : Nat} {R : World → α → List Value → Prop} {A : Option Addr} {xs : List α} (hR : ∀ w w' x vs, R w x vs → R w' x vs) (h : SlR s R w A xs) (hs : 0 < s) (hm : ∃ es clock, w.heap[b]? = some (.map es clock)) (hb : BelB b w.heap.size w w') : SlR s R w' A xs := fun hne => by
 obtain ⟨b', off, hA, hlt, hk⟩ := h hne
 obtain ⟨es, clock, hm⟩ := hm
 have hbn : b' ≠ b := fun e => by
  subst e
  obtain ⟨x, xs', rfl⟩ := List.exists_cons_of_ne_nil hne
  obtain ⟨vs, _, hl, hc⟩ := hk 0 x rfl
  obtain ⟨v, vs', rfl⟩ := List.exists_cons_of_ne_nil (l := vs) (by rintro rfl; simp at hl; omega)
  have := hc 0 v rfl
  rw [map_cell hm] at this
  cases this
 refine ⟨b', off, hA, Nat.lt_of_lt_of_le hlt hb.size, fun k x hx => ?_⟩
 obtain ⟨vs, h1, h2, h3⟩ := hk k x hx
 exact ⟨vs, hR _ _ _ _ h1, h2, fun j v hj => (World.cell?_of_block (hb.block b' hlt hbn)).trans (h3 j v hj)⟩
end
def RL {K : Type} (encL : K → List Value) (_ : World) (k : K) (vs : List Value) : Prop := vs = encL k
def cPair (k : Int × ByteArray) : List Value := [.int .i64 k.1, .string k.2]
def cSpot (k : Int × Int) : List Value := [.int .i64 k.1, .int .i64 k.2]
theorem SlR.pairs {w : World} {A : Option Addr} {k : Nat} {xs : List (Int × ByteArray)} (h : SlR 2 (RL cPair) w A xs) (hk : k < xs.length) : ∃ b off x, A = some ⟨b, off, none⟩ ∧ b < w.heap.size ∧ xs[k]? = some x ∧
 w.cell? ⟨b, off + k * 2, none⟩ = some (.int .i64 x.1) ∧ w.cell? ⟨b, off + k * 2 + 1, none⟩ = some (.string x.2) := by
 obtain ⟨b, off, x, vs, hA, hb, hx, rfl, _, hc⟩ := h.at_ hk
 exact ⟨b, off, x, hA, hb, hx, hc 0 _ rfl, hc 1 _ rfl⟩
theorem SlR.spots {w : World} {A : Option Addr} {k : Nat} {xs : List (Int × Int)} (h : SlR 2 (RL cSpot) w A xs) (hk : k < xs.length) : ∃ b off x, A = some ⟨b, off, none⟩ ∧ b < w.heap.size ∧ xs[k]? = some x ∧
 w.cell? ⟨b, off + k * 2, none⟩ = some (.int .i64 x.1) ∧ w.cell? ⟨b, off + k * 2 + 1, none⟩ = some (.int .i64 x.2) := by
 obtain ⟨b, off, x, vs, hA, hb, hx, rfl, _, hc⟩ := h.at_ hk
 exact ⟨b, off, x, hA, hb, hx, hc 0 _ rfl, hc 1 _ rfl⟩
def measS (B : Nat) (v : Value) : Nat := match v with
 | .slice (some a) n _ => if n = 0 then 0 else if a.block < B then 2 else 1
 | _ => 0
def IsSettle {K : Type} (kt : TypeId) (enc : K → Value) (S : Sys K) (st : K) (inp : List UInt8) (pl most : Nat) (o : Option Nat) (M : K → Option Int) (w : World) (e : Ending) (w' : World) : Prop :=
 ∃ (bo : Bool) (M' : K → Option Int), e = .returned (.bool bo) ∧ w.grownBy w' o ∧ (bo = true → TabO Tryz.prog kt 3 enc w' o most M' ∧ Holds M' (fun k c => Low M k c ∨ Hop S (Low M) k c)) ∧ (bo = false → TooMany most (Rch S st inp pl))
def IsStep {K : Type} (enc : K → Value) (S : Sys K) (k : K) (r : Ru) (w : World) (e : Ending) (w' : World) : Prop :=
 ∃ (k' : K) (bo : Bool), e = .returned (.tuple #[enc k', .bool bo]) ∧ (match S.step k r with | some x => k' = x ∧ bo = true | none => bo = false) ∧ Below w.heap.size w w'
theorem IsStep.yes {K : Type} {enc : K → Value} {S : Sys K} {k x : K} {r : Ru} {w w' : World} {e : Ending} (h : IsStep enc S k r w e w') (hs : S.step k r = some x) : e = .returned (.tuple #[enc x, .bool true]) ∧ Below w.heap.size w w' := by
 obtain ⟨k', bo, rfl, h2, h3⟩ := h
 rw [hs] at h2
 obtain ⟨rfl, rfl⟩ := h2
 exact ⟨rfl, h3⟩
theorem IsStep.no {K : Type} {enc : K → Value} {S : Sys K} {k : K} {r : Ru} {w w' : World} {e : Ending} (h : IsStep enc S k r w e w') (hs : S.step k r = none) : (∃ x, e = .returned (.tuple #[enc x, .bool false])) ∧ Below w.heap.size w w' := by
 obtain ⟨k', bo, rfl, h2, h3⟩ := h
 rw [hs] at h2
 have h2 : bo = false := h2
 subst h2
 exact ⟨⟨k', rfl⟩, h3⟩
theorem tooMany_keys {K : Type} {S : Sys K} {st : K} {inp : List UInt8} {i n : Nat} {M : K → Option Int} (h : SubR S st inp i M) {l : List K} (hl : KeysOf M l) (hn : n < l.length) : TooMany n (Rch S st inp i) :=
 ⟨l, hl.1, hn, fun k hk => by
  cases hM : M k with
  | none => exact absurd hM ((hl.2 k).1 hk)
  | some c => exact ⟨c, h k c hM⟩⟩
theorem setR_len {K : Type} [DecidableEq K] {S : Sys K} {k : K} {p : (K → Option Int) × List K} {r : Ru} : (setR S k p r).2.length ≤ p.2.length + 1 := by
 by_cases h0 : r.mute = true ∧ r.fr = S.mode k
 ·cases hs : S.step k r with
  | none => rw [setR_none hs]; omega
  | some k' =>
   cases h2 : newsB p.1 k' ((p.1 k).getD 0 + r.co) with
   | false => rw [setR_old hs h2]; omega
   | true => rw [setR_new h0 hs h2]; simp
 ·rw [setR_skip h0]; omega
theorem setK_len {K : Type} [DecidableEq K] {S : Sys K} {k : K} : ∀ (l : List Ru) (p : (K → Option Int) × List K), (l.foldl (setR S k) p).2.length ≤ p.2.length + l.length
 | [], _ => Nat.le_refl _
 | r :: l, p => by
  have h1 := setK_len (S := S) (k := k) l (setR S k p r)
  have h2 := setR_len (S := S) (k := k) (p := p) (r := r)
  rw [List.foldl_cons, List.length_cons]
  omega
theorem setL_len {K : Type} [DecidableEq K] {S : Sys K} : ∀ (L : List K) (p : (K → Option Int) × List K), (setL S p L).2.length ≤ p.2.length + L.length * S.rs.length
 | [], _ => by simp [setL]
 | k :: L, p => by
  have h1 := setL_len (S := S) L (setK S p k)
  have h2 := setK_len (S := S) (k := k) S.rs p
  have e : setL S p (k :: L) = setL S (setK S p k) L := rfl
  have e2 : (setK S p k).2.length ≤ p.2.length + S.rs.length := h2
  rw [e, List.length_cons, Nat.add_mul, Nat.one_mul]
  omega
theorem setL_take {K : Type} [DecidableEq K] {S : Sys K} {p : (K → Option Int) × List K} {L : List K} {i : Nat} {k : K} (h : L[i]? = some k) : setL S p (L.take (i + 1)) = setK S (setL S p (L.take i)) k := by
 unfold setL
 rw [take_succ_of h, List.foldl_append]
 rfl
theorem fold_take {K : Type} [DecidableEq K] {S : Sys K} {p : (K → Option Int) × List K} {k : K} {j : Nat} {r : Ru} (h : S.rs[j]? = some r) : (S.rs.take (j + 1)).foldl (setR S k) p = setR S k ((S.rs.take j).foldl (setR S k) p) r := by
 rw [take_succ_of h, List.foldl_append]
 rfl
theorem grown_of {w w' : World} {row : Option Nat} (h : Below w.heap.size w w') : w.grownBy w' row := ⟨h.os, h.tape, h.output, h.size, fun i hi _ => h.block i hi⟩
theorem hT2_of {K : Type} {kt et : TypeId} {enc : K → Value} {w1 w2 : World} {b n : Nat} {M : K → Option Int} (h : Tab Tryz.prog kt et enc w1 b n M) (hg : w1.grownBy w2 none) : Tab Tryz.prog kt et enc w2 b n M := h.keep (hg.block b h.lt (by simp))
theorem keysOf_le {K : Type} [DecidableEq K] {M : K → Option Int} {l m : List K} (h : KeysOf M l) (h2 : KeysOf M m) : l.length ≤ m.length := nodup_le h.1 fun k hk => (h2.2 k).2 ((h.2 k).1 hk)
theorem grown_none {w w' : World} (h : w.grownBy w' none) (B : Nat) (hB : B ≤ w.heap.size) : Below B w w' := ⟨h.os, h.tape, h.output, h.size, fun k hk => h.block k (Nat.lt_of_lt_of_le hk hB) (by simp)⟩
theorem own_cells {w : World} {base : Nat} {e : TypeId} {s n : Nat} {v : Value} {xs : List Value} (h : w.ownsRow base e s v n xs) {g : Nat} (hg : v.ownBlock = some g) : ∃ cs t f, w.heap[g]? = some (.cells cs t f) := by
 rcases h.2 with ⟨rfl, _⟩ | ⟨g', cap, cur, rfl, _, hh, _⟩
 ·cases hg
 ·obtain rfl := Option.some.inj hg
  exact ⟨_, _, _, hh⟩
theorem own_iter {K : Type} {kt kt' : TypeId} {enc : K → Value} {w w' : World} {b r n cnt : Nat} {M : K → Option Int} {L : K → Bool} (hR : RTab Tryz.prog kt kt' enc w b r n M L cnt) (hg : w.grownBy w' (some r))
 {base : Nat} {e : TypeId} {s m : Nat} {v : Value} {xs : List Value} (h : w.ownsRow base e s v m xs) : w'.ownsRow base e s v m xs := h.kept hg (by
 cases hv : v.ownBlock with
 | none => exact .inl rfl
 | some g =>
  refine .inr fun e => ?_
  obtain rfl := Option.some.inj e
  obtain ⟨cs, t, f, h1⟩ := own_cells h hv
  obtain ⟨D, left, ⟨es, clock, since, seen, c0, _, _, _, _, h5, _⟩, _⟩ := hR
  rw [h1] at h5
  cases h5)
theorem rtab_apps {K : Type} {kt kt' : TypeId} {enc : K → Value} {w w' : World} {b r n cnt : Nat} {M : K → Option Int} {L : K → Bool} (hR : RTab Tryz.prog kt kt' enc w b r n M L cnt) {v v' : Value} (ha : Apps w w' v v')
 {base : Nat} {e : TypeId} {s m : Nat} {xs : List Value} (h : w.ownsRow base e s v m xs) : RTab Tryz.prog kt kt' enc w' b r n M L cnt := by
 obtain ⟨hne, h1, h2⟩ := hR.ne
 have hR' := hR
 obtain ⟨D, left, ⟨es, clock, since, seen, c0, h3, _, _, _, h5, _⟩, _⟩ := hR'
 have key : ∀ (g : Nat) (o : Obj), w.heap[g]? = some o → (∀ cs t f, o ≠ .cells cs t f) → v.ownBlock ≠ some g := fun g o ho hn e => by
  obtain ⟨cs, t, f, h6⟩ := own_cells h e
  rw [h6] at ho
  exact hn cs t f (Option.some.inj ho).symm
 exact hR.keep (ha.keep b h1 (key b _ h3 (fun _ _ _ e => by cases e))) (ha.keep r h2 (key r _ h5 (fun _ _ _ e => by cases e)))
def RgI {K : Type} (kt et : TypeId) (sz : Nat) (enc : K → Value) (CL : K → List Value) (M : K → Option Int) (b r n g2 : Nat) (w1 : World) (v : Value) (wr : World) : Prop :=
 ∃ (ks : List K) (Lf : K → Bool) (cnt : Nat), ks.Nodup ∧ (∀ k, k ∈ ks ↔ (M k ≠ none ∧ Lf k = false)) ∧ wr.ownsRow g2 kt sz v ks.length (ks.flatMap CL) ∧ RTab Tryz.prog kt et enc wr b r n M Lf cnt ∧ Below g2 w1 wr
theorem RgI.more {K : Type} [DecidableEq K] {M : K → Option Int} {ks : List K} {Lf : K → Bool} (h1 : ks.Nodup) (h2 : ∀ k, k ∈ ks ↔ (M k ≠ none ∧ Lf k = false)) {k : K} {c : Int} (hk : M k = some c) (hl : Lf k = true) :
 (ks ++ [k]).Nodup ∧ ∀ x, x ∈ ks ++ [k] ↔ (M x ≠ none ∧ (Lf x && !decide (x = k)) = false) := by
 have hn : k ∉ ks := fun h => by have := ((h2 k).1 h).2; rw [hl] at this; cases this
 refine ⟨List.nodup_append.2 ⟨h1, List.pairwise_singleton _ _, fun a ha b hb e => hn (by rw [← List.mem_singleton.1 hb, ← e]; exact ha)⟩, fun x => ?_⟩
 rw [List.mem_append, List.mem_singleton, h2]
 by_cases e : x = k
 ·subst e; simp [hk]
 ·simp [e]
theorem own_snoc {K : Type} {CL : K → List Value} {w : World} {base : Nat} {e : TypeId} {s : Nat} {v : Value} {ks : List K} {k : K} (h : w.ownsRow base e s v (ks.length + 1) (ks.flatMap CL ++ CL k)) : w.ownsRow base e s v (ks ++ [k]).length ((ks ++ [k]).flatMap CL) := by
 rw [List.length_append, List.flatMap_append, List.flatMap_cons, List.flatMap_nil, List.append_nil]
 exact h
theorem RgI.round {K : Type} [DecidableEq K] {kt et : TypeId} {sz : Nat} {enc : K → Value} {CL : K → List Value} {M : K → Option Int} {b r n g2 : Nat} {w1 wR w4 wa w5 : World} {v v' : Value} {ks : List K} {Lf : K → Bool} {cnt cnt4 : Nat}
 (h1 : ks.Nodup) (h2 : ∀ k, k ∈ ks ↔ (M k ≠ none ∧ Lf k = false)) (h3 : wR.ownsRow g2 kt sz v ks.length (ks.flatMap CL)) (h4 : RTab Tryz.prog kt et enc wR b r n M Lf cnt) (h5 : Below g2 w1 wR) (hg : g2 ≤ r) (hs : g2 ≤ w1.heap.size)
 {k : K} {d : Int} (hk : M k = some d) (hl : Lf k = true) (hR4 : RTab Tryz.prog kt et enc w4 b r n M (fun x => Lf x && !decide (x = k)) cnt4) (hg4 : wR.grownBy w4 (some r)) (hwa : Below w4.heap.size w4 wa)
 (hown : w5.ownsRow g2 kt sz v' (ks.length + 1) (ks.flatMap CL ++ CL k)) (hb : Below g2 wa w5) (ha : Apps wa w5 v v') : RgI kt et sz enc CL M b r n g2 w1 v' w5 ∧ RTab Tryz.prog kt et enc w5 b r n M (fun x => Lf x && !decide (x = k)) cnt4 := by
 obtain ⟨h6, h7⟩ := RgI.more h1 h2 hk hl
 have h8 : w4.ownsRow g2 kt sz v ks.length (ks.flatMap CL) := own_iter h4 hg4 h3
 have h10 : RTab Tryz.prog kt et enc wa b r n M (fun x => Lf x && !decide (x = k)) cnt4 := hR4.keep (hwa.block b hR4.ne.2.1) (hwa.block r hR4.ne.2.2)
 have h11 := rtab_apps h10 ha (own_below h8 hwa)
 refine ⟨⟨ks ++ [k], _, cnt4, h6, h7, own_snoc hown, h11, ?_⟩, h11⟩
 have h9 : Below g2 w1 w4 := h5.grown hg4 (Nat.le_trans hs h5.size) (fun k hk => by injection hk with hk; omega)
 exact (h9.trans (hwa.mono (Nat.le_trans hs h9.size))).trans hb
def PhI {K : Type} [DecidableEq K] (kt et : TypeId) (sz : Nat) (enc : K → Value) (CL : K → List Value) (S : Sys K) (M : K → Option Int) (ks : List K) (b most B1 : Nat) (w1 : World) (v : Value) (wr : World) : Prop :=
 ∃ (tl : List K) (At : Option Addr) (ct : Nat) (Mx : K → Option Int), v = .slice At tl.length ct ∧ tl.length ≤ ct ∧ ct ≤ maxLen ∧ SlR sz (RL CL) wr At tl ∧ Tab Tryz.prog kt et enc wr b most Mx ∧ BelB b B1 w1 wr ∧
  ((tl = ks ∧ Mx = M ∧ ∀ a, At = some a → a.block < B1) ∨ (Mx = (setL S (M, []) ks).1 ∧ (tl = (setL S (M, []) ks).2 ∨ tl = []) ∧ ∀ a, At = some a → B1 ≤ a.block))
theorem PhI.done {K : Type} [DecidableEq K] {S : Sys K} {M : K → Option Int} {ks : List K} {B1 : Nat} {Mx : K → Option Int} {tl : List K} {At : Option Addr}
 (h : (tl = ks ∧ Mx = M ∧ ∀ a, At = some a → a.block < B1) ∨ (Mx = (setL S (M, []) ks).1 ∧ (tl = (setL S (M, []) ks).2 ∨ tl = []) ∧ ∀ a, At = some a → B1 ≤ a.block)) (ht : tl = []) : Mx = (setL S (M, []) ks).1 := by
 rcases h with ⟨h1, h2, _⟩ | ⟨h1, _⟩
 ·rw [h2, ← h1, ht]; rfl
 ·exact h1
theorem foldl_end {K : Type} [DecidableEq K] {S : Sys K} {k : K} (h : EndK S k) : ∀ (l : List Ru) (q : (K → Option Int) × List K), (∀ r ∈ l, r ∈ S.rs) → l.foldl (setR S k) q = q
 | [], _, _ => rfl
 | r :: l, q, hl => by
  rw [List.foldl_cons, setR_skip (fun h0 => h r (hl r (List.mem_cons_self ..)) h0.1 h0.2)]
  exact foldl_end h l q fun x hx => hl x (List.mem_cons_of_mem _ hx)
structure RoundOK {K : Type} [DecidableEq K] (S : Sys K) (st : K) (inp : List UInt8) (pl : Nat) (tl : List K) (Mx : K → Option Int) : Prop where
 set : ∀ (i j : Nat) (k : K), tl[i]? = some k → SetI S st inp pl ((S.rs.take j).foldl (setR S k) (setL S (Mx, []) (tl.take i))) ∧ ((S.rs.take j).foldl (setR S k) (setL S (Mx, []) (tl.take i))).1 k ≠ none
 few : ∀ (i j : Nat) (k : K), tl[i]? = some k → ((S.rs.take j).foldl (setR S k) (setL S (Mx, []) (tl.take i))).2.length ≤ 900000
theorem RoundOK.mk_ {K : Type} [DecidableEq K] {S : Sys K} {st : K} {inp : List UInt8} {pl : Nat} {tl : List K} {Mx : K → Option Int} (hM : SubR S st inp pl Mx) (hd : ∀ k ∈ tl, Mx k ≠ none) (hr : S.rs.length ≤ 64) (hl : tl.length ≤ 10000 ∨ ∀ k ∈ tl, EndK S k) : RoundOK S st inp pl tl Mx := by
 refine ⟨fun i j k hk => ?_, fun i j k hk => ?_⟩
 ·have hkm := List.mem_of_getElem? hk
  obtain ⟨h1, h2⟩ := SetI.states (S := S) (st := st) (inp := inp) (i := pl) (L := tl.take i) (p := (Mx, [])) ⟨hM, fun _ h => (nomatch h)⟩ (fun x hx => hd x (List.mem_of_mem_take hx))
  obtain ⟨h3, h4⟩ := SetI.rules (l := S.rs.take j) h1 (h2 k (hd k hkm)) (fun x hx => List.mem_of_mem_take hx)
  exact ⟨h3, h4 k (h2 k (hd k hkm))⟩
 ·have hkm := List.mem_of_getElem? hk
  rcases hl with hl | hl
  ·have h1 := setK_len (S := S) (k := k) (S.rs.take j) (setL S (Mx, []) (tl.take i))
   have h2 := setL_len (S := S) (tl.take i) (Mx, [])
   have h3 : (tl.take i).length ≤ 10000 := Nat.le_trans (List.length_take_le' ..) hl
   have h4 : (S.rs.take j).length ≤ 64 := Nat.le_trans (List.length_take_le' ..) hr
   have h5 : (tl.take i).length * S.rs.length ≤ 10000 * 64 := Nat.mul_le_mul h3 hr
   simp only [List.length_nil] at h2
   omega
  ·rw [setL_end (fun x hx => hl x (List.mem_of_mem_take hx)), foldl_end (hl k hkm) _ _ (fun x hx => List.mem_of_mem_take hx)]
   simp
theorem PhI.ok {K : Type} [DecidableEq K] {S : Sys K} {st : K} {inp : List UInt8} {pl : Nat} {M : K → Option Int} {ks : List K} {B1 : Nat} {Mx : K → Option Int} {tl : List K} {At : Option Addr} (hF : Flat S st inp) (hM : SubR S st inp pl M) (hK : KeysOf M ks) (hks : ks.length ≤ 10000) (hr : S.rs.length ≤ 64)
 (h : (tl = ks ∧ Mx = M ∧ ∀ a, At = some a → a.block < B1) ∨ (Mx = (setL S (M, []) ks).1 ∧ (tl = (setL S (M, []) ks).2 ∨ tl = []) ∧ ∀ a, At = some a → B1 ≤ a.block)) : RoundOK S st inp pl tl Mx := by
 rcases h with ⟨h1, h2, _⟩ | ⟨h1, h2, _⟩
 ·subst h1 h2
  exact RoundOK.mk_ hM (fun k hk => (hK.2 k).1 hk) hr (.inl hks)
 ·obtain ⟨h3, _⟩ := SetI.states (S := S) (st := st) (inp := inp) (i := pl) (L := ks) (p := (M, [])) ⟨hM, fun _ h => (nomatch h)⟩ (fun k hk => (hK.2 k).1 hk)
  subst h1
  rcases h2 with h2 | h2
  ·subst h2
   exact RoundOK.mk_ h3.sub h3.news hr (.inr (settle_round hF hM hK).2)
  ·subst h2
   exact RoundOK.mk_ h3.sub (fun _ h => (nomatch h)) hr (.inl (by simp))
theorem measS_lt {B1 n c n' c' : Nat} {a : Addr} {A' : Option Addr} (hn : 0 < n) (h : (a.block < B1 ∧ ∀ a', A' = some a' → B1 ≤ a'.block) ∨ (B1 ≤ a.block ∧ n' = 0)) : measS B1 (.slice A' n' c') < measS B1 (.slice (some a) n c) := by
 have hn0 : n ≠ 0 := by omega
 rcases h with ⟨h1, h2⟩ | ⟨h1, h2⟩
 ·have e1 : measS B1 (.slice (some a) n c) = 2 := by simp [measS, hn0, h1]
  rw [e1]
  cases A' with
  | none => simp [measS]
  | some a' =>
   have := h2 a' rfl
   have h3 : ¬ a'.block < B1 := by omega
   simp only [measS, if_neg h3]
   split <;> omega
 ·have h3 : ¬ a.block < B1 := by omega
  have e1 : measS B1 (.slice (some a) n c) = 1 := by simp [measS, hn0, h3]
  rw [e1, h2]
  cases A' <;> simp [measS]
theorem own_base_le {w : World} {base : Nat} {e : TypeId} {s n m c : Nat} {A : Option Addr} {xs : List Value} (h : w.ownsRow base e s (.slice A m c) n xs) : ∀ a, A = some a → base ≤ a.block ∧ a.block < w.heap.size := by
 rintro a rfl
 obtain ⟨cs, t, f, h1⟩ := own_cells h rfl
 exact ⟨own_block_le h _ rfl, (Array.getElem?_eq_some_iff.1 h1).1⟩
theorem PhI.next {K : Type} [DecidableEq K] {kt et : TypeId} {sz : Nat} {enc : K → Value} {CL : K → List Value} {S : Sys K} {st : K} {inp : List UInt8} {pl : Nat} {M : K → Option Int} {ks : List K} {b most B1 B2 : Nat} {w1 wr : World} {vn : Value} {Mx : K → Option Int} {tl : List K} {a : Addr} {cx : Nat}
 (hF : Flat S st inp) (hM : SubR S st inp pl M) (hK : KeysOf M ks)
 (h : (tl = ks ∧ Mx = M ∧ ∀ a', some a = some a' → a'.block < B1) ∨ (Mx = (setL S (M, []) ks).1 ∧ (tl = (setL S (M, []) ks).2 ∨ tl = []) ∧ ∀ a', some a = some a' → B1 ≤ a'.block)) (hne : 0 < tl.length)
 (hown : wr.ownsRow B2 kt sz vn (setL S (Mx, []) tl).2.length ((setL S (Mx, []) tl).2.flatMap CL)) (hT : Tab Tryz.prog kt et enc wr b most (setL S (Mx, []) tl).1) (hb : BelB b B1 w1 wr) (hB : B1 ≤ B2) (hcl : ∀ x, (CL x).length = sz) :
 PhI kt et sz enc CL S M ks b most B1 w1 vn wr ∧ measS B1 vn < measS B1 (.slice (some a) tl.length cx) := by
 obtain ⟨Av, cv, rfl, h1, h2, h3⟩ := own_slr (R := RL CL) hown hcl (fun _ => rfl) rfl
 have hbl : ∀ a', Av = some a' → B1 ≤ a'.block := fun a' ha => Nat.le_trans hB (own_base_le hown a' ha).1
 rcases h with ⟨h4, h5, h6⟩ | ⟨h4, h5, h6⟩
 ·subst h4 h5
  exact ⟨⟨_, Av, cv, _, rfl, h1, h2, h3, hT, hb, .inr ⟨rfl, .inl rfl, hbl⟩⟩, measS_lt hne (.inl ⟨h6 a rfl, hbl⟩)⟩
 ·have he : setL S (Mx, []) tl = (Mx, []) := setL_end (fun x hx => by
   rcases h5 with h5 | h5
   ·rw [h5] at hx; exact (settle_round hF hM hK).2 x hx
   ·rw [h5] at hx; cases hx) _
  refine ⟨⟨_, Av, cv, _, rfl, h1, h2, h3, hT, hb, .inr ⟨?_, ?_, hbl⟩⟩, measS_lt hne (.inr ⟨h6 a rfl, ?_⟩)⟩
  ·rw [he]; exact h4
  ·rw [he]; exact .inr rfl
  ·rw [he]; rfl
def LpI {K : Type} (kt et : TypeId) (sz : Nat) (enc : K → Value) (CL : K → List Value) (b most B2 : Nat) (W2 : World) (q : (K → Option Int) × List K) (vn : Value) (wr : World) : Prop :=
 wr.ownsRow B2 kt sz vn q.2.length (q.2.flatMap CL) ∧ Tab Tryz.prog kt et enc wr b most q.1 ∧ BelB b B2 W2 wr
def LqI {K : Type} (kt et : TypeId) (sz : Nat) (enc : K → Value) (CL : K → List Value) (b most B2 g9 : Nat) (k : K) (W2 : World) (q : (K → Option Int) × List K) (vn : Value) (wr : World) : Prop :=
 LpI kt et sz enc CL b most B2 W2 q vn wr ∧ Blk wr g9 kt (CL k).toArray ∧ vn.ownBlock ≠ some g9
theorem own_belB {w w' : World} {b base : Nat} {e : TypeId} {s n : Nat} {v : Value} {xs : List Value} (h : w.ownsRow base e s v n xs) (hm : ∃ es clock, w.heap[b]? = some (.map es clock)) (hb : BelB b w.heap.size w w') : w'.ownsRow base e s v n xs :=
 own_keep h fun g hg hlt => hb.block g hlt fun e => by
  subst e
  obtain ⟨cs, t, f, h1⟩ := own_cells h hg
  obtain ⟨es, clock, h2⟩ := hm
  rw [h1] at h2
  cases h2
theorem bcellB {b : Nat} {W w1 : World} (hb : BelB b W.heap.size W w1) : (∀ g o, g < W.heap.size → g ≠ b → w1.cell? ⟨g, o, none⟩ = W.cell? ⟨g, o, none⟩) ∧ (∀ g o, g < W.heap.size → g ≠ b → w1.frozen? ⟨g, o, none⟩ = W.frozen? ⟨g, o, none⟩) :=
 ⟨fun g _ h hn => World.cell?_of_block (hb.block g h hn), fun g _ h hn => World.frozen?_of_block (hb.block g h hn)⟩
def SetS (b : Nat) (t : TypeId) (kv : Value) (d : Int) (W0 W : World) : Prop := BelB b W0.heap.size W0 W ∧ (Instr.lookup t (.map (some b)) kv false).run Tryz.prog W = .ok (.int .i64 d) W
theorem tab_look {K : Type} {P : Program} {t kt et : TypeId} {enc : K → Value} (hT : KT P t kt et enc) {w : World} {b n : Nat} {M : K → Option Int} (h : Tab P kt et enc w b n M) {k : K} (hk : KOk P kt enc k) : (Instr.lookup t (.map (some b)) (enc k) false).run P w = .ok (.int .i64 ((M k).getD 0)) w := by
 obtain ⟨D, h1, h2⟩ := h
 obtain ⟨kl, hk⟩ := hk
 obtain ⟨c, hrun, hc, _⟩ := h1.lookup_int hT.law hT.und hT.elt (hT.zero w) hk
 have e : c = (M k).getD 0 := by
  cases hM : M k with
  | none =>
   have h3 := h2.has_ k kl hk
   rw [hM] at h3
   rw [atKey_of_not_has h3] at hc
   injection hc with hc
   injection hc with _ hc
   exact hc.symm
  | some d =>
   rw [h2.at_ k kl d hk hM] at hc
   injection hc with hc
   injection hc with _ hc
   exact hc.symm
 rw [← e]
 exact hrun
section
variable {K : Type} {kt : TypeId} {sz : Nat} {enc : K → Value} {CL : K → List Value} {b most B2 g9 : Nat} {k y : K} {W2 X5 X10 X11 : World} {q : (K → Option Int) × List K} {M' : K → Option Int} {vn v11 : Value}
theorem LpI.same (h : LpI kt 3 sz enc CL b most B2 W2 q vn X5) (hB : B2 ≤ X5.heap.size) (hb : BelB b X5.heap.size X5 X10) (hT : Tab Tryz.prog kt 3 enc X10 b most M') : LpI kt 3 sz enc CL b most B2 W2 (M', q.2) vn X10 :=
 ⟨own_belB h.1 h.2.1.isMap hb, hT, h.2.2.trans (hb.mono hB)⟩
theorem tab_apps {M : K → Option Int} {n : Nat} (h : Tab Tryz.prog kt 3 enc X10 b n M) (ha : Apps X10 X11 vn v11) {base : Nat} {e : TypeId} {s m : Nat} {xs : List Value} (hown : X10.ownsRow base e s vn m xs) : Tab Tryz.prog kt 3 enc X11 b n M := by
 obtain ⟨es, clock, h3⟩ := h.isMap
 exact h.keep (ha.keep b h.lt fun e => by
  obtain ⟨cs, t, f, h6⟩ := own_cells hown e
  rw [h6] at h3
  cases h3)
theorem LpI.news (h : LpI kt 3 sz enc CL b most B2 W2 q vn X5) (hB : B2 ≤ X5.heap.size) (hb : BelB b X5.heap.size X5 X10) (hT : Tab Tryz.prog kt 3 enc X11 b most M') (hown : X11.ownsRow B2 kt sz v11 (q.2.length + 1) (q.2.flatMap CL ++ CL y)) (hb11 : Below B2 X10 X11) :
 LpI kt 3 sz enc CL b most B2 W2 (M', q.2 ++ [y]) v11 X11 :=
 ⟨own_snoc hown, hT, (h.2.2.trans (hb.mono hB)).trans (BelB.of_below hb11)⟩
theorem LqI.same (h : LqI kt 3 sz enc CL b most B2 g9 k W2 q vn X5) (hB : B2 ≤ X5.heap.size) (hb : BelB b X5.heap.size X5 X10) (hT : Tab Tryz.prog kt 3 enc X10 b most M') : LqI kt 3 sz enc CL b most B2 g9 k W2 (M', q.2) vn X10 := by
 obtain ⟨es, clock, h3⟩ := h.1.2.1.isMap
 exact ⟨h.1.same hB hb hT, hb.blk h.2.1 h.2.1.lt (map_blk h3 h.2.1), h.2.2⟩
theorem LqI.below (h : LqI kt 3 sz enc CL b most B2 g9 k W2 q vn X5) (hB : B2 ≤ X5.heap.size) (hb : Below X5.heap.size X5 X10) : LqI kt 3 sz enc CL b most B2 g9 k W2 q vn X10 :=
 h.same hB (BelB.of_below hb) (h.1.2.1.keep (hb.block b h.1.2.1.lt))
theorem LqI.news (h : LqI kt 3 sz enc CL b most B2 g9 k W2 q vn X5) (hB : B2 ≤ X5.heap.size) (hb : BelB b X5.heap.size X5 X10) (hT : Tab Tryz.prog kt 3 enc X11 b most M') (hown : X11.ownsRow B2 kt sz v11 (q.2.length + 1) (q.2.flatMap CL ++ CL y)) (hb11 : Below B2 X10 X11) (ha : Apps X10 X11 vn v11) :
 LqI kt 3 sz enc CL b most B2 g9 k W2 (M', q.2 ++ [y]) v11 X11 := by
 obtain ⟨es, clock, h3⟩ := h.1.2.1.isMap
 have h4 : Blk X10 g9 kt (CL k).toArray := hb.blk h.2.1 h.2.1.lt (map_blk h3 h.2.1)
 exact ⟨h.1.news hB hb hT hown hb11, h4.apps ha h.2.2, ha.ne h4.lt h.2.2⟩
end
theorem wf_small {n : Int} (h0 : 0 ≤ n) (h1 : n ≤ 1000000) : (Lit.int .i64 n).wf = true := by
 show (decide (IntKind.i64.min ≤ n) && decide (n ≤ IntKind.i64.max)) = true
 simp only [Bool.and_eq_true, decide_eq_true_eq]
 have h3 : IntKind.i64.min ≤ 0 := by decide
 have h4 : (1000000 : Int) ≤ IntKind.i64.max := by decide
 omega
theorem flat_ne {K : Type} {S : Sys K} {st : K} {inp : List UInt8} (hF : Flat S st inp) {i : Nat} {k y : K} {c : Int} {r : Ru} (h : Rch S st inp i k c) (hr : r ∈ S.rs) (hm : r.mute = true) (hfr : r.fr = S.mode k) (hs : S.step k r = some y) : k ≠ y := fun e => by
 have := hF i k c r y r h hr hm hfr hs hr hm
 rw [← e] at this
 exact this hfr
end Go.Proofs.YtfpnhgahkjglgaaGreat
