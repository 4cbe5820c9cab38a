/-
  Rows that a call may append to, its own or without room; rules' bytes as they come in. No conditions.
-/
import Derived.Test.YtfpnhgahkjglgaaP06
import Derived.Test.YtfpnhgahkjglgaaP14
import Derived.ArgAppend
namespace Go.Proofs.Ytfpnhgahkjglgaa
open Go Go.RowKit

/-- A rule's bytes as they come in. -/
structure Rw where
  a : List Int
  b : List Int
  A : Option Addr
  B : Option Addr
  c : Nat
  d : Nat
  f : Int
  t : Int
  co : Int
def encRw (x : Rw) : List Value := [.slice x.A x.a.length x.c, .slice x.B x.b.length x.d, .int .u8 x.f, .int .u8 x.t, .int .u8 x.co]
structure RwOK (w : World) (x : Rw) : Prop where
  sa : SlR 1 RU8 w x.A x.a
  sb : SlR 1 RU8 w x.B x.b
  la : x.a.length ≤ maxLen
  lb : x.b.length ≤ maxLen
  ba : ∀ y ∈ x.a, 0 ≤ y ∧ y ≤ 255
  bb : ∀ y ∈ x.b, 0 ≤ y ∧ y ≤ 255
  f : 0 ≤ x.f ∧ x.f ≤ 255
  t : 0 ≤ x.t ∧ x.t ≤ 255
  co : 0 ≤ x.co ∧ x.co ≤ 255
def RRw (w : World) (x : Rw) (vs : List Value) : Prop := vs = encRw x ∧ RwOK w x
theorem RwOK.below {w w' : World} {x : Rw} (h : RwOK w x) (hb : Below w.heap.size w w') : RwOK w' x := ⟨h.sa.below keeps_u8 hb, h.sb.below keeps_u8 hb, h.la, h.lb, h.ba, h.bb, h.f, h.t, h.co⟩
theorem keeps_rw : Keeps RRw := fun _ _ _ _ hb h => ⟨h.1, h.2.below hb⟩
theorem SlR.rw5 {w : World} {A : Option Addr} {k : Nat} {xs : List Rw} (h : SlR 5 RRw w A xs) (hk : k < xs.length) : ∃ b off x, A = some ⟨b, off, none⟩ ∧ b < w.heap.size ∧ xs[k]? = some x ∧ RwOK w x ∧
    w.cell? ⟨b, off + k * 5, none⟩ = some (.slice x.A x.a.length x.c) ∧ w.cell? ⟨b, off + k * 5 + 1, none⟩ = some (.slice x.B x.b.length x.d) ∧ w.cell? ⟨b, off + k * 5 + 2, none⟩ = some (.int .u8 x.f) ∧ w.cell? ⟨b, off + k * 5 + 3, none⟩ = some (.int .u8 x.t) ∧ w.cell? ⟨b, off + k * 5 + 4, none⟩ = some (.int .u8 x.co) := by
  obtain ⟨b, off, x, vs, hA, hlt, hx, ⟨hr, hr2⟩, _, hv⟩ := h.at_ hk
  exact ⟨b, off, x, hA, hlt, hx, hr2, hv 0 _ (by rw [hr]; rfl), hv 1 _ (by rw [hr]; rfl), hv 2 _ (by rw [hr]; rfl), hv 3 _ (by rw [hr]; rfl), hv 4 _ (by rw [hr]; rfl)⟩

/-- A row that may be appended to: the call's own behind block hi, or one without room in the blocks lo to hi. -/
def RowG (w : World) (lo hi : Nat) (e : TypeId) (s : Nat) (v : Value) (n : Nat) (xs : List Value) : Prop :=
  w.ownsRow (hi + 1) e s v n xs ∨ ∃ g off, v = .slice (some ⟨g, off, none⟩) n n ∧ (lo ≤ g ∧ g < hi) ∧ xs.length = n * s ∧ ∀ j u, xs[j]? = some u → w.cell? ⟨g, off + j, none⟩ = some u
section
variable {w w' : World} {lo hi : Nat} {e : TypeId} {s n : Nat} {v : Value} {xs : List Value}
theorem RowG.ne (h : RowG w lo hi e s v n xs) {b : Nat} (hb : b = hi ∨ b < lo) (hl : lo ≤ hi) : v.ownBlock ≠ some b := fun e => by
  rcases h with h | ⟨g, off, rfl, hg, _⟩
  · have := own_block_le h _ e; omega
  · simp [Value.ownBlock] at e; omega
theorem RowG.below (h : RowG w lo hi e s v n xs) (hh : hi ≤ w.heap.size) (hb : Below w.heap.size w w') : RowG w' lo hi e s v n xs := by
  rcases h with h | ⟨g, off, rfl, hg, hl, hc⟩
  · exact .inl (own_below h hb)
  · exact .inr ⟨g, off, rfl, hg, hl, fun j u hj => (hb.cell (p := ⟨g, _, none⟩) (Nat.lt_of_lt_of_le hg.2 hh)).trans (hc j u hj)⟩
theorem RowG.setN (h : RowG w lo hi e s v n xs) {b : Nat} (hb : v.ownBlock ≠ some b) (o : Nat) (u : Value) : RowG (w.setCell ⟨b, o, none⟩ u) lo hi e s v n xs := by
  rcases h with h | ⟨g, off, rfl, hg, hl, hc⟩
  · exact .inl (own_set h (a := ⟨b, o, none⟩) hb u)
  · refine .inr ⟨g, off, rfl, hg, hl, fun j x hj => ?_⟩
    rw [World.cell?_of_block (Below.heap_setCell w ⟨b, o, none⟩ u g (fun e => hb (by simp [Value.ownBlock]; exact e)))]
    exact hc j x hj
theorem RowG.set (h : RowG w lo hi e s v n xs) (o : Nat) (u : Value) : RowG (w.setCell ⟨hi, o, none⟩ u) lo hi e s v n xs := by
  rcases h with h | ⟨g, off, rfl, hg, hl, hc⟩
  · exact .inl (own_set h (a := ⟨hi, o, none⟩) (fun e => absurd (own_block_le h _ e) (Nat.not_succ_le_self _)) u)
  · refine .inr ⟨g, off, rfl, hg, hl, fun j x hj => ?_⟩
    rw [World.cell?_of_block (Below.heap_setCell w ⟨hi, o, none⟩ u g (by simp; omega))]
    exact hc j x hj
end
theorem info_partsR {t : TypeId} {z : Value} {s b : Nat} (h : (Try.prog.info? t).map (fun i => (i.zero, i.size, i.bytes)) = some (some z, s, b)) : ∃ i, Try.prog.info? t = some i ∧ i.zero = some z ∧ i.size = s ∧ i.bytes = b := by
  cases hi : Try.prog.info? t with
  | none => rw [hi] at h; cases h
  | some i =>
    rw [hi] at h
    simp at h
    exact ⟨i, rfl, h.1, h.2.1, h.2.2⟩
theorem rule_info : (Try.prog.info? 32).map (fun i => (i.zero, i.size, i.bytes)) = some (some (.agg #[.int .i64 0, .int .i64 0, .string ⟨#[]⟩, .string ⟨#[]⟩, .int .i64 0]), 5, 56) := by kernel_rfl
theorem news_blk {w : World} {g : Nat} {t : TypeId} {cs : Array Value} (h : Blk w g t cs) : ∀ j u, cs.toList[j]? = some u → w.cell? ((⟨g, 0, none⟩ : Addr).add j) = some u := fun j u hu => by
  rw [Addr.add_lit, Nat.zero_add, h.cell]
  simpa using hu
theorem getG {α : Type} {s : Nat} {enc : α → List Value} (hl : ∀ x, (enc x).length = s) : ∀ (l : List α) (k : Nat) (x : α), l[k]? = some x → ∀ j u, (enc x)[j]? = some u → (l.flatMap enc)[k * s + j]? = some u := by
  intro l
  induction l with
  | nil => intro k x h; simp at h
  | cons y l ih =>
    intro k x hx j u hu
    rw [List.flatMap_cons]
    cases k with
    | zero =>
      simp at hx
      subst hx
      rw [List.getElem?_append_left (by have := (List.getElem?_eq_some_iff.1 hu).1; omega)]
      simpa using hu
    | succ k =>
      rw [List.getElem?_cons_succ] at hx
      rw [List.getElem?_append_right (by rw [hl, Nat.add_mul]; omega), hl, show (k + 1) * s + j - s = k * s + j by rw [Nat.add_mul]; omega]
      exact ih k x hx j u hu
theorem RowG.slr {α : Type} {enc : α → List Value} {R : World → α → List Value → Prop} {w : World} {lo hi : Nat} {e : TypeId} {s : Nat} {v : Value} {ks : List α} (h : RowG w lo hi e s v ks.length (ks.flatMap enc)) (hl : ∀ x, (enc x).length = s) (hR : ∀ w x, R w x (enc x)) (hm : ks.length ≤ maxLen) (hh : hi ≤ w.heap.size) :
    ∃ A c, v = .slice A ks.length c ∧ ks.length ≤ c ∧ c ≤ maxLen ∧ SlR s R w A ks := by
  rcases h with h | ⟨g, off, rfl, hg, _, hc⟩
  · exact own_slr h hl (hR w) rfl
  · exact ⟨some ⟨g, off, none⟩, ks.length, rfl, Nat.le_refl _, hm, fun _ => ⟨g, off, rfl, by omega, fun k x hx => ⟨enc x, hR w x, hl x, fun j u hj => by have := hc (k * s + j) u (getG hl ks k x hx j u hj); rw [← Nat.add_assoc] at this; exact this⟩⟩⟩
/-- A row's beginning. -/
theorem own_cut {w : World} {base : Nat} {e : TypeId} {s n m : Nat} {A : Option Addr} {c : Nat} {xs ys : List Value} (h : w.ownsRow base e s (.slice A (n + (m + 1)) c) (n + (m + 1)) (xs ++ ys)) (hx : xs.length = n * s) : w.ownsRow base e s (.slice A n c) n xs := by
  obtain ⟨_, h2⟩ := h
  rcases h2 with ⟨_, h0⟩ | ⟨g, cap, cur, hv, hg, hh, hnc, hcm, hcs, htk⟩
  · omega
  · injection hv with h1 h2 h3
    subst h1 h3
    refine ⟨hx, .inr ⟨g, c, cur, rfl, hg, hh, by omega, hcm, hcs, ?_⟩⟩
    have h4 : (xs ++ ys).take (n * s) = xs := by rw [← hx]; exact List.take_left
    rw [← h4, ← htk, List.take_take, Nat.min_eq_left (Nat.mul_le_mul_right _ (by omega))]
/-- Every old block but the own row's is as it was. -/
structure ButR (v : Value) (w w' : World) : Prop where
  size : w.heap.size ≤ w'.heap.size
  block : ∀ b, b < w.heap.size → v.ownBlock ≠ some b → w'.heap[b]? = w.heap[b]?
theorem ButR.of_below {v : Value} {w w' : World} (h : Below w.heap.size w w') : ButR v w w' := ⟨h.size, fun b hb _ => h.block b hb⟩
theorem ButR.cell {v : Value} {w w' : World} (h : ButR v w w') : ∀ b o, b < w.heap.size → v.ownBlock ≠ some b → w'.cell? ⟨b, o, none⟩ = w.cell? ⟨b, o, none⟩ := fun b _ hb hv => World.cell?_of_block (h.block b hb hv)
theorem ButR.apps {v v' : Value} {w w1 w2 : World} (h : ButR v w w1) (hs : w1.heap.size ≤ w2.heap.size) (ha : Apps w1 w2 v v') : ButR v w w2 :=
  ⟨Nat.le_trans h.size hs, fun b hb hv => (ha.keep b (Nat.lt_of_lt_of_le hb h.size) hv).trans (h.block b hb hv)⟩
section
variable {P : Program}
/-- 'append(out, x)', onto a row of the call's own or one without room. -/
theorem wp_appG {o : Oper} {a : Act} {K : Act → World → Prop} {Q : Exit → Act → World → Prop} {w : World} (s x : Operand) (t : TypeId)
    (ho : o.op = .call { callee := .builtin .append, args := #[s, x], argTypes := #[t, t] })
    (lo hi : Nat) (e : TypeId) (i : TypeInfo) (z : Value) (size bytes : Nat) (ht : P.underlying t = some (.slice e)) (hi' : P.info? e = some i) (hz : i.zero = some z)
    (hsize : i.size = size) (hby : i.bytes = bytes) (hzs : z.cells.size = size) (hsz : 0 < size)
    (v : Value) (n : Nat) (xs : List Value) (hs : a.eval s = v) (hown : RowG w lo hi e size v n xs)
    (ad : Addr) (c : Nat) (news : List Value) (hx : a.eval x = .slice (some ad) 1 c) (hl : news.length = size) (hnews : ∀ j u, news[j]? = some u → w.cell? (ad.add j) = some u) (h1 : ∀ u ∈ news, u.oneCell' = true)
    (hn : n + 1 ≤ 1000000) (hbb : bytes ≤ 1000) (hbase : hi + 1 ≤ w.heap.size)
    (h : ∀ v' w', w'.ownsRow (hi + 1) e size v' (n + 1) (xs ++ news) → Below (hi + 1) w w' → Apps w w' v v' → K (a.put o.dst v') w') : o.wp P a w K Q := by
  have hb1 : (n + 1) * bytes ≤ 1000000 * 1000 := Nat.mul_le_mul hn hbb
  have key : ∃ v' w', (Builtin.append_ #[t, t] o.type #[v, .slice (some ad) 1 c]).run P w = .ok v' w' ∧ w'.ownsRow (hi + 1) e size v' (n + 1) (xs ++ news) ∧ Below (hi + 1) w w' ∧ Apps w w' v v' := by
    rcases hown with hown | ⟨g, off, rfl, hg, hxl, hc⟩
    · obtain ⟨v', w', hrun, h2, h3, _, h5⟩ := run_append_own_at (P := P) w (hi + 1) t o.type e i z size bytes ht hi' hz hsize hby hzs hsz v n xs hown ad 1 c news (by rw [hl, Nat.one_mul]) hnews h1 (by unfold maxLen; omega) (by omega) hbase
      refine ⟨v', w', hrun, h2, (Below.refl _ _).grown h3 hbase (own_block_le hown), ⟨fun k hk hne => h3.block k hk (fun e => hne e.symm), ?_⟩⟩
      rcases h5 with h5 | h5
      · exact .inl h5
      · exact .inr ⟨_, h5, Nat.le_refl _⟩
    · obtain ⟨v', w', hrun, h2, h3⟩ := run_append_arg_grows (P := P) w t o.type e i z size bytes ht hi' hz hsize hby hzs hsz ⟨g, off, none⟩ n n xs hxl (fun j u hj => by rw [Addr.add_lit]; exact hc j u hj) ad 1 c news (by rw [hl, Nat.one_mul]) hnews (by omega) (by unfold maxLen; omega) (by omega)
      refine ⟨v', w', hrun, own_base h2 hbase, (Below.refl _ _).grown h3 hbase (fun k hk => by cases hk), ⟨fun k hk _ => h3.block k hk (fun e => by cases e), ?_⟩⟩
      rcases h2.2 with ⟨_, h0⟩ | ⟨g', _, _, hv, hg', _⟩
      · omega
      · exact .inr ⟨g', by rw [hv]; rfl, hg'⟩
  obtain ⟨v', w', hrun, h2, h3, h5⟩ := key
  unfold Oper.wp execOp
  simp only [ho, resolve, invoke, builtin, Sem.run_bind, Sem.run_pure, Result.andThen_ok, List.map_toArray, List.map_cons, List.map_nil, hs, hx, hrun]
  exact h v' w' h2 h3 h5
end
end Go.Proofs.Ytfpnhgahkjglgaa
