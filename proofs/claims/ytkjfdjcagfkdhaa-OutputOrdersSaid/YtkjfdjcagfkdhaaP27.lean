/-
  OuRow, OuFrame, OuLawE, OuLawF, OuBaseP, joined. No conditions.
-/
import Derived.Test.YtkjfdjcagfkdhaaP04
import Derived.Test.YtkjfdjcagfkdhaaP14
import Derived.ArgAppend
import Derived.Test.YtkjfdjcagfkdhaaP26
/-
  Rows that a call may append to, its own or without room; rules' bytes as they come in. No conditions.
-/
namespace Go.Proofs.Ytkjfdjcagfkdhaa
open Go Go.RowKit

/-- A rule's bytes as they come in. -/
structure Rw where
  a : List Int
  b : List Int
  A : Option Addr
  B : Option Addr
  c : Nat
  d : Nat
  f : Int
  t : Int
  co : Int
def encRw (x : Rw) : List Value := [.slice x.A x.a.length x.c, .slice x.B x.b.length x.d, .int .u8 x.f, .int .u8 x.t, .int .u8 x.co]
structure RwOK (w : World) (x : Rw) : Prop where
  sa : SlR 1 RU8 w x.A x.a
  sb : SlR 1 RU8 w x.B x.b
  la : x.a.length ≤ maxLen
  lb : x.b.length ≤ maxLen
  ba : ∀ y ∈ x.a, 0 ≤ y ∧ y ≤ 255
  bb : ∀ y ∈ x.b, 0 ≤ y ∧ y ≤ 255
  f : 0 ≤ x.f ∧ x.f ≤ 255
  t : 0 ≤ x.t ∧ x.t ≤ 255
  co : 0 ≤ x.co ∧ x.co ≤ 255
def RRw (w : World) (x : Rw) (vs : List Value) : Prop := vs = encRw x ∧ RwOK w x
theorem RwOK.below {w w' : World} {x : Rw} (h : RwOK w x) (hb : Below w.heap.size w w') : RwOK w' x := ⟨h.sa.below keeps_u8 hb, h.sb.below keeps_u8 hb, h.la, h.lb, h.ba, h.bb, h.f, h.t, h.co⟩
theorem keeps_rw : Keeps RRw := fun _ _ _ _ hb h => ⟨h.1, h.2.below hb⟩
theorem SlR.rw5 {w : World} {A : Option Addr} {k : Nat} {xs : List Rw} (h : SlR 5 RRw w A xs) (hk : k < xs.length) : ∃ b off x, A = some ⟨b, off, none⟩ ∧ b < w.heap.size ∧ xs[k]? = some x ∧ RwOK w x ∧
    w.cell? ⟨b, off + k * 5, none⟩ = some (.slice x.A x.a.length x.c) ∧ w.cell? ⟨b, off + k * 5 + 1, none⟩ = some (.slice x.B x.b.length x.d) ∧ w.cell? ⟨b, off + k * 5 + 2, none⟩ = some (.int .u8 x.f) ∧ w.cell? ⟨b, off + k * 5 + 3, none⟩ = some (.int .u8 x.t) ∧ w.cell? ⟨b, off + k * 5 + 4, none⟩ = some (.int .u8 x.co) := by
  obtain ⟨b, off, x, vs, hA, hlt, hx, ⟨hr, hr2⟩, _, hv⟩ := h.at_ hk
  exact ⟨b, off, x, hA, hlt, hx, hr2, hv 0 _ (by rw [hr]; rfl), hv 1 _ (by rw [hr]; rfl), hv 2 _ (by rw [hr]; rfl), hv 3 _ (by rw [hr]; rfl), hv 4 _ (by rw [hr]; rfl)⟩

/-- A row that may be appended to: the call's own behind block hi, or one without room in the blocks lo to hi. -/
def RowG (w : World) (lo hi : Nat) (e : TypeId) (s : Nat) (v : Value) (n : Nat) (xs : List Value) : Prop :=
  w.ownsRow (hi + 1) e s v n xs ∨ ∃ g off, v = .slice (some ⟨g, off, none⟩) n n ∧ (lo ≤ g ∧ g < hi) ∧ xs.length = n * s ∧ ∀ j u, xs[j]? = some u → w.cell? ⟨g, off + j, none⟩ = some u
section
variable {w w' : World} {lo hi : Nat} {e : TypeId} {s n : Nat} {v : Value} {xs : List Value}
theorem RowG.ne (h : RowG w lo hi e s v n xs) {b : Nat} (hb : b = hi ∨ b < lo) (hl : lo ≤ hi) : v.ownBlock ≠ some b := fun e => by
  rcases h with h | ⟨g, off, rfl, hg, _⟩
  · have := own_block_le h _ e; omega
  · simp [Value.ownBlock] at e; omega
theorem RowG.below (h : RowG w lo hi e s v n xs) (hh : hi ≤ w.heap.size) (hb : Below w.heap.size w w') : RowG w' lo hi e s v n xs := by
  rcases h with h | ⟨g, off, rfl, hg, hl, hc⟩
  · exact .inl (own_below h hb)
  · exact .inr ⟨g, off, rfl, hg, hl, fun j u hj => (hb.cell (p := ⟨g, _, none⟩) (Nat.lt_of_lt_of_le hg.2 hh)).trans (hc j u hj)⟩
theorem RowG.setN (h : RowG w lo hi e s v n xs) {b : Nat} (hb : v.ownBlock ≠ some b) (o : Nat) (u : Value) : RowG (w.setCell ⟨b, o, none⟩ u) lo hi e s v n xs := by
  rcases h with h | ⟨g, off, rfl, hg, hl, hc⟩
  · exact .inl (own_set h (a := ⟨b, o, none⟩) hb u)
  · refine .inr ⟨g, off, rfl, hg, hl, fun j x hj => ?_⟩
    rw [World.cell?_of_block (Below.heap_setCell w ⟨b, o, none⟩ u g (fun e => hb (by simp [Value.ownBlock]; exact e)))]
    exact hc j x hj
theorem RowG.set (h : RowG w lo hi e s v n xs) (o : Nat) (u : Value) : RowG (w.setCell ⟨hi, o, none⟩ u) lo hi e s v n xs := by
  rcases h with h | ⟨g, off, rfl, hg, hl, hc⟩
  · exact .inl (own_set h (a := ⟨hi, o, none⟩) (fun e => absurd (own_block_le h _ e) (Nat.not_succ_le_self _)) u)
  · refine .inr ⟨g, off, rfl, hg, hl, fun j x hj => ?_⟩
    rw [World.cell?_of_block (Below.heap_setCell w ⟨hi, o, none⟩ u g (by simp; omega))]
    exact hc j x hj
end
theorem info_partsR {t : TypeId} {z : Value} {s b : Nat} (h : (Try.prog.info? t).map (fun i => (i.zero, i.size, i.bytes)) = some (some z, s, b)) : ∃ i, Try.prog.info? t = some i ∧ i.zero = some z ∧ i.size = s ∧ i.bytes = b := by
  cases hi : Try.prog.info? t with
  | none => rw [hi] at h; cases h
  | some i =>
    rw [hi] at h
    simp at h
    exact ⟨i, rfl, h.1, h.2.1, h.2.2⟩
theorem rule_info : (Try.prog.info? 44).map (fun i => (i.zero, i.size, i.bytes)) = some (some (.agg #[.int .i64 0, .int .i64 0, .string ⟨#[]⟩, .string ⟨#[]⟩, .int .i64 0]), 5, 56) := by kernel_rfl
theorem news_blk {w : World} {g : Nat} {t : TypeId} {cs : Array Value} (h : Blk w g t cs) : ∀ j u, cs.toList[j]? = some u → w.cell? ((⟨g, 0, none⟩ : Addr).add j) = some u := fun j u hu => by
  rw [Addr.add_lit, Nat.zero_add, h.cell]
  simpa using hu
theorem getG {α : Type} {s : Nat} {enc : α → List Value} (hl : ∀ x, (enc x).length = s) : ∀ (l : List α) (k : Nat) (x : α), l[k]? = some x → ∀ j u, (enc x)[j]? = some u → (l.flatMap enc)[k * s + j]? = some u := by
  intro l
  induction l with
  | nil => intro k x h; simp at h
  | cons y l ih =>
    intro k x hx j u hu
    rw [List.flatMap_cons]
    cases k with
    | zero =>
      simp at hx
      subst hx
      rw [List.getElem?_append_left (by have := (List.getElem?_eq_some_iff.1 hu).1; omega)]
      simpa using hu
    | succ k =>
      rw [List.getElem?_cons_succ] at hx
      rw [List.getElem?_append_right (by rw [hl, Nat.add_mul]; omega), hl, show (k + 1) * s + j - s = k * s + j by rw [Nat.add_mul]; omega]
      exact ih k x hx j u hu
theorem RowG.slr {α : Type} {enc : α → List Value} {R : World → α → List Value → Prop} {w : World} {lo hi : Nat} {e : TypeId} {s : Nat} {v : Value} {ks : List α} (h : RowG w lo hi e s v ks.length (ks.flatMap enc)) (hl : ∀ x, (enc x).length = s) (hR : ∀ w x, R w x (enc x)) (hm : ks.length ≤ maxLen) (hh : hi ≤ w.heap.size) :
    ∃ A c, v = .slice A ks.length c ∧ ks.length ≤ c ∧ c ≤ maxLen ∧ SlR s R w A ks := by
  rcases h with h | ⟨g, off, rfl, hg, _, hc⟩
  · exact own_slr h hl (hR w) rfl
  · exact ⟨some ⟨g, off, none⟩, ks.length, rfl, Nat.le_refl _, hm, fun _ => ⟨g, off, rfl, by omega, fun k x hx => ⟨enc x, hR w x, hl x, fun j u hj => by have := hc (k * s + j) u (getG hl ks k x hx j u hj); rw [← Nat.add_assoc] at this; exact this⟩⟩⟩
/-- A row's beginning. -/
theorem own_cut {w : World} {base : Nat} {e : TypeId} {s n m : Nat} {A : Option Addr} {c : Nat} {xs ys : List Value} (h : w.ownsRow base e s (.slice A (n + (m + 1)) c) (n + (m + 1)) (xs ++ ys)) (hx : xs.length = n * s) : w.ownsRow base e s (.slice A n c) n xs := by
  obtain ⟨_, h2⟩ := h
  rcases h2 with ⟨_, h0⟩ | ⟨g, cap, cur, hv, hg, hh, hnc, hcm, hcs, htk⟩
  · omega
  · injection hv with h1 h2 h3
    subst h1 h3
    refine ⟨hx, .inr ⟨g, c, cur, rfl, hg, hh, by omega, hcm, hcs, ?_⟩⟩
    have h4 : (xs ++ ys).take (n * s) = xs := by rw [← hx]; exact List.take_left
    rw [← h4, ← htk, List.take_take, Nat.min_eq_left (Nat.mul_le_mul_right _ (by omega))]
/-- Every old block but the own row's is as it was. -/
structure ButR (v : Value) (w w' : World) : Prop where
  size : w.heap.size ≤ w'.heap.size
  block : ∀ b, b < w.heap.size → v.ownBlock ≠ some b → w'.heap[b]? = w.heap[b]?
theorem ButR.of_below {v : Value} {w w' : World} (h : Below w.heap.size w w') : ButR v w w' := ⟨h.size, fun b hb _ => h.block b hb⟩
theorem ButR.cell {v : Value} {w w' : World} (h : ButR v w w') : ∀ b o, b < w.heap.size → v.ownBlock ≠ some b → w'.cell? ⟨b, o, none⟩ = w.cell? ⟨b, o, none⟩ := fun b _ hb hv => World.cell?_of_block (h.block b hb hv)
theorem ButR.apps {v v' : Value} {w w1 w2 : World} (h : ButR v w w1) (hs : w1.heap.size ≤ w2.heap.size) (ha : Apps w1 w2 v v') : ButR v w w2 :=
  ⟨Nat.le_trans h.size hs, fun b hb hv => (ha.keep b (Nat.lt_of_lt_of_le hb h.size) hv).trans (h.block b hb hv)⟩
section
variable {P : Program}
/-- 'append(out, x)', onto a row of the call's own or one without room. -/
theorem wp_appG {o : Oper} {a : Act} {K : Act → World → Prop} {Q : Exit → Act → World → Prop} {w : World} (s x : Operand) (t : TypeId)
    (ho : o.op = .call { callee := .builtin .append, args := #[s, x], argTypes := #[t, t] })
    (lo hi : Nat) (e : TypeId) (i : TypeInfo) (z : Value) (size bytes : Nat) (ht : P.underlying t = some (.slice e)) (hi' : P.info? e = some i) (hz : i.zero = some z)
    (hsize : i.size = size) (hby : i.bytes = bytes) (hzs : z.cells.size = size) (hsz : 0 < size)
    (v : Value) (n : Nat) (xs : List Value) (hs : a.eval s = v) (hown : RowG w lo hi e size v n xs)
    (ad : Addr) (c : Nat) (news : List Value) (hx : a.eval x = .slice (some ad) 1 c) (hl : news.length = size) (hnews : ∀ j u, news[j]? = some u → w.cell? (ad.add j) = some u) (h1 : ∀ u ∈ news, u.oneCell' = true)
    (hn : n + 1 ≤ 1000000) (hbb : bytes ≤ 1000) (hbase : hi + 1 ≤ w.heap.size)
    (h : ∀ v' w', w'.ownsRow (hi + 1) e size v' (n + 1) (xs ++ news) → Below (hi + 1) w w' → Apps w w' v v' → K (a.put o.dst v') w') : o.wp P a w K Q := by
  have hb1 : (n + 1) * bytes ≤ 1000000 * 1000 := Nat.mul_le_mul hn hbb
  have key : ∃ v' w', (Builtin.append_ #[t, t] o.type #[v, .slice (some ad) 1 c]).run P w = .ok v' w' ∧ w'.ownsRow (hi + 1) e size v' (n + 1) (xs ++ news) ∧ Below (hi + 1) w w' ∧ Apps w w' v v' := by
    rcases hown with hown | ⟨g, off, rfl, hg, hxl, hc⟩
    · obtain ⟨v', w', hrun, h2, h3, _, h5⟩ := run_append_own_at (P := P) w (hi + 1) t o.type e i z size bytes ht hi' hz hsize hby hzs hsz v n xs hown ad 1 c news (by rw [hl, Nat.one_mul]) hnews h1 (by unfold maxLen; omega) (by omega) hbase
      refine ⟨v', w', hrun, h2, (Below.refl _ _).grown h3 hbase (own_block_le hown), ⟨fun k hk hne => h3.block k hk (fun e => hne e.symm), ?_⟩⟩
      rcases h5 with h5 | h5
      · exact .inl h5
      · exact .inr ⟨_, h5, Nat.le_refl _⟩
    · obtain ⟨v', w', hrun, h2, h3⟩ := run_append_arg_grows (P := P) w t o.type e i z size bytes ht hi' hz hsize hby hzs hsz ⟨g, off, none⟩ n n xs hxl (fun j u hj => by rw [Addr.add_lit]; exact hc j u hj) ad 1 c news (by rw [hl, Nat.one_mul]) hnews (by omega) (by unfold maxLen; omega) (by omega)
      refine ⟨v', w', hrun, own_base h2 hbase, (Below.refl _ _).grown h3 hbase (fun k hk => by cases hk), ⟨fun k hk _ => h3.block k hk (fun e => by cases e), ?_⟩⟩
      rcases h2.2 with ⟨_, h0⟩ | ⟨g', _, _, hv, hg', _⟩
      · omega
      · exact .inr ⟨g', by rw [hv]; rfl, hg'⟩
  obtain ⟨v', w', hrun, h2, h3, h5⟩ := key
  unfold Oper.wp execOp
  simp only [ho, resolve, invoke, builtin, Sem.run_bind, Sem.run_pure, Result.andThen_ok, List.map_toArray, List.map_cons, List.map_nil, hs, hx, hrun]
  exact h v' w' h2 h3 h5
end
end Go.Proofs.Ytkjfdjcagfkdhaa

/-
  The statements of layers 05 and 08: their arguments opened.
-/
namespace Go.Proofs.Ytkjfdjcagfkdhaa
open Go Go.RowKit Go.ChangeShapes Go.WideShapes

theorem wf_u8 {n : Int} (h : (Lit.int .u8 n).wf = true) : 0 ≤ n ∧ n ≤ 255 := by
  simp [Lit.wf, IntKind.min, IntKind.max, IntKind.signed, IntKind.bits] at h
  omega
theorem slr_map {α β : Type} {s : Nat} {R : World → α → List Value → Prop} {w : World} {A : Option Addr} {f : β → α} {xs : List β} (h : SlR s (fun w x vs => R w (f x) vs) w A xs) : SlR s R w A (xs.map f) := fun hne => by
  obtain ⟨b, off, hA, hb, hc⟩ := h (by rintro rfl; simp at hne)
  refine ⟨b, off, hA, hb, fun k x hx => ?_⟩
  rw [List.getElem?_map] at hx
  cases hk : xs[k]? with
  | none => rw [hk] at hx; cases hx
  | some y =>
    rw [hk] at hx
    obtain ⟨vs, h1, h2, h3⟩ := hc k y hk
    exact ⟨vs, by rw [show x = f y from (Option.some.inj hx).symm]; exact h1, h2, h3⟩
theorem list5_ {α : Type} : ∀ (l : List α), l.length = 5 → ∃ a b c d e, l = [a, b, c, d, e]
  | [a, b, c, d, e], _ => ⟨a, b, c, d, e, rfl⟩
section
variable {H : Type} {enc : TypeId × Value → H} {P : Program} {w : World} {base : Nat} {spare : Nat → Bool} {held : Bool}
theorem trod_struct5 {t : TypeId} {f0 f1 f2 f3 f4 : Field} {fuel : Nat} {cs : List Value} {x : DataW H × List MemPlace} (ht : P.underlying t = some (.struct #[f0, f1, f2, f3, f4])) (h : DataW.trod enc P w base spare held fuel t cs = some x) :
    ∃ y0 y1 y2 y3 y4 n, cs.length = P.cellsOf t ∧ DataW.trod enc P w base spare held n f0.type ((cs.drop f0.offset).take (P.cellsOf f0.type)) = some y0 ∧
      DataW.trod enc P w base spare held n f1.type ((cs.drop f1.offset).take (P.cellsOf f1.type)) = some y1 ∧ DataW.trod enc P w base spare held n f2.type ((cs.drop f2.offset).take (P.cellsOf f2.type)) = some y2 ∧
      DataW.trod enc P w base spare held n f3.type ((cs.drop f3.offset).take (P.cellsOf f3.type)) = some y3 ∧ DataW.trod enc P w base spare held n f4.type ((cs.drop f4.offset).take (P.cellsOf f4.type)) = some y4 := by
  obtain ⟨xs, n, _, rfl, hl, hlen, hf⟩ := DataW.trod_struct ht h
  match xs, hlen with
  | [y0, y1, y2, y3, y4], _ => exact ⟨y0, y1, y2, y3, y4, n, hl, by simpa using hf 0 f0 rfl, by simpa using hf 1 f1 rfl, by simpa using hf 2 f2 rfl, by simpa using hf 3 f3 rfl, by simpa using hf 4 f4 rfl⟩
end
section
variable {H : Type} {enc : TypeId × Value → H} {w : World} {base : Nat} {spare : Nat → Bool} {held : Bool}
set_option maxRecDepth 100000 in
theorem open_u8s {fuel : Nat} {cs : List Value} {X : DataW H × List MemPlace} (h : DataW.trod enc Try.prog w base spare held fuel 25 cs = some X) :
    ∃ (A : Option Addr) (l : List Int) (c : Nat), cs = [.slice A l.length c] ∧ l.length ≤ c ∧ c ≤ maxLen ∧ SlR 1 RU8 w A l ∧ ∀ x ∈ l, 0 ≤ x ∧ x ≤ 255 := by
  obtain ⟨A, len, cap, xs, he, rfl, hlc, hcm, hs⟩ := open_slr (α := {x : Int // 0 ≤ x ∧ x ≤ 255}) (R := fun w x vs => RU8 w x.1 vs) Try.underlying25 (s := 1) (by kernel_rfl) (by decide) (fun n cs y hh _ => by
    obtain ⟨m, rfl, _, hw⟩ := DataW.trod_int Try.underlying5 hh
    exact ⟨⟨m, wf_u8 hw⟩, rfl⟩) h
  refine ⟨A, xs.map (·.1), cap, by rw [List.length_map]; exact he, by rw [List.length_map]; exact hlc, hcm, slr_map hs, fun q hq => ?_⟩
  obtain ⟨y, _, rfl⟩ := List.mem_map.1 hq
  exact y.2
set_option maxRecDepth 100000 in
/-- A slice of bytes. -/
theorem open_bytes_ {r : Reach} {b0 : Nat} {v : Value} {d : DataW H} {p : List MemPlace} (hv : Value.okWide Try.prog w r b0 25 v) (h : DataW.Trod enc Try.prog w base spare held 25 v d p) :
    ∃ (A : Option Addr) (l : List Int) (c : Nat), v = .slice A l.length c ∧ l.length ≤ c ∧ c ≤ maxLen ∧ SlR 1 RU8 w A l ∧ ∀ x ∈ l, 0 ≤ x ∧ x ≤ 255 := by
  obtain ⟨A0, len0, cap0, rfl⟩ := okWide_slice (P := Try.prog) (w := w) (r := r) (base := b0) Try.underlying25 hv
  obtain ⟨fuel, hf⟩ := h
  obtain ⟨A, l, c, he, h2⟩ := open_u8s hf
  exact ⟨A, l, c, by simpa [Value.cells] using he, h2⟩
set_option maxRecDepth 100000 in
/-- A rule's bytes. -/
theorem open_rawrule {fuel : Nat} {cs : List Value} {X : DataW H × List MemPlace} (h : DataW.trod enc Try.prog w base spare held fuel 52 cs = some X) (hl : cs.length = 5) : ∃ x : Rw, RRw w x cs := by
  obtain ⟨z0, z1, z2, z3, z4, m, _, q0, q1, q2, q3, q4⟩ := trod_struct5 Try.underlying52 h
  obtain ⟨a, b, c, d, e, rfl⟩ := list5_ cs hl
  have hc1 : Try.prog.cellsOf 25 = 1 := by kernel_rfl
  have hc2 : Try.prog.cellsOf 5 = 1 := by kernel_rfl
  dsimp only at q0 q1 q2 q3 q4
  rw [hc1] at q0 q1
  rw [hc2] at q2 q3 q4
  obtain ⟨A, la, ca, e0, l0, m0, s0, b0⟩ := open_u8s q0
  obtain ⟨B, lb, cb, e1, l1, m1, s1, b1⟩ := open_u8s q1
  obtain ⟨n2, f2, _, w2⟩ := DataW.trod_int Try.underlying5 q2
  obtain ⟨n3, f3, _, w3⟩ := DataW.trod_int Try.underlying5 q3
  obtain ⟨n4, f4, _, w4⟩ := DataW.trod_int Try.underlying5 q4
  simp at e0 e1 f2 f3 f4
  subst e0 e1 f2 f3 f4
  exact ⟨⟨la, lb, A, B, ca, cb, n2, n3, n4⟩, rfl, s0, s1, Nat.le_trans l0 m0, Nat.le_trans l1 m1, b0, b1, wf_u8 w2, wf_u8 w3, wf_u8 w4⟩
set_option maxRecDepth 100000 in
/-- The description of a scheme. -/
theorem open_raw5 {r : Reach} {b0 : Nat} {v : Value} {d : DataW H} {p : List MemPlace} (hv : Value.okWide Try.prog w r b0 24 v) (h : DataW.Trod enc Try.prog w base spare held 24 v d p) :
    ∃ (qb qd : Int) (A : Option Addr) (l : List Rw) (c : Nat), v = .agg #[.int .u8 qb, .int .u8 qd, .slice A l.length c] ∧ (0 ≤ qb ∧ qb ≤ 255) ∧ (0 ≤ qd ∧ qd ≤ 255) ∧ l.length ≤ maxLen ∧ SlR 5 RRw w A l := by
  obtain ⟨v0, v1, v2, y0, y1, y2, n, rfl, _, _, h0, h1, h2⟩ := Go.Joins.open_agg3 Try.underlying24 (by kernel_rfl) (by kernel_rfl) hv h
  obtain ⟨qb, e0, _, w0⟩ := DataW.trod_int Try.underlying5 h0
  obtain ⟨qd, e1, _, w1⟩ := DataW.trod_int Try.underlying5 h1
  obtain ⟨A, len, c, us, e3, rfl, k3, m3, s3⟩ := open_slr (α := Rw) (R := RRw) Try.underlying22 (s := 5) (by kernel_rfl) (by decide) (fun n cs y hh hcl => open_rawrule hh hcl) h2
  simp only [List.cons.injEq, and_true] at e0 e1 e3
  subst e0 e1 e3
  exact ⟨qb, qd, A, us, c, rfl, wf_u8 w0, wf_u8 w1, by omega, s3⟩
end
end Go.Proofs.Ytkjfdjcagfkdhaa

/-
  The walks of layer 05: a rule between two modes; an input out of bytes.
-/
namespace Go.Proofs.Ytkjfdjcagfkdhaa
open Go Go.RowKit

set_option maxRecDepth 100000 in
set_option maxHeartbeats 4000000 in
theorem simple_any (a b : Int) (i o : ByteArray) (w : World) : Calls Try.prog 37 #[.agg #[.int .i64 a, .int .i64 b], .string i, .string o] w fun e w' => e = .returned (.agg #[.int .i64 a, .int .i64 b, .string i, .string o, .int .i64 (i.size : Int)]) ∧ Below w.heap.size w w' := by
  obtain ⟨w1, hw1⟩ : ∃ w1, w.alloc (.cells #[.int .i64 a, .int .i64 b] 91) = w1 := ⟨_, rfl⟩
  obtain ⟨g, hg⟩ : ∃ g, w.heap.size = g := ⟨_, rfl⟩
  have hb1 : Below w.heap.size w w1 := by rw [← hw1]; exact nw _ (Below.refl _ _)
  have hB : Blk w1 g 91 #[.int .i64 a, .int .i64 b] := by rw [← hw1, ← hg]; exact Blk.new _ _ _
  obtain ⟨w2, hw2⟩ : ∃ w2, w1.alloc (.cells #[.int .i64 0, .int .i64 0, .string ⟨#[]⟩, .string ⟨#[]⟩, .int .i64 0] 44) = w2 := ⟨_, rfl⟩
  have hb2 : Below w.heap.size w w2 := by rw [← hw2, ← hw1]; exact nw _ (nw _ (Below.refl _ _))
  have hC : Blk w2 (g + 1) 44 #[.int .i64 0, .int .i64 0, .string ⟨#[]⟩, .string ⟨#[]⟩, .int .i64 0] := by rw [← hw2]; exact Blk.new_ (by rw [← hw1, ← hg]; simp)
  have hB2 : Blk w2 g 91 #[.int .i64 a, .int .i64 b] := by rw [← hw2]; exact hB.alloc _
  have hgw : w.heap.size ≤ g + 1 := by omega
  have HW1 := Lib.hid hw1
  have HW2 := Lib.hid hw2
  have HG := Lib.hid hg
  have c0 := hB2.cell 0
  have c1 := hB2.cell 1
  have cl := hB2.lt
  have d0 := hC.cell 0
  have d1 := hC.cell 1
  have d2 := hC.cell 2
  have d3 := hC.cell 3
  have d4 := hC.cell 4
  have dl := hC.lt
  have f0 := hC.frozen 0
  have f1 := hC.frozen 1
  have f2 := hC.frozen 2
  have f3 := hC.frozen 3
  have f4 := hC.frozen 4
  simp at c0 c1 d0 d1 d2 d3 d4
  have HE := Lib.hid (((((hC.set_ 0 (.int .i64 a)).set_ 1 (.int .i64 b)).set_ 2 (.string i)).set_ 3 (.string o)).set_ 4 (.int .i64 (i.size : Int)))
  have HBE := Lib.hid (((((hb2.setCell (p := ⟨g + 1, 0, none⟩) hgw (.int .i64 a)).setCell (p := ⟨g + 1, 1, none⟩) hgw (.int .i64 b)).setCell (p := ⟨g + 1, 2, none⟩) hgw (.string i)).setCell (p := ⟨g + 1, 3, none⟩) hgw (.string o)).setCell (p := ⟨g + 1, 4, none⟩) hgw (.int .i64 (i.size : Int)))
  clear hw1 hg hb1 hB hw2 hB2 hC hb2
  go_enter Try.func37, Try.ntmps37
  go_upto_region 1 with fail
  rw [HW1.out, HG.out, HW2.out]
  go_wp2_with fail
  obtain ⟨W, hW⟩ : ∃ W, (((((w2.setCell ⟨g + 1, 0, none⟩ (.int .i64 a)).setCell ⟨g + 1, 1, none⟩ (.int .i64 b)).setCell ⟨g + 1, 2, none⟩ (.string i)).setCell ⟨g + 1, 3, none⟩ (.string o)).setCell ⟨g + 1, 4, none⟩ (.int .i64 (i.size : Int))) = W := ⟨_, rfl⟩
  have hE := HE.out
  have hbE := HBE.out
  rw [hW] at hE hbE ⊢
  clear hW HE HBE
  have q0 := hE.cell 0
  have q1 := hE.cell 1
  have q2 := hE.cell 2
  have q3 := hE.cell 3
  have q4 := hE.cell 4
  simp at q0 q1 q2 q3 q4
  refine bodyPost_ret (v := .agg #[.int .i64 a, .int .i64 b, .string i, .string o, .int .i64 (i.size : Int)]) (by simp [results, Try.results37, go_sem, q0, q1, q2, q3, q4]; done) rfl ?_
  exact ⟨rfl, hbE⟩
end Go.Proofs.Ytkjfdjcagfkdhaa

/-
  The walk of layer 05: an input out of bytes.
-/
namespace Go.Proofs.Ytkjfdjcagfkdhaa
open Go Go.RowKit

def abcL (x : Int) : ByteArray := (ByteArray.mk #[97, 98, 99]).extract (x % 3).toNat (x % 3 + 1).toNat
theorem abcL_cases (x : Int) : abcL x = ByteArray.mk #[97] ∨ abcL x = ByteArray.mk #[98] ∨ abcL x = ByteArray.mk #[99] := by
  have h : x % 3 = 0 ∨ x % 3 = 1 ∨ x % 3 = 2 := by omega
  unfold abcL
  rcases h with h | h | h
  · rw [h]; exact .inl (by rfl)
  · rw [h]; exact .inr (.inl (by rfl))
  · rw [h]; exact .inr (.inr (by rfl))
theorem abcL_ok (x : Int) : (abcL x).size = 1 ∧ smallS (abcL x) = true := by
  rcases abcL_cases x with h | h | h <;> rw [h] <;> exact ⟨by rfl, by decide +kernel⟩
/-- What Input makes of the first k bytes. -/
def inpTo (l : List Int) (k : Nat) : ByteArray := (l.take k).foldl (fun S x => S ++ abcL x) (ByteArray.mk #[])
theorem inpTo_succ {l : List Int} {k : Nat} {x : Int} (hx : l[k]? = some x) : inpTo l (k + 1) = inpTo l k ++ abcL x := by
  unfold inpTo; rw [take_succ_of hx, List.foldl_append]; rfl
theorem inpTo_ok (l : List Int) : ∀ k, k ≤ l.length → (inpTo l k).size = k ∧ smallS (inpTo l k) = true := by
  intro k
  induction k with
  | zero => intro _; exact ⟨rfl, by show smallS (ByteArray.mk #[]) = true; decide +kernel⟩
  | succ k ih =>
    intro hk
    obtain ⟨h1, h2⟩ := ih (by omega)
    rw [inpTo_succ (List.getElem?_eq_getElem (by omega))]
    have := abcL_ok l[k]
    exact ⟨by rw [ByteArray.size_append, h1, this.1], by rw [smallS_app, h2, this.2]; rfl⟩
theorem inpTo_min (l : List Int) (k : Nat) : inpTo l k = inpTo l (min k l.length) := by
  unfold inpTo; rw [List.take_eq_take_min]
theorem inpTo_let (l : List Int) (n : Nat) (hn : n ≤ 40) : letB (inpTo l n) = true ∧ (inpTo l n).size ≤ n := by
  rw [inpTo_min]
  obtain ⟨h1, h2⟩ := inpTo_ok l (min n l.length) (by omega)
  refine ⟨?_, by omega⟩
  unfold letB
  rw [h1, h2]
  simp
  omega
theorem ret_str5 {a b : ByteArray} (h : a = b) : Ending.returned (.string a) = .returned (.string b) := by rw [h]
set_option maxRecDepth 100000 in
set_option maxHeartbeats 2000000 in
theorem input5_any (A : Option Addr) (l : List Int) (c n : Nat) (w : World) (hx : SlR 1 RU8 w A l) (hl : l.length ≤ maxLen) (hb8 : ∀ x ∈ l, 0 ≤ x ∧ x ≤ 255) (hn : n ≤ 40) :
    Calls Try.prog 7 #[.slice A l.length c, .int .i64 (n : Int)] w fun e w' => e = .returned (.string (inpTo l n)) ∧ Below w.heap.size w w' := by
  unfold maxLen at hl
  go_enter Try.func7, Try.ntmps7
  go_wp2_with fail
  go_loopw [5, 6] (fun out i wr => ∃ k : Nat, ∃ S : ByteArray, k ≤ l.length ∧ k ≤ n ∧ Hid (S = inpTo l k) ∧ i = .int .i64 k ∧ out = .string S ∧ Below w.heap.size w wr) (fun _ i _ => n - (intOf i).toNat)
  case atStart => exact ⟨0, ByteArray.mk #[], by omega, by omega, rfl, rfl, rfl, Below.refl _ _⟩
  case round =>
    obtain ⟨k, S, hk, hkn, HS, rfl, rfl, hb⟩ := hrel
    have hszN := inpTo_ok l k hk
    have hsz : S.size ≤ 40 := by rw [HS.out, hszN.1]; omega
    by_cases hlt : k < l.length
    · by_cases hltn : k < n
      · obtain ⟨bk, off, x, rfl, hbb, hxx, hcx0⟩ := hx.u8 hlt
        have hcx := (hb.cell (p := ⟨bk, _, none⟩) hbb).trans hcx0
        have HX := Lib.hid hxx
        have hx8 := hb8 x (List.mem_of_getElem? hxx)
        clear hcx0 hxx hszN
        have hm0 : 0 ≤ x % 3 := by omega
        have hm1 : x % 3 ≤ 2 := by omega
        have hwr : IntKind.u8.wrap (x % 3 + 1) = x % 3 + 1 := by unfold IntKind.wrap; simp [IntKind.bits, IntKind.signed]; omega
        have hki : (k : Int) < (l.length : Int) := by omega
        have hkn2 : (k : Int) < (n : Int) := by omega
        have hk0 : (0 : Int) ≤ (k : Int) := by omega
        go_wp2_with fail
        go_quiet (fail)
        go_wp2_with fail
        go_roundw
        case rel => exact ⟨k + 1, S ++ abcL x, by omega, by omega, (by rw [inpTo_succ HX.out, HS.out] : S ++ abcL x = inpTo l (k + 1)), by go_num, rfl, below_drewN hb _⟩
        case measure => simp [intOf]; omega
      · obtain rfl : k = n := by omega
        have hki : (k : Int) < (l.length : Int) := by omega
        have hkn2 : ¬ ((k : Nat) : Int) < (k : Int) := by omega
        clear hszN
        go_wp2_with fail
        go_ret
        exact ⟨ret_str5 HS.out, hb⟩
    · obtain rfl : k = l.length := by omega
      have hki : ¬ ((l.length : Nat) : Int) < (l.length : Int) := by omega
      have HR : Hid (S = inpTo l n) := by show S = inpTo l n; rw [HS.out, inpTo_min l n, Nat.min_eq_right hkn]
      clear hszN
      go_wp2_with fail
      go_ret
      exact ⟨ret_str5 HR.out, hb⟩
end Go.Proofs.Ytkjfdjcagfkdhaa

/-
  The six schemes that R2.Base gives: plain. No conditions.
-/
namespace Go.Proofs.Ytkjfdjcagfkdhaa
open Go Go.RowKit

def one5 (i o : ByteArray) : Ru := ⟨0, 0, i, o, (i.size : Int)⟩
def baseS : Nat → Sc
  | 0 => ⟨1, 1, [one5 ⟨#[97]⟩ ⟨#[97]⟩, one5 ⟨#[98]⟩ ⟨#[98]⟩, one5 ⟨#[99]⟩ ⟨#[99]⟩]⟩
  | 1 => ⟨1, 1, [one5 ⟨#[97]⟩ ⟨#[65]⟩, one5 ⟨#[98, 97]⟩ ⟨#[66]⟩, one5 ⟨#[99, 97]⟩ ⟨#[67]⟩, one5 ⟨#[98]⟩ ⟨#[98]⟩]⟩
  | 2 => ⟨2, 1, [⟨0, 1, ⟨#[99]⟩, ⟨#[]⟩, 1⟩, ⟨1, 0, ⟨#[97]⟩, ⟨#[65]⟩, 1⟩, ⟨1, 0, ⟨#[98]⟩, ⟨#[66]⟩, 1⟩, one5 ⟨#[97]⟩ ⟨#[97]⟩, one5 ⟨#[98]⟩ ⟨#[98]⟩]⟩
  | 3 => ⟨1, 1, [one5 ⟨#[97]⟩ ⟨#[97]⟩, one5 ⟨#[98]⟩ ⟨#[98]⟩, one5 ⟨#[97, 98]⟩ ⟨#[97, 98, 99, 49]⟩, one5 ⟨#[99]⟩ ⟨#[99]⟩]⟩
  | 4 => ⟨1, 1, [one5 ⟨#[97]⟩ ⟨#[97]⟩, ⟨0, 0, ⟨#[98]⟩, ⟨#[98]⟩, 0⟩, ⟨0, 0, ⟨#[99]⟩, ⟨#[98]⟩, 7⟩, ⟨0, 0, ⟨#[98]⟩, ⟨#[99]⟩, 9⟩]⟩
  | _ => ⟨1, 1, [one5 ⟨#[97]⟩ ⟨#[97]⟩, one5 ⟨#[97]⟩ ⟨#[65]⟩, one5 ⟨#[97, 97]⟩ ⟨#[66]⟩, one5 ⟨#[98]⟩ ⟨#[98]⟩, ⟨0, 0, ⟨#[98]⟩, ⟨#[]⟩, 20⟩]⟩
theorem base_ok (k : Nat) : ScOK (baseS k) ∧ (baseS k).n ≤ 2 ∧ 3 ≤ (baseS k).rs.length ∧ (baseS k).rs.length ≤ 5 := by
  unfold baseS
  split <;> decide
/-- Rules left out ahead. -/
theorem scOK_drop {s : Sc} (h : ScOK s) (d : Nat) : ScOK ⟨s.n, s.acc, s.rs.drop d⟩ := by
  obtain ⟨h1, h2, h3, h4, h5⟩ := h
  refine ⟨h1, ?_, h3, fun r hr => h4 r (List.mem_of_mem_drop hr), h5.sublist (List.drop_sublist d s.rs)⟩
  show (s.rs.drop d).length ≤ 64
  rw [List.length_drop]
  omega
/-- A right rule more. -/
theorem scOK_snoc {s : Sc} (h : ScOK s) {r : Ru} (hr : RuOK s.n r) (hn : r ∉ s.rs) (hl : s.rs.length < 64) : ScOK ⟨s.n, s.acc, s.rs ++ [r]⟩ := by
  obtain ⟨h1, h2, h3, h4, h5⟩ := h
  refine ⟨h1, ?_, h3, fun x hx => ?_, ?_⟩
  · show (s.rs ++ [r]).length ≤ 64
    simp
    omega
  · rcases List.mem_append.1 hx with hx | hx
    · exact h4 x hx
    · rw [List.mem_singleton.1 hx]; exact hr
  · show (s.rs ++ [r]).Nodup
    rw [List.nodup_append]
    exact ⟨h5, List.pairwise_singleton _ r, fun a ha b hb e => hn (by rw [← List.mem_singleton.1 hb, ← e]; exact ha)⟩
end Go.Proofs.Ytkjfdjcagfkdhaa
