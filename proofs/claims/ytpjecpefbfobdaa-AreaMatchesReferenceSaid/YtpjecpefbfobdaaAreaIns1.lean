/-
  The walks of layer 21: copies of taps; a tap put into a slice (the library's Insert).
-/
import Derived.Test.YtpjecpefbfobdaaAreaWalkF
import Derived.WalkSpells
import Derived.Lib.Overlaps
import Derived.Lib.AppendZerosOnto
import Derived.Lib.AppendZeros
import Derived.Laws.IdiomCopy
import Derived.Laws.Externs
import Derived.Lib.JoinLaws
import Derived.Lib.SliceRun
import Derived.RegionTactic
import Derived.Deep.RegionLaw
namespace Go.Proofs.Ytpjecpefbfobdaa
open Go Go.RowKit

def encT (x : Tp) : List Value := [.int .u8 x.key, .int .i64 x.dx, .int .i64 x.dy, .int .i64 x.n]
theorem encT_snoc (L : List Tp) (p : Tp) : (L ++ [p]).flatMap encT = L.flatMap encT ++ encT p := by simp
theorem tap_info : (Try.prog.info? 82).map (fun i => (i.zero, i.size, i.bytes)) = some (some (.agg #[.int .u8 0, .int .i64 0, .int .i64 0, .int .i64 0]), 4, 32) := by kernel_rfl

theorem slr_cells {α : Type} {s : Nat} {R : World → α → List Value → Prop} {enc : α → List Value} {w : World} {a : Addr} {xs : List α} (h : SlR s R w (some a) xs) (_hs : 0 < s) (hR : ∀ w x vs, R w x vs → vs = enc x) :
    ∀ j u, (xs.flatMap enc)[j]? = some u → w.cell? (a.add j) = some u := by
  by_cases hn : xs = []
  · subst hn; intro j u hj; simp at hj
  · obtain ⟨b, off, ha, _, hc⟩ := h hn
    injection ha with ha
    subst ha
    have key : ∀ (l : List α) (o : Nat), (∀ k x, l[k]? = some x → (enc x).length = s ∧ ∀ j v, (enc x)[j]? = some v → w.cell? ⟨b, o + k * s + j, none⟩ = some v) → ∀ j u, (l.flatMap enc)[j]? = some u → w.cell? ⟨b, o + j, none⟩ = some u := by
      intro l
      induction l with
      | nil => intro o _ j u hj; simp at hj
      | cons x l ih =>
        intro o hl j u hj
        obtain ⟨h0, h1⟩ := hl 0 x rfl
        rw [List.flatMap_cons] at hj
        rcases Nat.lt_or_ge j (enc x).length with hlt | hge
        · rw [List.getElem?_append_left hlt] at hj
          have := h1 j u hj
          simpa using this
        · rw [List.getElem?_append_right hge] at hj
          have := ih (o + s) (fun k y hy => by
            obtain ⟨h2, h3⟩ := hl (k + 1) y (by simpa using hy)
            refine ⟨h2, fun j v hv => ?_⟩
            have := h3 j v hv
            rwa [show o + (k + 1) * s + j = o + s + k * s + j by rw [Nat.add_mul]; omega] at this) (j - (enc x).length) u hj
          rwa [show o + s + (j - (enc x).length) = o + j by omega] at this
    intro j u hj
    rw [add_mk]
    refine key xs off (fun k x hx => ?_) j u hj
    obtain ⟨vs, hr, hl, hv⟩ := hc k x hx
    have := hR _ _ _ hr
    subst this
    exact ⟨hl, hv⟩

theorem flatMap_len {α β : Type} {s : Nat} {enc : α → List β} (h : ∀ x, (enc x).length = s) (xs : List α) : (xs.flatMap enc).length = xs.length * s := by
  induction xs with
  | nil => simp
  | cons x l ih => rw [List.flatMap_cons, List.length_append, h, ih, List.length_cons, Nat.add_mul]; omega
/-- 'append(out, src...)'. -/
theorem wpList_appN {P : Program} {ops : Array Oper} {rest : List Oper} {o : Oper} {a : Act} {Q : Exit → Act → World → Prop} {w : World} (hgd : o.guard = none) (s x : Operand) (t : TypeId)
    (ho : o.op = .call { callee := .builtin .append, args := #[s, x], argTypes := #[t, t] })
    (base : Nat) (e : TypeId) (i : TypeInfo) (z : Value) (size bytes : Nat) (ht : P.underlying t = some (.slice e)) (hi : P.info? e = some i) (hz : i.zero = some z)
    (hsize : i.size = size) (hby : i.bytes = bytes) (hzs : z.cells.size = size) (hsz : 0 < size)
    (v : Value) (n : Nat) (xs : List Value) (hs : a.eval s = v) (hown : w.ownsRow base e size v n xs)
    (ad : Addr) (m c : Nat) (news : List Value) (hx : a.eval x = .slice (some ad) m c) (hl : news.length = m * size) (hnews : ∀ j u, news[j]? = some u → w.cell? (ad.add j) = some u) (h1 : ∀ u ∈ news, u.oneCell' = true)
    (hn : n + m ≤ 1000000) (hbb : bytes ≤ 1000) (hbase : base ≤ w.heap.size)
    (h : ∀ v' w', w'.ownsRow base e size v' (n + m) (xs ++ news) → Below base w w' → Apps w w' v v' → wpList P ops Q rest (a.put o.dst v') w') : wpList P ops Q (o :: rest) a w := by
  have hb1 : (n + m) * bytes ≤ 1000000 * 1000 := Nat.mul_le_mul hn hbb
  refine wpList_plain hgd fun K hK => ?_
  obtain ⟨v', w', hrun, h2, h3, _, h5⟩ := run_append_own_at (P := P) w base t o.type e i z size bytes ht hi hz hsize hby hzs hsz v n xs hown ad m c news hl hnews h1 (by unfold maxLen; omega) (by omega) hbase
  unfold Oper.wp execOp
  simp only [ho, resolve, invoke, builtin, Sem.run_bind, Sem.run_pure, Result.andThen_ok, List.map_toArray, List.map_cons, List.map_nil, hs, hx, hrun]
  refine hK _ _ (h v' w' h2 ((Below.refl _ _).grown h3 hbase (own_block_le hown)) ⟨fun k hk hne => h3.block k hk (fun e => hne e.symm), ?_⟩)
  rcases h5 with h5 | h5
  · exact .inl h5
  · exact .inr ⟨_, h5, Nat.le_refl _⟩

theorem cloneT_info : (Try.prog.info? 82).map (fun i => (i.zero, i.size, i.bytes)) = some (some (.agg #[.int .u8 0, .int .i64 0, .int .i64 0, .int .i64 0]), 4, 32) := by kernel_rfl
set_option maxHeartbeats 1000000 in
theorem cloneT_any (A : Option Addr) (xs : List Tp) (c : Nat) (w : World) (hx : SlR 4 RTp w A xs) (hl : xs.length ≤ 65536) :
    Calls Try.prog 44 #[.slice A xs.length c] w fun e w' => ∃ v, e = .returned v ∧ w'.ownsRow w.heap.size 82 4 v xs.length (xs.flatMap encT) ∧ Below w.heap.size w w' := by
  obtain ⟨i0, hi, hz0, hz1, hz2⟩ := info_parts cloneT_info
  rcases A with _ | a
  · have h0 : xs = [] := Classical.byContradiction fun hn => by obtain ⟨_, _, h, _⟩ := hx hn; cases h
    subst h0
    have hnil := Lib.run_eql_slice_nil (P := Try.prog) w 33 82 none 0 c 0 0 Try.underlying33
    go_enter Try.func44, Try.ntmps44
    go_wp2_with fail
    go_ret
    exact ⟨_, rfl, own_nil _ _ _ _, Below.refl _ _⟩
  · have hnil := Lib.run_eql_slice_nil (P := Try.prog) w 33 82 (some a) xs.length c 0 0 Try.underlying33
    have HC := Lib.hid (slr_cells (enc := encT) (hx.below keeps_tp ((Below.refl _ _).alloc (Nat.le_refl _) (.cells #[] 82))) (by decide) (fun _ _ _ h => h))
    have HL := Lib.hid (show (xs.flatMap encT).length = xs.length * 4 from flatMap_len (s := 4) (enc := encT) (fun _ => rfl) xs)
    go_enter Try.func44, Try.ntmps44
    go_wp2_with (first | (at_builtin; refine wpList_appN rfl _ _ 33 rfl w.heap.size 82 i0 _ 4 32 Try.underlying33 hi hz0 hz1 hz2 rfl (by decide) (.slice (some ⟨w.heap.size, 0, none⟩) 0 0) 0 [] rfl (own_empty w 82 4 w.heap.size (Nat.le_refl _)) a xs.length c (xs.flatMap encT) rfl HL.out HC.out (fun u hu => by obtain ⟨x, _, hx⟩ := List.mem_flatMap.1 hu; simp [encT] at hx; rcases hx with rfl | rfl | rfl | rfl <;> rfl) (by omega) (by decide) (by simp) ?_; intro v1 w1 hown1 hb1 ha1))
    go_ret
    exact ⟨_, rfl, by simpa using hown1, ((Below.refl _ _).alloc (Nat.le_refl _) _).trans hb1⟩
theorem run_copyN {P : Program} (w : World) (dT sT ty elem : TypeId) (b o dLen dCap : Nat) (a : Addr) (sLen sCap size k : Nat) (cs : List Value)
    (hu : P.underlying dT = some (.slice elem)) (hs : (P.info? elem).map (·.size) = some size) (hk : k = Nat.min sLen dLen) (hn : cs.length = k * size)
    (hsrc : ∀ j v, cs[j]? = some v → w.cell? (a.add j) = some v) (hc : ∀ j, j < cs.length → (w.cell? ⟨b, o + j, none⟩).isSome = true) (hf : ∀ j, j < cs.length → w.frozen? ⟨b, o + j, none⟩ = false) (h1 : ∀ v ∈ cs, v.oneCell' = true) :
    (Builtin.copy_ #[dT, sT] ty #[.slice (some ⟨b, o, none⟩) dLen dCap, .slice (some a) sLen sCap]).run P w = .ok (goInt k) (w.setCells b o cs) := by
  have hl := run_loadCells_list (P := P) w a cs hsrc
  have hst := run_storeCells_cells (P := P) b o cs 0 w (by simpa using hc) (by simpa using hf) h1
  cases hq : P.info? elem with
  | none => simp [hq] at hs
  | some i =>
    have hi : i.size = size := by simpa [hq] using hs
    rw [hn] at hl
    simp [Builtin.copy_, run_underlying hu, Builtin.lenOf, Builtin.firstCells, sizeOf, typeInfo, hq, hi, ← hk, hl, hst]

/-- vs laid over l from o on. -/
def over (l : List Value) (o : Nat) (vs : List Value) : List Value := l.take o ++ vs ++ l.drop (o + vs.length)
theorem blk_setCells {g : Nat} {t : TypeId} : ∀ (vs : List Value) (o : Nat) (w : World) (cs : List Value), Blk w g t cs.toArray → o + vs.length ≤ cs.length → Blk (w.setCells g o vs) g t (over cs o vs).toArray := by
  intro vs
  induction vs with
  | nil => intro o w cs h _; simpa [World.setCells, over] using h
  | cons v vs ih =>
    intro o w cs h hl
    simp only [List.length_cons] at hl
    have h1 : Blk (w.setCell ⟨g, o, none⟩ v) g t (cs.set o v).toArray := by simpa using h.set_ o v
    have h2 := ih (o + 1) _ _ h1 (by simp; omega)
    rw [World.setCells]
    have e : over (cs.set o v) (o + 1) vs = over cs o (v :: vs) := by
      unfold over
      have ho : o < cs.length := by omega
      rw [List.take_set, List.drop_set_of_lt (by omega), List.take_succ_eq_append_getElem ho, List.set_append_right _ _ (by simp; omega)]
      simp [Nat.min_eq_left (Nat.le_of_lt ho), Nat.add_assoc, Nat.add_comm 1]
    rw [← e]
    exact h2
theorem heap_setCells {g : Nat} : ∀ (vs : List Value) (o : Nat) (w : World) (k : Nat), k ≠ g → (w.setCells g o vs).heap[k]? = w.heap[k]? := by
  intro vs
  induction vs with
  | nil => intro o w k _; rfl
  | cons v vs ih =>
    intro o w k hk
    rw [World.setCells, ih _ _ k hk]
    exact Below.heap_setCell _ _ _ _ hk
theorem size_setCells {g : Nat} : ∀ (vs : List Value) (o : Nat) (w : World), (w.setCells g o vs).heap.size = w.heap.size := by
  intro vs
  induction vs with
  | nil => intro o w; rfl
  | cons v vs ih => intro o w; rw [World.setCells, ih]; simp [World.setCell]
theorem os_setCells {g : Nat} : ∀ (vs : List Value) (o : Nat) (w : World), (w.setCells g o vs).os = w.os ∧ (w.setCells g o vs).tape = w.tape ∧ (w.setCells g o vs).output = w.output := by
  intro vs
  induction vs with
  | nil => intro o w; exact ⟨rfl, rfl, rfl⟩
  | cons v vs ih => intro o w; rw [World.setCells]; exact ih _ _
theorem below_setCells {B g : Nat} {a w : World} (h : Below B a w) (hg : B ≤ g) (o : Nat) (vs : List Value) : Below B a (w.setCells g o vs) := by
  obtain ⟨h1, h2, h3⟩ := os_setCells (g := g) vs o w
  exact h.trans ⟨h1, h2, h3, by rw [size_setCells]; omega, fun k hk => heap_setCells vs o w k (by omega)⟩
/-- An owned row out of its block. -/
theorem own_of_blk {w : World} {base g cap n s : Nat} {e : TypeId} {cur : List Value} (hb : Blk w g e cur.toArray) (hg : base ≤ g) (hn : n ≤ cap) (hc : cap ≤ maxLen) (hs : cur.length = cap * s) :
    w.ownsRow base e s (.slice (some ⟨g, 0, none⟩) n cap) n (cur.take (n * s)) :=
  ⟨by rw [List.length_take, hs, Nat.min_eq_left]; exact Nat.mul_le_mul_right _ hn, .inr ⟨g, cap, cur.toArray, rfl, hg, hb, hn, hc, by simpa using hs, by simp⟩⟩
theorem blk_of_own {w : World} {base n s : Nat} {e : TypeId} {v : Value} {xs : List Value} (h : w.ownsRow base e s v n xs) (hn : 0 < n) :
    ∃ g cap cur, v = .slice (some ⟨g, 0, none⟩) n cap ∧ base ≤ g ∧ Blk w g e (List.toArray cur) ∧ n ≤ cap ∧ cap ≤ maxLen ∧ cur.length = cap * s ∧ cur.take (n * s) = xs := by
  rcases h.2 with ⟨_, h0⟩ | ⟨g, cap, cur, hv, hg, hh, hnc, hcm, hcs, htk⟩
  · omega
  · exact ⟨g, cap, cur.toList, hv, hg, by simpa [Blk] using hh, hnc, hcm, by simpa using hcs, htk⟩

/-- A list with one more at place i. -/
def insAt (xs : List Tp) (i : Nat) (p : Tp) : List Tp := xs.take i ++ [p] ++ xs.drop i

set_option maxRecDepth 100000 in
set_option maxHeartbeats 2000000 in
theorem insT_end (A : Option Addr) (c : Nat) (xs : List Tp) (p : Tp) (base vb : Nat) (w : World) (hown : w.ownsRow base 82 4 (.slice A xs.length c) xs.length (xs.flatMap encT)) (hnc : xs.length ≤ c) (hcm : c ≤ maxLen)
    (hv : Blk w vb 82 #[.int .u8 p.key, .int .i64 p.dx, .int .i64 p.dy, .int .i64 p.n]) (hbase : base ≤ w.heap.size) (hl : xs.length ≤ 65536) :
    Calls Try.prog 45 #[.slice A xs.length c, .int .i64 xs.length, .slice (some ⟨vb, 0, none⟩) 1 1] w fun e w' => ∃ v', e = .returned v' ∧ w'.ownsRow base 82 4 v' (xs.length + 1) ((xs ++ [p]).flatMap encT) ∧ Below base w w' ∧ Apps w w' (.slice A xs.length c) v' := by
  obtain ⟨i0, hi, hz0, hz1, hz2⟩ := info_parts tap_info
  unfold maxLen at hcm
  by_cases hcn : c = xs.length
  all_goals
    first | subst hcn | skip
    go_enter Try.func45, Try.ntmps45
    go_wp2_with (first | (at_builtin; refine wpList_appN rfl _ _ 33 rfl base 82 i0 _ 4 32 Try.underlying33 hi hz0 hz1 hz2 rfl (by decide) (.slice A xs.length _) _ _ rfl hown ⟨vb, 0, none⟩ 1 1 (encT p) rfl rfl (fun j u hj => by rw [add_mk, Nat.zero_add, hv.cell]; simpa [encT] using hj) (fun u hu => by simp [encT] at hu; rcases hu with rfl | rfl | rfl | rfl <;> rfl) (by omega) (by decide) hbase ?_; intro v1 w1 hown1 hb1 ha1))
    go_ret
    exact ⟨_, rfl, by rw [encT_snoc]; exact hown1, hb1, ha1⟩
end Go.Proofs.Ytpjecpefbfobdaa
