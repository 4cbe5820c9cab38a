/-
  OuBfs, CostWalkN, CostWalkP, GrWalkB, GrWalkF, GrMem, GrCheck, GrAll, GrWays, GrLeav, GrSl, GrPot, GrWalkI, GrWalkJ, OrdI, joined. No conditions.
-/
import Derived.Test.YtfpnhgahkjglgaaGreatQ02
import Derived.Test.YtfpnhgahkjglgaaGreatQ06
import Derived.Test.YtfpnhgahkjglgaaGreatQ05
import Derived.WalkSpells
import Derived.OwnWalk
import Derived.WalkMore
/-
  The search for chains of rules that take nothing: what its queue and its marks mean. Plain laws. No conditions.
-/
namespace Go.Proofs.YtfpnhgahkjglgaaGreat
open List

/-- What is marked is reached by rules that take nothing; what waits is marked. -/
structure BF (s : Sc) (st : Int) (f : Int → Bool) (q : List Int) : Prop where
  rch : ∀ k, 0 ≤ k → k < 8 → f k = true → k = st ∨ Mt s st k
  nod : q.Nodup
  ins : ∀ k ∈ q, (0 ≤ k ∧ k < 8) ∧ f k = true
  st8 : (0 ≤ st ∧ st < 8) ∧ f st = true
/-- What is marked and does not wait has been followed, but for one mode of which some rules have been. -/
def Cl (s : Sc) (st : Int) (f : Int → Bool) (q : List Int) (P : Int → Ru → Prop) : Prop := ∀ k, 0 ≤ k → k < 8 → f k = true → k ∉ q → ∀ r ∈ s.rs, r.fr = k → r.mute = true → P k r → f r.to = true ∧ r.to ≠ st
theorem bf_start {s : Sc} {st : Int} (h : 0 ≤ st ∧ st < 8) : BF s st (fun m => decide (m = st)) [st] :=
  ⟨fun k _ _ hk => .inl (by simpa using hk), pairwise_singleton _ _, fun k hk => by rw [mem_singleton.1 hk]; exact ⟨h, by simp⟩, h, by simp⟩
theorem cl_start {s : Sc} {st : Int} : Cl s st (fun m => decide (m = st)) [st] (fun _ _ => True) := fun k _ _ hk hn => absurd (mem_singleton.2 (by simpa using hk)) hn
theorem bf_pop {s : Sc} {st k : Int} {f : Int → Bool} {q : List Int} (h : BF s st f (k :: q)) : BF s st f q := ⟨h.rch, (nodup_cons.1 h.nod).2, fun x hx => h.ins x (mem_cons_of_mem _ hx), h.st8⟩
theorem cl_pop {s : Sc} {st k : Int} {f : Int → Bool} {q : List Int} (h : Cl s st f (k :: q) (fun _ _ => True)) : Cl s st f q (fun x r => x = k → r ∈ s.rs.take 0) := fun x h0 h1 hx hn r hr e hm hp => by
  by_cases e2 : x = k
  · have := hp e2
    rw [take_zero] at this
    cases this
  · exact h x h0 h1 hx (fun hm => (mem_cons.1 hm).elim e2 hn) r hr e hm trivial
theorem cl_next {s : Sc} {st m : Int} {f : Int → Bool} {q : List Int} {k : Nat} {r : Ru} (h : Cl s st f q (fun x r => x = m → r ∈ s.rs.take k)) (hr : s.rs[k]? = some r) (ho : r.fr = m → r.mute = true → f r.to = true ∧ r.to ≠ st) : Cl s st f q (fun x r => x = m → r ∈ s.rs.take (k + 1)) := fun x h0 h1 hx hn t ht e hm hp => by
  by_cases e2 : x = m
  · have h2 := hp e2
    rw [take_add_one, hr] at h2
    rcases mem_append.1 h2 with h2 | h2
    · exact h x h0 h1 hx hn t ht e hm (fun _ => h2)
    · have e3 : t = r := by simpa using h2
      subst e3
      exact ho (by rw [e, e2]) hm
  · exact h x h0 h1 hx hn t ht e hm (fun e3 => absurd e3 e2)
theorem cl_all {s : Sc} {st m : Int} {f : Int → Bool} {q : List Int} (h : Cl s st f q (fun x r => x = m → r ∈ s.rs.take s.rs.length)) : Cl s st f q (fun _ _ => True) := fun x h0 h1 hx hn r hr e hm _ => h x h0 h1 hx hn r hr e hm (fun _ => by rw [take_length]; exact hr)
theorem bf_push {s : Sc} {st m : Int} {f : Int → Bool} {q : List Int} {r : Ru} (h : BF s st f q) (hr : r ∈ s.rs) (hm : r.mute = true) (hf : r.fr = m) (h8 : 0 ≤ m ∧ m < 8) (hfm : f m = true) (hn : f r.to = false) (ht : 0 ≤ r.to ∧ r.to < 8) : BF s st (addB f r.to) (q ++ [r.to]) := by
  have hadd : ∀ k, addB f r.to k = true ↔ k = r.to ∨ f k = true := fun k => by unfold addB; rw [Bool.or_eq_true, decide_eq_true_iff]
  refine ⟨fun k h0 h1 hk => ?_, nodup_append.2 ⟨h.nod, pairwise_singleton _ _, fun a ha b hb e => ?_⟩, fun k hk => ?_, h.st8.1, (hadd _).2 (.inr h.st8.2)⟩
  · rcases (hadd k).1 hk with rfl | hk
    · right
      rcases h.rch m h8.1 h8.2 hfm with e | e
      · exact .one hr hm (by rw [hf, e])
      · exact .more e hr hm hf
    · exact h.rch k h0 h1 hk
  · rw [mem_singleton.1 hb] at e
    have := (h.ins a ha).2
    rw [e, hn] at this
    cases this
  · rcases mem_append.1 hk with hk | hk
    · exact ⟨(h.ins k hk).1, (hadd k).2 (.inr (h.ins k hk).2)⟩
    · rw [mem_singleton.1 hk]
      exact ⟨ht, (hadd _).2 (.inl rfl)⟩
theorem cl_push {s : Sc} {st t : Int} {f : Int → Bool} {q : List Int} {P : Int → Ru → Prop} (h : Cl s st f q P) : Cl s st (addB f t) (q ++ [t]) P := fun k h0 h1 hk hn r hr e hm hp => by
  have hk2 : f k = true := by
    unfold addB at hk
    rw [Bool.or_eq_true, decide_eq_true_iff] at hk
    rcases hk with rfl | hk
    · exact absurd (mem_append_right _ (mem_singleton.2 rfl)) hn
    · exact hk
  obtain ⟨h2, h3⟩ := h k h0 h1 hk2 (fun hx => hn (mem_append_left _ hx)) r hr e hm hp
  exact ⟨by unfold addB; rw [h2, Bool.or_true], h3⟩
/-- The queue is empty: there is no chain back. -/
theorem bf_done {s : Sc} {st : Int} {f : Int → Bool} (hb : BF s st f []) (hc : Cl s st f [] (fun _ _ => True)) (hm : ∀ r ∈ s.rs, (0 ≤ r.fr ∧ r.fr < 8) ∧ 0 ≤ r.to ∧ r.to < 8) : ¬ Mt s st st := by
  have key : ∀ t, Mt s st t → (0 ≤ t ∧ t < 8) ∧ f t = true ∧ t ≠ st := by
    intro t ht
    induction ht with
    | one h1 h2 h3 =>
      have h8 := hm _ h1
      exact ⟨h8.2, hc st hb.st8.1.1 hb.st8.1.2 hb.st8.2 (fun h => nomatch h) _ h1 h3 h2 trivial⟩
    | more _ h1 h2 h3 ih => exact ⟨(hm _ h1).2, hc _ ih.1.1 ih.1.2 ih.2.1 (fun h => nomatch h) _ h1 h3 h2 trivial⟩
  exact fun h => (key st h).2.2 rfl
theorem bf_found {s : Sc} {st m : Int} {f : Int → Bool} {q : List Int} {r : Ru} (h : BF s st f q) (hr : r ∈ s.rs) (hm : r.mute = true) (hf : r.fr = m) (h8 : 0 ≤ m ∧ m < 8) (hfm : f m = true) (ht : r.to = st) : Mt s st st := by
  rw [← ht]
  rcases h.rch m h8.1 h8.2 hfm with e | e
  · rw [ht]
    have := Mt.one hr hm (by rw [hf, e] : r.fr = st)
    rwa [ht] at this
  · rw [ht]
    have := Mt.more e hr hm hf
    rwa [ht] at this
theorem bf_len {s : Sc} {st : Int} {f : Int → Bool} {q : List Int} (h : BF s st f q) : q.length ≤ cntB 8 f := by
  have h1 : (q.map Int.toNat).length ≤ ((range 8).filter fun i : Nat => f (i : Int)).length := by
    refine nodup_le ?_ fun k hk => ?_
    · unfold Nodup
      rw [pairwise_map]
      refine h.nod.imp_of_mem fun {a b} ha hb hne e => hne ?_
      have h1 := (h.ins a ha).1
      have h2 := (h.ins b hb).1
      omega
    · obtain ⟨x, hx, rfl⟩ := mem_map.1 hk
      obtain ⟨h1, h2⟩ := h.ins x hx
      refine mem_filter.2 ⟨mem_range.2 (by omega), ?_⟩
      rw [Int.toNat_of_nonneg h1.1]
      exact h2
  rw [length_map] at h1
  unfold cntB
  rw [countP_eq_length_filter]
  exact h1
theorem cnt_add {f : Int → Bool} {k : Int} (hk : 0 ≤ k ∧ k < 8) (hn : f k = false) : cntB 8 f < cntB 8 (addB f k) :=
  cnt_lt (fun x hx => by unfold addB; rw [hx, Bool.or_true]) hk hn (by unfold addB; simp)
end Go.Proofs.YtfpnhgahkjglgaaGreat

/-
  The walks of layer 11: a pair put into an increasing list (the reference).
-/
namespace Go.Proofs.YtfpnhgahkjglgaaGreat
open Go Go.RowKit

end Go.Proofs.YtfpnhgahkjglgaaGreat

/-
  The walks of layer 11: copies of slices.
-/
namespace Go.Proofs.YtfpnhgahkjglgaaGreat
open Go Go.RowKit

theorem slr_cells {α : Type} {s : Nat} {R : World → α → List Value → Prop} {enc : α → List Value} {w : World} {a : Addr} {xs : List α} (h : SlR s R w (some a) xs) (_hs : 0 < s) (hR : ∀ w x vs, R w x vs → vs = enc x) :
    ∀ j u, (xs.flatMap enc)[j]? = some u → w.cell? (a.add j) = some u := by
  by_cases hn : xs = []
  · subst hn; intro j u hj; simp at hj
  · obtain ⟨b, off, ha, _, hc⟩ := h hn
    injection ha with ha
    subst ha
    have key : ∀ (l : List α) (o : Nat), (∀ k x, l[k]? = some x → (enc x).length = s ∧ ∀ j v, (enc x)[j]? = some v → w.cell? ⟨b, o + k * s + j, none⟩ = some v) → ∀ j u, (l.flatMap enc)[j]? = some u → w.cell? ⟨b, o + j, none⟩ = some u := by
      intro l
      induction l with
      | nil => intro o _ j u hj; simp at hj
      | cons x l ih =>
        intro o hl j u hj
        obtain ⟨h0, h1⟩ := hl 0 x rfl
        rw [List.flatMap_cons] at hj
        rcases Nat.lt_or_ge j (enc x).length with hlt | hge
        · rw [List.getElem?_append_left hlt] at hj
          have := h1 j u hj
          simpa using this
        · rw [List.getElem?_append_right hge] at hj
          have := ih (o + s) (fun k y hy => by
            obtain ⟨h2, h3⟩ := hl (k + 1) y (by simpa using hy)
            refine ⟨h2, fun j v hv => ?_⟩
            have := h3 j v hv
            rwa [show o + (k + 1) * s + j = o + s + k * s + j by rw [Nat.add_mul]; omega] at this) (j - (enc x).length) u hj
          rwa [show o + s + (j - (enc x).length) = o + j by omega] at this
    intro j u hj
    rw [add_mk]
    refine key xs off (fun k x hx => ?_) j u hj
    obtain ⟨vs, hr, hl, hv⟩ := hc k x hx
    have := hR _ _ _ hr
    subst this
    exact ⟨hl, hv⟩

theorem flatMap_len {α β : Type} {s : Nat} {enc : α → List β} (h : ∀ x, (enc x).length = s) (xs : List α) : (xs.flatMap enc).length = xs.length * s := by
  induction xs with
  | nil => simp
  | cons x l ih => rw [List.flatMap_cons, List.length_append, h, ih, List.length_cons, Nat.add_mul]; omega
/-- 'append(out, src...)'. -/
theorem wpList_appN {P : Program} {ops : Array Oper} {rest : List Oper} {o : Oper} {a : Act} {Q : Exit → Act → World → Prop} {w : World} (hgd : o.guard = none) (s x : Operand) (t : TypeId)
    (ho : o.op = .call { callee := .builtin .append, args := #[s, x], argTypes := #[t, t] })
    (base : Nat) (e : TypeId) (i : TypeInfo) (z : Value) (size bytes : Nat) (ht : P.underlying t = some (.slice e)) (hi : P.info? e = some i) (hz : i.zero = some z)
    (hsize : i.size = size) (hby : i.bytes = bytes) (hzs : z.cells.size = size) (hsz : 0 < size)
    (v : Value) (n : Nat) (xs : List Value) (hs : a.eval s = v) (hown : w.ownsRow base e size v n xs)
    (ad : Addr) (m c : Nat) (news : List Value) (hx : a.eval x = .slice (some ad) m c) (hl : news.length = m * size) (hnews : ∀ j u, news[j]? = some u → w.cell? (ad.add j) = some u) (h1 : ∀ u ∈ news, u.oneCell' = true)
    (hn : n + m ≤ 1000000) (hbb : bytes ≤ 1000) (hbase : base ≤ w.heap.size)
    (h : ∀ v' w', w'.ownsRow base e size v' (n + m) (xs ++ news) → Below base w w' → Apps w w' v v' → wpList P ops Q rest (a.put o.dst v') w') : wpList P ops Q (o :: rest) a w := by
  have hb1 : (n + m) * bytes ≤ 1000000 * 1000 := Nat.mul_le_mul hn hbb
  refine wpList_plain hgd fun K hK => ?_
  obtain ⟨v', w', hrun, h2, h3, _, h5⟩ := run_append_own_at (P := P) w base t o.type e i z size bytes ht hi hz hsize hby hzs hsz v n xs hown ad m c news hl hnews h1 (by unfold maxLen; omega) (by omega) hbase
  unfold Oper.wp execOp
  simp only [ho, resolve, invoke, builtin, Sem.run_bind, Sem.run_pure, Result.andThen_ok, List.map_toArray, List.map_cons, List.map_nil, hs, hx, hrun]
  refine hK _ _ (h v' w' h2 ((Below.refl _ _).grown h3 hbase (own_block_le hown)) ⟨fun k hk hne => h3.block k hk (fun e => hne e.symm), ?_⟩)
  rcases h5 with h5 | h5
  · exact .inl h5
  · exact .inr ⟨_, h5, Nat.le_refl _⟩

theorem cloneI_info : (Tryz.prog.info? 3).map (fun i => (i.zero, i.size, i.bytes)) = some (some (.int .i64 0), 1, 8) := by kernel_rfl
set_option maxRecDepth 100000 in
set_option maxHeartbeats 1000000 in
theorem cloneI_any (A : Option Addr) (xs : List Int) (c : Nat) (w : World) (hx : SlR 1 RInt w A xs) (hl : xs.length ≤ 65536) :
    Calls Tryz.prog 113 #[.slice A xs.length c] w fun e w' => ∃ v, e = .returned v ∧ w'.ownsRow w.heap.size 3 1 v xs.length (xs.flatMap (fun x => [Value.int .i64 x])) ∧ Below w.heap.size w w' := by
  obtain ⟨i0, hi, hz0, hz1, hz2⟩ := info_parts cloneI_info
  rcases A with _ | a
  · have h0 : xs = [] := Classical.byContradiction fun hn => by obtain ⟨_, _, h, _⟩ := hx hn; cases h
    subst h0
    have hnil := Lib.run_eql_slice_nil (P := Tryz.prog) w 99 3 none 0 c 0 0 Tryz.underlying99
    go_enter Tryz.func113, Tryz.ntmps113
    go_wp2_with fail
    go_ret
    exact ⟨_, rfl, own_nil _ _ _ _, Below.refl _ _⟩
  · have hnil := Lib.run_eql_slice_nil (P := Tryz.prog) w 99 3 (some a) xs.length c 0 0 Tryz.underlying99
    have HC := Lib.hid (slr_cells (enc := (fun x => [Value.int .i64 x])) (hx.below keeps_int ((Below.refl _ _).alloc (Nat.le_refl _) (.cells #[] 3))) (by decide) (fun _ _ _ h => h))
    have HL := Lib.hid (show (xs.flatMap (fun x => [Value.int .i64 x])).length = xs.length * 1 from flatMap_len (s := 1) (enc := (fun x => [Value.int .i64 x])) (fun _ => rfl) xs)
    go_enter Tryz.func113, Tryz.ntmps113
    go_wp2_with (first | (at_builtin; refine wpList_appN rfl _ _ 99 rfl w.heap.size 3 i0 _ 1 8 Tryz.underlying99 hi hz0 hz1 hz2 rfl (by decide) (.slice (some ⟨w.heap.size, 0, none⟩) 0 0) 0 [] rfl (own_empty w 3 1 w.heap.size (Nat.le_refl _)) a xs.length c (xs.flatMap (fun x => [Value.int .i64 x])) rfl HL.out HC.out (fun u hu => by obtain ⟨x, _, hx⟩ := List.mem_flatMap.1 hu; simp at hx; rcases hx with rfl <;> rfl) (by omega) (by decide) (by simp) ?_; intro v1 w1 hown1 hb1 ha1))
    go_ret
    exact ⟨_, rfl, by simpa using hown1, ((Below.refl _ _).alloc (Nat.le_refl _) _).trans hb1⟩

end Go.Proofs.YtfpnhgahkjglgaaGreat

/-
  The walks of layers 15 and 16: lists of whole numbers compared.
-/
namespace Go.Proofs.YtfpnhgahkjglgaaGreat
open Go Go.RowKit

def SameTo {α : Type} (xs ys : List α) (k : Nat) : Prop := xs.take k = ys.take k
theorem SameTo.succ {α : Type} {xs ys : List α} {k : Nat} {x : α} (h : SameTo xs ys k) (hx : xs[k]? = some x) (hy : ys[k]? = some x) : SameTo xs ys (k + 1) := by
  unfold SameTo at *
  rw [take_succ_of hx, take_succ_of hy, h]
theorem SameTo.all {α : Type} {xs ys : List α} {k : Nat} (h : SameTo xs ys k) (hx : xs.length ≤ k) (hy : ys.length ≤ k) : xs = ys := by
  unfold SameTo at h
  rwa [List.take_of_length_le hx, List.take_of_length_le hy] at h
end Go.Proofs.YtfpnhgahkjglgaaGreat

/-
  The walks of layer 16: slices.Compare at whole numbers.
-/
namespace Go.Proofs.YtfpnhgahkjglgaaGreat
open Go Go.RowKit

/-- What slices.Compare answers. -/
def cmpL : List Int → List Int → Int
  | [], [] => 0
  | [], _ :: _ => -1
  | _ :: _, [] => 1
  | a :: x, b :: y => if a < b then -1 else if b < a then 1 else cmpL x y
theorem cmpL_drop {xs ys : List Int} {k : Nat} {x y : Int} (hx : xs[k]? = some x) (hy : ys[k]? = some y) : cmpL (xs.drop k) (ys.drop k) = if x < y then -1 else if y < x then 1 else cmpL (xs.drop (k + 1)) (ys.drop (k + 1)) := by
  obtain ⟨h1, rfl⟩ := List.getElem?_eq_some_iff.1 hx
  obtain ⟨h2, rfl⟩ := List.getElem?_eq_some_iff.1 hy
  rw [List.drop_eq_getElem_cons h1, List.drop_eq_getElem_cons h2]
  rfl
theorem cmpInt_any (x y : Int) (w : World) : Calls Tryz.prog 83 #[.int .i64 x, .int .i64 y] w fun e w' => e = .returned (.int .i64 (if x < y then -1 else if y < x then 1 else 0)) ∧ w = w' := by
  have hn : ∀ (x : Int) (w : World), Calls Tryz.prog 109 #[.int .i64 x] w fun e w' => e = .returned (.bool false) ∧ w = w' := fun x w => by
    go_enter Tryz.func109, Tryz.ntmps109
    go_wp2_with fail
    go_ret
    exact ⟨rfl, rfl⟩
  have HN := Lib.hid hn
  clear hn
  obtain h | ⟨h, h'⟩ | ⟨h, h'⟩ : x < y ∨ (¬ x < y ∧ y < x) ∨ (¬ x < y ∧ ¬ y < x) := by omega
  all_goals
    go_enter Tryz.func83, Tryz.ntmps83
    go_wp2_with (go_at_call 109; refine (HN.out _ _).mono ?_; rintro e w' ⟨rfl, rfl⟩)
    go_ret
    exact ⟨ret_int (by first | (simp; done) | (simp; omega) | (simp [*]; done)), rfl⟩
set_option maxRecDepth 100000 in
set_option maxHeartbeats 4000000 in
theorem compare_any (A B : Option Addr) (xs ys : List Int) (c d : Nat) (w : World) (hx : SlR 1 RInt w A xs) (hy : SlR 1 RInt w B ys) (hl : xs.length ≤ maxLen) (hl2 : ys.length ≤ maxLen) :
    Calls Tryz.prog 114 #[.slice A xs.length c, .slice B ys.length d] w fun e w' => e = .returned (.int .i64 (cmpL xs ys)) ∧ w = w' := by
  unfold maxLen at hl hl2
  go_enter Tryz.func114, Tryz.ntmps114
  go_wp2_with fail
  go_loop [11] (fun i => ∃ k : Nat, k ≤ xs.length ∧ k ≤ ys.length ∧ Hid (cmpL xs ys = cmpL (xs.drop k) (ys.drop k)) ∧ i = .int .i64 k) (fun i => xs.length - (intOf i).toNat)
  case atStart => exact ⟨0, by omega, by omega, rfl, rfl⟩
  case round =>
    obtain ⟨k, hk, hk2, HS, rfl⟩ := hrel
    by_cases hlt : k < xs.length
    · obtain ⟨b, off, x, rfl, hbb, hxx, hc0⟩ := hx.int hlt
      by_cases hlt2 : k < ys.length
      · obtain ⟨b', off', y, rfl, hbb', hyy, hd0⟩ := hy.int hlt2
        have HD := Lib.hid (cmpL_drop hxx hyy)
        clear hxx hyy
        obtain h | ⟨h, h'⟩ | ⟨h, h'⟩ : x < y ∨ (¬ x < y ∧ y < x) ∨ (¬ x < y ∧ ¬ y < x) := by omega
        · have HR : Hid (cmpL xs ys = -1) := by show _ = _; rw [HS.out, HD.out, if_pos h]
          have HC : Hid (∀ W, Calls Tryz.prog 83 #[.int .i64 x, .int .i64 y] W fun e w' => e = .returned (.int .i64 (-1)) ∧ W = w') := fun W => by have := cmpInt_any x y W; rw [if_pos h] at this; exact this
          clear h
          go_wp2_with (go_at_call 83; refine (HC.out _).mono ?_; rintro e w' ⟨rfl, rfl⟩)
          go_ret
          exact ⟨ret_int (by rw [HR.out]), rfl⟩
        · have HR : Hid (cmpL xs ys = 1) := by show _ = _; rw [HS.out, HD.out, if_neg h, if_pos h']
          have HC : Hid (∀ W, Calls Tryz.prog 83 #[.int .i64 x, .int .i64 y] W fun e w' => e = .returned (.int .i64 1) ∧ W = w') := fun W => by have := cmpInt_any x y W; rw [if_neg h, if_pos h'] at this; exact this
          clear h h'
          go_wp2_with (go_at_call 83; refine (HC.out _).mono ?_; rintro e w' ⟨rfl, rfl⟩)
          go_ret
          exact ⟨ret_int (by rw [HR.out]), rfl⟩
        · have HR : Hid (cmpL xs ys = cmpL (xs.drop (k + 1)) (ys.drop (k + 1))) := by show _ = _; rw [HS.out, HD.out, if_neg h, if_neg h']
          have HC : Hid (∀ W, Calls Tryz.prog 83 #[.int .i64 x, .int .i64 y] W fun e w' => e = .returned (.int .i64 0) ∧ W = w') := fun W => by have := cmpInt_any x y W; rw [if_neg h, if_neg h'] at this; exact this
          clear h h'
          go_wp2_with (go_at_call 83; refine (HC.out _).mono ?_; rintro e w' ⟨rfl, rfl⟩)
          go_round
          case rel => exact ⟨k + 1, by omega, by omega, HR.out, by go_num⟩
          case measure => simp [intOf]; omega
      · have HR : Hid (cmpL xs ys = 1) := by
          show _ = _
          rw [HS.out, List.drop_eq_nil_of_le (show ys.length ≤ k by omega), List.drop_eq_getElem_cons hlt]
          rfl
        go_wp2_with fail
        go_ret
        exact ⟨ret_int (by rw [HR.out]), rfl⟩
    · have HR : Hid (cmpL xs ys = if xs.length < ys.length then -1 else 0) := by
        show _ = _
        rw [HS.out, List.drop_eq_nil_of_le (show xs.length ≤ k by omega)]
        split
        · rw [List.drop_eq_getElem_cons (show k < ys.length by omega)]; rfl
        · rw [List.drop_eq_nil_of_le (show ys.length ≤ k by omega)]; rfl
      by_cases hlen : xs.length < ys.length
      · have HR2 : Hid (cmpL xs ys = -1) := HR.out.trans (if_pos hlen)
        go_wp2_with fail
        go_ret
        exact ⟨ret_int (by rw [HR2.out]), rfl⟩
      · have HR2 : Hid (cmpL xs ys = 0) := HR.out.trans (if_neg hlen)
        go_wp2_with fail
        go_ret
        exact ⟨ret_int (by rw [HR2.out]), rfl⟩
end Go.Proofs.YtfpnhgahkjglgaaGreat

/-
  Words for memory of layers 15 and 16: rows of whole numbers made at once, read and written one by one.
-/
namespace Go.Proofs.YtfpnhgahkjglgaaGreat
open Go Go.RowKit

theorem made_one (u : Value) (n : Nat) : madeCells #[u] n = (List.replicate n u).toArray := by
  unfold madeCells
  apply Array.ext
  · simp
  · intro i h1 h2
    simp [Nat.mod_one]
/-- 'make([]T, n)' of elements of one cell: the world is known. -/
theorem wpList_mk {P : Program} (w : World) {ops : Array Oper} {rest : List Oper} {o : Oper} {a : Act} {Q : Exit → Act → World → Prop}
    (hg : o.guard = none) (l c : Operand) (t : TypeId) (hop : o.op = Op.makeSlice t l c)
    (e : TypeId) (i : TypeInfo) (z u : Value) (h1 : P.underlying t = some (.slice e)) (h2 : P.info? e = some i) (h3 : i.zero = some z) (h4 : i.size = 1) (h5 : i.bytes ≤ 1000) (hz : z.cells = #[u])
    (n : Nat) (hl : a.eval l = .int .i64 (n : Int)) (hc : a.eval c = .int .i64 (n : Int)) (hn : n ≤ 1000000)
    (hK : wpList P ops Q rest (a.put o.dst (.slice (some ⟨w.heap.size, 0, none⟩) n n)) (w.alloc (.cells (List.replicate n u).toArray e))) :
    wpList P ops Q (o :: rest) a w := by
  refine wpList_plain hg fun K hK' => ?_
  have hb : (i.bytes : Int) * (n : Int) ≤ 281474976710656 := by
    have h : i.bytes * n ≤ 1000 * 1000000 := Nat.mul_le_mul h5 hn
    have : ((i.bytes * n : Nat) : Int) ≤ 281474976710656 := by omega
    rwa [Int.natCast_mul] at this
  have hr := run_make (P := P) w t e i z h1 h2 h3 .i64 .i64 (n : Int) (n : Int) (by omega) (Int.le_refl _) hb (by omega)
  rw [Int.toNat_natCast, h4, Nat.mul_one, hz, made_one] at hr
  unfold Oper.wp
  simp [execOp, hop, hl, hc, hr, Result.andThen]
  exact hK' _ _ hK
/-- A block of whole numbers. -/
def Row (w : World) (g : Nat) (xs : List Int) : Prop := Blk w g 3 (xs.map (Value.int .i64)).toArray
section
variable {w w' : World} {g : Nat} {xs : List Int}
theorem Row.lt (h : Row w g xs) : g < w.heap.size := Blk.lt h
theorem Row.cell (h : Row w g xs) {k : Nat} {x : Int} (hk : xs[k]? = some x) : w.cell? ⟨g, k, none⟩ = some (.int .i64 x) := by
  rw [Blk.cell h]
  simp [hk]
theorem Row.frozen (h : Row w g xs) (k : Nat) : w.frozen? ⟨g, k, none⟩ = false := Blk.frozen h k
theorem Row.set_ (h : Row w g xs) (k : Nat) (x : Int) : Row (w.setCell ⟨g, k, none⟩ (.int .i64 x)) g (xs.set k x) := by
  have := Blk.set_ h k (.int .i64 x)
  unfold Row
  rw [List.map_set]
  simpa using this
theorem Row.far (h : Row w g xs) {p : Addr} (hp : g ≠ p.block) (u : Value) : Row (w.setCell p u) g xs := Blk.far h hp u
theorem Row.alloc (h : Row w g xs) (o : Obj) : Row (w.alloc o) g xs := Blk.alloc h o
theorem Row.below {B : Nat} (h : Row w g xs) (hb : Below B w w') (hg : g < B) : Row w' g xs := Blk.below h hb hg
theorem Row.slr (h : Row w g xs) : SlR 1 RInt w (some ⟨g, 0, none⟩) xs := fun _ =>
  ⟨g, 0, rfl, h.lt, fun k x hx => ⟨[.int .i64 x], rfl, rfl, fun j v hj => by
    match j, hj with
    | 0, hj =>
      simp at hj
      subst hj
      have := h.cell hx
      simpa using this⟩⟩
theorem Row.new (w : World) (xs : List Int) : Row (w.alloc (.cells (xs.map (Value.int .i64)).toArray 3)) w.heap.size xs := Blk.new _ _ _
end
end Go.Proofs.YtfpnhgahkjglgaaGreat

/-
  The plain law of layer 16: the first way that is not among some ways is found by the tree of their beginnings.
-/
namespace Go.Proofs.YtfpnhgahkjglgaaGreat
open List

structure Oth where
  there : Bool
  cost : Int
  links : List Int
/-- What the other way stands for: the first of the ways S. -/
def Rep (g : Gr) (L : List (List Int)) (o : Oth) (S : List Int → Prop) : Prop :=
  (o.there = false ∧ ∀ s, ¬ S s) ∨ (o.there = true ∧ ∃ m, S m ∧ o.cost = sumC g m ∧ (∃ r, m = o.links ++ r) ∧ (∀ w ∈ L, ¬ ∃ r, w = o.links ++ r) ∧
    ∀ s, S s → sumC g m < sumC g s ∨ (sumC g m = sumC g s ∧ (m = s ∨ lexLt m s = true)))
/-- Ways that cost at least as much and come later change nothing. -/
theorem Rep.more {g : Gr} {L : List (List Int)} {o : Oth} {S T : List Int → Prop} (h : Rep g L o S) (ht : o.there = true) (hST : ∀ s, S s → T s)
    (hT : ∀ s, T s → S s ∨ (o.cost ≤ sumC g s ∧ ∀ m, S m → lexLt m s = true)) : Rep g L o T := by
  rcases h with ⟨h1, _⟩ | ⟨h1, m, h2, h3, h4, h5, h6⟩
  · rw [h1] at ht; cases ht
  · refine .inr ⟨h1, m, hST m h2, h3, h4, h5, fun s hs => ?_⟩
    rcases hT s hs with h | ⟨h7, h8⟩
    · exact h6 s h
    · rcases Int.lt_or_le (sumC g m) (sumC g s) with h9 | h9
      · exact .inl h9
      · exact .inr ⟨by omega, .inr (h8 m h2)⟩
/-- A beginning that leads to a node at a cost. -/
def PreOK (g : Gr) (p : List Int) (_v c : Int) : Prop := ∀ w, sumC g (p ++ w) = c + sumC g w
theorem PreOK.snoc {g : Gr} {p : List Int} {v c i : Int} (h : PreOK g p v c) : PreOK g (p ++ [i]) (lkAt g i).to (c + (lkAt g i).cost) := fun w => by
  rw [append_assoc, h]
  show c + ((lkAt g i).cost + sumC g w) = _
  omega
end Go.Proofs.YtfpnhgahkjglgaaGreat

/-
  The plain law of layer 16: what Check finds is what a comparison with all candidates finds.
-/
namespace Go.Proofs.YtfpnhgahkjglgaaGreat
open List

def canLt (a b : Can) : Bool := decide (a.cost < b.cost) || (decide (a.cost = b.cost) && lexLt a.links b.links)
theorem canLt_irrefl (a : Can) : canLt a a = false := by unfold canLt; simp [lex_irrefl]
def Sorted (A : List Can) : Prop := A.Pairwise (fun a b => canLt a b = true)
theorem Sorted.nodup {A : List Can} (h : Sorted A) : A.Nodup := h.imp fun {a b} hab e => by subst e; rw [canLt_irrefl] at hab; cases hab
end Go.Proofs.YtfpnhgahkjglgaaGreat

/-
  The plain law of layer 15: the reference goes through all ways, and puts them in order.
-/
namespace Go.Proofs.YtfpnhgahkjglgaaGreat
open List

theorem lvTo_len (ls : List Lk) (v : Int) : ∀ k, k ≤ ls.length → (lvTo ls v k).length = (ls.take k).countP (fun l => decide (l.fr = v)) := by
  intro k
  induction k with
  | zero => intro _; rfl
  | succ k ih =>
    intro hk
    have hl : ls[k]? = some ls[k] := List.getElem?_eq_getElem (by omega)
    rw [lvTo_succ hl, take_succ_of hl, countP_append]
    split
    · rename_i h
      rw [length_append, ih (by omega)]
      simp [h]
    · rename_i h
      rw [ih (by omega)]
      simp [h]
end Go.Proofs.YtfpnhgahkjglgaaGreat

/-
  The plain law of layer 16: the links that leave each node, counted and sorted into one list.
-/
namespace Go.Proofs.YtfpnhgahkjglgaaGreat
open List

/-- Where the links of a node begin in the list of all. -/
def stN (g : Gr) : Nat → Nat
  | 0 => 0
  | v + 1 => stN g v + (lvs g (v : Int)).length
def cntN (g : Gr) (v k : Nat) : Nat := (lvTo g.ls (v : Int) k).length
theorem countP_split (l : List Lk) (v : Int) (hv : 0 ≤ v) : l.countP (fun l => decide (0 ≤ l.fr ∧ l.fr < v + 1)) = l.countP (fun l => decide (0 ≤ l.fr ∧ l.fr < v)) + l.countP (fun l => decide (l.fr = v)) := by
  induction l with
  | nil => rfl
  | cons x l ih =>
    rw [countP_cons, countP_cons, countP_cons, ih]
    by_cases h1 : x.fr = v
    · have a1 : decide (0 ≤ x.fr ∧ x.fr < v + 1) = true := decide_eq_true (by omega)
      have a2 : decide (0 ≤ x.fr ∧ x.fr < v) = false := decide_eq_false (by omega)
      have a3 : decide (x.fr = v) = true := decide_eq_true h1
      rw [a1, a2, a3]
      simp
      omega
    · have a3 : decide (x.fr = v) = false := decide_eq_false h1
      by_cases h2 : 0 ≤ x.fr ∧ x.fr < v
      · have a1 : decide (0 ≤ x.fr ∧ x.fr < v + 1) = true := decide_eq_true (by omega)
        have a2 : decide (0 ≤ x.fr ∧ x.fr < v) = true := decide_eq_true h2
        rw [a1, a2, a3]
        simp
        omega
      · have a1 : decide (0 ≤ x.fr ∧ x.fr < v + 1) = false := decide_eq_false (by omega)
        have a2 : decide (0 ≤ x.fr ∧ x.fr < v) = false := decide_eq_false h2
        rw [a1, a2, a3]
        simp
theorem stN_count (g : Gr) : ∀ v : Nat, stN g v = g.ls.countP (fun l => decide (0 ≤ l.fr ∧ l.fr < (v : Int)))
  | 0 => by
    show 0 = _
    rw [eq_comm, countP_eq_zero]
    intro l _
    simp
  | v + 1 => by
    show stN g v + (lvs g (v : Int)).length = _
    have h := countP_split g.ls (v : Int) (by omega)
    have e : ((v + 1 : Nat) : Int) = (v : Int) + 1 := by omega
    rw [e, h, stN_count g v]
    unfold lvs
    rw [lvTo_len _ _ _ (Nat.le_refl _), take_length]
theorem stN_le (g : Gr) (v : Nat) : stN g v ≤ g.ls.length := by rw [stN_count]; exact countP_le_length
theorem stN_succ (g : Gr) (v : Nat) : stN g (v + 1) = stN g v + (lvs g (v : Int)).length := rfl
theorem stN_mono (g : Gr) {u v : Nat} (h : u ≤ v) : stN g u ≤ stN g v := by
  induction v with
  | zero => obtain rfl : u = 0 := by omega
            exact Nat.le_refl _
  | succ v ih =>
    rcases Nat.lt_or_ge u (v + 1) with h1 | h1
    · have := ih (by omega); rw [stN_succ]; omega
    · obtain rfl : u = v + 1 := by omega
      exact Nat.le_refl _
theorem cntN_le (g : Gr) (v : Nat) {k : Nat} (hk : k ≤ g.ls.length) : cntN g v k ≤ (lvs g (v : Int)).length := by
  unfold cntN lvs
  rw [lvTo_len _ _ _ hk, lvTo_len _ _ _ (Nat.le_refl _), take_length]
  exact Sublist.countP_le (take_sublist _ _)
theorem cntN_succ {g : Gr} {v k : Nat} {l : Lk} (h : g.ls[k]? = some l) : cntN g v (k + 1) = if l.fr = (v : Int) then cntN g v k + 1 else cntN g v k := by
  unfold cntN
  rw [lvTo_succ h]
  split
  · rw [length_append]; rfl
  · rfl
/-- The list of all, when k links have been put into it. -/
def AllTo (g : Gr) (k : Nat) (al : List Int) : Prop := al.length = g.ls.length ∧ ∀ (v j : Nat) (x : Int), (lvTo g.ls (v : Int) k)[j]? = some x → al[stN g v + j]? = some x
theorem AllTo.zero (g : Gr) : AllTo g 0 (replicate g.ls.length 0) := ⟨by simp, fun v j x h => by simp [lvTo] at h⟩
theorem cntN_lt {g : Gr} {k f : Nat} {l : Lk} (h : g.ls[k]? = some l) (hf : l.fr = (f : Int)) : cntN g f k < (lvs g (f : Int)).length := by
  have h1 := (List.getElem?_eq_some_iff.1 h).1
  have h2 := cntN_le g f (k := k + 1) h1
  rw [cntN_succ h, if_pos hf] at h2
  omega
theorem AllTo.step {g : Gr} {k f : Nat} {al : List Int} {l : Lk} (ha : AllTo g k al) (h : g.ls[k]? = some l) (hf : l.fr = (f : Int)) : AllTo g (k + 1) (al.set (stN g f + cntN g f k) (k : Int)) := by
  obtain ⟨h1, h2⟩ := ha
  have hlt := cntN_lt h hf
  have hkl := (List.getElem?_eq_some_iff.1 h).1
  have hs := stN_le g (f + 1)
  rw [stN_succ] at hs
  refine ⟨by rw [length_set, h1], fun v j x hx => ?_⟩
  rw [getElem?_set]
  by_cases hv : l.fr = (v : Int)
  · obtain rfl : v = f := by omega
    rw [lvTo_succ h, if_pos hf] at hx
    rcases Nat.lt_or_ge j (cntN g v k) with hj | hj
    · rw [getElem?_append_left hj] at hx
      rw [if_neg (by omega)]
      exact h2 v j x hx
    · rw [getElem?_append_right hj] at hx
      have hj2 : j = cntN g v k := by
        have := (List.getElem?_eq_some_iff.1 hx).1
        simp at this
        unfold cntN at hj ⊢
        omega
      subst hj2
      unfold cntN at hx
      simp at hx
      rw [if_pos rfl, if_pos (by omega), hx]
  · rw [lvTo_succ h, if_neg hv] at hx
    have hj := (List.getElem?_eq_some_iff.1 hx).1
    have hj2 : j < (lvs g (v : Int)).length := Nat.lt_of_lt_of_le hj (cntN_le g v (Nat.le_of_lt hkl))
    rw [if_neg]
    · exact h2 v j x hx
    · intro e
      rcases Nat.lt_or_ge v f with h3 | h3
      · have := stN_mono g (u := v + 1) (v := f) h3
        rw [stN_succ] at this
        omega
      · have h4 : f < v := by omega
        have := stN_mono g (u := f + 1) (v := v) h4
        rw [stN_succ] at this
        omega
theorem AllTo.lt {g : Gr} {k f : Nat} {al : List Int} {l : Lk} (ha : AllTo g k al) (h : g.ls[k]? = some l) (hf : l.fr = (f : Int)) : stN g f + cntN g f k < al.length := by
  have hlt := cntN_lt h hf
  have hs := stN_le g (f + 1)
  rw [stN_succ] at hs
  rw [ha.1]
  omega
end Go.Proofs.YtfpnhgahkjglgaaGreat

/-
  Words for memory of layers 15 and 16: slices of slices; parts of rows.
-/
namespace Go.Proofs.YtfpnhgahkjglgaaGreat
open Go Go.RowKit

/-- A slice that lies in one cell and reads as a list of numbers. -/
def RSl (w : World) (x : List Int) (vs : List Value) : Prop := ∃ A c, vs = [.slice A x.length c] ∧ SlR 1 RInt w A x ∧ x.length ≤ c ∧ c ≤ maxLen
theorem SlR.sl {w : World} {A : Option Addr} {xs : List (List Int)} (h : SlR 1 RSl w A xs) {k : Nat} (hk : k < xs.length) :
    ∃ b off x A' c, A = some ⟨b, off, none⟩ ∧ b < w.heap.size ∧ xs[k]? = some x ∧ w.cell? ⟨b, off + k, none⟩ = some (.slice A' x.length c) ∧ SlR 1 RInt w A' x ∧ x.length ≤ c ∧ c ≤ maxLen := by
  obtain ⟨b, off, x, vs, hA, hlt, hx, ⟨A', c, hr, hs, hl⟩, _, hv⟩ := h.at_ hk
  have h0 := hv 0 (.slice A' x.length c) (by rw [hr]; rfl)
  simp only [Nat.mul_one, Nat.add_zero] at h0
  exact ⟨b, off, x, A', c, hA, hlt, hx, h0, hs, hl⟩
/-- A part of a row, from s on. -/
theorem Row.part {w : World} {g : Nat} {al : List Int} (h : Row w g al) (s : Nat) {xs : List Int} (hx : ∀ (j : Nat) (x : Int), xs[j]? = some x → al[s + j]? = some x) : SlR 1 RInt w (some ⟨g, s, none⟩) xs := fun _ =>
  ⟨g, s, rfl, h.lt, fun k x hk => ⟨[.int .i64 x], rfl, rfl, fun j v hj => by
    match j, hj with
    | 0, hj =>
      simp at hj
      subst hj
      have := h.cell (hx k x hk)
      simpa using this⟩⟩
end Go.Proofs.YtfpnhgahkjglgaaGreat

/-
  The plain law of layer 16: bounds of potentials; the row in which they are reckoned.
-/
namespace Go.Proofs.YtfpnhgahkjglgaaGreat
open List

end Go.Proofs.YtfpnhgahkjglgaaGreat

/-
  The walks of layers 15 and 16: the cost of a way; the order of candidates; whether the other way comes before a candidate.
-/
namespace Go.Proofs.YtfpnhgahkjglgaaGreat
open Go Go.RowKit

/-- After some links: the node and the sum at hand. -/
structure CostAt (g : Gr) (done : List Int) (node sum : Int) : Prop where
  cway : ∀ r, wayB g 0 (done ++ r) = wayB g node r
  csum : ∀ r, sumC g (done ++ r) = sum + sumC g r
  lo : (done.length : Int) ≤ node
  hi : node < g.n
  s0 : 0 ≤ sum
  s1 : sum ≤ 1000000 * (done.length : Int)
theorem CostAt.zero {g : Gr} (hg : GrOK g) : CostAt g [] 0 0 := ⟨fun _ => rfl, fun r => by simp, by simp, by have := hg.n; omega, by omega, by simp⟩
theorem CostAt.step {g : Gr} (hg : GrOK g) {done : List Int} {node sum : Int} (h : CostAt g done node sum) {i : Int} (hi : 0 ≤ i ∧ i < g.ls.length) (hf : (lkAt g i).fr = node) :
    CostAt g (done ++ [i]) (lkAt g i).to (sum + (lkAt g i).cost) := by
  have hok := lkAt_ok hg hi
  have h1 := hok.lt
  have h2 := hok.to
  have h3 := hok.cost
  have h4 := h.lo
  have h5 := h.s0
  have h6 := h.s1
  refine ⟨fun r => ?_, fun r => ?_, by simp; omega, h2, by omega, by simp; omega⟩
  · rw [List.append_assoc, h.cway]
    show (decide (0 ≤ i ∧ i < g.ls.length ∧ (lkAt g i).fr = node) && wayB g (lkAt g i).to r) = _
    rw [decide_eq_true ⟨hi.1, hi.2, hf⟩]
    rfl
  · rw [List.append_assoc, h.csum]
    show sum + ((lkAt g i).cost + sumC g r) = _
    omega
end Go.Proofs.YtfpnhgahkjglgaaGreat

/-
  The walks of layer 16: how many elements at the beginning of a page are ways, each before the next one.
-/
namespace Go.Proofs.YtfpnhgahkjglgaaGreat
open Go Go.RowKit

def RCan (w : World) (x : Can) (vs : List Value) : Prop := ∃ A c, vs = [.slice A x.links.length c, .int .i64 x.cost] ∧ SlR 1 RInt w A x.links ∧ x.links.length ≤ c ∧ c ≤ maxLen
theorem SlR.can {w : World} {A : Option Addr} {xs : List Can} (h : SlR 2 RCan w A xs) {k : Nat} (hk : k < xs.length) :
    ∃ b off x A' c, A = some ⟨b, off, none⟩ ∧ b < w.heap.size ∧ xs[k]? = some x ∧ w.cell? ⟨b, off + k * 2, none⟩ = some (.slice A' x.links.length c) ∧ w.cell? ⟨b, off + k * 2 + 1, none⟩ = some (.int .i64 x.cost) ∧ SlR 1 RInt w A' x.links ∧ x.links.length ≤ c ∧ c ≤ maxLen := by
  obtain ⟨b, off, x, vs, hA, hlt, hx, ⟨A', c, hr, hs, hl⟩, _, hv⟩ := h.at_ hk
  exact ⟨b, off, x, A', c, hA, hlt, hx, hv 0 _ (by rw [hr]; rfl), hv 1 _ (by rw [hr]; rfl), hs, hl⟩
end Go.Proofs.YtfpnhgahkjglgaaGreat

/-
  A region that draws its order and holds chains that may come up in any order beside each other: one condition for each state of the chains, one proof for each operation.
-/
namespace Go.Proofs.YtfpnhgahkjglgaaGreat
open Go Go.RowKit

/-- All blocks but g are as they were. -/
def Far (g : Nat) (w w' : World) : Prop := ∀ b, b ≠ g → w'.heap[b]? = w.heap[b]?
theorem Far.cell {g : Nat} {w w' : World} (h : Far g w w') : ∀ b o, b ≠ g → w'.cell? ⟨b, o, none⟩ = w.cell? ⟨b, o, none⟩ := fun b _ hb => World.cell?_of_block (h b hb)
theorem Far.set {g : Nat} {w w' : World} (h : Far g w w') (o : Nat) (v : Value) : Far g w (w'.setCell ⟨g, o, none⟩ v) := fun b hb => (Below.heap_setCell w' ⟨g, o, none⟩ v b hb).trans (h b hb)
/-- What some slots of a frame of N slots hold. -/
def Slots (N : Nat) (a : Act) (l : List (Nat × Value)) : Prop := a.tmps.size = N ∧ a.defers = [] ∧ ∀ kv ∈ l, a.tmps.getD kv.1 undef = kv.2
section
variable {N : Nat} {a : Act} {l : List (Nat × Value)}
theorem Slots.at_ (h : Slots N a l) {k : Nat} {v : Value} (hm : (k, v) ∈ l) : a.tmps.getD k undef = v := h.2.2 (k, v) hm
theorem Slots.put (h : Slots N a l) (d : Nat) (v : Value) (hd : ∀ kv ∈ l, kv.1 ≠ d) : Slots N (a.put (some d) v) l := by
  obtain ⟨h1, h2, h3⟩ := h
  refine ⟨by simp [Act.put, h1], h2, fun kv hkv => ?_⟩
  have := h3 kv hkv
  have hne := hd kv hkv
  simp only [Act.put, Array.getD_eq_getD_getElem?] at this ⊢
  rw [Array.getElem?_setIfInBounds_ne (Ne.symm hne)]
  exact this
theorem Slots.add (h : Slots N a l) (d : Nat) (v : Value) (hd : d < N) (hn : ∀ kv ∈ l, kv.1 ≠ d) : Slots N (a.put (some d) v) ((d, v) :: l) := by
  obtain ⟨h1, h2, h3⟩ := h.put d v hn
  refine ⟨h1, h2, fun kv hkv => ?_⟩
  rcases List.mem_cons.1 hkv with rfl | hkv
  · simp [Act.put, h.1, hd]
  · exact h3 kv hkv
end
theorem slr_cells_ {α : Type} {s : Nat} {R : World → α → List Value → Prop} {enc : α → List Value} {w : World} {a : Addr} {xs : List α} (h : SlR s R w (some a) xs) (_hs : 0 < s) (hR : ∀ w x vs, R w x vs → vs = enc x) :
    ∀ j u, (xs.flatMap enc)[j]? = some u → w.cell? (a.add j) = some u := by
  by_cases hn : xs = []
  · subst hn; intro j u hj; simp at hj
  · obtain ⟨b, off, ha, _, hc⟩ := h hn
    injection ha with ha
    subst ha
    have key : ∀ (l : List α) (o : Nat), (∀ k x, l[k]? = some x → (enc x).length = s ∧ ∀ j v, (enc x)[j]? = some v → w.cell? ⟨b, o + k * s + j, none⟩ = some v) → ∀ j u, (l.flatMap enc)[j]? = some u → w.cell? ⟨b, o + j, none⟩ = some u := by
      intro l
      induction l with
      | nil => intro o _ j u hj; simp at hj
      | cons x l ih =>
        intro o hl j u hj
        obtain ⟨h0, h1⟩ := hl 0 x rfl
        rw [List.flatMap_cons] at hj
        rcases Nat.lt_or_ge j (enc x).length with hlt | hge
        · rw [List.getElem?_append_left hlt] at hj
          have := h1 j u hj
          simpa using this
        · rw [List.getElem?_append_right hge] at hj
          have := ih (o + s) (fun k y hy => by
            obtain ⟨h2, h3⟩ := hl (k + 1) y (by simpa using hy)
            refine ⟨h2, fun j v hv => ?_⟩
            have := h3 j v hv
            rwa [show o + (k + 1) * s + j = o + s + k * s + j by rw [Nat.add_mul]; omega] at this) (j - (enc x).length) u hj
          rwa [show o + s + (j - (enc x).length) = o + j by omega] at this
    intro j u hj
    rw [add_mk]
    refine key xs off (fun k x hx => ?_) j u hj
    obtain ⟨vs, hr, hl, hv⟩ := hc k x hx
    have := hR _ _ _ hr
    subst this
    exact ⟨hl, hv⟩

theorem flatMap_len_ {α β : Type} {s : Nat} {enc : α → List β} (h : ∀ x, (enc x).length = s) (xs : List α) : (xs.flatMap enc).length = xs.length * s := by
  induction xs with
  | nil => simp
  | cons x l ih => rw [List.flatMap_cons, List.length_append, h, ih, List.length_cons, Nat.add_mul]; omega
section
variable {P : Program} {ops : Array Oper} {Q : Exit → Act → World → Prop} {S : World → Prop} {ts : List Nat}
theorem run_append_of_nil (w : World) (base : Nat) (t ty e : TypeId) (i : TypeInfo) (size : Nat) (ht : P.underlying t = some (.slice e)) (hi : P.info? e = some i)
    (v : Value) (n : Nat) (xs : List Value) (hown : w.ownsRow base e size v n xs) (c : Nat) : (Builtin.append_ #[t, t] ty #[v, .slice none 0 c]).run P w = .ok v w := by
  rcases hown.2 with ⟨rfl, rfl⟩ | ⟨g, cap, cur, rfl, _, _, hnc, _⟩
  · simp [Builtin.append_, run_underlying ht, sizeOf, typeInfo, hi, Builtin.lenOf, Builtin.firstCells]
  · simp [Builtin.append_, run_underlying ht, sizeOf, typeInfo, hi, Builtin.lenOf, Builtin.firstCells, hnc, storeCells]
/-- 'append(out, xs...)' onto a row of the call's own, xs in any memory. -/
theorem wp_appS {α : Type} {enc : α → List Value} {R : World → α → List Value → Prop} {o : Oper} {a : Act} {K : Act → World → Prop} {w : World} (s x : Operand) (t : TypeId)
    (ho : o.op = .call { callee := .builtin .append, args := #[s, x], argTypes := #[t, t] })
    (base : Nat) (e : TypeId) (i : TypeInfo) (z : Value) (size bytes : Nat) (ht : P.underlying t = some (.slice e)) (hi : P.info? e = some i) (hz : i.zero = some z)
    (hsize : i.size = size) (hby : i.bytes = bytes) (hzs : z.cells.size = size) (hsz : 0 < size)
    (v : Value) (n : Nat) (xs : List Value) (hs : a.eval s = v) (hown : w.ownsRow base e size v n xs)
    (A : Option Addr) (c : Nat) (ys : List α) (hx : a.eval x = .slice A ys.length c) (hr : SlR size R w A ys) (hR : ∀ w x vs, R w x vs → vs = enc x) (hl : ∀ x, (enc x).length = size) (h1 : ∀ u ∈ ys.flatMap enc, u.oneCell' = true)
    (hn : n + ys.length ≤ 1000000) (hbb : bytes ≤ 1000) (hbase : base ≤ w.heap.size)
    (h : ∀ v' w', w'.ownsRow base e size v' (n + ys.length) (xs ++ ys.flatMap enc) → Below base w w' → Apps w w' v v' → K (a.put o.dst v') w') : o.wp P a w K Q := by
  have hb1 : (n + ys.length) * bytes ≤ 1000000 * 1000 := Nat.mul_le_mul hn hbb
  have key : ∃ v' w', (Builtin.append_ #[t, t] o.type #[v, .slice A ys.length c]).run P w = .ok v' w' ∧ w'.ownsRow base e size v' (n + ys.length) (xs ++ ys.flatMap enc) ∧ w.grownBy w' v.ownBlock ∧ (v'.ownBlock = v.ownBlock ∨ v'.ownBlock = some w.heap.size) := by
    rcases A with _ | ad
    · have hy : ys = [] := Classical.byContradiction fun hne => by obtain ⟨_, _, h, _⟩ := hr hne; cases h
      subst hy
      exact ⟨v, w, run_append_of_nil w base t o.type e i size ht hi v n xs hown c, by simpa using hown, World.grownBy.refl w _, .inl rfl⟩
    · obtain ⟨v', w', hrun, h2, h3, _, h5⟩ := run_append_own_at (P := P) w base t o.type e i z size bytes ht hi hz hsize hby hzs hsz v n xs hown ad ys.length c (ys.flatMap enc) (flatMap_len_ hl ys) (slr_cells_ hr hsz hR) h1 (by unfold maxLen; omega) (by omega) hbase
      exact ⟨v', w', hrun, h2, h3, h5⟩
  obtain ⟨v', w', hrun, h2, h3, h5⟩ := key
  unfold Oper.wp execOp
  simp only [ho, resolve, invoke, builtin, Sem.run_bind, Sem.run_pure, Result.andThen_ok, List.map_toArray, List.map_cons, List.map_nil, hs, hx, hrun]
  refine h v' w' h2 ((Below.refl _ _).grown h3 hbase (own_block_le hown)) ⟨fun k hk hne => h3.block k hk (fun e => hne e.symm), ?_⟩
  rcases h5 with h5 | h5
  · exact .inl h5
  · exact .inr ⟨_, h5, Nat.le_refl _⟩
end
end Go.Proofs.YtfpnhgahkjglgaaGreat
