/-
  OuBfs, CostWalkN, CostWalkP, GrWalkB, GrWalkF, GrMem, GrCheck, GrAll, GrWays, GrLeav, GrSl, GrPot, GrWalkI, GrWalkJ, OrdI, GrMc, joined. No conditions.
-/
import Derived.Test.YtfpnhgahkjglgaaGreatF01
import Derived.Test.YtfpnhgahkjglgaaGreatF05
import Derived.WalkSpells
import Derived.OwnWalk
import Derived.Test.YtfpnhgahkjglgaaGreatF06
import Derived.WalkMore
set_option maxRecDepth 100000
namespace Go.Proofs.YtfpnhgahkjglgaaGreat
open List
structure BF (s : Sc) (st : Int) (f : Int → Bool) (q : List Int) : Prop where
 rch : ∀ k, 0 ≤ k → k < 8 → f k = true → k = st ∨ Mt s st k
 nod : q.Nodup
 ins : ∀ k ∈ q, (0 ≤ k ∧ k < 8) ∧ f k = true
 st8 : (0 ≤ st ∧ st < 8) ∧ f st = true
def Cl (s : Sc) (st : Int) (f : Int → Bool) (q : List Int) (P : Int → Ru → Prop) : Prop := ∀ k, 0 ≤ k → k < 8 → f k = true → k ∉ q → ∀ r ∈ s.rs, r.fr = k → r.mute = true → P k r → f r.to = true ∧ r.to ≠ st
theorem bf_start {s : Sc} {st : Int} (h : 0 ≤ st ∧ st < 8) : BF s st (fun m => decide (m = st)) [st] :=
 ⟨fun k _ _ hk => .inl (by simpa using hk), pairwise_singleton _ _, fun k hk => by rw [mem_singleton.1 hk]; exact ⟨h, by simp⟩, h, by simp⟩
theorem cl_start {s : Sc} {st : Int} : Cl s st (fun m => decide (m = st)) [st] (fun _ _ => True) := fun k _ _ hk hn => absurd (mem_singleton.2 (by simpa using hk)) hn
theorem bf_pop {s : Sc} {st k : Int} {f : Int → Bool} {q : List Int} (h : BF s st f (k :: q)) : BF s st f q := ⟨h.rch, (nodup_cons.1 h.nod).2, fun x hx => h.ins x (mem_cons_of_mem _ hx), h.st8⟩
theorem cl_pop {s : Sc} {st k : Int} {f : Int → Bool} {q : List Int} (h : Cl s st f (k :: q) (fun _ _ => True)) : Cl s st f q (fun x r => x = k → r ∈ s.rs.take 0) := fun x h0 h1 hx hn r hr e hm hp => by
 by_cases e2 : x = k
 ·have := hp e2
  rw [take_zero] at this
  cases this
 ·exact h x h0 h1 hx (fun hm => (mem_cons.1 hm).elim e2 hn) r hr e hm trivial
theorem cl_next {s : Sc} {st m : Int} {f : Int → Bool} {q : List Int} {k : Nat} {r : Ru} (h : Cl s st f q (fun x r => x = m → r ∈ s.rs.take k)) (hr : s.rs[k]? = some r) (ho : r.fr = m → r.mute = true → f r.to = true ∧ r.to ≠ st) : Cl s st f q (fun x r => x = m → r ∈ s.rs.take (k + 1)) := fun x h0 h1 hx hn t ht e hm hp => by
 by_cases e2 : x = m
 ·have h2 := hp e2
  rw [take_add_one, hr] at h2
  rcases mem_append.1 h2 with h2 | h2
  ·exact h x h0 h1 hx hn t ht e hm (fun _ => h2)
  ·have e3 : t = r := by simpa using h2
   subst e3
   exact ho (by rw [e, e2]) hm
 ·exact h x h0 h1 hx hn t ht e hm (fun e3 => absurd e3 e2)
theorem cl_all {s : Sc} {st m : Int} {f : Int → Bool} {q : List Int} (h : Cl s st f q (fun x r => x = m → r ∈ s.rs.take s.rs.length)) : Cl s st f q (fun _ _ => True) := fun x h0 h1 hx hn r hr e hm _ => h x h0 h1 hx hn r hr e hm (fun _ => by rw [take_length]; exact hr)
theorem bf_push {s : Sc} {st m : Int} {f : Int → Bool} {q : List Int} {r : Ru} (h : BF s st f q) (hr : r ∈ s.rs) (hm : r.mute = true) (hf : r.fr = m) (h8 : 0 ≤ m ∧ m < 8) (hfm : f m = true) (hn : f r.to = false) (ht : 0 ≤ r.to ∧ r.to < 8) : BF s st (addB f r.to) (q ++ [r.to]) := by
 have hadd : ∀ k, addB f r.to k = true ↔ k = r.to ∨ f k = true := fun k => by unfold addB; rw [Bool.or_eq_true, decide_eq_true_iff]
 refine ⟨fun k h0 h1 hk => ?_, nodup_append.2 ⟨h.nod, pairwise_singleton _ _, fun a ha b hb e => ?_⟩, fun k hk => ?_, h.st8.1, (hadd _).2 (.inr h.st8.2)⟩
 ·rcases (hadd k).1 hk with rfl | hk
  ·right
   rcases h.rch m h8.1 h8.2 hfm with e | e
   ·exact .one hr hm (by rw [hf, e])
   ·exact .more e hr hm hf
  ·exact h.rch k h0 h1 hk
 ·rw [mem_singleton.1 hb] at e
  have := (h.ins a ha).2
  rw [e, hn] at this
  cases this
 ·rcases mem_append.1 hk with hk | hk
  ·exact ⟨(h.ins k hk).1, (hadd k).2 (.inr (h.ins k hk).2)⟩
  ·rw [mem_singleton.1 hk]
   exact ⟨ht, (hadd _).2 (.inl rfl)⟩
theorem cl_push {s : Sc} {st t : Int} {f : Int → Bool} {q : List Int} {P : Int → Ru → Prop} (h : Cl s st f q P) : Cl s st (addB f t) (q ++ [t]) P := fun k h0 h1 hk hn r hr e hm hp => by
 have hk2 : f k = true := by
  unfold addB at hk
  rw [Bool.or_eq_true, decide_eq_true_iff] at hk
  rcases hk with rfl | hk
  ·exact absurd (mem_append_right _ (mem_singleton.2 rfl)) hn
  ·exact hk
 obtain ⟨h2, h3⟩ := h k h0 h1 hk2 (fun hx => hn (mem_append_left _ hx)) r hr e hm hp
 exact ⟨by unfold addB; rw [h2, Bool.or_true], h3⟩
theorem bf_done {s : Sc} {st : Int} {f : Int → Bool} (hb : BF s st f []) (hc : Cl s st f [] (fun _ _ => True)) (hm : ∀ r ∈ s.rs, (0 ≤ r.fr ∧ r.fr < 8) ∧ 0 ≤ r.to ∧ r.to < 8) : ¬ Mt s st st := by
 have key : ∀ t, Mt s st t → (0 ≤ t ∧ t < 8) ∧ f t = true ∧ t ≠ st := by
  intro t ht
  induction ht with
  | one h1 h2 h3 =>
   have h8 := hm _ h1
   exact ⟨h8.2, hc st hb.st8.1.1 hb.st8.1.2 hb.st8.2 (fun h => nomatch h) _ h1 h3 h2 trivial⟩
  | more _ h1 h2 h3 ih => exact ⟨(hm _ h1).2, hc _ ih.1.1 ih.1.2 ih.2.1 (fun h => nomatch h) _ h1 h3 h2 trivial⟩
 exact fun h => (key st h).2.2 rfl
theorem bf_found {s : Sc} {st m : Int} {f : Int → Bool} {q : List Int} {r : Ru} (h : BF s st f q) (hr : r ∈ s.rs) (hm : r.mute = true) (hf : r.fr = m) (h8 : 0 ≤ m ∧ m < 8) (hfm : f m = true) (ht : r.to = st) : Mt s st st := by
 rw [← ht]
 rcases h.rch m h8.1 h8.2 hfm with e | e
 ·rw [ht]
  have := Mt.one hr hm (by rw [hf, e] : r.fr = st)
  rwa [ht] at this
 ·rw [ht]
  have := Mt.more e hr hm hf
  rwa [ht] at this
theorem bf_len {s : Sc} {st : Int} {f : Int → Bool} {q : List Int} (h : BF s st f q) : q.length ≤ cntB 8 f := by
 have h1 : (q.map Int.toNat).length ≤ ((range 8).filter fun i : Nat => f (i : Int)).length := by
  refine nodup_le ?_ fun k hk => ?_
  ·unfold Nodup
   rw [pairwise_map]
   refine h.nod.imp_of_mem fun {a b} ha hb hne e => hne ?_
   have h1 := (h.ins a ha).1
   have h2 := (h.ins b hb).1
   omega
  ·obtain ⟨x, hx, rfl⟩ := mem_map.1 hk
   obtain ⟨h1, h2⟩ := h.ins x hx
   refine mem_filter.2 ⟨mem_range.2 (by omega), ?_⟩
   rw [Int.toNat_of_nonneg h1.1]
   exact h2
 rw [length_map] at h1
 unfold cntB
 rw [countP_eq_length_filter]
 exact h1
theorem cnt_add {f : Int → Bool} {k : Int} (hk : 0 ≤ k ∧ k < 8) (hn : f k = false) : cntB 8 f < cntB 8 (addB f k) :=
 cnt_lt (fun x hx => by unfold addB; rw [hx, Bool.or_true]) hk hn (by unfold addB; simp)
end Go.Proofs.YtfpnhgahkjglgaaGreat
namespace Go.Proofs.YtfpnhgahkjglgaaGreat
open Go Go.RowKit
theorem slr_cells {α : Type} {s : Nat} {R : World → α → List Value → Prop} {enc : α → List Value} {w : World} {a : Addr} {xs : List α} (h : SlR s R w (some a) xs) (_hs : 0 < s) (hR : ∀ w x vs, R w x vs → vs = enc x) :
 ∀ j u, (xs.flatMap enc)[j]? = some u → w.cell? (a.add j) = some u := by
 by_cases hn : xs = []
 ·subst hn; intro j u hj; simp at hj
 ·obtain ⟨b, off, ha, _, hc⟩ := h hn
  injection ha with ha
  subst ha
  have key : ∀ (l : List α) (o : Nat), (∀ k x, l[k]? = some x → (enc x).length = s ∧ ∀ j v, (enc x)[j]? = some v → w.cell? ⟨b, o + k * s + j, none⟩ = some v) → ∀ j u, (l.flatMap enc)[j]? = some u → w.cell? ⟨b, o + j, none⟩ = some u := by
   intro l
   induction l with
   | nil => intro o _ j u hj; simp at hj
   | cons x l ih =>
    intro o hl j u hj
    obtain ⟨h0, h1⟩ := hl 0 x rfl
    rw [List.flatMap_cons] at hj
    rcases Nat.lt_or_ge j (enc x).length with hlt | hge
    ·rw [List.getElem?_append_left hlt] at hj
     have := h1 j u hj
     simpa using this
    ·rw [List.getElem?_append_right hge] at hj
     have := ih (o + s) (fun k y hy => by
      obtain ⟨h2, h3⟩ := hl (k + 1) y (by simpa using hy)
      refine ⟨h2, fun j v hv => ?_⟩
      have := h3 j v hv
      rwa [show o + (k + 1) * s + j = o + s + k * s + j by rw [Nat.add_mul]; omega] at this) (j - (enc x).length) u hj
     rwa [show o + s + (j - (enc x).length) = o + j by omega] at this
  intro j u hj
  rw [add_mk]
  refine key xs off (fun k x hx => ?_) j u hj
  obtain ⟨vs, hr, hl, hv⟩ := hc k x hx
  have := hR _ _ _ hr
  subst this
  exact ⟨hl, hv⟩
theorem flatMap_len {α β : Type} {s : Nat} {enc : α → List β} (h : ∀ x, (enc x).length = s) (xs : List α) : (xs.flatMap enc).length = xs.length * s := by
 induction xs with
 | nil => simp
 | cons x l ih => rw [List.flatMap_cons, List.length_append, h, ih, List.length_cons, Nat.add_mul]; omega
theorem wpList_appN {P : Program} {ops : Array Oper} {rest : List Oper} {o : Oper} {a : Act} {Q : Exit → Act → World → Prop} {w : World} (hgd : o.guard = none) (s x : Operand) (t : TypeId)
 (ho : o.op = .call { callee := .builtin .append, args := #[s, x], argTypes := #[t, t] })
 (base : Nat) (e : TypeId) (i : TypeInfo) (z : Value) (size bytes : Nat) (ht : P.underlying t = some (.slice e)) (hi : P.info? e = some i) (hz : i.zero = some z)
 (hsize : i.size = size) (hby : i.bytes = bytes) (hzs : z.cells.size = size) (hsz : 0 < size)
 (v : Value) (n : Nat) (xs : List Value) (hs : a.eval s = v) (hown : w.ownsRow base e size v n xs)
 (ad : Addr) (m c : Nat) (news : List Value) (hx : a.eval x = .slice (some ad) m c) (hl : news.length = m * size) (hnews : ∀ j u, news[j]? = some u → w.cell? (ad.add j) = some u) (h1 : ∀ u ∈ news, u.oneCell' = true)
 (hn : n + m ≤ 1000000) (hbb : bytes ≤ 1000) (hbase : base ≤ w.heap.size)
 (h : ∀ v' w', w'.ownsRow base e size v' (n + m) (xs ++ news) → Below base w w' → Apps w w' v v' → wpList P ops Q rest (a.put o.dst v') w') : wpList P ops Q (o :: rest) a w := by
 have hb1 : (n + m) * bytes ≤ 1000000 * 1000 := Nat.mul_le_mul hn hbb
 refine wpList_plain hgd fun K hK => ?_
 obtain ⟨v', w', hrun, h2, h3, _, h5⟩ := run_append_own_at (P := P) w base t o.type e i z size bytes ht hi hz hsize hby hzs hsz v n xs hown ad m c news hl hnews h1 (by unfold maxLen; omega) (by omega) hbase
 unfold Oper.wp execOp
 simp only [ho, resolve, invoke, builtin, Sem.run_bind, Sem.run_pure, Result.andThen_ok, List.map_toArray, List.map_cons, List.map_nil, hs, hx, hrun]
 refine hK _ _ (h v' w' h2 ((Below.refl _ _).grown h3 hbase (own_block_le hown)) ⟨fun k hk hne => h3.block k hk (fun e => hne e.symm), ?_⟩)
 rcases h5 with h5 | h5
 ·exact .inl h5
 ·exact .inr ⟨_, h5, Nat.le_refl _⟩
theorem cloneI_info : (Tryz.prog.info? 3).map (fun i => (i.zero, i.size, i.bytes)) = some (some (.int .i64 0), 1, 8) := by kernel_rfl
set_option maxHeartbeats 1000000 in
theorem cloneI_any (A : Option Addr) (xs : List Int) (c : Nat) (w : World) (hx : SlR 1 RInt w A xs) (hl : xs.length ≤ 65536) :
 Calls Tryz.prog 113 #[.slice A xs.length c] w fun e w' => ∃ v, e = .returned v ∧ w'.ownsRow w.heap.size 3 1 v xs.length (xs.flatMap (fun x => [Value.int .i64 x])) ∧ Below w.heap.size w w' := by
 obtain ⟨i0, hi, hz0, hz1, hz2⟩ := info_parts cloneI_info
 rcases A with _ | a
 ·have h0 : xs = [] := Classical.byContradiction fun hn => by obtain ⟨_, _, h, _⟩ := hx hn; cases h
  subst h0
  have hnil := Lib.run_eql_slice_nil (P := Tryz.prog) w 99 3 none 0 c 0 0 Tryz.underlying99
  go_enter Tryz.func113, Tryz.ntmps113
  go_wp2_with fail
  go_ret
  exact ⟨_, rfl, own_nil _ _ _ _, Below.refl _ _⟩
 ·have hnil := Lib.run_eql_slice_nil (P := Tryz.prog) w 99 3 (some a) xs.length c 0 0 Tryz.underlying99
  have HC := Lib.hid (slr_cells (enc := (fun x => [Value.int .i64 x])) (hx.below keeps_int ((Below.refl _ _).alloc (Nat.le_refl _) (.cells #[] 3))) (by decide) (fun _ _ _ h => h))
  have HL := Lib.hid (show (xs.flatMap (fun x => [Value.int .i64 x])).length = xs.length * 1 from flatMap_len (s := 1) (enc := (fun x => [Value.int .i64 x])) (fun _ => rfl) xs)
  go_enter Tryz.func113, Tryz.ntmps113
  go_wp2_with (first | (at_builtin; refine wpList_appN rfl _ _ 99 rfl w.heap.size 3 i0 _ 1 8 Tryz.underlying99 hi hz0 hz1 hz2 rfl (by decide) (.slice (some ⟨w.heap.size, 0, none⟩) 0 0) 0 [] rfl (own_empty w 3 1 w.heap.size (Nat.le_refl _)) a xs.length c (xs.flatMap (fun x => [Value.int .i64 x])) rfl HL.out HC.out (fun u hu => by obtain ⟨x, _, hx⟩ := List.mem_flatMap.1 hu; simp at hx; rcases hx with rfl <;> rfl) (by omega) (by decide) (by simp) ?_; intro v1 w1 hown1 hb1 ha1))
  go_ret
  exact ⟨_, rfl, by simpa using hown1, ((Below.refl _ _).alloc (Nat.le_refl _) _).trans hb1⟩
def cmpL : List Int → List Int → Int
 | [], [] => 0
 | [], _ :: _ => -1
 | _ :: _, [] => 1
 | a :: x, b :: y => if a < b then -1 else if b < a then 1 else cmpL x y
theorem cmpL_drop {xs ys : List Int} {k : Nat} {x y : Int} (hx : xs[k]? = some x) (hy : ys[k]? = some y) : cmpL (xs.drop k) (ys.drop k) = if x < y then -1 else if y < x then 1 else cmpL (xs.drop (k + 1)) (ys.drop (k + 1)) := by
 obtain ⟨h1, rfl⟩ := List.getElem?_eq_some_iff.1 hx
 obtain ⟨h2, rfl⟩ := List.getElem?_eq_some_iff.1 hy
 rw [List.drop_eq_getElem_cons h1, List.drop_eq_getElem_cons h2]
 rfl
theorem cmpInt_any (x y : Int) (w : World) : Calls Tryz.prog 83 #[.int .i64 x, .int .i64 y] w fun e w' => e = .returned (.int .i64 (if x < y then -1 else if y < x then 1 else 0)) ∧ w = w' := by
 have hn : ∀ (x : Int) (w : World), Calls Tryz.prog 109 #[.int .i64 x] w fun e w' => e = .returned (.bool false) ∧ w = w' := fun x w => by
  go_enter Tryz.func109, Tryz.ntmps109
  go_wp2_with fail
  go_ret
  exact ⟨rfl, rfl⟩
 have HN := Lib.hid hn
 clear hn
 obtain h | ⟨h, h'⟩ | ⟨h, h'⟩ : x < y ∨ (¬ x < y ∧ y < x) ∨ (¬ x < y ∧ ¬ y < x) := by omega
 all_goals
  go_enter Tryz.func83, Tryz.ntmps83
  go_wp2_with (go_at_call 109; refine (HN.out _ _).mono ?_; rintro e w' ⟨rfl, rfl⟩)
  go_ret
  exact ⟨ret_int (by first | (simp; done) | (simp; omega) | (simp [*]; done)), rfl⟩
set_option maxHeartbeats 4000000 in
theorem compare_any (A B : Option Addr) (xs ys : List Int) (c d : Nat) (w : World) (hx : SlR 1 RInt w A xs) (hy : SlR 1 RInt w B ys) (hl : xs.length ≤ maxLen) (hl2 : ys.length ≤ maxLen) :
 Calls Tryz.prog 114 #[.slice A xs.length c, .slice B ys.length d] w fun e w' => e = .returned (.int .i64 (cmpL xs ys)) ∧ w = w' := by
 unfold maxLen at hl hl2
 go_enter Tryz.func114, Tryz.ntmps114
 go_wp2_with fail
 go_loop [11] (fun i => ∃ k : Nat, k ≤ xs.length ∧ k ≤ ys.length ∧ Hid (cmpL xs ys = cmpL (xs.drop k) (ys.drop k)) ∧ i = .int .i64 k) (fun i => xs.length - (intOf i).toNat)
 case atStart => exact ⟨0, by omega, by omega, rfl, rfl⟩
 case round =>
  obtain ⟨k, hk, hk2, HS, rfl⟩ := hrel
  by_cases hlt : k < xs.length
  ·obtain ⟨b, off, x, rfl, hbb, hxx, hc0⟩ := hx.int hlt
   by_cases hlt2 : k < ys.length
   ·obtain ⟨b', off', y, rfl, hbb', hyy, hd0⟩ := hy.int hlt2
    have HD := Lib.hid (cmpL_drop hxx hyy)
    clear hxx hyy
    obtain h | ⟨h, h'⟩ | ⟨h, h'⟩ : x < y ∨ (¬ x < y ∧ y < x) ∨ (¬ x < y ∧ ¬ y < x) := by omega
    ·have HR : Hid (cmpL xs ys = -1) := by show _ = _; rw [HS.out, HD.out, if_pos h]
     have HC : Hid (∀ W, Calls Tryz.prog 83 #[.int .i64 x, .int .i64 y] W fun e w' => e = .returned (.int .i64 (-1)) ∧ W = w') := fun W => by have := cmpInt_any x y W; rw [if_pos h] at this; exact this
     clear h
     go_wp2_with (go_at_call 83; refine (HC.out _).mono ?_; rintro e w' ⟨rfl, rfl⟩)
     go_ret
     exact ⟨ret_int (by rw [HR.out]), rfl⟩
    ·have HR : Hid (cmpL xs ys = 1) := by show _ = _; rw [HS.out, HD.out, if_neg h, if_pos h']
     have HC : Hid (∀ W, Calls Tryz.prog 83 #[.int .i64 x, .int .i64 y] W fun e w' => e = .returned (.int .i64 1) ∧ W = w') := fun W => by have := cmpInt_any x y W; rw [if_neg h, if_pos h'] at this; exact this
     clear h h'
     go_wp2_with (go_at_call 83; refine (HC.out _).mono ?_; rintro e w' ⟨rfl, rfl⟩)
     go_ret
     exact ⟨ret_int (by rw [HR.out]), rfl⟩
    ·have HR : Hid (cmpL xs ys = cmpL (xs.drop (k + 1)) (ys.drop (k + 1))) := by show _ = _; rw [HS.out, HD.out, if_neg h, if_neg h']
     have HC : Hid (∀ W, Calls Tryz.prog 83 #[.int .i64 x, .int .i64 y] W fun e w' => e = .returned (.int .i64 0) ∧ W = w') := fun W => by have := cmpInt_any x y W; rw [if_neg h, if_neg h'] at this; exact this
     clear h h'
     go_wp2_with (go_at_call 83; refine (HC.out _).mono ?_; rintro e w' ⟨rfl, rfl⟩)
     go_round
     case rel => exact ⟨k + 1, by omega, by omega, HR.out, by go_num⟩
     case measure => simp [intOf]; omega
   ·have HR : Hid (cmpL xs ys = 1) := by
     show _ = _
     rw [HS.out, List.drop_eq_nil_of_le (show ys.length ≤ k by omega), List.drop_eq_getElem_cons hlt]
     rfl
    go_wp2_with fail
    go_ret
    exact ⟨ret_int (by rw [HR.out]), rfl⟩
  ·have HR : Hid (cmpL xs ys = if xs.length < ys.length then -1 else 0) := by
    show _ = _
    rw [HS.out, List.drop_eq_nil_of_le (show xs.length ≤ k by omega)]
    split
    ·rw [List.drop_eq_getElem_cons (show k < ys.length by omega)]; rfl
    ·rw [List.drop_eq_nil_of_le (show ys.length ≤ k by omega)]; rfl
   by_cases hlen : xs.length < ys.length
   ·have HR2 : Hid (cmpL xs ys = -1) := HR.out.trans (if_pos hlen)
    go_wp2_with fail
    go_ret
    exact ⟨ret_int (by rw [HR2.out]), rfl⟩
   ·have HR2 : Hid (cmpL xs ys = 0) := HR.out.trans (if_neg hlen)
    go_wp2_with fail
    go_ret
    exact ⟨ret_int (by rw [HR2.out]), rfl⟩
theorem made_one (u : Value) (n : Nat) : madeCells #[u] n = (List.replicate n u).toArray := by
 unfold madeCells
 apply Array.ext
 ·simp
 ·intro i h1 h2
  simp [Nat.mod_one]
theorem wpList_mk {P : Program} (w : World) {ops : Array Oper} {rest : List Oper} {o : Oper} {a : Act} {Q : Exit → Act → World → Prop}
 (hg : o.guard = none) (l c : Operand) (t : TypeId) (hop : o.op = Op.makeSlice t l c)
 (e : TypeId) (i : TypeInfo) (z u : Value) (h1 : P.underlying t = some (.slice e)) (h2 : P.info? e = some i) (h3 : i.zero = some z) (h4 : i.size = 1) (h5 : i.bytes ≤ 1000) (hz : z.cells = #[u])
 (n : Nat) (hl : a.eval l = .int .i64 (n : Int)) (hc : a.eval c = .int .i64 (n : Int)) (hn : n ≤ 1000000)
 (hK : wpList P ops Q rest (a.put o.dst (.slice (some ⟨w.heap.size, 0, none⟩) n n)) (w.alloc (.cells (List.replicate n u).toArray e))) :
 wpList P ops Q (o :: rest) a w := by
 refine wpList_plain hg fun K hK' => ?_
 have hb : (i.bytes : Int) * (n : Int) ≤ 281474976710656 := by
  have h : i.bytes * n ≤ 1000 * 1000000 := Nat.mul_le_mul h5 hn
  have : ((i.bytes * n : Nat) : Int) ≤ 281474976710656 := by omega
  rwa [Int.natCast_mul] at this
 have hr := run_make (P := P) w t e i z h1 h2 h3 .i64 .i64 (n : Int) (n : Int) (by omega) (Int.le_refl _) hb (by omega)
 rw [Int.toNat_natCast, h4, Nat.mul_one, hz, made_one] at hr
 unfold Oper.wp
 simp [execOp, hop, hl, hc, hr, Result.andThen]
 exact hK' _ _ hK
def Row (w : World) (g : Nat) (xs : List Int) : Prop := Blk w g 3 (xs.map (Value.int .i64)).toArray
section
variable {w w' : World} {g : Nat} {xs : List Int}
theorem Row.lt (h : Row w g xs) : g < w.heap.size := Blk.lt h
theorem Row.cell (h : Row w g xs) {k : Nat} {x : Int} (hk : xs[k]? = some x) : w.cell? ⟨g, k, none⟩ = some (.int .i64 x) := by
 rw [Blk.cell h]
 simp [hk]
theorem Row.frozen (h : Row w g xs) (k : Nat) : w.frozen? ⟨g, k, none⟩ = false := Blk.frozen h k
theorem Row.set_ (h : Row w g xs) (k : Nat) (x : Int) : Row (w.setCell ⟨g, k, none⟩ (.int .i64 x)) g (xs.set k x) := by
 have := Blk.set_ h k (.int .i64 x)
 unfold Row
 rw [List.map_set]
 simpa using this
theorem Row.alloc (h : Row w g xs) (o : Obj) : Row (w.alloc o) g xs := Blk.alloc h o
theorem Row.below {B : Nat} (h : Row w g xs) (hb : Below B w w') (hg : g < B) : Row w' g xs := Blk.below h hb hg
theorem Row.new (w : World) (xs : List Int) : Row (w.alloc (.cells (xs.map (Value.int .i64)).toArray 3)) w.heap.size xs := Blk.new _ _ _
theorem Row.zeros (w : World) (n : Nat) : Row (w.alloc (.cells (List.replicate n (Value.int .i64 0)).toArray 3)) w.heap.size (List.replicate n 0) := by
 have := Row.new w (List.replicate n 0)
 rwa [List.map_replicate] at this
end
end Go.Proofs.YtfpnhgahkjglgaaGreat
namespace Go.Proofs.YtfpnhgahkjglgaaGreat
open List
end Go.Proofs.YtfpnhgahkjglgaaGreat
namespace Go.Proofs.YtfpnhgahkjglgaaGreat
open Go Go.RowKit
end Go.Proofs.YtfpnhgahkjglgaaGreat
namespace Go.Proofs.YtfpnhgahkjglgaaGreat
open List
end Go.Proofs.YtfpnhgahkjglgaaGreat
namespace Go.Proofs.YtfpnhgahkjglgaaGreat
open Go Go.RowKit
theorem slr_cells_ {α : Type} {s : Nat} {R : World → α → List Value → Prop} {enc : α → List Value} {w : World} {a : Addr} {xs : List α} (h : SlR s R w (some a) xs) (_hs : 0 < s) (hR : ∀ w x vs, R w x vs → vs = enc x) :
 ∀ j u, (xs.flatMap enc)[j]? = some u → w.cell? (a.add j) = some u := by
 by_cases hn : xs = []
 ·subst hn; intro j u hj; simp at hj
 ·obtain ⟨b, off, ha, _, hc⟩ := h hn
  injection ha with ha
  subst ha
  have key : ∀ (l : List α) (o : Nat), (∀ k x, l[k]? = some x → (enc x).length = s ∧ ∀ j v, (enc x)[j]? = some v → w.cell? ⟨b, o + k * s + j, none⟩ = some v) → ∀ j u, (l.flatMap enc)[j]? = some u → w.cell? ⟨b, o + j, none⟩ = some u := by
   intro l
   induction l with
   | nil => intro o _ j u hj; simp at hj
   | cons x l ih =>
    intro o hl j u hj
    obtain ⟨h0, h1⟩ := hl 0 x rfl
    rw [List.flatMap_cons] at hj
    rcases Nat.lt_or_ge j (enc x).length with hlt | hge
    ·rw [List.getElem?_append_left hlt] at hj
     have := h1 j u hj
     simpa using this
    ·rw [List.getElem?_append_right hge] at hj
     have := ih (o + s) (fun k y hy => by
      obtain ⟨h2, h3⟩ := hl (k + 1) y (by simpa using hy)
      refine ⟨h2, fun j v hv => ?_⟩
      have := h3 j v hv
      rwa [show o + (k + 1) * s + j = o + s + k * s + j by rw [Nat.add_mul]; omega] at this) (j - (enc x).length) u hj
     rwa [show o + s + (j - (enc x).length) = o + j by omega] at this
  intro j u hj
  rw [add_mk]
  refine key xs off (fun k x hx => ?_) j u hj
  obtain ⟨vs, hr, hl, hv⟩ := hc k x hx
  have := hR _ _ _ hr
  subst this
  exact ⟨hl, hv⟩
theorem flatMap_len_ {α β : Type} {s : Nat} {enc : α → List β} (h : ∀ x, (enc x).length = s) (xs : List α) : (xs.flatMap enc).length = xs.length * s := by
 induction xs with
 | nil => simp
 | cons x l ih => rw [List.flatMap_cons, List.length_append, h, ih, List.length_cons, Nat.add_mul]; omega
section
variable {P : Program} {ops : Array Oper} {Q : Exit → Act → World → Prop} {S : World → Prop} {ts : List Nat}
theorem run_append_of_nil (w : World) (base : Nat) (t ty e : TypeId) (i : TypeInfo) (size : Nat) (ht : P.underlying t = some (.slice e)) (hi : P.info? e = some i)
 (v : Value) (n : Nat) (xs : List Value) (hown : w.ownsRow base e size v n xs) (c : Nat) : (Builtin.append_ #[t, t] ty #[v, .slice none 0 c]).run P w = .ok v w := by
 rcases hown.2 with ⟨rfl, rfl⟩ | ⟨g, cap, cur, rfl, _, _, hnc, _⟩
 ·simp [Builtin.append_, run_underlying ht, sizeOf, typeInfo, hi, Builtin.lenOf, Builtin.firstCells]
 ·simp [Builtin.append_, run_underlying ht, sizeOf, typeInfo, hi, Builtin.lenOf, Builtin.firstCells, hnc, storeCells]
theorem wp_appS {α : Type} {enc : α → List Value} {R : World → α → List Value → Prop} {o : Oper} {a : Act} {K : Act → World → Prop} {w : World} (s x : Operand) (t : TypeId)
 (ho : o.op = .call { callee := .builtin .append, args := #[s, x], argTypes := #[t, t] })
 (base : Nat) (e : TypeId) (i : TypeInfo) (z : Value) (size bytes : Nat) (ht : P.underlying t = some (.slice e)) (hi : P.info? e = some i) (hz : i.zero = some z)
 (hsize : i.size = size) (hby : i.bytes = bytes) (hzs : z.cells.size = size) (hsz : 0 < size)
 (v : Value) (n : Nat) (xs : List Value) (hs : a.eval s = v) (hown : w.ownsRow base e size v n xs)
 (A : Option Addr) (c : Nat) (ys : List α) (hx : a.eval x = .slice A ys.length c) (hr : SlR size R w A ys) (hR : ∀ w x vs, R w x vs → vs = enc x) (hl : ∀ x, (enc x).length = size) (h1 : ∀ u ∈ ys.flatMap enc, u.oneCell' = true)
 (hn : n + ys.length ≤ 1000000) (hbb : bytes ≤ 1000) (hbase : base ≤ w.heap.size)
 (h : ∀ v' w', w'.ownsRow base e size v' (n + ys.length) (xs ++ ys.flatMap enc) → Below base w w' → Apps w w' v v' → K (a.put o.dst v') w') : o.wp P a w K Q := by
 have hb1 : (n + ys.length) * bytes ≤ 1000000 * 1000 := Nat.mul_le_mul hn hbb
 have key : ∃ v' w', (Builtin.append_ #[t, t] o.type #[v, .slice A ys.length c]).run P w = .ok v' w' ∧ w'.ownsRow base e size v' (n + ys.length) (xs ++ ys.flatMap enc) ∧ w.grownBy w' v.ownBlock ∧ (v'.ownBlock = v.ownBlock ∨ v'.ownBlock = some w.heap.size) := by
  rcases A with _ | ad
  ·have hy : ys = [] := Classical.byContradiction fun hne => by obtain ⟨_, _, h, _⟩ := hr hne; cases h
   subst hy
   exact ⟨v, w, run_append_of_nil w base t o.type e i size ht hi v n xs hown c, by simpa using hown, World.grownBy.refl w _, .inl rfl⟩
  ·obtain ⟨v', w', hrun, h2, h3, _, h5⟩ := run_append_own_at (P := P) w base t o.type e i z size bytes ht hi hz hsize hby hzs hsz v n xs hown ad ys.length c (ys.flatMap enc) (flatMap_len_ hl ys) (slr_cells_ hr hsz hR) h1 (by unfold maxLen; omega) (by omega) hbase
   exact ⟨v', w', hrun, h2, h3, h5⟩
 obtain ⟨v', w', hrun, h2, h3, h5⟩ := key
 unfold Oper.wp execOp
 simp only [ho, resolve, invoke, builtin, Sem.run_bind, Sem.run_pure, Result.andThen_ok, List.map_toArray, List.map_cons, List.map_nil, hs, hx, hrun]
 refine h v' w' h2 ((Below.refl _ _).grown h3 hbase (own_block_le hown)) ⟨fun k hk hne => h3.block k hk (fun e => hne e.symm), ?_⟩
 rcases h5 with h5 | h5
 ·exact .inl h5
 ·exact .inr ⟨_, h5, Nat.le_refl _⟩
end
def SlT (w : World) (A : Option Addr) (xs : List Int) : Prop := xs ≠ [] → ∃ b off cs, A = some ⟨b, off, none⟩ ∧ Blk w b 3 cs ∧ ∀ (k : Nat) (x : Int), xs[k]? = some x → cs[off + k]? = some (.int .i64 x)
section
variable {w w' : World} {A : Option Addr} {xs : List Int}
theorem SlT.nil : SlT w A [] := fun h => absurd rfl h
theorem SlT.slr (h : SlT w A xs) : SlR 1 RInt w A xs := fun hne => by
 obtain ⟨b, off, cs, hA, hb, hc⟩ := h hne
 refine ⟨b, off, hA, hb.lt, fun k x hk => ⟨[.int .i64 x], rfl, rfl, fun j v hj => ?_⟩⟩
 match j, hj with
 | 0, hj =>
  simp at hj
  subst hj
  rw [hb.cell, show off + k * 1 + 0 = off + k by omega]
  exact hc k x hk
theorem SlT.below (h : SlT w A xs) (hb : Below w.heap.size w w') : SlT w' A xs := fun hne => by
 obtain ⟨b, off, cs, hA, hB, hc⟩ := h hne
 exact ⟨b, off, cs, hA, hB.below hb hB.lt, hc⟩
theorem SlT.set_ {p : Addr} {t : TypeId} {cs' : Array Value} (h : SlT w A xs) (hp : Blk w p.block t cs') (hne : t ≠ 3) (u : Value) : SlT (w.setCell p u) A xs := fun hn => by
 obtain ⟨b, off, cs, hA, hB, hc⟩ := h hn
 refine ⟨b, off, cs, hA, hB.far (fun e => ?_) u, hc⟩
 unfold Blk at hB hp
 rw [e] at hB
 rw [hB] at hp
 injection hp with hp
 injection hp with _ ht
 exact hne ht.symm
theorem own_slt {base n : Nat} {v : Value} (h : w.ownsRow base 3 1 v n (xs.map (Value.int .i64))) (hn : n = xs.length) : ∃ B cap, v = .slice B n cap ∧ n ≤ cap ∧ cap ≤ maxLen ∧ SlT w B xs := by
 rcases h.2 with ⟨rfl, h0⟩ | ⟨g, cap, cur, rfl, hg, hh, hnc, hcm, hcs, htk⟩
 ·subst h0
  have : xs = [] := List.length_eq_zero_iff.1 hn.symm
  subst this
  exact ⟨none, 0, rfl, Nat.le_refl _, Nat.zero_le _, SlT.nil⟩
 ·refine ⟨some ⟨g, 0, none⟩, cap, rfl, hnc, hcm, fun _ => ⟨g, 0, cur, rfl, hh, fun k x hk => ?_⟩⟩
  have h1 : (xs.map (Value.int .i64))[k]? = some (.int .i64 x) := by simp [hk]
  rw [← htk, List.getElem?_take] at h1
  split at h1
  ·simpa using h1
  ·cases h1
end
end Go.Proofs.YtfpnhgahkjglgaaGreat
