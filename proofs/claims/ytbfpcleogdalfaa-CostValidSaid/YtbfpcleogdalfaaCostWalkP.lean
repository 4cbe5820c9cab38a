/-
  The walks of layer 11: copies of slices.
-/
import Derived.Test.YtbfpcleogdalfaaBlk
import Derived.Test.YtbfpcleogdalfaaCostWalkN
import Derived.WalkSpells
namespace Go.Proofs.Ytbfpcleogdalfaa
open Go Go.RowKit

theorem slr_cells {α : Type} {s : Nat} {R : World → α → List Value → Prop} {enc : α → List Value} {w : World} {a : Addr} {xs : List α} (h : SlR s R w (some a) xs) (_hs : 0 < s) (hR : ∀ w x vs, R w x vs → vs = enc x) :
    ∀ j u, (xs.flatMap enc)[j]? = some u → w.cell? (a.add j) = some u := by
  by_cases hn : xs = []
  · subst hn; intro j u hj; simp at hj
  · obtain ⟨b, off, ha, _, hc⟩ := h hn
    injection ha with ha
    subst ha
    have key : ∀ (l : List α) (o : Nat), (∀ k x, l[k]? = some x → (enc x).length = s ∧ ∀ j v, (enc x)[j]? = some v → w.cell? ⟨b, o + k * s + j, none⟩ = some v) → ∀ j u, (l.flatMap enc)[j]? = some u → w.cell? ⟨b, o + j, none⟩ = some u := by
      intro l
      induction l with
      | nil => intro o _ j u hj; simp at hj
      | cons x l ih =>
        intro o hl j u hj
        obtain ⟨h0, h1⟩ := hl 0 x rfl
        rw [List.flatMap_cons] at hj
        rcases Nat.lt_or_ge j (enc x).length with hlt | hge
        · rw [List.getElem?_append_left hlt] at hj
          have := h1 j u hj
          simpa using this
        · rw [List.getElem?_append_right hge] at hj
          have := ih (o + s) (fun k y hy => by
            obtain ⟨h2, h3⟩ := hl (k + 1) y (by simpa using hy)
            refine ⟨h2, fun j v hv => ?_⟩
            have := h3 j v hv
            rwa [show o + (k + 1) * s + j = o + s + k * s + j by rw [Nat.add_mul]; omega] at this) (j - (enc x).length) u hj
          rwa [show o + s + (j - (enc x).length) = o + j by omega] at this
    intro j u hj
    rw [add_mk]
    refine key xs off (fun k x hx => ?_) j u hj
    obtain ⟨vs, hr, hl, hv⟩ := hc k x hx
    have := hR _ _ _ hr
    subst this
    exact ⟨hl, hv⟩

theorem flatMap_len {α β : Type} {s : Nat} {enc : α → List β} (h : ∀ x, (enc x).length = s) (xs : List α) : (xs.flatMap enc).length = xs.length * s := by
  induction xs with
  | nil => simp
  | cons x l ih => rw [List.flatMap_cons, List.length_append, h, ih, List.length_cons, Nat.add_mul]; omega
/-- 'append(out, src...)'. -/
theorem wpList_appN {P : Program} {ops : Array Oper} {rest : List Oper} {o : Oper} {a : Act} {Q : Exit → Act → World → Prop} {w : World} (hgd : o.guard = none) (s x : Operand) (t : TypeId)
    (ho : o.op = .call { callee := .builtin .append, args := #[s, x], argTypes := #[t, t] })
    (base : Nat) (e : TypeId) (i : TypeInfo) (z : Value) (size bytes : Nat) (ht : P.underlying t = some (.slice e)) (hi : P.info? e = some i) (hz : i.zero = some z)
    (hsize : i.size = size) (hby : i.bytes = bytes) (hzs : z.cells.size = size) (hsz : 0 < size)
    (v : Value) (n : Nat) (xs : List Value) (hs : a.eval s = v) (hown : w.ownsRow base e size v n xs)
    (ad : Addr) (m c : Nat) (news : List Value) (hx : a.eval x = .slice (some ad) m c) (hl : news.length = m * size) (hnews : ∀ j u, news[j]? = some u → w.cell? (ad.add j) = some u) (h1 : ∀ u ∈ news, u.oneCell' = true)
    (hn : n + m ≤ 1000000) (hbb : bytes ≤ 1000) (hbase : base ≤ w.heap.size)
    (h : ∀ v' w', w'.ownsRow base e size v' (n + m) (xs ++ news) → Below base w w' → Apps w w' v v' → wpList P ops Q rest (a.put o.dst v') w') : wpList P ops Q (o :: rest) a w := by
  have hb1 : (n + m) * bytes ≤ 1000000 * 1000 := Nat.mul_le_mul hn hbb
  refine wpList_plain hgd fun K hK => ?_
  obtain ⟨v', w', hrun, h2, h3, _, h5⟩ := run_append_own_at (P := P) w base t o.type e i z size bytes ht hi hz hsize hby hzs hsz v n xs hown ad m c news hl hnews h1 (by unfold maxLen; omega) (by omega) hbase
  unfold Oper.wp execOp
  simp only [ho, resolve, invoke, builtin, Sem.run_bind, Sem.run_pure, Result.andThen_ok, List.map_toArray, List.map_cons, List.map_nil, hs, hx, hrun]
  refine hK _ _ (h v' w' h2 ((Below.refl _ _).grown h3 hbase (own_block_le hown)) ⟨fun k hk hne => h3.block k hk (fun e => hne e.symm), ?_⟩)
  rcases h5 with h5 | h5
  · exact .inl h5
  · exact .inr ⟨_, h5, Nat.le_refl _⟩

theorem cloneI_info : (Try.prog.info? 3).map (fun i => (i.zero, i.size, i.bytes)) = some (some (.int .i64 0), 1, 8) := by kernel_rfl
set_option maxHeartbeats 1000000 in
theorem cloneI_any (A : Option Addr) (xs : List Int) (c : Nat) (w : World) (hx : SlR 1 RInt w A xs) (hl : xs.length ≤ 65536) :
    Calls Try.prog 33 #[.slice A xs.length c] w fun e w' => ∃ v, e = .returned v ∧ w'.ownsRow w.heap.size 3 1 v xs.length (xs.flatMap (fun x => [Value.int .i64 x])) ∧ Below w.heap.size w w' := by
  obtain ⟨i0, hi, hz0, hz1, hz2⟩ := info_parts cloneI_info
  rcases A with _ | a
  · have h0 : xs = [] := Classical.byContradiction fun hn => by obtain ⟨_, _, h, _⟩ := hx hn; cases h
    subst h0
    have hnil := Lib.run_eql_slice_nil (P := Try.prog) w 31 3 none 0 c 0 0 Try.underlying31
    go_enter Try.func33, Try.ntmps33
    go_wp2_with fail
    go_ret
    exact ⟨_, rfl, own_nil _ _ _ _, Below.refl _ _⟩
  · have hnil := Lib.run_eql_slice_nil (P := Try.prog) w 31 3 (some a) xs.length c 0 0 Try.underlying31
    have HC := Lib.hid (slr_cells (enc := (fun x => [Value.int .i64 x])) (hx.below keeps_int ((Below.refl _ _).alloc (Nat.le_refl _) (.cells #[] 3))) (by decide) (fun _ _ _ h => h))
    have HL := Lib.hid (show (xs.flatMap (fun x => [Value.int .i64 x])).length = xs.length * 1 from flatMap_len (s := 1) (enc := (fun x => [Value.int .i64 x])) (fun _ => rfl) xs)
    go_enter Try.func33, Try.ntmps33
    go_wp2_with (first | (at_builtin; refine wpList_appN rfl _ _ 31 rfl w.heap.size 3 i0 _ 1 8 Try.underlying31 hi hz0 hz1 hz2 rfl (by decide) (.slice (some ⟨w.heap.size, 0, none⟩) 0 0) 0 [] rfl (own_empty w 3 1 w.heap.size (Nat.le_refl _)) a xs.length c (xs.flatMap (fun x => [Value.int .i64 x])) rfl HL.out HC.out (fun u hu => by obtain ⟨x, _, hx⟩ := List.mem_flatMap.1 hu; simp at hx; rcases hx with rfl <;> rfl) (by omega) (by decide) (by simp) ?_; intro v1 w1 hown1 hb1 ha1))
    go_ret
    exact ⟨_, rfl, by simpa using hown1, ((Below.refl _ _).alloc (Nat.le_refl _) _).trans hb1⟩

theorem cloneS_info : (Try.prog.info? 9).map (fun i => (i.zero, i.size, i.bytes)) = some (some (.string ByteArray.empty), 1, 16) := by kernel_rfl
set_option maxHeartbeats 1000000 in
theorem cloneS_any (A : Option Addr) (xs : List ByteArray) (c : Nat) (w : World) (hx : SlR 1 RStr w A xs) (hl : xs.length ≤ 65536) :
    Calls Try.prog 32 #[.slice A xs.length c] w fun e w' => ∃ v, e = .returned v ∧ w'.ownsRow w.heap.size 9 1 v xs.length (xs.flatMap (fun x => [Value.string x])) ∧ Below w.heap.size w w' := by
  obtain ⟨i0, hi, hz0, hz1, hz2⟩ := info_parts cloneS_info
  rcases A with _ | a
  · have h0 : xs = [] := Classical.byContradiction fun hn => by obtain ⟨_, _, h, _⟩ := hx hn; cases h
    subst h0
    have hnil := Lib.run_eql_slice_nil (P := Try.prog) w 30 9 none 0 c 0 0 Try.underlying30
    go_enter Try.func32, Try.ntmps32
    go_wp2_with fail
    go_ret
    exact ⟨_, rfl, own_nil _ _ _ _, Below.refl _ _⟩
  · have hnil := Lib.run_eql_slice_nil (P := Try.prog) w 30 9 (some a) xs.length c 0 0 Try.underlying30
    have HC := Lib.hid (slr_cells (enc := (fun x => [Value.string x])) (hx.below keeps_str ((Below.refl _ _).alloc (Nat.le_refl _) (.cells #[] 9))) (by decide) (fun _ _ _ h => h))
    have HL := Lib.hid (show (xs.flatMap (fun x => [Value.string x])).length = xs.length * 1 from flatMap_len (s := 1) (enc := (fun x => [Value.string x])) (fun _ => rfl) xs)
    go_enter Try.func32, Try.ntmps32
    go_wp2_with (first | (at_builtin; refine wpList_appN rfl _ _ 30 rfl w.heap.size 9 i0 _ 1 16 Try.underlying30 hi hz0 hz1 hz2 rfl (by decide) (.slice (some ⟨w.heap.size, 0, none⟩) 0 0) 0 [] rfl (own_empty w 9 1 w.heap.size (Nat.le_refl _)) a xs.length c (xs.flatMap (fun x => [Value.string x])) rfl HL.out HC.out (fun u hu => by obtain ⟨x, _, hx⟩ := List.mem_flatMap.1 hu; simp at hx; rcases hx with rfl <;> rfl) (by omega) (by decide) (by simp) ?_; intro v1 w1 hown1 hb1 ha1))
    go_ret
    exact ⟨_, rfl, by simpa using hown1, ((Below.refl _ _).alloc (Nat.le_refl _) _).trans hb1⟩

theorem cloneP_info : (Try.prog.info? 50).map (fun i => (i.zero, i.size, i.bytes)) = some (some (.agg #[.int .i64 0, .int .i64 0, .int .i64 0]), 3, 24) := by kernel_rfl
set_option maxHeartbeats 1000000 in
theorem cloneP_any (A : Option Addr) (xs : List Pr) (c : Nat) (w : World) (hx : SlR 3 RPr w A xs) (hl : xs.length ≤ 65536) :
    Calls Try.prog 34 #[.slice A xs.length c] w fun e w' => ∃ v, e = .returned v ∧ w'.ownsRow w.heap.size 50 3 v xs.length (xs.flatMap encP) ∧ Below w.heap.size w w' := by
  obtain ⟨i0, hi, hz0, hz1, hz2⟩ := info_parts cloneP_info
  rcases A with _ | a
  · have h0 : xs = [] := Classical.byContradiction fun hn => by obtain ⟨_, _, h, _⟩ := hx hn; cases h
    subst h0
    have hnil := Lib.run_eql_slice_nil (P := Try.prog) w 32 50 none 0 c 0 0 Try.underlying32
    go_enter Try.func34, Try.ntmps34
    go_wp2_with fail
    go_ret
    exact ⟨_, rfl, own_nil _ _ _ _, Below.refl _ _⟩
  · have hnil := Lib.run_eql_slice_nil (P := Try.prog) w 32 50 (some a) xs.length c 0 0 Try.underlying32
    have HC := Lib.hid (slr_cells (enc := encP) (hx.below keeps_pr ((Below.refl _ _).alloc (Nat.le_refl _) (.cells #[] 50))) (by decide) (fun _ _ _ h => h))
    have HL := Lib.hid (show (xs.flatMap encP).length = xs.length * 3 from flatMap_len (s := 3) (enc := encP) (fun _ => rfl) xs)
    go_enter Try.func34, Try.ntmps34
    go_wp2_with (first | (at_builtin; refine wpList_appN rfl _ _ 32 rfl w.heap.size 50 i0 _ 3 24 Try.underlying32 hi hz0 hz1 hz2 rfl (by decide) (.slice (some ⟨w.heap.size, 0, none⟩) 0 0) 0 [] rfl (own_empty w 50 3 w.heap.size (Nat.le_refl _)) a xs.length c (xs.flatMap encP) rfl HL.out HC.out (fun u hu => by obtain ⟨x, _, hx⟩ := List.mem_flatMap.1 hu; simp [encP] at hx; rcases hx with rfl | rfl | rfl <;> rfl) (by omega) (by decide) (by simp) ?_; intro v1 w1 hown1 hb1 ha1))
    go_ret
    exact ⟨_, rfl, by simpa using hown1, ((Below.refl _ _).alloc (Nat.le_refl _) _).trans hb1⟩
end Go.Proofs.Ytbfpcleogdalfaa
