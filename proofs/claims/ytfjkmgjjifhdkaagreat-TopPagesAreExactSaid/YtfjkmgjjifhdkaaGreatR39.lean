/-
  The walks of layer 11: the models that the statements are about.
-/
import Derived.Test.YtfjkmgjjifhdkaaGreatR02
import Derived.Test.YtfjkmgjjifhdkaaGreatR38
import Derived.Test.YtfjkmgjjifhdkaaGreatR36
import Derived.Test.YtfjkmgjjifhdkaaGreatR32
namespace Go.Proofs.YtfjkmgjjifhdkaaGreat
open Go Go.RowKit

theorem int_info : (Tryz.prog.info? 3).map (fun i => (i.zero, i.size, i.bytes)) = some (some (.int .i64 0), 1, 8) := by kernel_rfl
structure Raw where
  words : List (List Int)
  counts : List Int
  uses : List (Int × Int × Int)
  back : Int
def RRow (w : World) (r : List Int) (vs : List Value) : Prop := ∃ A c, vs = [.slice A r.length c] ∧ SlR 1 RU8 w A r ∧ r.length ≤ maxLen ∧ ∀ x ∈ r, 0 ≤ x ∧ x ≤ 255
def RU3 (_ : World) (u : Int × Int × Int) (vs : List Value) : Prop := vs = [.int .u8 u.1, .int .u8 u.2.1, .int .u8 u.2.2]
theorem keeps_row : Keeps RRow := fun _ _ _ _ hb ⟨A, c, h1, h2, h3, h4⟩ => ⟨A, c, h1, h2.below keeps_u8 hb, h3, h4⟩
theorem keeps_u3 : Keeps RU3 := fun _ _ _ _ _ h => h
theorem SlR.row {w : World} {A : Option Addr} {xs : List (List Int)} (h : SlR 1 RRow w A xs) {k : Nat} (hk : k < xs.length) :
    ∃ b off r Ar cr, A = some ⟨b, off, none⟩ ∧ b < w.heap.size ∧ xs[k]? = some r ∧ w.cell? ⟨b, off + k, none⟩ = some (.slice Ar r.length cr) ∧ SlR 1 RU8 w Ar r ∧ r.length ≤ maxLen ∧ ∀ x ∈ r, 0 ≤ x ∧ x ≤ 255 := by
  obtain ⟨b, off, r, vs, hA, hlt, hx, ⟨Ar, cr, rfl, h2, h3, h4⟩, _, hv⟩ := h.at_ hk
  have h0 := hv 0 _ rfl
  simp only [Nat.mul_one, Nat.add_zero] at h0
  exact ⟨b, off, r, Ar, cr, hA, hlt, hx, h0, h2, h3, h4⟩
theorem SlR.u3 {w : World} {A : Option Addr} {xs : List (Int × Int × Int)} (h : SlR 3 RU3 w A xs) {k : Nat} (hk : k < xs.length) :
    ∃ b off u, A = some ⟨b, off, none⟩ ∧ b < w.heap.size ∧ xs[k]? = some u ∧ w.cell? ⟨b, off + k * 3, none⟩ = some (.int .u8 u.1) ∧ w.cell? ⟨b, off + k * 3 + 1, none⟩ = some (.int .u8 u.2.1) ∧ w.cell? ⟨b, off + k * 3 + 2, none⟩ = some (.int .u8 u.2.2) := by
  obtain ⟨b, off, x, vs, hA, hlt, hx, hr, _, hv⟩ := h.at_ hk
  exact ⟨b, off, x, hA, hlt, hx, hv 0 _ (by rw [hr]; rfl), hv 1 _ (by rw [hr]; rfl), hv 2 _ (by rw [hr]; rfl)⟩
structure RawR (w : World) (x : Raw) (A1 A2 A3 : Option Addr) : Prop where
  h1 : SlR 1 RRow w A1 x.words
  h2 : SlR 1 RU8 w A2 x.counts
  h3 : SlR 3 RU3 w A3 x.uses
  l1 : x.words.length ≤ maxLen
  l2 : x.counts.length ≤ maxLen
  l3 : x.uses.length ≤ maxLen
  b2 : ∀ c ∈ x.counts, 0 ≤ c ∧ c ≤ 255
  b3 : ∀ u ∈ x.uses, (0 ≤ u.1 ∧ u.1 ≤ 255) ∧ (0 ≤ u.2.1 ∧ u.2.1 ≤ 255) ∧ (0 ≤ u.2.2 ∧ u.2.2 ≤ 255)
  bk : 0 ≤ x.back ∧ x.back ≤ 255
theorem RawR.below {w w' : World} {x : Raw} {A1 A2 A3 : Option Addr} (h : RawR w x A1 A2 A3) (hb : Below w.heap.size w w') : RawR w' x A1 A2 A3 :=
  ⟨h.h1.below keeps_row hb, h.h2.below keeps_u8 hb, h.h3.below keeps_u3 hb, h.l1, h.l2, h.l3, h.b2, h.b3, h.bk⟩
def ab : List ByteArray := [ByteArray.mk #[97], ByteArray.mk #[98]]
def wsTo (x : Raw) (k : Nat) : List ByteArray := (x.words.take k).foldl (fun ws r => insW ws (wordOf r)) ab
theorem wsTo_succ {x : Raw} {k : Nat} {r : List Int} (h : x.words[k]? = some r) : wsTo x (k + 1) = insW (wsTo x k) (wordOf r) := by
  unfold wsTo; rw [take_succ_of h, List.foldl_append]; rfl
def csTo (x : Raw) (j : Nat) : List Int := (List.range j).map fun i => x.counts.getD i 0
theorem csTo_succ (x : Raw) (j : Nat) : csTo x (j + 1) = csTo x j ++ [x.counts.getD j 0] := by
  unfold csTo; rw [List.range_succ, List.map_append]; rfl
theorem insW_ge (l : List ByteArray) (s : ByteArray) : l.length ≤ (insW l s).length := by
  have h : ∀ (l : List ByteArray) (st : List ByteArray × Bool), st.1.length + l.length ≤ (l.foldl (insStep s) st).1.length := by
    intro l
    induction l with
    | nil => intro st; simp
    | cons x l ih =>
      intro st
      have h1 := ih (insStep s st x)
      have h2 : st.1.length + 1 ≤ (insStep s st x).1.length := by unfold insStep; dsimp only; split <;> simp
      simp only [List.foldl_cons, List.length_cons]
      omega
  have h1 := h (l.take l.length) ([], false)
  have h2 : (insTo s l l.length).1 = ((l.take l.length).foldl (insStep s) ([], false)).1 := rfl
  rw [List.take_length] at h1 h2
  simp only [List.length_nil] at h1
  unfold insW
  split
  · rw [h2]; omega
  · rw [List.length_append, h2]; omega
/-- The pair of a use. -/
def useP (n : Nat) (u : Int × Int × Int) : Pr := ⟨u.1 % n, u.2.1 % n, 1 + u.2.2 % 16⟩
def psTo (x : Raw) (n k : Nat) : List Pr := (x.uses.take k).foldl (fun ps u => addP ps (useP n u)) []
theorem psTo_succ {x : Raw} {n k : Nat} {u : Int × Int × Int} (h : x.uses[k]? = some u) : psTo x n (k + 1) = addP (psTo x n k) (useP n u) := by
  unfold psTo; rw [take_succ_of h, List.foldl_append]; rfl
theorem addP_len (l : List Pr) (p : Pr) : (addP l p).length ≤ 2 * l.length + 1 := by
  have := addTo_len p l l.length
  unfold addP; split <;> simp <;> omega
theorem addP_all {l : List Pr} {p : Pr} {Good : Pr → Prop} (hl : ∀ q ∈ l, Good q) (hp : Good p) (hs : ∀ q, q ∈ l → q.a = p.a → q.b = p.b → Good ⟨q.a, q.b, q.n + p.n⟩) : ∀ q ∈ addP l p, Good q := by
  have h : ∀ (m : List Pr) (st : List Pr × Bool), (∀ q ∈ m, q ∈ l) → (∀ q ∈ st.1, Good q) → ∀ q ∈ (m.foldl (addStep p) st).1, Good q := by
    intro m
    induction m with
    | nil => intro st _ h2; exact h2
    | cons y m ih =>
      intro st h1 h2
      rw [List.foldl_cons]
      refine ih _ (fun q hq => h1 q (List.mem_cons_of_mem _ hq)) ?_
      have hy := h1 y (List.mem_cons_self)
      unfold addStep
      split
      · intro q hq
        simp only [List.mem_append, List.mem_singleton] at hq
        rcases hq with (hq | hq) | hq
        · exact h2 q hq
        · rw [hq]; exact hp
        · rw [hq]; exact hl y hy
      · split
        · rename_i e
          intro q hq
          simp only [List.mem_append, List.mem_singleton] at hq
          rcases hq with hq | hq
          · exact h2 q hq
          · rw [hq]; exact hs y hy e.1 e.2
        · intro q hq
          simp only [List.mem_append, List.mem_singleton] at hq
          rcases hq with hq | hq
          · exact h2 q hq
          · rw [hq]; exact hl y hy
  have h1 := h (l.take l.length) ([], false) (fun q hq => List.mem_of_mem_take hq) (by simp)
  unfold addP addTo
  split
  · exact h1
  · intro q hq
    simp only [List.mem_append, List.mem_singleton] at hq
    rcases hq with hq | hq
    · exact h1 q hq
    · rw [hq]; exact hp
/-- What Made returns. -/
def madeM (x : Raw) : Mo := ⟨wsTo x 6, csTo x (wsTo x 6).length, psTo x (wsTo x 6).length 8, x.back⟩
theorem insW_len (l : List ByteArray) (s : ByteArray) : (insW l s).length ≤ 2 * l.length + 1 := by
  have := insTo_len s l l.length
  unfold insW; split <;> simp <;> omega

theorem insW_mem {l : List ByteArray} {s y : ByteArray} (h : y ∈ insW l s) : y ∈ l ∨ y = s := by
  have hf : ∀ (m : List ByteArray) (st : List ByteArray × Bool), (∀ q ∈ m, q ∈ l) → (∀ q ∈ st.1, q ∈ l ∨ q = s) → ∀ q ∈ (m.foldl (insStep s) st).1, q ∈ l ∨ q = s := by
    intro m
    induction m with
    | nil => intro st _ h2; exact h2
    | cons z m ih =>
      intro st h1 h2
      rw [List.foldl_cons]
      refine ih _ (fun q hq => h1 q (List.mem_cons_of_mem _ hq)) ?_
      have hz := h1 z (List.mem_cons_self)
      unfold insStep
      dsimp only
      split
      · intro q hq
        simp only [List.mem_append, List.mem_singleton] at hq
        rcases hq with (hq | hq) | hq
        · exact h2 q hq
        · exact .inr hq
        · rw [hq]; exact .inl hz
      · intro q hq
        simp only [List.mem_append, List.mem_singleton] at hq
        rcases hq with hq | hq
        · exact h2 q hq
        · rw [hq]; exact .inl hz
  have h1 := hf (l.take l.length) ([], false) (fun q hq => List.mem_of_mem_take hq) (by simp)
  unfold insW insTo at h
  split at h
  · exact h1 y h
  · simp only [List.mem_append, List.mem_singleton] at h
    rcases h with h | h
    · exact h1 y h
    · exact .inr h
theorem wsTo_words (x : Raw) : ∀ k, ∀ s ∈ wsTo x k, wordS s = true := by
  intro k
  induction k with
  | zero =>
    have h : ∀ s ∈ ab, wordS s = true := by decide +kernel
    exact h
  | succ k ih =>
    by_cases hk : k < x.words.length
    · rw [wsTo_succ (List.getElem?_eq_getElem hk)]
      intro s hs
      rcases insW_mem hs with hs | hs
      · exact ih s hs
      · rw [hs]; exact wordOf_ok _
    · have : wsTo x (k + 1) = wsTo x k := by unfold wsTo; rw [List.take_of_length_le (by omega), List.take_of_length_le (by omega)]
      rw [this]; exact ih
theorem wordS_size {s : ByteArray} (h : wordS s = true) : s.size ≤ 20 := by
  unfold wordS at h; simp at h; exact h.1.2
/-- A model comes back, in memory of the call's own. -/
def GivesMo (m : Mo) (w : World) (e : Ending) (w' : World) : Prop :=
  ∃ (B1 B2 B3 : Option Addr) (d1 d2 d3 : Nat), e = .returned (.agg #[.slice B1 m.ws.length d1, .slice B2 m.cs.length d2, .slice B3 m.ps.length d3, .int .i64 m.back]) ∧ MoR w' m B1 B2 B3 ∧
    ((m.ws.length ≤ d1 ∧ d1 ≤ maxLen) ∧ (m.cs.length ≤ d2 ∧ d2 ≤ maxLen) ∧ (m.ps.length ≤ d3 ∧ d3 ≤ maxLen)) ∧ Below w.heap.size w w'
theorem made_end {W W' : World} (x : Raw) (ws : List ByteArray) (cs : List Int) (ps : List Pr) (A1 A2 A3 : Option Addr) (d1 d2 d3 : Nat) (w : World) (e : Ending)
    (hws : ws = wsTo x 6) (hcs : cs = csTo x ws.length) (hps : ps = psTo x ws.length 8) (h1 : ws.length ≤ d1) (h1' : d1 ≤ maxLen) (h2 : cs.length ≤ d2) (h2' : d2 ≤ maxLen) (h3 : ps.length ≤ d3) (h3' : d3 ≤ maxLen)
    (o1 : W.ownsRow (w.heap.size + 2) 9 1 (.slice A1 ws.length d1) ws.length (ws.map Value.string)) (o2 : W.ownsRow (w.heap.size + 2) 3 1 (.slice A2 cs.length d2) cs.length (cs.map (Value.int .i64)))
    (o3 : W.ownsRow (w.heap.size + 2) 111 3 (.slice A3 ps.length d3) ps.length (ps.flatMap encP)) (hn : ∀ p ∈ ps, -4294967296 ≤ p.n ∧ p.n ≤ 4294967296) (l1 : ws.length ≤ 65536) (l2 : cs.length ≤ 65536) (l3 : ps.length ≤ 65536)
    (hb : Below w.heap.size w W) (hk : ∀ g, w.heap.size + 2 ≤ g → W'.heap[g]? = W.heap[g]?) (_hz : W'.heap.size = W.heap.size) (hb' : Below w.heap.size W W')
    (he : e = .returned (.agg #[.slice A1 ws.length d1, .slice A2 cs.length d2, .slice A3 ps.length d3, .int .i64 x.back])) : GivesMo (madeM x) w e W' := by
  have k1 := own_keep o1 fun g hg hlt => hk g (own_block_le o1 g hg)
  have k2 := own_keep o2 fun g hg hlt => hk g (own_block_le o2 g hg)
  have k3 := own_keep o3 fun g hg hlt => hk g (own_block_le o3 g hg)
  obtain ⟨B1, e1, hv1, _, _, s1⟩ := own_strs k1 rfl
  obtain ⟨B2, e2, hv2, _, _, s2⟩ := own_ints k2 rfl
  obtain ⟨B3, e3, hv3, _, _, s3⟩ := own_slr (R := RPr) k3 (fun _ => rfl) (fun _ => rfl) rfl
  injection hv1 with hv1 _ _
  injection hv2 with hv2 _ _
  injection hv3 with hv3 _ _
  subst hv1 hv2 hv3
  have em : madeM x = ⟨ws, cs, ps, x.back⟩ := by unfold madeM; rw [← hws, ← hcs, ← hps]
  rw [em]
  refine ⟨A1, A2, A3, d1, d2, d3, he, ⟨s1, s2, s3, l1, l2, l3, fun s hs => ?_, fun y hy => ?_⟩, ⟨⟨h1, h1'⟩, ⟨h2, h2'⟩, ⟨h3, h3'⟩⟩, hb.trans hb'⟩
  · have := wordS_size (wsTo_words x 6 s (by rw [← hws]; exact hs))
    unfold maxLen; omega
  · obtain ⟨p, hp, rfl⟩ := List.mem_map.1 hy
    exact hn p hp

set_option maxRecDepth 100000 in
set_option maxHeartbeats 2000000 in
theorem co_made_any (x : Raw) (A1 A2 A3 : Option Addr) (c1 c2 c3 : Nat) (w : World) (h : RawR w x A1 A2 A3) :
    Calls Tryz.prog 12 #[.agg #[.slice A1 x.words.length c1, .slice A2 x.counts.length c2, .slice A3 x.uses.length c3, .int .u8 x.back]] w (GivesMo (madeM x) w) := by
  obtain ⟨i2, hi2, hz20, hz21, hz22⟩ := info_parts int_info
  have H := Lib.hid h
  have hl1 := h.l1
  have hl2 := h.l2
  have hl3 := h.l3
  have hbk := h.bk
  unfold maxLen at hl1 hl2 hl3
  clear h
  have HBW : Hid (∀ W, Below (w.heap.size + 2) ((w.alloc (.cells #[.slice A1 x.words.length c1, .slice A2 x.counts.length c2, .slice A3 x.uses.length c3, .int .u8 x.back] 51)).alloc (.cells #[.slice none 0 0, .slice none 0 0, .slice none 0 0, .int .i64 0] 56)) W → Below w.heap.size w W) := fun W hW => (((Below.refl _ _).alloc (Nat.le_refl _) _).alloc (by simp) _).trans (hW.mono (by omega))
  go_enter Tryz.func12, Tryz.ntmps12
  go_wp2_with fail
  go_loopw [4] (fun i wr => ∃ k : Nat, ∃ ws : List ByteArray, ∃ v : Value, k ≤ x.words.length ∧ k ≤ 6 ∧ Hid (ws = wsTo x k) ∧ ws.length + 1 ≤ 3 * 2 ^ k ∧ 2 ≤ ws.length ∧ i = .int .i64 k ∧ wr.ownsRow (w.heap.size + 2) 9 1 v ws.length (ws.map Value.string) ∧
      Blk wr (w.heap.size + 3) 56 #[v, .slice none 0 0, .slice none 0 0, .int .i64 x.back] ∧ Below (w.heap.size + 2) ((w.alloc (.cells #[.slice A1 x.words.length c1, .slice A2 x.counts.length c2, .slice A3 x.uses.length c3, .int .u8 x.back] 51)).alloc (.cells #[.slice none 0 0, .slice none 0 0, .slice none 0 0, .int .i64 0] 56)) wr) (fun i _ => 6 - (intOf i).toNat)
  case atStart => exact ⟨0, ab, _, by omega, by omega, rfl, by decide, by decide, rfl, (own_lit ((w.alloc (.cells #[.slice A1 x.words.length c1, .slice A2 x.counts.length c2, .slice A3 x.uses.length c3, .int .u8 x.back] 51)).alloc (.cells #[.slice none 0 0, .slice none 0 0, .slice none 0 0, .int .i64 0] 56)) #[.string (ByteArray.mk #[97]), .string (ByteArray.mk #[98])] 9 1 2 (w.heap.size + 2) (w.heap.size + 1 + 1) (by simp) (by simp) (by simp) (by decide)).alloc _, Blk.new_ (by simp), ((Below.refl _ _).alloc (by simp) _).alloc (by simp) _⟩
  case round =>
    obtain ⟨k, ws, v, hk, hk6, HWs, hwl, hw2, rfl, hown, hB, hb⟩ := hrel
    have hilen2 := insW_ge ws
    obtain ⟨A, cap, rfl, hcap, hcm, hws⟩ := own_strs hown rfl
    have hp6 : 2 ^ k ≤ 64 := Nat.pow_le_pow_right (n := 2) (by decide) hk6
    have hbw := HBW.out _ hb
    have hx0 : wr.cell? ⟨w.heap.size, 0, none⟩ = some (.slice A1 x.words.length c1) := (hb.cell (p := ⟨w.heap.size, 0, none⟩) (by show w.heap.size < _; omega)).trans ((World.cell?_alloc_lt _ _ ⟨w.heap.size, 0, none⟩ (by simp)).trans (new_cell _ _ _ 0))
    have hm0 : wr.cell? ⟨(w.heap.size + 3), 0, none⟩ = some (.slice A ws.length cap) := hB.cell 0
    have hf0 := hB.frozen 0
    have hsB := hB.lt
    have hs0 : w.heap.size < wr.heap.size := by omega
    by_cases hgo : k < x.words.length ∧ k < 6
    · obtain ⟨hlt, hlt6⟩ := hgo
      · obtain ⟨bk, off, r, Ar, cr, rfl, hbb, hrr, hcr0, hr1', hr2, hr3⟩ := H.out.h1.row hlt
        have hcr := (hbw.cell (p := ⟨bk, _, none⟩) hbb).trans hcr0
        have hr1 := hr1'.below keeps_u8 hbw
        have HR := Lib.hid (wsTo_succ hrr)
        have hbs : bk < wr.heap.size := by omega
        have hki : (k : Int) < (x.words.length : Int) := by omega
        have hk0 : (0 : Int) ≤ (k : Int) := by omega
        have HB := Lib.hid hB
        have HBb := Lib.hid hb
        have hilen := insW_len ws (wordOf r)
        clear hcr0 hr1' hrr hbw hB hb hown
        go_wp2_with fail
        refine ordT_below [10] [(0, false), (1, false), (2, false), (3, false), (4, false), (5, false), (6, false), (7, true), (8, true), (9, false), (10, true)] (by kernel_rfl) (by kernel_rfl) (by kernel_rfl) (fun _ _ _ _ _ h => h) ?_
        intro W0 hS0
        repeat (first
          | (refine ordT_skip rfl rfl (by assumption) ?_; simp only [Act.put, List.setIfInBounds_toArray, List.set_cons_zero, List.set_cons_succ])
          | (refine ordT_cskip rfl rfl (by assumption) ?_; simp only [Act.put, List.setIfInBounds_toArray, List.set_cons_zero, List.set_cons_succ])
          | (refine ordT_take (v := ?_) rfl rfl (by assumption) ?_ ?_
             rotate_left 1
             focus (intro W hW; obtain ⟨hcW, hfW⟩ := bcell hW; (go_simp <;> with_reducible rfl))
             simp only [Act.put, List.setIfInBounds_toArray, List.set_cons_zero, List.set_cons_succ])
          | (refine ordT_call rfl rfl (fun K hK => ?_)
             obtain ⟨hcS, hfS⟩ := bcell hS0
             go_simp
             first
               | (go_at_call 42; refine (rword_any Ar r cr _ (hr1.below keeps_u8 hS0) hr2 hr3).mono ?_; rintro e w' ⟨rfl, hb'⟩; refine hK.out _ _ (fun _ => hS0.trans (hb'.mono hS0.size)) ?_; replace hS0 := hS0.trans (hb'.mono hS0.size))
               | (go_at_call 41; refine (insert_any A ws cap (wordOf r) _ (hws.below keeps_str hS0) (by omega)).mono ?_; rintro e w' ⟨v', rfl, hown', hb'⟩; obtain ⟨A', cap', rfl, hcap', hcm', _⟩ := own_strs hown' rfl; refine hK.out _ _ (fun _ => hS0.trans (hb'.mono hS0.size)) ?_; have hS1 := hS0.size; replace hS0 := hS0.trans (hb'.mono hS0.size))
               | (refine hK.out _ _ (fun h => by cases h) ?_)))
        refine ordT_nil ?_
        go_wp2_with fail
        go_roundw
        case rel => exact ⟨k + 1, insW ws (wordOf r), _, by omega, by omega, (by rw [HR.out, ← HWs.out] : insW ws (wordOf r) = wsTo x (k + 1)), by rw [Nat.pow_succ]; omega, Nat.le_trans hw2 (hilen2 _), by go_num, own_set (own_base hown' (by omega)) (fun e => by have := own_block_le hown' _ e; simp at this; omega) _, (HB.out.below hS0 hsB).set_ 0 _, HBb.out.trans ((hS0.mono (by omega)).trans ((Below.refl _ _).setCell (by show _ ≤ w.heap.size + 3; omega) _))⟩
        case measure => simp [intOf]; omega
    · have hend : (¬ k < x.words.length) ∨ (k < x.words.length ∧ ¬ k < 6) := by omega
      have HW6 := Lib.hid (show ws = wsTo x 6 by
        rw [HWs.out]
        unfold wsTo
        rcases hend with h | ⟨_, h⟩
        · rw [List.take_of_length_le (i := k) (by omega), List.take_of_length_le (i := 6) (by omega)]
        · rw [show k = 6 by omega])
      have hwl190 : ws.length ≤ 191 := by omega
      have HOwn := Lib.hid hown
      have HB := Lib.hid hB
      have HBb := Lib.hid hb
      clear hown hB hb hbw hws hwl hp6 HWs
      rcases hend with hend | ⟨hend, hend'⟩
      all_goals
        go_wp2_with fail
        clear hm0 hf0 hx0 hsB hs0
        go_loopw [6, 7] (fun i _ wr => ∃ j : Nat, ∃ cs : List Int, ∃ v2 : Value, j ≤ ws.length ∧ Hid (cs = csTo x j) ∧ cs.length = j ∧ i = .int .i64 j ∧ wr.ownsRow (w.heap.size + 2) 9 1 (.slice A ws.length cap) ws.length (ws.map Value.string) ∧
            wr.ownsRow (w.heap.size + 2) 3 1 v2 cs.length (cs.map (Value.int .i64)) ∧ Blk wr (w.heap.size + 3) 56 #[.slice A ws.length cap, v2, .slice none 0 0, .int .i64 x.back] ∧ Below (w.heap.size + 2) ((w.alloc (.cells #[.slice A1 x.words.length c1, .slice A2 x.counts.length c2, .slice A3 x.uses.length c3, .int .u8 x.back] 51)).alloc (.cells #[.slice none 0 0, .slice none 0 0, .slice none 0 0, .int .i64 0] 56)) wr) (fun i _ _ => ws.length - (intOf i).toNat)
        case atStart => exact ⟨0, [], _, by omega, rfl, rfl, rfl, HOwn.out, own_nil _ _ _ _, HB.out, HBb.out⟩
        case round =>
          obtain ⟨j, cs, v2, hj, HCs, hcl, rfl, hown, hown2, hB, hb⟩ := hrel
          obtain ⟨A2', cap2, rfl, hcap2, hcm2, hcs⟩ := own_ints hown2 rfl
          have hcl191 : cs.length ≤ 191 := by omega
          have HCL := Lib.hid hcl
          clear hcl
          have hx1 : wr.cell? ⟨w.heap.size, 1, none⟩ = some (.slice A2 x.counts.length c2) := (hb.cell (p := ⟨w.heap.size, 1, none⟩) (by show w.heap.size < _; omega)).trans ((World.cell?_alloc_lt _ _ ⟨w.heap.size, 1, none⟩ (by simp)).trans (new_cell _ _ _ 1))
          have hm0 : wr.cell? ⟨(w.heap.size + 3), 0, none⟩ = some (.slice A ws.length cap) := hB.cell 0
          have hm1 : wr.cell? ⟨(w.heap.size + 3), 1, none⟩ = some (.slice A2' cs.length cap2) := hB.cell 1
          have hf1 := hB.frozen 1
          have hsB := hB.lt
          have hs0 : w.heap.size < wr.heap.size := by omega
          have hne2 := own_blk_ne hown2 hB (by decide)
          have hne1 := own_blk_ne hown hB (by decide)
          have hbase : w.heap.size + 2 ≤ wr.heap.size := by omega
          have HB1 := Lib.hid hB
          have HBb1 := Lib.hid hb
          by_cases hlt2 : j < ws.length
          · by_cases hjc : j < x.counts.length
            · obtain ⟨bc, offc, y, hAy, hbb, hyy, hcy0⟩ := H.out.h2.u8 hjc
              have hcy := ((HBW.out _ hb).cell (p := ⟨bc, _, none⟩) hbb).trans hcy0
              have hyb := H.out.b2 y (List.mem_of_getElem? hyy)
              have HC := Lib.hid (show csTo x (j + 1) = cs ++ [y] by rw [csTo_succ, ← HCs.out]; simp [hyy])
              have hbs : bc < wr.heap.size := by omega
              subst hAy
              clear hcy0 hyy hb hB
              go_wp2_with (first | (at_builtin; refine wpList_app1 rfl _ _ 40 rfl (w.heap.size + 2) 3 i2 _ 1 8 Tryz.underlying40 hi2 hz20 hz21 hz22 rfl (by decide) (.slice A2' cs.length cap2) _ _ rfl wr [.int .i64 y] rfl hown2 _ rfl (by simp) rfl (by simp [Value.oneCell']) (by omega) (by decide) hbase ?_; intro v3 w3 hown3' hb3 ha3; have hown3 : w3.ownsRow (w.heap.size + 2) 3 1 v3 (cs ++ [y]).length ((cs ++ [y]).map (Value.int .i64)) := (by simpa using hown3'); clear hown3'; obtain ⟨A3', cap3, rfl, hcap3, hcm3, _⟩ := own_ints hown3 rfl; have hm1' := (HB1.out.apps ha3 hne2).cell 1; have hf1' := (HB1.out.apps ha3 hne2).frozen 1))
              go_roundw
              case rel => exact ⟨j + 1, cs ++ [y], _, by omega, HC.out.symm, by have := HCL.out; simp; omega, by go_num, own_set (own_apps hown hown2 (by decide) ha3) hne1 _, own_set hown3 (ha3.ne hsB hne2) _, (by have := (HB1.out.apps ha3 hne2).set_ 1 (.slice A3' (cs.length + 1) cap3); simpa using this), HBb1.out.trans (hb3.trans ((Below.refl _ _).setCell (by show _ ≤ w.heap.size + 3; omega) _))⟩
              case measure => simp [intOf]; omega
            · have HC := Lib.hid (show csTo x (j + 1) = cs ++ [0] by rw [csTo_succ, ← HCs.out]; simp [show x.counts[j]? = none from List.getElem?_eq_none (by omega)])
              clear hb hB
              go_wp2_with (first | (at_builtin; refine wpList_app1 rfl _ _ 40 rfl (w.heap.size + 2) 3 i2 _ 1 8 Tryz.underlying40 hi2 hz20 hz21 hz22 rfl (by decide) (.slice A2' cs.length cap2) _ _ rfl wr [.int .i64 0] rfl hown2 _ rfl (by simp) rfl (by simp [Value.oneCell']) (by omega) (by decide) hbase ?_; intro v3 w3 hown3' hb3 ha3; have hown3 : w3.ownsRow (w.heap.size + 2) 3 1 v3 (cs ++ [0]).length ((cs ++ [0]).map (Value.int .i64)) := (by simpa using hown3'); clear hown3'; obtain ⟨A3', cap3, rfl, hcap3, hcm3, _⟩ := own_ints hown3 rfl; have hm1' := (HB1.out.apps ha3 hne2).cell 1; have hf1' := (HB1.out.apps ha3 hne2).frozen 1))
              go_roundw
              case rel => exact ⟨j + 1, cs ++ [0], _, by omega, HC.out.symm, by have := HCL.out; simp; omega, by go_num, own_set (own_apps hown hown2 (by decide) ha3) hne1 _, own_set hown3 (ha3.ne hsB hne2) _, (by have := (HB1.out.apps ha3 hne2).set_ 1 (.slice A3' (cs.length + 1) cap3); simpa using this), HBb1.out.trans (hb3.trans ((Below.refl _ _).setCell (by show _ ≤ w.heap.size + 3; omega) _))⟩
              case measure => simp [intOf]; omega
          · obtain rfl : j = ws.length := by omega
            have HO1 := Lib.hid hown
            have HO2 := Lib.hid hown2
            clear hown hown2 hb hB hne1 hne2 hx1 hf1 hcs hm1 hbase
            go_wp2_with fail
            clear hm0 hsB hs0
            go_loopw [8, 9] (fun i _ wr => ∃ q : Nat, ∃ ps : List Pr, ∃ v3 : Value, q ≤ x.uses.length ∧ q ≤ 8 ∧ Hid (ps = psTo x ws.length q) ∧ ps.length + 1 ≤ 2 ^ q ∧ (∀ p ∈ ps, 0 ≤ p.n ∧ p.n ≤ 16 * q) ∧ i = .int .i64 q ∧ wr.ownsRow (w.heap.size + 2) 9 1 (.slice A ws.length cap) ws.length (ws.map Value.string) ∧
                wr.ownsRow (w.heap.size + 2) 3 1 (.slice A2' cs.length cap2) cs.length (cs.map (Value.int .i64)) ∧ wr.ownsRow (w.heap.size + 2) 111 3 v3 ps.length (ps.flatMap encP) ∧ Blk wr (w.heap.size + 3) 56 #[.slice A ws.length cap, .slice A2' cs.length cap2, v3, .int .i64 x.back] ∧ Below (w.heap.size + 2) ((w.alloc (.cells #[.slice A1 x.words.length c1, .slice A2 x.counts.length c2, .slice A3 x.uses.length c3, .int .u8 x.back] 51)).alloc (.cells #[.slice none 0 0, .slice none 0 0, .slice none 0 0, .int .i64 0] 56)) wr) (fun i _ _ => 8 - (intOf i).toNat)
            case atStart => exact ⟨0, [], _, by omega, by omega, rfl, by decide, by simp, rfl, HO1.out, HO2.out, own_nil _ _ _ _, HB1.out, HBb1.out⟩
            case round =>
              obtain ⟨q, ps, v3, hq, hq8, HPs, hpl, hpn, rfl, hown, hown2, hown3, hB, hb⟩ := hrel
              obtain ⟨A3', cap3, rfl, hcap3, hcm3, hps⟩ := own_slr (R := RPr) hown3 (fun _ => rfl) (fun _ => rfl) rfl
              have hq256 : 2 ^ q ≤ 256 := Nat.pow_le_pow_right (n := 2) (by decide) hq8
              have hx2 : wr.cell? ⟨w.heap.size, 2, none⟩ = some (.slice A3 x.uses.length c3) := (hb.cell (p := ⟨w.heap.size, 2, none⟩) (by show w.heap.size < _; omega)).trans ((World.cell?_alloc_lt _ _ ⟨w.heap.size, 2, none⟩ (by simp)).trans (new_cell _ _ _ 2))
              have hsB := hB.lt
              have hs0 : w.heap.size < wr.heap.size := by omega
              by_cases hgo3 : q < x.uses.length ∧ q < 8
              · obtain ⟨hlt3, hlt8⟩ := hgo3
                obtain ⟨bu, offu, u, hAu, hbb, huu, hu0', hu1', hu2'⟩ := H.out.h3.u3 hlt3
                have hub := H.out.b3 u (List.mem_of_getElem? huu)
                have HU := Lib.hid (psTo_succ (n := ws.length) huu)
                obtain ⟨ua, ub, uc⟩ := u
                dsimp only at hub hu0' hu1' hu2'
                obtain ⟨hua, hubb, huc⟩ := hub
                have hbel := HBW.out _ hb
                have hu0 := (hbel.cell (p := ⟨bu, _, none⟩) hbb).trans hu0'
                have hu1 := (hbel.cell (p := ⟨bu, _, none⟩) hbb).trans hu1'
                have hu2 := (hbel.cell (p := ⟨bu, _, none⟩) hbb).trans hu2'
                have hbs : bu < wr.heap.size := by omega
                obtain ⟨W1, hW1⟩ : ∃ W1, W1 = wr.alloc (.cells #[.int .u8 ua, .int .u8 ub, .int .u8 uc] 52) := ⟨_, rfl⟩
                have d0 : W1.cell? ⟨wr.heap.size, 0, none⟩ = some (.int .u8 ua) := by rw [hW1]; exact new_cell _ _ _ _
                have d1 : W1.cell? ⟨wr.heap.size, 1, none⟩ = some (.int .u8 ub) := by rw [hW1]; exact new_cell _ _ _ _
                have d2 : W1.cell? ⟨wr.heap.size, 2, none⟩ = some (.int .u8 uc) := by rw [hW1]; exact new_cell _ _ _ _
                have hB1 : Blk W1 (w.heap.size + 3) 56 #[.slice A ws.length cap, .slice A2' cs.length cap2, .slice A3' ps.length cap3, .int .i64 x.back] := by rw [hW1]; exact hB.alloc _
                have hb1 : Below (w.heap.size + 2) ((w.alloc (.cells #[.slice A1 x.words.length c1, .slice A2 x.counts.length c2, .slice A3 x.uses.length c3, .int .u8 x.back] 51)).alloc (.cells #[.slice none 0 0, .slice none 0 0, .slice none 0 0, .int .i64 0] 56)) W1 := by rw [hW1]; exact hb.alloc (by omega) _
                have ho1 : W1.ownsRow (w.heap.size + 2) 9 1 (.slice A ws.length cap) ws.length (ws.map Value.string) := by rw [hW1]; exact hown.alloc _
                have ho2 : W1.ownsRow (w.heap.size + 2) 3 1 (.slice A2' cs.length cap2) cs.length (cs.map (Value.int .i64)) := by rw [hW1]; exact hown2.alloc _
                have hs3 : SlR 3 RPr W1 A3' ps := by rw [hW1]; exact hps.below keeps_pr ((Below.refl _ _).alloc (Nat.le_refl _) _)
                have m0 : W1.cell? ⟨(w.heap.size + 3), 0, none⟩ = some (.slice A ws.length cap) := hB1.cell 0
                have m1 : W1.cell? ⟨(w.heap.size + 3), 1, none⟩ = some (.slice A2' cs.length cap2) := hB1.cell 1
                have m2 : W1.cell? ⟨(w.heap.size + 3), 2, none⟩ = some (.slice A3' ps.length cap3) := hB1.cell 2
                have m3 : W1.cell? ⟨(w.heap.size + 3), 3, none⟩ = some (.int .i64 x.back) := hB1.cell 3
                have mf2 := hB1.frozen 2
                have f0 : wr.heap.size < W1.heap.size := by rw [hW1]; exact new_lt _ _
                have f1 : (w.heap.size + 3) < W1.heap.size := by omega
                have HW1 := Lib.hid hW1
                have HB1' := Lib.hid hB1
                have HBb1' := Lib.hid hb1
                have HPN := Lib.hid hpn
                have ht1 : ua.tmod (ws.length : Int) = ua % (ws.length : Int) := Int.tmod_eq_emod_of_nonneg hua.1
                have ht2 : ub.tmod (ws.length : Int) = ub % (ws.length : Int) := Int.tmod_eq_emod_of_nonneg hubb.1
                have ht3 : uc.tmod 16 = uc % 16 := Int.tmod_eq_emod_of_nonneg huc.1
                have hr1 := Int.emod_nonneg ua (show (ws.length : Int) ≠ 0 by omega)
                have hr2 := Int.emod_nonneg ub (show (ws.length : Int) ≠ 0 by omega)
                have hr3 := Int.emod_lt_of_pos ua (show 0 < (ws.length : Int) by omega)
                have hr4 := Int.emod_lt_of_pos ub (show 0 < (ws.length : Int) by omega)
                have hwa : IntKind.i64.wrap ua = ua := IntWalk.i64_in _ (by omega)
                have hwb : IntKind.i64.wrap ub = ub := IntWalk.i64_in _ (by omega)
                have hwc : IntKind.i64.wrap (uc % 16) = uc % 16 := IntWalk.i64_in _ (by omega)
                have hwd : IntKind.i64.wrap (1 + uc % 16) = 1 + uc % 16 := IntWalk.i64_in _ (by omega)
                have hwe : IntKind.i64.wrap (ua % ws.length) = ua % ws.length := IntWalk.i64_in _ (by omega)
                have hwf : IntKind.i64.wrap (ub % ws.length) = ub % ws.length := IntWalk.i64_in _ (by omega)
                have hwsne : ¬ ws = [] := fun e => by rw [e] at hw2; simp at hw2
                have HPall := Lib.hid (show ∀ p ∈ addP ps (useP ws.length (ua, ub, uc)), 0 ≤ p.n ∧ p.n ≤ 16 * ((q + 1 : Nat) : Int) from addP_all (fun p hp => by have := hpn p hp; omega) (by unfold useP; dsimp only; omega) (fun p hp _ _ => by have := hpn p hp; unfold useP; dsimp only; omega))
                have hWI := Lib.hid (show Within 4294967296 (ps.map Pr.n) from fun y hy => by
                  obtain ⟨p, hp, rfl⟩ := List.mem_map.1 hy
                  have := hpn p hp
                  omega)
                subst hAu
                clear hW1 hB1 hb1 hpn hu0' hu1' hu2' huu hbel hB hb hown hown2 hown3 hps
                go_wp2_with fail
                rw [← HW1.out]
                refine ordT_below [19] [(0, false), (1, false), (2, false), (3, false), (4, false), (5, false), (6, false), (7, false), (8, false), (9, false), (10, false), (11, false), (12, false), (13, false), (14, false), (15, false), (16, false), (17, true), (18, false), (19, true)] (by kernel_rfl) (by kernel_rfl) (by kernel_rfl) (fun _ _ _ _ _ h => h) ?_
                intro W0 hS0
                repeat (first
                  | (refine ordT_skip rfl rfl (by assumption) ?_; simp only [Act.put, List.setIfInBounds_toArray, List.set_cons_zero, List.set_cons_succ])
                  | (refine ordT_cskip rfl rfl (by assumption) ?_; simp only [Act.put, List.setIfInBounds_toArray, List.set_cons_zero, List.set_cons_succ])
                  | (refine ordT_take (v := ?_) rfl rfl (by assumption) ?_ ?_
                     rotate_left 1
                     focus (intro W hW; obtain ⟨hcW, hfW⟩ := bcell hW; (go_simp <;> with_reducible rfl))
                     simp only [Act.put, List.setIfInBounds_toArray, List.set_cons_zero, List.set_cons_succ])
                  | (refine ordT_call rfl rfl (fun K hK => ?_)
                     obtain ⟨hcS, hfS⟩ := bcell hS0
                     go_simp
                     first
                       | (go_at_call 43; refine (add_any _ _ _ A3' ps cap3 ⟨ua % ws.length, ub % ws.length, 1 + uc % 16⟩ _ (hs3.below keeps_pr hS0) (by omega) hWI.out (by dsimp only; omega)).mono ?_; rintro e w' ⟨v', rfl, hown', hb'⟩; obtain ⟨A4', cap4', rfl, hcap4', hcm4', _⟩ := own_slr (R := RPr) hown' (fun _ => rfl) (fun _ => rfl) rfl; refine hK.out _ _ (fun _ => hS0.trans (hb'.mono hS0.size)) ?_; have hS1 := hS0.size; replace hS0 := hS0.trans (hb'.mono hS0.size))
                       | (refine hK.out _ _ (fun h => by cases h) ?_)))
                refine ordT_nil ?_
                go_wp2_with fail
                go_roundw
                case rel => exact ⟨q + 1, addP ps (useP ws.length (ua, ub, uc)), _, by omega, by omega, (by rw [HU.out, ← HPs.out] : addP ps (useP ws.length (ua, ub, uc)) = psTo x ws.length (q + 1)), by have := addP_len ps (useP ws.length (ua, ub, uc)); rw [Nat.pow_succ]; omega, HPall.out, by go_num, own_set (own_below ho1 hS0) (fun e => by have := own_blk_ne ho1 HB1'.out (by decide); exact this (by simpa using e)) _, own_set (own_below ho2 hS0) (fun e => by have := own_blk_ne ho2 HB1'.out (by decide); exact this (by simpa using e)) _, own_set (own_base hown' (by omega)) (fun e => by have := own_block_le hown' _ e; simp at this; omega) _, (HB1'.out.below hS0 f1).set_ 2 _, HBb1'.out.trans ((hS0.mono (by omega)).trans ((Below.refl _ _).setCell (by show _ ≤ w.heap.size + 3; omega) _))⟩
                case measure => simp [intOf]; omega
              · have hend3 : (¬ q < x.uses.length) ∨ (q < x.uses.length ∧ ¬ q < 8) := by omega
                have HP8 := Lib.hid (show ps = psTo x ws.length 8 by
                  rw [HPs.out]
                  unfold psTo
                  rcases hend3 with h | ⟨_, h⟩
                  · rw [List.take_of_length_le (i := q) (by omega), List.take_of_length_le (i := 8) (by omega)]
                  · rw [show q = 8 by omega])
                have m0 : wr.cell? ⟨(w.heap.size + 3), 0, none⟩ = some (.slice A ws.length cap) := hB.cell 0
                have m1 : wr.cell? ⟨(w.heap.size + 3), 1, none⟩ = some (.slice A2' cs.length cap2) := hB.cell 1
                have m2 : wr.cell? ⟨(w.heap.size + 3), 2, none⟩ = some (.slice A3' ps.length cap3) := hB.cell 2
                have m3 : wr.cell? ⟨(w.heap.size + 3), 3, none⟩ = some (.int .i64 x.back) := hB.cell 3
                have hZ : Blk wr (w.heap.size + 1) 56 #[.slice none 0 0, .slice none 0 0, .slice none 0 0, .int .i64 0] := Blk.below (Blk.new_ (by simp)) hb (by omega)
                have z0 : wr.cell? ⟨w.heap.size + 1, 0, none⟩ = some (.slice none 0 0) := hZ.cell 0
                have z1 : wr.cell? ⟨w.heap.size + 1, 1, none⟩ = some (.slice none 0 0) := hZ.cell 1
                have z2 : wr.cell? ⟨w.heap.size + 1, 2, none⟩ = some (.slice none 0 0) := hZ.cell 2
                have z3 : wr.cell? ⟨w.heap.size + 1, 3, none⟩ = some (.int .i64 0) := hZ.cell 3
                have zf0 := hZ.frozen 0
                have zf1 := hZ.frozen 1
                have zf2 := hZ.frozen 2
                have zf3 := hZ.frozen 3
                have hs1 : w.heap.size + 1 < wr.heap.size := by omega
                have HB1' := Lib.hid hB
                have HBb1' := Lib.hid hb
                have HPN := Lib.hid hpn
                clear hpn hB hb hZ hps
                rcases hend3 with hend3 | ⟨hend3, hend3'⟩
                all_goals
                  go_wp2_with fail
                  refine bodyPost_ret (v := .agg #[.slice A ws.length cap, .slice A2' cs.length cap2, .slice A3' ps.length cap3, .int .i64 x.back]) (by simp [results, Tryz.results12, go_sem, z0, z1, z2, z3]) rfl ?_
                  exact made_end (W := wr) x ws cs ps A A2' A3' cap cap2 cap3 w _ HW6.out (by rw [HCs.out]) (HP8.out) hcap hcm hcap2 hcm2 hcap3 hcm3 hown hown2 hown3 (fun p hp => by have := HPN.out p hp; omega) (by omega) (by omega) (by omega) (HBW.out _ HBb1'.out)
                    (fun g hg => by rw [Below.heap_setCell _ _ _ g (show g ≠ w.heap.size + 1 by omega), Below.heap_setCell _ _ _ g (show g ≠ w.heap.size + 1 by omega), Below.heap_setCell _ _ _ g (show g ≠ w.heap.size + 1 by omega), Below.heap_setCell _ _ _ g (show g ≠ w.heap.size + 1 by omega)]) (by simp [World.setCell]) ((((Below.refl _ _).setCell (by show _ ≤ w.heap.size + 1; omega) _).setCell (by show _ ≤ w.heap.size + 1; omega) _).setCell (by show _ ≤ w.heap.size + 1; omega) _ |>.setCell (by show _ ≤ w.heap.size + 1; omega) _) rfl
end Go.Proofs.YtfjkmgjjifhdkaaGreat
